/-
  Lemmas and contracts on the way to the laws of this seat; each theorem states its own conditions, and there are no others.
-/
import Derived.Test.YtemffnpliflkgaaE15
namespace Go.Proofs.Ytemffnpliflkgaa
open Go
set_option linter.unusedVariables false
set_option linter.unusedSimpArgs false
section
variable {P : Program} {a : Act} {o : Oper} {w : World} {S : SS} {μ : MM} {h : Nat → Option OB} {base : Nat}

theorem updH_app : ∀ (u0 u : Upd) (h : Nat → Option OB), updH h (u0 ++ u) = updH (updH h u0) u
  | [], _, _ => rfl
  | p :: r, u, h => updH_app r u _
theorem preP_ok {q : List Prop} {u0 : Upd} {S1 : SS} {d : Desc} (E1 : (∀ p ∈ q, p) → Evo w S μ w S1 μ) (hd : (∀ p ∈ q, p) → DescOK P a o w S1 μ (updH h u0) base d) : DescOK P a o w S μ h base (preP q u0 d) := by
  have lift : ∀ (_ : ∀ p ∈ q, p) v u w' x, Out w S1 μ (updH h u0) base v u w' x → Out w S μ h base v (u0 ++ u) w' x := fun hq v u w' x ⟨S', μ', E2, hv, H2, hf⟩ => by
    refine ⟨S', μ', (E1 hq).trans E2, hv, ?_, hf⟩
    rw [updH_app]; exact H2
  cases d with
  | bad w => trivial
  | det pre v u =>
    intro hp K Q hK
    have hq : ∀ p ∈ q, p := fun p hm => hp p (List.mem_append_left _ hm)
    exact hd hq (fun p hm => hp p (List.mem_append_right _ hm)) K Q fun x w' hO => hK x w' (lift hq _ _ _ _ hO)
  | dem pre Y post v u wr =>
    intro hp K Q hK
    have hq : ∀ p ∈ q, p := fun p hm => hp p (List.mem_append_left _ hm)
    exact hd hq (fun p hm => hp p (List.mem_append_right _ hm)) K Q fun y hy x w' hO => hK y hy x w' (lift hq _ _ _ _ hO)

structure DeepAt (w : World) (S : SS) (μ : MM) (m : MI) (et c : Nat) (ts : List Nat) (l : List (den c)) (out : Option (Nat × Nat × Nat)) (b : Nat) (cur : Array Value) : Prop where
  hb : w.heap[b]? = some (.cells cur et (0, 0))
  sz : cur.size = m.cap * ncell c
  le : l.length ≤ m.cap
  mx : m.cap ≤ maxLen
  cell : ∀ i, i < l.length → ∀ j, j < ncell c → (outAt out i j = true ∧ OutOk w S μ out (cur.getD (i * ncell c + j) Go.undef)) ∨ (outAt out i j = false ∧ DC w S μ (ts.getD j 0) ((rowAV c l i).getD j .undef) (cur.getD (i * ncell c + j) Go.undef))
  inj : ∀ i j i' j' x, i < l.length → j < ncell c → i' < l.length → j' < ncell c → outAt out i j = false → outAt out i' j' = false → hdr (cur.getD (i * ncell c + j) Go.undef) = some x → hdr (cur.getD (i' * ncell c + j') Go.undef) = some x → i = i' ∧ j = j'
  ne : ∀ i j x, i < l.length → j < ncell c → outAt out i j = false → hdr (cur.getD (i * ncell c + j) Go.undef) = some x → x ≠ b

theorem HRel.deep (H : HRel w S μ h) {id : Nat} {et c : Nat} {ts : List Nat} {l : List (den c)} {out : Option (Nat × Nat × Nat)} (hh : h id = some (.deep et c ts l out)) {m : MI} (hm : μ id = some m) : m.n = l.length ∧ m.c = c ∧
    ∀ b, m.b = some b → ∃ cur, DeepAt w S μ m et c ts l out b cur := by
  obtain ⟨m', hm', h1, h2, h3⟩ := H.blk id _ hh
  rw [hm] at hm'; cases hm'
  refine ⟨h1, h2, fun b hb => ?_⟩
  rcases h3 with ⟨_, h3⟩ | ⟨b', cur, h3, h4, h5, h6, h7, h8, h9, h10⟩
  · rw [hb] at h3; cases h3
  · rw [hb] at h3; cases h3
    exact ⟨cur, h4, h5, h6, h7, h8, h9, h10⟩
theorem DeepAt.bok {m : MI} {et c : Nat} {ts : List Nat} {l : List (den c)} {out : Option (Nat × Nat × Nat)} {b : Nat} {cur : Array Value} (D : DeepAt w S μ m et c ts l out b cur) (hn : m.n = l.length) (hc : m.c = c) (hb : m.b = some b) : BOk w S μ m (.deep et c ts l out) :=
  ⟨hn, hc, .inr ⟨b, cur, hb, D.hb, D.sz, D.le, D.mx, D.cell, D.inj, D.ne⟩⟩
theorem DeepAt.lt {m : MI} {et c : Nat} {ts : List Nat} {l : List (den c)} {out : Option (Nat × Nat × Nat)} {b : Nat} {cur : Array Value} (D : DeepAt w S μ m et c ts l out b cur) {i j : Nat} (hi : i < l.length) (hj : j < ncell c) : i * ncell c + j < cur.size := by
  have := row_le hi hj
  have h4 : l.length * ncell c ≤ m.cap * ncell c := Nat.mul_le_mul_right _ D.le
  rw [D.sz]; omega
/-- The blocks that a deep block has. -/
theorem DeepAt.holds_iff {m : MI} {et c : Nat} {ts : List Nat} {l : List (den c)} {out : Option (Nat × Nat × Nat)} {b : Nat} {cur : Array Value} (hcur : w.heap[b]? = some (.cells cur et (0, 0))) (hb : m.b = some b) {x : Nat} :
    holds w m (.deep et c ts l out) x ↔ b = x ∨ ∃ i j, i < l.length ∧ j < ncell c ∧ outAt out i j = false ∧ hdr (cur.getD (i * ncell c + j) Go.undef) = some x := by
  unfold holds
  rw [hb]
  constructor
  · rintro (e | ⟨b0, i, j, h1, h2, h3, h4, h5⟩)
    · exact .inl (Option.some.inj e)
    · cases h1
      rw [innAt_cells hcur] at h5
      exact .inr ⟨i, j, h2, h3, h4, h5⟩
  · rintro (e | ⟨i, j, h2, h3, h4, h5⟩)
    · exact .inl (by rw [e])
    · exact .inr ⟨b, i, j, rfl, h2, h3, h4, by rw [innAt_cells hcur]; exact h5⟩

theorem ok_idxDp (H : HRel w S μ h) {t : TypeId} {x y : Operand} {id c' : Nat} {k : IntKind} {n : Int} (ho : o.op = .indexAddr t x y) (hx : VRel w S μ (.own id c') (a.eval x)) (hy : VRel w S μ (.int k n) (a.eval y)) : DescOK P a o w S μ h base (idxDp h (elemSize P t) n id) := by
  unfold idxDp
  split
  case h_2 => trivial
  rename_i et c ts l out hh
  by_cases hs : (sizeIs (ncell c) (elemSize P t) && Nat.blt 0 (ncell c)) = true
  case neg => simp only [hs, cond_false]; trivial
  simp only [hs, cond_true]
  simp only [Bool.and_eq_true] at hs
  have he := sizeIs_spec hs.1
  have hc0 : 0 < ncell c := Nat.le_of_ble_eq_true hs.2
  refine ok_pure H fun hp => ?_
  have hb : 0 ≤ n ∧ n < (l.length : Nat) := hp _ (by simp)
  obtain ⟨m, hm, hcase⟩ := hx.own_inv
  obtain ⟨h1, h2, h3⟩ := H.deep hh hm
  have hy' := hy.int_inv
  rcases hcase with ⟨b, hb', hx'⟩ | ⟨h0, _⟩
  · obtain ⟨k1, hk1⟩ : ∃ k1, ncell c = k1 + 1 := ⟨ncell c - 1, by omega⟩
    rw [hk1] at he
    obtain ⟨e, i, hu, hi, hsz⟩ := elemSize_slice he
    refine ⟨.pointer (some ⟨b, 0 + n.toNat * ncell c, none⟩), ?_, ?_⟩
    · have hlt : n < (m.n : Nat) := by rw [h1]; exact hb.2
      simp only [execOp, ho, Sem.run_bind, hx', hy', run_indexAt hu hi hb.1 hlt, Result.andThen_ok, Sem.run_pure, hsz, hk1]
    · have := VRel.ept (w := w) (S := S) (c := c) (f := 0) hm hb' (show n.toNat < m.n by omega)
      rw [h2] at this
      simpa using this
  · omega

theorem ok_lenDp (H : HRel w S μ h) {c : Call} {x : Operand} {id c' : Nat} {t : TypeId} (ho : o.op = .call c) (hc : c.callee = .builtin .len) (ha : c.args.toList = [x]) (hts : c.argTypes.toList = [t]) (hl : lenTy P t = true) (hx : VRel w S μ (.own id c') (a.eval x)) : DescOK P a o w S μ h base (lenDp h id) := by
  have hargs : c.args = #[x] := by rw [← Array.toArray_toList (xs := c.args), ha]
  have hts' : c.argTypes = #[t] := by rw [← Array.toArray_toList (xs := c.argTypes), hts]
  unfold lenDp
  split
  case h_2 => trivial
  rename_i et cd ts l out hh
  obtain ⟨e, hu⟩ : ∃ e, P.underlying t = some (.slice e) := by
    unfold lenTy at hl; split at hl
    · exact ⟨_, by assumption⟩
    · cases hl
  obtain ⟨m, hm, hcase⟩ := hx.own_inv
  obtain ⟨h1, h2, h3⟩ := H.deep hh hm
  have fin : ∀ q n cap, a.eval x = .slice q n cap → (execOp a.eval o).run P w = .ok (.value (.int .i64 (n : Nat))) w := fun q n cap hx' => by
    refine exec_builtin ho hc fun _ => ?_
    simp [builtin, Builtin.len_, hts', hargs, hx', run_underlying hu, goInt]
  refine ok_pure H fun _ => ?_
  rcases hcase with ⟨b, hb', hx'⟩ | ⟨h0, q, hx'⟩
  · exact ⟨_, fin _ _ _ hx', by rw [h1]; exact .int _ _⟩
  · exact ⟨_, fin _ _ _ hx', by rw [show l.length = 0 by omega]; exact .int _ _⟩

theorem cell_inj {n i j r f : Nat} (hj : j < n) (hf : f < n) (e : i * n + j = r * n + f) : i = r ∧ j = f := by
  have h1 : (i * n + j) % n = j := row_get hj
  have h2 : (r * n + f) % n = f := row_get hf
  have ej : j = f := by rw [← h1, e, h2]
  subst ej
  have : i * n = r * n := by omega
  exact ⟨Nat.eq_of_mul_eq_mul_right (by omega) this, rfl⟩

/-- A cell of a deep block is written. -/
theorem DeepAt.cell' {w' : World} {m : MI} {et c : Nat} {ts : List Nat} {l l' : List (den c)} {out out' : Option (Nat × Nat × Nat)} {b r f : Nat} {cur cur' : Array Value} {xv : Value} (D : DeepAt w S μ m et c ts l out b cur) (hmb : m.b = some b)
    (E : Evo w S μ w' S μ) (hb' : w'.heap[b]? = some (.cells cur' et (0, 0))) (hsz : cur'.size = cur.size) (hother : ∀ b', b' ≠ b → w'.heap[b']? = w.heap[b']?) (hf : f < ncell c)
    (hk : cur'.getD (r * ncell c + f) Go.undef = xv) (hne : ∀ n, n ≠ r * ncell c + f → cur'.getD n Go.undef = cur.getD n Go.undef)
    (hl : l'.length = l.length) (hrow : ∀ i j, i < l.length → j < ncell c → ¬ (i = r ∧ j = f) → (rowAV c l' i).getD j .undef = (rowAV c l i).getD j .undef)
    (ho : ∀ i j, ¬ (i = r ∧ j = f) → outAt out' i j = outAt out i j ∧ (outAt out i j = true → out' = out)) (ho2 : outAt out' r f = false)
    (hdc : DC w' S μ (ts.getD f 0) ((rowAV c l' r).getD f .undef) xv)
    (hfr : ∀ x, hdr xv = some x → x ≠ b ∧ ¬ holds w m (.deep et c ts l out) x) : DeepAt w' S μ m et c ts l' out' b cur' := by
  have old : ∀ i j, j < ncell c → ¬ (i = r ∧ j = f) → cur'.getD (i * ncell c + j) Go.undef = cur.getD (i * ncell c + j) Go.undef := fun i j hj hn => hne _ fun e => hn (cell_inj hj hf e)
  have hold : ∀ i j x, i < l.length → j < ncell c → outAt out i j = false → hdr (cur.getD (i * ncell c + j) Go.undef) = some x → holds w m (.deep et c ts l out) x := fun i j x hi hj h1 h2 => (DeepAt.holds_iff D.hb hmb).2 (.inr ⟨i, j, hi, hj, h1, h2⟩)
  refine ⟨hb', by rw [hsz]; exact D.sz, by rw [hl]; exact D.le, D.mx, fun i hi j hj => ?_, fun i j i' j' x hi hj hi' hj' o1 o2 e1 e2 => ?_, fun i j x hi hj o1 e1 => ?_⟩
  · rw [hl] at hi
    by_cases e : i = r ∧ j = f
    · obtain ⟨rfl, rfl⟩ := e
      exact .inr ⟨ho2, by rw [hk]; exact hdc⟩
    · rw [old i j hj e, hrow i j hi hj e]
      obtain ⟨g1, g2⟩ := ho i j e
      rcases D.cell i hi j hj with ⟨a1, a2⟩ | ⟨a1, a2⟩
      · exact .inl ⟨by rw [g1]; exact a1, by rw [g2 a1]; exact a2.evo E⟩
      · exact .inr ⟨by rw [g1]; exact a1, a2.evo E fun x hx => hother x (D.ne i j x hi hj a1 hx)⟩
  · rw [hl] at hi hi'
    by_cases c1 : i = r ∧ j = f <;> by_cases c2 : i' = r ∧ j' = f
    · exact ⟨c1.1.trans c2.1.symm, c1.2.trans c2.2.symm⟩
    · rw [c1.1, c1.2, hk] at e1
      rw [old i' j' hj' c2] at e2
      rw [(ho i' j' c2).1] at o2
      exact absurd (hold i' j' x hi' hj' o2 e2) (hfr x e1).2
    · rw [c2.1, c2.2, hk] at e2
      rw [old i j hj c1] at e1
      rw [(ho i j c1).1] at o1
      exact absurd (hold i j x hi hj o1 e1) (hfr x e2).2
    · rw [old i j hj c1] at e1
      rw [old i' j' hj' c2] at e2
      rw [(ho i j c1).1] at o1
      rw [(ho i' j' c2).1] at o2
      exact D.inj i j i' j' x hi hj hi' hj' o1 o2 e1 e2
  · rw [hl] at hi
    by_cases c1 : i = r ∧ j = f
    · rw [c1.1, c1.2, hk] at e1
      exact (hfr x e1).1
    · rw [old i j hj c1] at e1
      rw [(ho i j c1).1] at o1
      exact D.ne i j x hi hj o1 e1
end
end Go.Proofs.Ytemffnpliflkgaa
