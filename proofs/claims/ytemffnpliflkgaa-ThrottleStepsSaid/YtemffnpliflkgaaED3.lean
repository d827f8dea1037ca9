/-
  Lemmas and contracts on the way to the laws of this seat; each theorem states its own conditions, and there are no others.
-/
import Derived.Test.YtemffnpliflkgaaED2
namespace Go.Proofs.Ytemffnpliflkgaa
open Go
set_option linter.unusedVariables false
set_option linter.unusedSimpArgs false
section
variable {P : Program} {a : Act} {o : Oper} {w : World} {S : SS} {μ : MM} {h : Nat → Option OB} {base : Nat}

theorem tkind_one {t : TypeId} {n : Nat} (ht : tkind P t = some (n, false)) : ∃ i d, P.info? t = some i ∧ P.underlying t = some d ∧ aggD d = false ∧ i.size = n := by
  unfold tkind at ht
  split at ht
  · rename_i i d hi hd
    simp only [Option.some.injEq, Prod.mk.injEq] at ht
    exact ⟨i, d, hi, hd, ht.2, ht.1⟩
  · cases ht

theorem DC.plain {et : Nat} {v : AV} {x : Value} (hp : plainA v = true) (h : DC w S μ et v x) : VRel w S μ v x ∧ hdr x = none := by
  unfold DC at h
  split at h
  · cases hp
  · exact h
/-- An inner slice goes out on loan: nothing is changed but what is known. -/
theorem borrow_out (H : HRel w S μ h) (hf : ∀ id, base ≤ id → id < base + 10 → μ id = none) {id r f et c : Nat} {ts : List Nat} {l : List (den c)} (hh : h id = some (.deep et c ts l none)) {c' : Nat} {l' : List (den c')} (hrow : (rowAV c l r).getD f .undef = .irec true c' l') (hfc : f < ncell c) (hrl : r < l.length) :
    ∃ m b xv, μ id = some m ∧ m.b = some b ∧ w.cell? ⟨b, r * ncell m.c + f, none⟩ = some xv ∧ Out w S μ h base (.own (base + 1) c') [(id, some (.deep et c ts l (some (r, f, base + 1)))), (base + 1, some (.rows (ts.getD f 0) c' l'))] w xv := by
  obtain ⟨m, hm, hB⟩ := H.blk id _ hh
  obtain ⟨d1, d2, d3⟩ := H.deep hh hm
  obtain ⟨b, hb⟩ : ∃ b, m.b = some b := by
    obtain ⟨_, _, h3⟩ := hB
    rcases h3 with ⟨e, _⟩ | ⟨b, _, hb, _⟩
    · rw [e] at hrl; simp at hrl
    · exact ⟨b, hb⟩
  obtain ⟨cur, D⟩ := d3 b hb
  have hid := hf (base + 1) (by omega) (by omega)
  have hcell : w.cell? ⟨b, r * ncell m.c + f, none⟩ = some (cur.getD (r * ncell c + f) Go.undef) := by
    rw [d2]; exact cell_at D.hb (D.lt hrl hfc)
  have hinn : INN w S μ (ts.getD f 0) c' l' (cur.getD (r * ncell c + f) Go.undef) := by
    rcases D.cell r hrl f hfc with ⟨a1, _⟩ | ⟨_, a2⟩
    · simp [outAt] at a1
    · rw [hrow] at a2; exact a2
  refine ⟨m, b, _, hm, hb, hcell, ?_⟩
  generalize hxv : cur.getD (r * ncell c + f) Go.undef = xv at hinn
  -- the name of what goes out
  obtain ⟨m2, hmc, hv, hbok, hmb⟩ : ∃ m2 : MI, m2.c = c' ∧ (∀ μ' : MM, μ' (base + 1) = some m2 → VRel w S μ' (.own (base + 1) c') xv) ∧ (∀ μ' : MM, BOk w S μ' m2 (.rows (ts.getD f 0) c' l')) ∧ (∀ b', m2.b = some b' → hdr xv = some b') := by
    rcases hinn with ⟨e, q, rfl⟩ | ⟨b', cap, cur', rfl, g1, g2, g3, g4, g5, g6⟩
    · exact ⟨⟨none, 0, c', 0⟩, rfl, fun μ' hm' => .own0 (m := ⟨none, 0, c', 0⟩) q hm' rfl, fun μ' => ⟨by rw [e]; rfl, rfl, .inl ⟨e, rfl⟩⟩, fun b' hb' => by cases hb'⟩
    · obtain ⟨k, rfl⟩ : ∃ k, cap = k + 1 := ⟨cap - 1, by omega⟩
      exact ⟨⟨some b', l'.length, c', k + 1⟩, rfl, fun μ' hm' => .own (m := ⟨some b', l'.length, c', k + 1⟩) hm' rfl, fun μ' => ⟨rfl, rfl, .inr ⟨b', cur', rfl, g2, g3, g4, g5, fun i hi j hj => enc_free hj (g6 i hi j hj) μ'⟩⟩, fun b'' hb' => by simp only [Option.some.injEq] at hb'; rw [← hb']; rfl⟩
  have E : Evo w S μ w S (μ.add (base + 1) m2) := ⟨rfl, rfl, rfl, Nat.le_refl _, fun _ _ _ => rfl, fun _ => Iff.rfl, fun _ h => h, fun _ h => .inl h, MM.ext_add hid⟩
  have hne : id ≠ base + 1 := fun e => by rw [e, hid] at hm; cases hm
  have cs : ∀ i, (updH h [(id, some (.deep et c ts l (some (r, f, base + 1)))), (base + 1, some (.rows (ts.getD f 0) c' l'))]) i = if i = base + 1 then some (.rows (ts.getD f 0) c' l') else if i = id then some (.deep et c ts l (some (r, f, base + 1))) else h i := fun i => by
    simp only [updH]
    by_cases e1 : i = base + 1
    · subst e1; simp
    · by_cases e2 : i = id
      · subst e2; simp [e1, nbeq_ne e1]
      · simp [e1, e2, nbeq_ne e1, nbeq_ne e2]
  have heldI : ∀ b', hdr xv = some b' → holds w m (.deep et c ts l none) b' := fun b' hb' => (DeepAt.holds_iff D.hb hb).2 (.inr ⟨r, f, hrl, hfc, rfl, by rw [hxv]; exact hb'⟩)
  have heldO : ∀ x, holds w m (.deep et c ts l (some (r, f, base + 1))) x → holds w m (.deep et c ts l none) x ∧ hdr xv ≠ some x := fun x hx => by
    rcases (DeepAt.holds_iff D.hb hb).1 hx with e | ⟨i, j, hi, hj, ho, e⟩
    · refine ⟨.inl (by rw [hb, e]), fun e2 => ?_⟩
      exact D.ne r f x hrl hfc rfl (by rw [hxv]; exact e2) e.symm
    · refine ⟨(DeepAt.holds_iff D.hb hb).2 (.inr ⟨i, j, hi, hj, rfl, e⟩), fun e2 => ?_⟩
      have := D.inj i j r f x hi hj hrl hfc rfl rfl e (by rw [hxv]; exact e2)
      rw [outAt_some.2 this] at ho; cases ho
  have was : ∀ i oi mi x, (updH h [(id, some (.deep et c ts l (some (r, f, base + 1)))), (base + 1, some (.rows (ts.getD f 0) c' l'))]) i = some oi → (μ.add (base + 1) m2) i = some mi → holds w mi oi x → (i = base + 1 ∧ hdr xv = some x) ∨ (i ≠ base + 1 ∧ ∃ ok, h i = some ok ∧ μ i = some mi ∧ holds w mi ok x ∧ (i = id → hdr xv ≠ some x)) := fun i oi mi x hi hmi hx => by
    rw [cs] at hi
    by_cases e1 : i = base + 1
    · rw [if_pos e1] at hi; cases hi
      rw [e1, MM.add_same] at hmi; cases hmi
      exact .inl ⟨e1, hmb x (holds_plain rfl hx)⟩
    · rw [if_neg e1] at hi
      rw [MM.add_ne e1] at hmi
      by_cases e2 : i = id
      · rw [if_pos e2] at hi; cases hi
        subst e2
        rw [hm] at hmi; cases hmi
        obtain ⟨g1, g2⟩ := heldO x hx
        exact .inr ⟨e1, _, hh, hm, g1, fun _ => g2⟩
      · rw [if_neg e2] at hi
        exact .inr ⟨e1, oi, hi, hmi, hx, fun e => absurd e e2⟩
  refine ⟨S, _, E, hv _ MM.add_same, ⟨fun i oi hi => ?_, fun i k oi ok mi mk x hi hk hmi hmk hxi hxk => ?_, fun i oi mi x p hi hmi hx hs => ?_, H.bd⟩, fun i hi => ?_⟩
  · rw [cs] at hi
    by_cases e1 : i = base + 1
    · rw [if_pos e1] at hi; cases hi
      rw [e1]
      exact ⟨m2, MM.add_same, hbok _⟩
    · rw [if_neg e1] at hi
      by_cases e2 : i = id
      · rw [if_pos e2] at hi; cases hi
        subst e2
        refine ⟨m, by rw [MM.add_ne e1]; exact hm, d1, d2, .inr ⟨b, cur, hb, D.hb, D.sz, D.le, D.mx, fun i hi j hj => ?_, fun i j i' j' x hi hj hi' hj' _ _ => D.inj i j i' j' x hi hj hi' hj' rfl rfl, fun i j x hi hj _ => D.ne i j x hi hj rfl⟩⟩
        by_cases e : i = r ∧ j = f
        · refine .inl ⟨outAt_some.2 e, c', ?_⟩
          rw [e.1, e.2, hxv]
          exact hv _ MM.add_same
        · refine .inr ⟨Bool.eq_false_iff.2 fun h => e (outAt_some.1 h), ?_⟩
          rcases D.cell i hi j hj with ⟨a1, _⟩ | ⟨_, a2⟩
          · simp [outAt] at a1
          · exact a2.evo E fun _ _ => rfl
      · rw [if_neg e2] at hi
        obtain ⟨mi, hmi, hB⟩ := H.blk i oi hi
        exact ⟨mi, E.ext _ _ hmi, hB.evo E fun _ _ => rfl⟩
  · rcases was i oi mi x hi hmi hxi with ⟨a1, a2⟩ | ⟨a1, o1, a2, a3, a4, a5⟩ <;> rcases was k ok mk x hk hmk hxk with ⟨b1, b2⟩ | ⟨b1, o2, b2, b3, b4, b5⟩
    · rw [a1, b1]
    · have := H.injH id k _ o2 m mk x hh b2 hm b3 (heldI x a2) b4
      exact absurd a2 (b5 this.symm)
    · have := H.injH id i _ o1 m mi x hh a2 hm a3 (heldI x b2) a4
      exact absurd b2 (a5 this.symm)
    · exact H.injH i k o1 o2 mi mk x a2 b2 a3 b3 a4 b4
  · rcases was i oi mi x hi hmi hx with ⟨a1, a2⟩ | ⟨a1, o1, a2, a3, a4, a5⟩
    · exact H.sepH id _ m x p hh hm (heldI x a2) hs
    · exact H.sepH i o1 mi x p a2 a3 a4 hs
  · by_cases e : i = base + 1
    · right; omega
    · left; rwa [MM.add_ne e] at hi
/-- A slice of a deep block goes out. -/
theorem borrowD_ok (H : HRel w S μ h) (hf : ∀ id, base ≤ id → id < base + 10 → μ id = none) {id c0 r f : Nat} {x : Value} (hx : VRel w S μ (.ept id c0 r f) x) (hrun : ∀ ad v, x = .pointer (some ad) → w.cell? ad = some v → (execOp a.eval o).run P w = .ok (.value v) w) :
    DescOK P a o w S μ h base (borrowD h base id r f) := by
  unfold borrowD
  split
  case h_2 => trivial
  rename_i et c ts l hh
  split
  case h_2 => trivial
  rename_i c' l' hrow
  by_cases hfb : Nat.blt f (ncell c) = true
  case neg => simp only [Bool.not_eq_true] at hfb; rw [hfb, cond_false]; trivial
  rw [hfb, cond_true]
  intro _ K Q hK
  have hfc : f < ncell c := Nat.le_of_ble_eq_true hfb
  obtain ⟨m, b, hm, hb, hr, hx'⟩ := hx.ept_inv
  obtain ⟨d1, d2, d3⟩ := H.deep hh hm
  have hrl : r < l.length := by omega
  obtain ⟨m2, b2, xv, hm2, hb2, hcell, hO⟩ := borrow_out H hf hh hrow hfc hrl
  rw [hm] at hm2; cases hm2
  rw [hb] at hb2; cases hb2
  exact wp_val (hrun _ _ hx' hcell) (hK _ _ hO)

theorem closeD_len {id et c et1 c1 : Nat} {ts ts1 : List Nat} {l : List (den c)} {l1 : List (den c1)} {out out1 : Option (Nat × Nat × Nat)} {q : List Prop} {u0 : Upd} (hcl : closeD h id = some (q, u0)) (hh : h id = some (.deep et c ts l out)) (hh1 : updH h u0 id = some (.deep et1 c1 ts1 l1 out1)) : l1.length = l.length := by
  unfold closeD at hcl
  rw [hh] at hcl
  cases out with
  | none =>
    simp only [Option.some.injEq, Prod.mk.injEq] at hcl
    rw [← hcl.2] at hh1
    simp only [updH] at hh1
    rw [hh] at hh1
    cases hh1; rfl
  | some o =>
    obtain ⟨r, j, name⟩ := o
    simp only at hcl
    split at hcl
    case h_2 => cases hcl
    rename_i et' c' l' hn
    cases hb : Nat.beq et' (ts.getD j 0) with
    | false => rw [hb] at hcl; cases hcl
    | true =>
    rw [hb, cond_true] at hcl
    split at hcl
    case h_2 => cases hcl
    rename_i y _
    simp only [Option.some.injEq, Prod.mk.injEq] at hcl
    rw [← hcl.2] at hh1
    simp [updH] at hh1
    obtain ⟨_, rfl, _, hl, _⟩ := hh1
    have hl := eq_of_heq hl
    rw [← hl, List.length_set]
/-- A loan under a guard. -/
theorem lend_ghost {E : Env} (H : HRel w S μ h) (hf : ∀ id, base ≤ id → id < base + 10 → μ id = none) {op : Op} {vals : List AV} {p : Prop} {pre : List Prop} {v : AV} {u : Upd} (hl : lendG E h base op vals = some (p, pre, v, u)) (hp : p) (hpre : ∀ q ∈ pre, q) : ∃ xv, Out w S μ h base v u w xv := by
  unfold lendG at hl
  split at hl
  case h_2 => cases hl
  rename_i t xo id c0 r f
  cases hb : deepAt h id with
  | false => rw [hb] at hl; cases hl
  | true =>
  rw [hb, cond_true] at hl
  split at hl
  case h_2 => cases hl
  rename_i pre' v' p0 u' hld
  split at hl
  case h_2 => cases hl
  rename_i et c ts l out hh
  simp only [Option.some.injEq, Prod.mk.injEq] at hl
  obtain ⟨e1, e2, e3, e4⟩ := hl
  subst e1 e2 e3 e4
  unfold loadDp at hld
  split at hld
  case h_2 => cases hld
  rw [hh] at hld
  simp only at hld
  cases hfb : Nat.blt f (ncell c) with
  | false => rw [hfb] at hld; cases hld
  | true =>
  rw [hfb, cond_true] at hld
  cases hpl : (plainA ((rowAV c l r).getD f .undef) && outNe out f) with
  | true => rw [hpl, cond_true] at hld; cases hld
  | false =>
  rw [hpl, cond_false] at hld
  split at hld
  case h_2 => cases hld
  rename_i q u0 hcl
  obtain ⟨e5⟩ : ∃ h1, h1 = updH h u0 := ⟨_, rfl⟩
  unfold borrowD at hld
  split at hld
  case h_2 => cases hld
  rename_i et1 c1 ts1 l1 hh1
  split at hld
  case h_2 => cases hld
  rename_i c' l' hrow
  cases hfb1 : Nat.blt f (ncell c1) with
  | false => rw [hfb1] at hld; cases hld
  | true =>
  rw [hfb1, cond_true] at hld
  simp only [preP, Desc.det.injEq] at hld
  obtain ⟨g1, g2, g3⟩ := hld
  have hq : ∀ p ∈ q, p := fun p hp => hpre p (by rw [← g1]; simp [hp])
  have H1 := closeD_ok H hcl hq
  have hlen : l1.length = l.length := closeD_len hcl hh hh1
  obtain ⟨m, b, xv, _, _, _, S', μ', E1, hv, Hx, hfr⟩ := borrow_out H1 hf hh1 hrow (Nat.le_of_ble_eq_true hfb1) (by omega)
  rw [← g2, ← g3]
  exact ⟨xv, S', μ', E1, hv, by rw [updH_app]; exact Hx, hfr⟩

theorem ok_loadDp (H : HRel w S μ h) (hf : ∀ id, base ≤ id → id < base + 10 → μ id = none) {t : TypeId} {xo : Operand} {id c0 r f : Nat} (ho : o.op = .load t xo) (hx : VRel w S μ (.ept id c0 r f) (a.eval xo)) : DescOK P a o w S μ h base (loadDp P h base t id r f) := by
  unfold loadDp
  split
  case h_2 => trivial
  rename_i ht
  obtain ⟨i, d, hi, hd, hg, hsz⟩ := tkind_one ht
  split
  case h_2 => trivial
  rename_i et c ts l out hh
  by_cases hfc : Nat.blt f (ncell c) = true
  case neg => simp only [hfc, cond_false]; trivial
  simp only [hfc, cond_true]
  have hfc' : f < ncell c := Nat.le_of_ble_eq_true hfc
  have run : ∀ ad v, a.eval xo = .pointer (some ad) → w.cell? ad = some v → (execOp a.eval o).run P w = .ok (.value v) w := fun ad v hx' hc => by
    simp only [execOp, ho, Sem.run_bind, hx', run_load1 hd hg hc, Result.andThen_ok, Sem.run_pure]
  by_cases hp : (plainA ((rowAV c l r).getD f .undef) && outNe out f) = true
  · simp only [hp, cond_true]
    simp only [Bool.and_eq_true] at hp
    refine ok_pure H fun _ => ?_
    obtain ⟨m, b, hm, hb, hr, hx'⟩ := hx.ept_inv
    obtain ⟨d1, d2, d3⟩ := H.deep hh hm
    obtain ⟨cur, D⟩ := d3 b hb
    have hrl : r < l.length := by omega
    refine ⟨_, run _ _ hx' (by rw [d2]; exact cell_at D.hb (D.lt hrl hfc')), ?_⟩
    rcases D.cell r hrl f hfc' with ⟨a1, _⟩ | ⟨_, a2⟩
    · have := hp.2
      cases out with
      | none => simp [outAt] at a1
      | some q =>
        obtain ⟨r', f', n'⟩ := q
        have e := outAt_some.1 a1
        simp [outNe, e.2] at this
    · exact (DC.plain hp.1 a2).1
  · simp only [hp, cond_false]
    split
    · rename_i q u hcl
      refine preP_ok (S1 := S) (fun _ => Evo.refl _ _ _) fun hq => ?_
      exact borrowD_ok (closeD_ok H hcl hq) hf hx run
    · trivial

theorem plain_dc {et : Nat} {v : AV} {x : Value} (hp : plainA v = true) (h : VRel w S μ v x) : DC w S μ et v x := by
  cases v
  case int => cases h; exact ⟨.int _ _, rfl⟩
  case bool => cases h; exact ⟨.bool _, rfl⟩
  case str => cases h; exact ⟨.str _, rfl⟩
  all_goals cases hp
theorem plain_hdr {v : AV} {x : Value} (hp : plainA v = true) (h : VRel w S μ v x) : hdr x = none := by
  cases v
  case int => cases h; rfl
  case bool => cases h; rfl
  case str => cases h; rfl
  all_goals cases hp
/-- A cell of an array, written. -/
theorem put_cell {cur : Array Value} {k : Nat} {xs : List Value} {x : Value} (hx : xs = [x]) (hk : k < cur.size) :
    (cur.toList.take k ++ xs ++ cur.toList.drop (k + xs.length)).toArray.size = cur.size ∧ (cur.toList.take k ++ xs ++ cur.toList.drop (k + xs.length)).toArray.getD k Go.undef = x ∧
    ∀ n, n ≠ k → (cur.toList.take k ++ xs ++ cur.toList.drop (k + xs.length)).toArray.getD n Go.undef = cur.getD n Go.undef := by
  subst hx
  have hlen : (cur.toList.take k).length = k := by simp; omega
  have get : ∀ n, (cur.toList.take k ++ [x] ++ cur.toList.drop (k + 1)).toArray.getD n Go.undef = (cur.toList.take k ++ [x] ++ cur.toList.drop (k + 1)).getD n Go.undef := fun n => by
    simp [Array.getD_eq_getD_getElem?, List.getD_eq_getElem?_getD]
  have get2 : ∀ n, cur.getD n Go.undef = cur.toList.getD n Go.undef := fun n => by
    simp [Array.getD_eq_getD_getElem?, List.getD_eq_getElem?_getD]
  have sp := fun n => splice_getD cur.toList [x] k n Go.undef (by simp; omega)
  refine ⟨by simp; omega, ?_, fun n hn => ?_⟩
  · show (cur.toList.take k ++ [x] ++ cur.toList.drop (k + 1)).toArray.getD k Go.undef = x
    rw [get]
    have := sp k
    simp only [List.length_singleton] at this
    rw [this, if_neg (by omega), if_pos (by omega), Nat.sub_self]; rfl
  · show (cur.toList.take k ++ [x] ++ cur.toList.drop (k + 1)).toArray.getD n Go.undef = _
    rw [get, get2]
    have := sp n
    simp only [List.length_singleton] at this
    rw [this]
    by_cases h1 : n < k
    · rw [if_pos h1]
    · rw [if_neg h1, if_neg (by omega)]

/-- What is written into a deep block. -/
theorem deep_write (H : HRel w S μ h) {id et c : Nat} {ts : List Nat} {l l' : List (den c)} {out out' : Option (Nat × Nat × Nat)} {m : MI} {b r f : Nat} {cur : Array Value} {xv : Value} {cs' : Array Value} (hh : h id = some (.deep et c ts l out)) (hm : μ id = some m) (hb : m.b = some b) (D : DeepAt w S μ m et c ts l out b cur)
    (hr : r < l.length) (hf : f < ncell c) (hsz : cs'.size = cur.size) (hk : cs'.getD (r * ncell c + f) Go.undef = xv) (hne : ∀ n, n ≠ r * ncell c + f → cs'.getD n Go.undef = cur.getD n Go.undef)
    (hl : l'.length = l.length) (hrow : ∀ i j, i < l.length → j < ncell c → ¬ (i = r ∧ j = f) → (rowAV c l' i).getD j .undef = (rowAV c l i).getD j .undef)
    (ho : ∀ i j, ¬ (i = r ∧ j = f) → outAt out' i j = outAt out i j ∧ (outAt out i j = true → out' = out)) (ho2 : outAt out' r f = false)
    {h' : Nat → Option OB} (hid : h' id = some (.deep et c ts l' out')) (hother : ∀ i o, h' i = some o → i ≠ id → h i = some o)
    (hdc : ∀ E : Evo w S μ (w.setRow b cs') S μ, DC (w.setRow b cs') S μ (ts.getD f 0) ((rowAV c l' r).getD f .undef) xv)
    -- the block of what comes in
    (hfrom : ∀ x, hdr xv = some x → ∃ k ok mk, k ≠ id ∧ h k = some ok ∧ μ k = some mk ∧ holds w mk ok x ∧ h' k = none) : Evo w S μ (w.setRow b cs') S μ ∧ HRel (w.setRow b cs') S μ h' := by
  have E : Evo w S μ (w.setRow b cs') S μ := by
    refine ⟨rfl, rfl, rfl, by simp, ?_, fun _ => Iff.rfl, fun _ h => h, fun _ h => .inl h, fun _ _ h => h⟩
    intro p b' hs
    exact setRow_other w b b' cs' fun e => H.sepH id _ m b p hh hm (.inl hb) (e ▸ hs)
  refine ⟨E, ?_⟩
  have same : ∀ b', b' ≠ b → (w.setRow b cs').heap[b']? = w.heap[b']? := fun b' hb' => setRow_other w b b' cs' hb'
  have hcur' : (w.setRow b cs').heap[b]? = some (.cells cs' et (0, 0)) := setRow_heap w b cur cs' et (0, 0) D.hb
  have D' : DeepAt (w.setRow b cs') S μ m et c ts l' out' b cs' := by
    refine D.cell' hb E hcur' hsz same hf hk hne hl hrow ho ho2 (hdc E) fun x hx => ?_
    obtain ⟨k, ok, mk, k1, k2, k3, k4, _⟩ := hfrom x hx
    exact ⟨fun e => k1 (H.injH k id ok _ mk m x k2 hh k3 hm k4 (.inl (by rw [e]; exact hb))), fun hx2 => k1 (H.injH k id ok _ mk m x k2 hh k3 hm k4 hx2)⟩
  obtain ⟨d1, d2, _⟩ := H.deep hh hm
  -- where blocks come from
  have was : ∀ i oi mi x, h' i = some oi → μ i = some mi → holds (w.setRow b cs') mi oi x → ∃ k ok mk, h k = some ok ∧ μ k = some mk ∧ holds w mk ok x ∧ (k = i ∨ (i = id ∧ h' k = none)) := fun i oi mi x hi hmi hx => by
    by_cases e1 : i = id
    · subst e1
      rw [hid] at hi; cases hi
      rw [hm] at hmi; cases hmi
      rcases (DeepAt.holds_iff hcur' hb).1 hx with e | ⟨p, q, hp, hq, hoo, e⟩
      · exact ⟨i, _, m, hh, hm, .inl (by rw [hb, e]), .inl rfl⟩
      · rw [hl] at hp
        by_cases e2 : p = r ∧ q = f
        · rw [e2.1, e2.2, hk] at e
          obtain ⟨k, ok, mk, _, k2, k3, k4, k5⟩ := hfrom x e
          exact ⟨k, ok, mk, k2, k3, k4, .inr ⟨rfl, k5⟩⟩
        · rw [hne _ fun e3 => e2 (cell_inj hq hf e3)] at e
          rw [(ho p q e2).1] at hoo
          exact ⟨i, _, m, hh, hm, (DeepAt.holds_iff D.hb hb).2 (.inr ⟨p, q, hp, hq, hoo, e⟩), .inl rfl⟩
    · have g := hother i oi hi e1
      refine ⟨i, oi, mi, g, hmi, (holds_same (fun b' hb' => same b' fun e => e1 ?_) x).1 hx, .inl rfl⟩
      exact H.injH i id oi _ mi m b g hh hmi hm (.inl (by rw [hb', e])) (.inl hb)
  have notb : ∀ i oi mi x, h' i = some oi → i ≠ id → μ i = some mi → holds w mi oi x → x ≠ b := fun i oi mi x hi hne' hmi hx e =>
    hne' (H.injH i id oi _ mi m x (hother i oi hi hne') hh hmi hm hx (.inl (by rw [e]; exact hb)))
  refine ⟨fun i oi hi => ?_, fun i k oi ok mi mk x hi hk' hmi hmk hxi hxk => ?_, fun i oi mi x p hi hmi hx hs => ?_, fun p b' hs => by simpa using H.bd p b' hs⟩
  · by_cases e1 : i = id
    · rw [e1, hid] at hi; cases hi
      exact ⟨m, by rw [e1]; exact hm, D'.bok (by rw [hl]; exact d1) d2 hb⟩
    · obtain ⟨mi, hmi, hB⟩ := H.blk i oi (hother i oi hi e1)
      exact ⟨mi, hmi, hB.evo E fun x hx => same x (notb i oi mi x hi e1 hmi hx)⟩
  · obtain ⟨i1, o1, m1, a1, a2, a3, a4⟩ := was i oi mi x hi hmi hxi
    obtain ⟨i3, o3, m3, b1, b2, b3, b4⟩ := was k ok mk x hk' hmk hxk
    have e := H.injH i1 i3 o1 o3 m1 m3 x a1 b1 a2 b2 a3 b3
    rcases a4 with a4 | ⟨a4, a5⟩ <;> rcases b4 with b4 | ⟨b4, b5⟩
    · exact a4.symm.trans (e.trans b4)
    · rw [← e, a4, hi] at b5; cases b5
    · rw [e, b4, hk'] at a5; cases a5
    · exact a4.trans b4.symm
  · obtain ⟨i1, o1, m1, a1, a2, a3, _⟩ := was i oi mi x hi hmi hx
    exact H.sepH i1 o1 m1 x p a1 a2 a3 hs
end
end Go.Proofs.Ytemffnpliflkgaa
