/-
  Lemmas and contracts on the way to the laws of this seat; each theorem states its own conditions, and there are no others.
-/
import Derived.Test.YtemffnpliflkgaaED3
namespace Go.Proofs.Ytemffnpliflkgaa
open Go
set_option linter.unusedVariables false
set_option linter.unusedSimpArgs false
section
variable {P : Program} {a : Act} {o : Oper} {w : World} {S : SS} {μ : MM} {h : Nat → Option OB} {base : Nat}

theorem nrm1_plain {v : AV} {x : Value} (hx : VRel w S μ v x) : VRel w S μ (nrm1 v) x := by
  cases v
  case tt => cases hx; exact .bool true
  case ff => cases hx; exact .bool false
  all_goals exact hx

theorem outPre_at {out : Option (Nat × Nat × Nat)} {r f : Nat} {q : List Prop} (h : outPre out r f = some q) (hq : ∀ p ∈ q, p) : ∀ i j, ¬ (i = r ∧ j = f) → outAt out i j = false := fun i j hn => by
  cases out with
  | none => rfl
  | some t =>
    obtain ⟨r', f', n'⟩ := t
    simp only [outPre] at h
    by_cases e : Nat.beq f' f = true
    · simp only [e, cond_true, Option.some.injEq] at h
      subst h
      have e1 : r' = r := hq _ (by simp)
      have e2 := Nat.eq_of_beq_eq_true e
      subst e1 e2
      exact Bool.eq_false_iff.2 fun h => hn (outAt_some.1 h)
    · simp only [Bool.not_eq_true] at e
      simp [e] at h

theorem ok_storeDp (H : HRel w S μ h) {t : TypeId} {xo yo : Operand} {id c0 r f : Nat} {v : AV} (ho : o.op = .store t xo yo) (hx : VRel w S μ (.ept id c0 r f) (a.eval xo)) (hy : VRel w S μ v (a.eval yo)) : DescOK P a o w S μ h base (storeDp P h t id r f v) := by
  unfold storeDp
  split
  case h_2 => trivial
  rename_i et c ts l out ht hh
  obtain ⟨ti, d, hi, hd, hg, hsz⟩ := tkind_one ht
  by_cases hfc : Nat.blt f (ncell c) = true
  case neg => simp only [Bool.not_eq_true] at hfc; rw [hfc, cond_false]; trivial
  rw [hfc, cond_true]
  have hf : f < ncell c := Nat.le_of_ble_eq_true hfc
  obtain ⟨m, b, hm, hb, hr, hx'⟩ := hx.ept_inv
  obtain ⟨d1, d2, d3⟩ := H.deep hh hm
  obtain ⟨cur, D⟩ := d3 b hb
  have hrl : r < l.length := by omega
  have hk := D.lt hrl hf
  have run : ∀ y, a.eval yo = y → y.cells = #[y] → y.oneCell' = true → (execOp a.eval o).run P w = .ok .skip (w.setRow b (cur.toList.take (r * ncell c + f) ++ [y] ++ cur.toList.drop (r * ncell c + f + [y].length)).toArray) := fun y hy' h1 h2 => by
    have := run_storeAt (w := w) hi (x := y) D.hb (by rw [h1, hsz]; rfl) (off := r * ncell c + f) (by rw [h1]; simp; omega) (fun u hu => by rw [h1] at hu; simp at hu; rw [hu]; exact h2)
    rw [h1] at this
    simp only [execOp, ho, Sem.run_bind, hx', hy', d2, this, Result.andThen_ok, Sem.run_pure]
  split
  · rename_i id2 c0'
    split
    case h_2 => trivial
    rename_i et2 c2 l2 h2
    by_cases he : Nat.beq et2 (ts.getD f 0) = true
    case neg => simp only [Bool.not_eq_true] at he; rw [he, cond_false]; trivial
    rw [he, cond_true]
    have ee := Nat.eq_of_beq_eq_true he
    split
    case h_2 => trivial
    rename_i y q hy2 hq
    intro hp K Q hK
    have heq : enc c y = (rowAV c l r).set f (.irec true c2 l2) := hp _ (by simp)
    have hout := outPre_at hq fun p hm => hp p (by simp [hm])
    have hne : id ≠ id2 := fun e => by rw [e, h2] at hh; cases hh
    obtain ⟨hinn, m2, hm2, hbl⟩ := own_inn H h2 hy
    have hcell := cell_set heq hrl hf
    obtain ⟨p1, p2, p3⟩ := put_cell (cur := cur) (xs := [a.eval yo]) rfl hk
    have hleaf := leaf_cells (show leafA (.own id2 c0') = true from rfl) hy
    refine wp_skp (run _ rfl hleaf.1 hleaf.2) (hK _ _ ?_)
    have cs : ∀ i, (updH h [(id2, none), (id, some (.deep et c ts (l.set r y) none))]) i = if i = id then some (.deep et c ts (l.set r y) none) else if i = id2 then none else h i := fun i => by
      simp only [updH]
      by_cases e1 : i = id
      · subst e1; simp
      · by_cases e2 : i = id2
        · subst e2; simp [e1, nbeq_ne e1]
        · simp [e1, e2, nbeq_ne e1, nbeq_ne e2]
    obtain ⟨E, H'⟩ := deep_write H hh hm hb D hrl hf p1 p2 p3 (l' := l.set r y) (out' := none) (by simp) (fun i j hi hj hn => by rw [hcell, if_neg hn]) (fun i j hn => ⟨(hout i j hn).symm, fun h => by rw [hout i j hn] at h; cases h⟩) rfl
      (h' := updH h [(id2, none), (id, some (.deep et c ts (l.set r y) none))]) (by rw [cs, if_pos rfl]) (fun i oi hi hn => by
        rw [cs, if_neg hn] at hi
        split at hi
        · cases hi
        · exact hi) (fun E => by
        rw [hcell, if_pos ⟨rfl, rfl⟩, ← ee]
        refine DC.of_inn (hinn.evo E fun x hx2 => setRow_other w b x _ fun e => hne ?_)
        exact H.injH id id2 _ _ m m2 x hh h2 hm hm2 (.inl (by rw [e]; exact hb)) (.inl (hbl x hx2))) (fun x hx2 => ⟨id2, _, m2, fun e => hne e.symm, h2, hm2, .inl (hbl x hx2), by rw [cs, if_neg (fun e => hne e.symm), if_pos rfl]⟩)
    exact ⟨S, μ, E, .undef _, H', fun i hi => .inl hi⟩
  · by_cases hc : (plainA (nrm1 v) && plainA ((rowAV c l r).getD f .undef) && outNe out f) = true
    case neg => simp only [Bool.not_eq_true] at hc; rw [hc, cond_false]; trivial
    rw [hc, cond_true]
    simp only [Bool.and_eq_true] at hc
    split
    case h_2 => trivial
    rename_i y hy2
    intro hp K Q hK
    have heq : enc c y = (rowAV c l r).set f (nrm1 v) := hp _ (by simp)
    have hcell := cell_set heq hrl hf
    have hv := nrm1_plain hy
    obtain ⟨p1, p2, p3⟩ := put_cell (cur := cur) (xs := [a.eval yo]) rfl hk
    have hleaf := leaf_cells (show leafA (nrm1 v) = true by cases hn : nrm1 v <;> first | rfl | (rw [hn] at hc; simp [plainA] at hc)) hv
    refine wp_skp (run _ rfl hleaf.1 hleaf.2) (hK _ _ ?_)
    have cs : ∀ i, (updH h [(id, some (.deep et c ts (l.set r y) out))]) i = if i = id then some (.deep et c ts (l.set r y) out) else h i := fun i => by
      simp only [updH]
      by_cases e1 : i = id
      · subst e1; simp
      · simp [e1, nbeq_ne e1]
    obtain ⟨E, H'⟩ := deep_write H hh hm hb D hrl hf p1 p2 p3 (l' := l.set r y) (out' := out) (by simp) (fun i j hi hj hn => by rw [hcell, if_neg hn]) (fun i j hn => ⟨rfl, fun _ => rfl⟩) (by
        apply Bool.eq_false_iff.2
        intro h1
        cases out with
        | none => cases h1
        | some q =>
          obtain ⟨r', f', n'⟩ := q
          have := (outAt_some.1 h1).2
          have h3 := hc.2
          simp [outNe, this] at h3)
      (h' := updH h [(id, some (.deep et c ts (l.set r y) out))]) (by rw [cs, if_pos rfl]) (fun i oi hi hn => by rw [cs, if_neg hn] at hi; exact hi) (fun E => by
        rw [hcell, if_pos ⟨rfl, rfl⟩]
        exact plain_dc hc.1.1 (hv.evo E)) (fun x hx2 => by rw [plain_hdr hc.1.1 hv] at hx2; cases hx2)
    exact ⟨S, μ, E, .undef _, H', fun i hi => .inl hi⟩

theorem zeroRow_at : ∀ {vs zs : List AV}, zeroRow vs zs = true → vs.length = zs.length ∧ ∀ j, j < vs.length → (∃ c, vs.getD j .undef = .irec true c [] ∧ zs.getD j .undef = .nsl) ∨ plainA (vs.getD j .undef) = true
  | [], [], _ => ⟨rfl, fun j hj => absurd hj (Nat.not_lt_zero _)⟩
  | [], _ :: _, h => by simp [zeroRow] at h
  | v :: vs, [], h => by
    cases v
    case irec p c l => cases p <;> cases l <;> simp [zeroRow] at h
    all_goals simp [zeroRow] at h
  | v :: vs, z :: zs, h => by
    have key : ∀ (_ : zeroRow vs zs = true) (_ : (∃ c, v = .irec true c [] ∧ z = .nsl) ∨ plainA v = true), (v :: vs).length = (z :: zs).length ∧ ∀ j, j < (v :: vs).length → (∃ c, (v :: vs).getD j .undef = .irec true c [] ∧ (z :: zs).getD j .undef = .nsl) ∨ plainA ((v :: vs).getD j .undef) = true := fun h1 h2 => by
      obtain ⟨g1, g2⟩ := zeroRow_at h1
      refine ⟨by simp [g1], fun j hj => ?_⟩
      cases j with
      | zero => exact h2
      | succ j => exact g2 j (by simpa using hj)
    cases v
    case int => exact key (by simpa [zeroRow] using h) (.inr rfl)
    case bool => exact key (by simpa [zeroRow] using h) (.inr rfl)
    case str => exact key (by simpa [zeroRow] using h) (.inr rfl)
    case irec p c l =>
      cases p
      · simp [zeroRow] at h
      · cases l
        · cases z
          case nsl => exact key (by simpa [zeroRow] using h) (.inl ⟨c, rfl, rfl⟩)
          all_goals simp [zeroRow] at h
        · simp [zeroRow] at h
    all_goals simp [zeroRow] at h

theorem ok_makeSliceDp (H : HRel w S μ h) (hf : ∀ id, base ≤ id → id < base + 10 → μ id = none) {t : TypeId} {x y : Operand} {vx vy : AV} (ho : o.op = .makeSlice t x y) (hx : VRel w S μ vx (a.eval x)) (hy : VRel w S μ vy (a.eval y)) : DescOK P a o w S μ h base (makeSliceDp P base t vx vy) := by
  unfold makeSliceDp
  split
  case h_2 => trivial
  rename_i k n k' m
  split
  case h_2 => trivial
  rename_i e he
  split
  case h_2 => trivial
  rename_i c z i ts hc hz hi hts
  split
  case h_2 => trivial
  rename_i xx hd
  by_cases hs : (Nat.beq z.length i.size && Nat.beq (ncell c) i.size && Nat.blt 0 i.size && zeroRow (enc c xx) z) = true
  case neg => simp only [Bool.not_eq_true] at hs; rw [hs, cond_false]; trivial
  rw [hs, cond_true]
  simp only [Bool.and_eq_true] at hs
  have s1 : z.length = i.size := Nat.eq_of_beq_eq_true hs.1.1.1
  have s2 : ncell c = i.size := Nat.eq_of_beq_eq_true hs.1.1.2
  have s3 : 0 < i.size := Nat.le_of_ble_eq_true hs.1.2
  obtain ⟨z1, z2⟩ := zeroRow_at hs.2
  intro hp K Q hK
  obtain ⟨p1, p2, p3, p4⟩ : 0 ≤ n ∧ n ≤ m ∧ (i.bytes : Int) * m ≤ 281474976710656 ∧ m ≤ 1099511627776 := hp _ (by simp)
  have hu : P.underlying t = some (.slice e) := by
    unfold Proofs.Ytemffnpliflkgaa.elemOf at he
    split at he
    · simp only [Option.some.injEq] at he; subst he; assumption
    · cases he
  obtain ⟨i', v, hi', hv, rfl⟩ := tzero_spec hz
  rw [hi] at hi'; cases hi'
  have hrun := run_make (P := P) w t e i v hu hi hv k k' n m p1 p2 p3 (by omega)
  have hx' := hx.int_inv
  have hy' := hy.int_inv
  refine wp_val (w' := w.alloc (.cells (madeCells v.cells (m.toNat * i.size)) e)) (x := .slice (some ⟨w.heap.size, 0, none⟩) n.toNat m.toNat) (by simp only [execOp, ho, Sem.run_bind, hx', hy', hrun, Result.andThen_ok, Sem.run_pure]) (hK _ _ ?_)
  have hzr := flat_zero (w := w) (S := S) (μ := μ) v
  have hzl : v.cells.size = i.size := by have := hzr.len; simp at this; omega
  have hdr' := dec_rel hd hzr
  have hid := hf (base + 1) (by omega) (by omega)
  -- a cell of zeros
  have zc : ∀ j, j < ncell c → DC w S μ (ts.getD j 0) ((enc c xx).getD j .undef) (v.cells.getD j Go.undef) ∧ hdr (v.cells.getD j Go.undef) = none := fun j hj => by
    have hj2 : j < v.cells.size := by omega
    have hlen : (enc c xx).length = ncell c := enc_len c xx
    rcases z2 j (by omega) with ⟨c2, e1, e2⟩ | e1
    · have h5 := hzr.get j (by rw [← z1]; omega)
      rw [e2] at h5
      have e3 : v.cells.toList.getD j Go.undef = v.cells.getD j Go.undef := by simp [List.getD_eq_getElem?_getD, Array.getD, hj2]
      rw [e3] at h5
      generalize v.cells.getD j Go.undef = xv at h5 ⊢
      cases h5
      rw [e1]
      exact ⟨.inl ⟨rfl, none, rfl⟩, rfl⟩
    · have h5 := hdr'.get j (by rw [enc_len]; exact hj)
      have e3 : v.cells.toList.getD j Go.undef = v.cells.getD j Go.undef := by simp [List.getD_eq_getElem?_getD, Array.getD, hj2]
      rw [e3] at h5
      exact ⟨plain_dc e1 h5, plain_hdr e1 h5⟩
  have cellv : ∀ i' j, i' < n.toNat → j < ncell c → (madeCells v.cells (m.toNat * i.size)).getD (i' * ncell c + j) Go.undef = v.cells.getD j Go.undef := fun i' j hi2 hj => by
    have hlt : i' * ncell c + j < m.toNat * i.size := by rw [← s2]; exact row_le (by omega) hj
    rw [made_get hlt (by omega), hzl, ← s2, row_get hj]
  have rowz : ∀ i', i' < n.toNat → rowAV c (List.replicate n.toNat xx) i' = enc c xx := fun i' hi2 => by
    unfold rowAV
    simp [List.getD_eq_getElem?_getD, hi2]
  have hnew := heap_alloc_new' w (.cells (madeCells v.cells (m.toNat * i.size)) e)
  have E := Evo.alloc w S μ (.cells (madeCells v.cells (m.toNat * i.size)) e) H.bd (id := base + 1) (m := ⟨some w.heap.size, n.toNat, c, m.toNat⟩) hid
  refine ⟨S, _, E, .own (m := ⟨some w.heap.size, n.toNat, c, m.toNat⟩) MM.add_same rfl, H.alloc (m := ⟨some w.heap.size, n.toNat, c, m.toNat⟩) hid rfl ⟨by simp, rfl, .inr ⟨w.heap.size, _, rfl, hnew, by rw [size_madeCells, s2], by simp; omega, (by unfold maxLen; omega : m.toNat ≤ maxLen), fun i' hi' j hj => .inr ⟨rfl, ?_⟩, fun i' j i2 j2 x hi' hj hi2 hj2 _ _ e1 _ => ?_, fun i' j x hi' hj _ e1 => ?_⟩⟩ ?_, fun id hne => ?_⟩
  · have hi2 : i' < n.toNat := by simpa using hi'
    rw [cellv i' j hi2 hj, rowz i' hi2]
    refine (zc j hj).1.evo E fun x hx => ?_
    rw [(zc j hj).2] at hx; cases hx
  · rw [cellv i' j (by simpa using hi') hj, (zc j hj).2] at e1; cases e1
  · rw [cellv i' j (by simpa using hi') hj, (zc j hj).2] at e1; cases e1
  · intro x hx
    rcases (DeepAt.holds_iff hnew rfl).1 hx with e1 | ⟨i', j, hi', hj, _, e1⟩
    · exact congrArg some e1
    · rw [cellv i' j (by simpa using hi') hj, (zc j hj).2] at e1; cases e1
  · by_cases e1 : id = base + 1
    · right; omega
    · left; rwa [MM.add_ne e1] at hne

/-- Rows that are fixed for good. -/
theorem softD_ok (H : HRel w S μ h) {id : Nat} {q : List Prop} {u : Upd} (hc : softD h id = some (q, u)) (hq : ∀ p ∈ q, p) : ∃ S', Evo w S μ w S' μ ∧ HRel w S' μ (updH h u) := by
  unfold softD at hc
  split at hc
  case h_2 => cases hc
  rename_i q0 u0 h0
  split at hc
  case h_2 => cases hc
  rename_i et c ts l hh
  simp only [Option.some.injEq, Prod.mk.injEq] at hc
  obtain ⟨rfl, rfl⟩ := hc
  have H1 := closeD_ok H h0 hq
  rw [updH_app]
  generalize updH h u0 = h1 at H1 hh
  obtain ⟨m, hm, hB⟩ := H1.blk id _ hh
  obtain ⟨d1, d2, d3⟩ := H1.deep hh hm
  let S' : SS := fun p x => S p x ∨ (p = true ∧ holds w m (.deep et c ts l none) x ∧ m.b ≠ some x)
  have E : Evo w S μ w S' μ := by
    refine ⟨rfl, rfl, rfl, Nat.le_refl _, fun _ _ _ => rfl, fun x => ⟨fun hs => ?_, .inl⟩, fun x hs => .inl hs, fun x hs => ?_, fun _ _ h => h⟩
    · rcases hs with hs | ⟨hs, _⟩
      · exact hs
      · cases hs
    · rcases hs with hs | ⟨_, hs, _⟩
      · exact .inl hs
      · exact .inr (H1.sepH id _ m x false hh hm hs)
  refine ⟨S', E, ?_⟩
  have cs : ∀ i, (updH h1 [(id, some (.rows et c l))]) i = if i = id then some (.rows et c l) else h1 i := fun i => by
    simp only [updH]
    by_cases e1 : i = id
    · subst e1; simp
    · simp [e1, nbeq_ne e1]
  have was : ∀ i oi mi x, (updH h1 [(id, some (.rows et c l))]) i = some oi → μ i = some mi → holds w mi oi x → ∃ ok, h1 i = some ok ∧ holds w mi ok x ∧ (i = id → m.b = some x) := fun i oi mi x hi hmi hx => by
    rw [cs] at hi
    by_cases e1 : i = id
    · rw [if_pos e1] at hi; cases hi
      subst e1
      rw [hm] at hmi; cases hmi
      have := holds_plain rfl hx
      exact ⟨_, hh, .inl this, fun _ => this⟩
    · rw [if_neg e1] at hi
      exact ⟨oi, hi, hx, fun e => absurd e e1⟩
  refine ⟨fun i oi hi => ?_, fun i k oi ok mi mk x hi hk hmi hmk hxi hxk => ?_, fun i oi mi x p hi hmi hx hs => ?_, fun p x hs => ?_⟩
  · rw [cs] at hi
    by_cases e1 : i = id
    · rw [if_pos e1] at hi; cases hi
      rw [e1]
      refine ⟨m, hm, d1, d2, ?_⟩
      obtain ⟨_, _, k2⟩ := hB
      rcases k2 with k2 | ⟨b, cur, k2, k3, k4, k5, k6, k7, k8, k9⟩
      · exact .inl k2
      · refine .inr ⟨b, cur, k2, k3, k4, k5, k6, fun i hi j hj => ?_⟩
        rcases k7 i hi j hj with ⟨a1, _⟩ | ⟨_, a2⟩
        · simp [outAt] at a1
        · have hold : ∀ x, hdr (cur.getD (i * ncell c + j) Go.undef) = some x → S' true x := fun x hx => .inr ⟨rfl, (DeepAt.holds_iff k3 k2).2 (.inr ⟨i, j, hi, hj, rfl, hx⟩), fun e => k9 i j x hi hj rfl hx (by rw [k2] at e; exact (Option.some.inj e).symm)⟩
          generalize cur.getD (i * ncell c + j) Go.undef = xv at a2 hold ⊢
          generalize (rowAV c l i).getD j .undef = vv at a2 ⊢
          unfold DC at a2
          split at a2
          · rename_i c' l'
            rcases a2 with ⟨e, q, rfl⟩ | ⟨b', cap, cur', rfl, g1, g2, g3, g4, g5, g6⟩
            · subst e; exact .irec0 q 0
            · obtain ⟨k, rfl⟩ : ∃ k, cap = k + 1 := ⟨cap - 1, by omega⟩
              refine .irec (fun i j => cur'.getD (i * ncell c' + j) Go.undef) (hold b' rfl) g4 (fun i hi j hj => ?_) fun i hi j hj => (g6 i hi j hj).evo E
              rw [Nat.zero_add]
              refine cell_at g2 ?_
              have := row_le hi hj
              have h4 : l'.length * ncell c' ≤ (k + 1) * ncell c' := Nat.mul_le_mul_right _ g4
              omega
          · exact a2.1.evo E
    · rw [if_neg e1] at hi
      obtain ⟨mi, hmi, hBi⟩ := H1.blk i oi hi
      exact ⟨mi, hmi, hBi.evo E fun _ _ => rfl⟩
  · obtain ⟨o1, a1, a2, _⟩ := was i oi mi x hi hmi hxi
    obtain ⟨o2, b1, b2, _⟩ := was k ok mk x hk hmk hxk
    exact H1.injH i k o1 o2 mi mk x a1 b1 hmi hmk a2 b2
  · obtain ⟨o1, a1, a2, a3⟩ := was i oi mi x hi hmi hx
    rcases hs with hs | ⟨_, hs, hs2⟩
    · exact H1.sepH i o1 mi x p a1 hmi a2 hs
    · have e := H1.injH i id o1 _ mi m x a1 hh hmi hm a2 hs
      exact hs2 (a3 e)
  · rcases hs with hs | ⟨_, hs, _⟩
    · exact H1.bd p x hs
    · exact hB.ltH hs
end
end Go.Proofs.Ytemffnpliflkgaa
