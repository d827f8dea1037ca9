/-
  Lemmas and contracts on the way to the laws of this seat; each theorem states its own conditions, and there are no others.
-/
import Derived.Test.YtemffnpliflkgaaED4
namespace Go.Proofs.Ytemffnpliflkgaa
open Go
set_option linter.unusedVariables false
set_option linter.unusedSimpArgs false
section
variable {P : Program} {a : Act} {o : Oper} {w : World} {S : SS} {μ : MM} {h : Nat → Option OB} {base : Nat}

theorem natsEq_spec : ∀ {l m : List Nat}, natsEq l m = true → l = m
  | [], [], _ => rfl
  | [], _ :: _, h => by simp [natsEq] at h
  | _ :: _, [], h => by simp [natsEq] at h
  | a :: r, b :: t, h => by
    simp only [natsEq, Bool.and_eq_true] at h
    rw [Nat.eq_of_beq_eq_true h.1, natsEq_spec h.2]
/-- A new deep block out of what others had. -/
theorem deep_join (H : HRel w S μ h) {w' : World} {nm : Nat} (hnm : μ nm = none) {m' : MI} {b' : Nat} {cur' : Array Value} {et c : Nat} {ts : List Nat} {L : List (den c)} (E : Evo w S μ w' S (μ.add nm m'))
    (hmb : m'.b = some b') (hmn : m'.n = L.length) (hmc : m'.c = c) (hcur : w'.heap[b']? = some (.cells cur' et (0, 0))) (hsz : cur'.size = m'.cap * ncell c) (hle : L.length ≤ m'.cap) (hmx : m'.cap ≤ maxLen)
    (gone : List Nat) (hkeep : ∀ x, x ≠ b' → x < w.heap.size → w'.heap[x]? = w.heap[x]?)
    (hb' : w.heap.size ≤ b' ∨ ∃ k ok mk, k ∈ gone ∧ h k = some ok ∧ μ k = some mk ∧ mk.b = some b')
    (cell : ∀ i j, i < L.length → j < ncell c → DC w S μ (ts.getD j 0) ((rowAV c L i).getD j .undef) (cur'.getD (i * ncell c + j) Go.undef) ∧ ∀ y, hdr (cur'.getD (i * ncell c + j) Go.undef) = some y → ∃ k ok mk, k ∈ gone ∧ h k = some ok ∧ μ k = some mk ∧ holds w mk ok y ∧ (dpB ok = true → mk.b ≠ some y) ∧ (dpB ok = false → ¬ mk.b = some b'))
    (dist : ∀ i j i2 j2 y, i < L.length → j < ncell c → i2 < L.length → j2 < ncell c → hdr (cur'.getD (i * ncell c + j) Go.undef) = some y → hdr (cur'.getD (i2 * ncell c + j2) Go.undef) = some y → i = i2 ∧ j = j2) :
    HRel w' S (μ.add nm m') (updH h (gone.map (·, none) ++ [(nm, some (.deep et c ts L none))])) := by
  have hn0 : ∀ o, h nm ≠ some o := fun o ho => by obtain ⟨m, hm, _⟩ := H.blk nm o ho; rw [hnm] at hm; cases hm
  have cs : ∀ i, (updH h (gone.map (·, none) ++ [(nm, some (.deep et c ts L none))])) i = if i = nm then some (.deep et c ts L none) else if i ∈ gone then none else h i := fun i => by
    rw [updH_app]
    show (bif Nat.beq i nm then _ else updH h (gone.map (·, none)) i) = _
    by_cases e1 : i = nm
    · subst e1; simp
    · rw [nbeq_ne e1, cond_false, updH_gone, if_neg e1]
  have ltH : ∀ k ok mk y, h k = some ok → μ k = some mk → holds w mk ok y → y < w.heap.size := fun k ok mk y h1 h2 h3 => by
    obtain ⟨m, hm, hB⟩ := H.blk k ok h1
    rw [h2] at hm; cases hm
    exact hB.ltH h3
  -- what lies within is not the block itself
  have ne : ∀ i j y, i < L.length → j < ncell c → hdr (cur'.getD (i * ncell c + j) Go.undef) = some y → y ≠ b' := fun i j y hi hj hy e => by
    obtain ⟨k, ok, mk, k1, k2, k3, k4, k5, k6⟩ := (cell i j hi hj).2 y hy
    rcases hb' with hb' | ⟨k0, ok0, mk0, g1, g2, g3, g4⟩
    · have := ltH k ok mk y k2 k3 k4; omega
    · have e2 := H.injH k k0 ok ok0 mk mk0 y k2 g2 k3 g3 k4 (.inl (by rw [e]; exact g4))
      subst e2
      rw [k3] at g3; cases g3
      by_cases hd : dpB ok = true
      · exact k5 hd (by rw [e]; exact g4)
      · exact k6 (by simpa using hd) g4
  have same : ∀ y, y ≠ b' → y < w.heap.size → w'.heap[y]? = w.heap[y]? := hkeep
  -- blocks of others
  have other : ∀ i oi mi x, i ∉ gone → h i = some oi → μ i = some mi → holds w mi oi x → x ≠ b' := fun i oi mi x hi h1 h2 h3 e => by
    rcases hb' with hb' | ⟨k0, ok0, mk0, g1, g2, g3, g4⟩
    · have := ltH i oi mi x h1 h2 h3; omega
    · exact hi ((H.injH i k0 oi ok0 mi mk0 x h1 g2 h2 g3 h3 (.inl (by rw [e]; exact g4))) ▸ g1)
  have was : ∀ i oi mi x, (updH h (gone.map (·, none) ++ [(nm, some (.deep et c ts L none))])) i = some oi → (μ.add nm m') i = some mi → holds w' mi oi x →
      (i = nm ∧ (x = b' ∨ ∃ k ok mk, k ∈ gone ∧ h k = some ok ∧ μ k = some mk ∧ holds w mk ok x)) ∨ (i ≠ nm ∧ i ∉ gone ∧ h i = some oi ∧ μ i = some mi ∧ holds w mi oi x) := fun i oi mi x hi hmi hx => by
    rw [cs] at hi
    by_cases e1 : i = nm
    · rw [if_pos e1] at hi; cases hi
      rw [e1, MM.add_same] at hmi; cases hmi
      refine .inl ⟨e1, ?_⟩
      rcases (DeepAt.holds_iff hcur hmb).1 hx with e | ⟨p, q, hp, hq, _, e⟩
      · exact .inl e.symm
      · obtain ⟨k, ok, mk, k1, k2, k3, k4, _⟩ := (cell p q hp hq).2 x e
        exact .inr ⟨k, ok, mk, k1, k2, k3, k4⟩
    · rw [if_neg e1] at hi
      rw [MM.add_ne e1] at hmi
      by_cases e2 : i ∈ gone
      · rw [if_pos e2] at hi; cases hi
      · rw [if_neg e2] at hi
        refine .inr ⟨e1, e2, hi, hmi, (holds_same (fun b hb => ?_) x).1 hx⟩
        exact same b (other i oi mi b e2 hi hmi (.inl hb)) (ltH i oi mi b hi hmi (.inl hb))
  -- a block of the new one and a block of another
  have cross : ∀ i oi mi x, i ∉ gone → h i = some oi → μ i = some mi → holds w mi oi x → (x = b' ∨ ∃ k ok mk, k ∈ gone ∧ h k = some ok ∧ μ k = some mk ∧ holds w mk ok x) → False := fun i oi mi x hi h1 h2 h3 h4 => by
    rcases h4 with e | ⟨k, ok, mk, k1, k2, k3, k4⟩
    · exact other i oi mi x hi h1 h2 h3 e
    · exact hi ((H.injH i k oi ok mi mk x h1 k2 h2 k3 h3 k4) ▸ k1)
  refine ⟨fun i oi hi => ?_, fun i k oi ok mi mk x hi hk hmi hmk hxi hxk => ?_, fun i oi mi x p hi hmi hx hs => ?_, fun p x hs => Nat.lt_of_lt_of_le (H.bd p x hs) E.size⟩
  · rw [cs] at hi
    by_cases e1 : i = nm
    · rw [if_pos e1] at hi; cases hi
      refine ⟨m', by rw [e1, MM.add_same], hmn, hmc, .inr ⟨b', cur', hmb, hcur, hsz, hle, hmx, fun i hi j hj => .inr ⟨rfl, ?_⟩, fun i j i2 j2 y hi hj hi2 hj2 _ _ => dist i j i2 j2 y hi hj hi2 hj2, fun i j y hi hj _ hy => ne i j y hi hj hy⟩⟩
      obtain ⟨g1, g2⟩ := cell i j hi hj
      refine g1.evo E fun y hy => same y (ne i j y hi hj hy) ?_
      obtain ⟨k, ok, mk, k1, k2, k3, k4, _⟩ := g2 y hy
      exact ltH k ok mk y k2 k3 k4
    · rw [if_neg e1] at hi
      by_cases e2 : i ∈ gone
      · rw [if_pos e2] at hi; cases hi
      · rw [if_neg e2] at hi
        obtain ⟨mi, hmi, hB⟩ := H.blk i oi hi
        exact ⟨mi, E.ext _ _ hmi, hB.evo E fun x hx => same x (other i oi mi x e2 hi hmi hx) (hB.ltH hx)⟩
  · rcases was i oi mi x hi hmi hxi with ⟨a1, a2⟩ | ⟨a1, a2, a3, a4, a5⟩ <;> rcases was k ok mk x hk hmk hxk with ⟨b1, b2⟩ | ⟨b1, b2, b3, b4, b5⟩
    · rw [a1, b1]
    · exact (cross k ok mk x b2 b3 b4 b5 a2).elim
    · exact (cross i oi mi x a2 a3 a4 a5 b2).elim
    · exact H.injH i k oi ok mi mk x a3 b3 a4 b4 a5 b5
  · rcases was i oi mi x hi hmi hx with ⟨a1, a2⟩ | ⟨a1, a2, a3, a4, a5⟩
    · rcases a2 with e | ⟨k, ok, mk, k1, k2, k3, k4⟩
      · rcases hb' with hb' | ⟨k0, ok0, mk0, g1, g2, g3, g4⟩
        · have := H.bd p x hs; omega
        · exact H.sepH k0 ok0 mk0 x p g2 g3 (.inl (by rw [e]; exact g4)) hs
      · exact H.sepH k ok mk x p k2 k3 k4 hs
    · exact H.sepH i oi mi x p a3 a4 a5 hs

theorem absRow_spec {ts : List Nat} {vs : List AV} {row : List AV} {id2 : Nat} (ha : absRow h ts vs = some (row, id2)) : ∃ f et2 c2 c0 l2, f < vs.length ∧ vs.getD f .undef = .own id2 c0 ∧ h id2 = some (.rows et2 c2 l2) ∧ et2 = ts.getD f 0 ∧ row = (vs.map nrm1).set f (.irec true c2 l2) ∧ ∀ j, j < vs.length → j ≠ f → plainA (nrm1 (vs.getD j .undef)) = true := by
  unfold absRow at ha
  split at ha
  case h_2 => cases ha
  rename_i f hf
  split at ha
  case h_2 => cases ha
  rename_i id c0 hv
  split at ha
  case h_2 => cases ha
  rename_i et2 c2 l2 h2
  cases hc : (Nat.beq et2 (ts.getD f 0) && allPl ((vs.map nrm1).set f (.bool true))) with
  | false => rw [hc, cond_false] at ha; cases ha
  | true =>
    rw [hc, cond_true] at ha
    simp only [Option.some.injEq, Prod.mk.injEq] at ha
    obtain ⟨rfl, rfl⟩ := ha
    simp only [Bool.and_eq_true] at hc
    have hlt : f < vs.length := by
      by_cases e : f < vs.length
      · exact e
      · rw [List.getD_eq_getElem?_getD, List.getElem?_eq_none (by omega)] at hv; cases hv
    have get : ∀ {l : List AV}, allPl l = true → ∀ j, j < l.length → plainA (l.getD j .undef) = true := fun {l} => by
      induction l with
      | nil => intro _ j hj; exact absurd hj (Nat.not_lt_zero _)
      | cons x r ih =>
        intro hh j hj
        simp only [allPl, Bool.and_eq_true] at hh
        cases j with
        | zero => exact hh.1
        | succ j => exact ih hh.2 j (by simpa using hj)
    refine ⟨f, et2, c2, c0, l2, hlt, hv, h2, Nat.eq_of_beq_eq_true hc.1, rfl, fun j hj hne => ?_⟩
    have := get hc.2 j (by simpa using hj)
    rw [setD j (by simpa using hlt), if_neg hne] at this
    have e : (vs.map nrm1).getD j .undef = nrm1 (vs.getD j .undef) := by simp [List.getD_eq_getElem?_getD, hj]
    rw [e] at this
    exact this

theorem ok_buildSliceDp (H : HRel w S μ h) (hf : ∀ id, base ≤ id → id < base + 10 → μ id = none) {t : TypeId} {n : Nat} {parts : Array (Nat × Operand)} {vs : List AV} (ho : o.op = .buildSlice t n parts) (hv : VRs w S μ vs (parts.toList.map fun p => a.eval p.2)) : DescOK P a o w S μ h base (buildSliceDp P h base t n ((parts.toList.map (·.1)).zip vs)) := by
  unfold buildSliceDp
  split
  case h_2 => trivial
  rename_i e v he hparts
  split
  case h_2 => trivial
  rename_i c z m ts hc hz hm hts
  cases hs : (Nat.beq z.length m && Nat.beq (ncell c) m && Nat.blt 0 m && Nat.ble m 16777216 && okv v && Nat.beq v.flat.length m) with
  | false => simp only [cond_false]; trivial
  | true =>
  simp only [cond_true]
  simp only [Bool.and_eq_true] at hs
  have s1 : z.length = m := Nat.eq_of_beq_eq_true hs.1.1.1.1.1
  have s2 : ncell c = m := Nat.eq_of_beq_eq_true hs.1.1.1.1.2
  have s3 : 0 < m := Nat.le_of_ble_eq_true hs.1.1.1.2
  have s4 : m ≤ 16777216 := Nat.le_of_ble_eq_true hs.1.1.2
  have s6 : v.flat.length = m := Nat.eq_of_beq_eq_true hs.2
  split
  case h_2 => trivial
  rename_i row id2 hrow
  split
  case h_2 => trivial
  rename_i y hy
  intro hp K Q hK
  have heq : enc c y = row := hp _ (by simp)
  -- the one part
  obtain ⟨q, hq1, hq2⟩ : ∃ q : Operand, parts = #[(0, q)] ∧ VRel w S μ v (a.eval q) := by
    have hlen := hv.len
    rw [List.length_map] at hlen
    match hpl : parts.toList, hlen, hparts, hv with
    | [], _, hh, _ => simp at hh
    | [(k, q)], hlen, hh, hv =>
      match vs, hlen, hh, hv with
      | [v'], _, hh, hv =>
        simp only [List.map_cons, List.map_nil, List.zip_cons_cons, List.zip_nil_right, List.cons.injEq, Prod.mk.injEq, and_true] at hh
        obtain ⟨rfl, rfl⟩ := hh
        exact ⟨q, by rw [← Array.toArray_toList (xs := parts), hpl], by cases hv with | cons h _ => exact h⟩
    | p1 :: p2 :: r, hlen, hh, _ =>
      match vs, hlen, hh with
      | v1 :: v2 :: vr, _, hh => simp at hh
  obtain ⟨hrs, hone⟩ := okv_cells hs.1.2 hq2
  obtain ⟨i, zv, hi, hzv, rfl⟩ := tzero_spec hz
  have him : i.size = m := by unfold tsize at hm; rw [hi] at hm; simpa using hm
  have hu : P.underlying t = some (.slice e) := by
    unfold Proofs.Ytemffnpliflkgaa.elemOf at he
    split at he
    · simp only [Option.some.injEq] at he; subst he; assumption
    · cases he
  have hzl : zv.cells.size = m := by have := (flat_zero (w := w) (S := S) (μ := μ) zv).len; simp at this; omega
  have hsz : (sizeOf e).run P w = .ok m w := by simp [sizeOf, typeInfo, hi, him]
  have hzv' : (zeroValue e).run P w = .ok zv w := by simp [zeroValue, typeInfo, hi, hzv]
  have hcl : (a.eval q).cells.size = m := by have := hrs.len; simp at this; omega
  have hvs : VRs w S μ [v] [a.eval q] := .cons hq2 .nil
  have hpairs := pairs_of a.eval [((0 : Nat), q)] [v] (by simpa using hvs)
  have hzr := flat_zero (w := w) (S := S) (μ := μ) zv
  have hinit : VRs w S μ (repl 1 (avOf zv).flat) ((Array.range (1 * m)).map (zv.cells[· % zv.cells.size]!)).toList := VRs.of (by simp [repl_len, s1]) fun k hk => by
    have hk' : k < 1 * m := by rw [repl_len, s1] at hk; exact hk
    rw [repl_get _ _ _ (by rw [s1]; exact hk'), s1]
    have hkm : k % m < m := Nat.mod_lt _ s3
    have := hzr.get (k % m) (by omega)
    have hk2 : k < m := by omega
    simpa [List.getD_eq_getElem?_getD, hk2, hzl, hkm] using this
  have hfill : fillA (repl 1 (avOf zv).flat) [(some (0 * m, m), v)] = some v.flat := by
    have e0 : (repl 1 (avOf zv).flat) = (avOf zv).flat := by simp [repl]
    rw [e0]
    have c1 : (okv v && Nat.beq v.flat.length m && Nat.ble (0 * m + m) (avOf zv).flat.length) = true := by
      simp only [Bool.and_eq_true]
      exact ⟨⟨hs.1.2, hs.2⟩, Nat.ble_eq_true_of_le (by omega)⟩
    simp only [fillA, c1, cond_true]
    have : Proofs.Ytemffnpliflkgaa.splice (avOf zv).flat (0 * m) v.flat = v.flat := by
      simp only [Proofs.Ytemffnpliflkgaa.splice, Nat.zero_mul, List.take_zero, List.nil_append, Nat.zero_add]
      rw [List.drop_eq_nil_of_le (by omega), List.append_nil]
    rw [this]
  obtain ⟨cells', h1, h2⟩ := fill_rel (w := w) (S := S) (μ := μ) (fun i => some (i * m, m)) hpairs (by simpa using hfill) hinit
  have hcs : cells'.size = m := by have := h2.len; simp at this; omega
  have hrun : (Instr.buildSlice t 1 (parts.map fun p => (p.1, a.eval p.2))).run P w = .ok (.slice (some ⟨w.heap.size, 0, none⟩) 1 1) (w.alloc (.cells cells' e)) := by
    have hbig : ¬ 1 * m > 2 ^ 24 := by omega
    have h0 : ¬ 1 * m = 0 := by omega
    have hfl : Instr.fill (fun i => some (i * m, m)) ((Array.range (1 * m)).map (zv.cells[· % zv.cells.size]!)) (parts.map fun p => (p.1, a.eval p.2)).toList = some cells' := by rw [hq1]; simpa using h1
    simp only [Instr.buildSlice, Sem.run_bind, run_underlying hu, Result.andThen_ok, hsz, hbig, if_false, if_neg h0, Sem.run_pure, hzv', hfl, newRow, run_newObj]
    rfl
  refine wp_val (w' := w.alloc (.cells cells' e)) (x := .slice (some ⟨w.heap.size, 0, none⟩) 1 1) (by simp only [execOp, ho, Sem.run_bind, hrun, Result.andThen_ok, Sem.run_pure]) (hK _ _ ?_)
  obtain ⟨f, et2, c2, c0, l2, a1, a2, a3, a4, a5, a6⟩ := absRow_spec hrow
  have hid := hf (base + 1) (by omega) (by omega)
  have E := Evo.alloc w S μ (.cells cells' e) H.bd (id := base + 1) (m := ⟨some w.heap.size, 1, c, 1⟩) hid
  have cellv : ∀ j, j < ncell c → VRel w S μ (v.flat.getD j .undef) (cells'.getD j Go.undef) := fun j hj => by
    have := h2.get j (by omega)
    have hj2 : j < cells'.size := by omega
    simpa [List.getD_eq_getElem?_getD, Array.getD, hj2] using this
  have rowv : ∀ j, j < ncell c → (rowAV c [y] 0).getD j .undef = if j = f then .irec true c2 l2 else nrm1 (v.flat.getD j .undef) := fun j hj => by
    have e1 : rowAV c [y] 0 = row := heq
    rw [e1, a5, setD j (by simpa using a1)]
    by_cases ej : j = f
    · rw [if_pos ej, if_pos ej]
    · rw [if_neg ej, if_neg ej]
      have hj2 : j < v.flat.length := by omega
      simp [List.getD_eq_getElem?_getD, hj2]
  have own := cellv f (by omega)
  rw [a2] at own
  obtain ⟨hinn, m2, hm2, hbl⟩ := own_inn H a3 own
  have hdrp : ∀ j x, j < ncell c → hdr (cells'.getD j Go.undef) = some x → j = f := fun j x hj hx => by
    by_cases ej : j = f
    · exact ej
    · rw [plain_hdr (a6 j (by omega) ej) (nrm1_plain (cellv j hj))] at hx; cases hx
  refine ⟨S, _, E, .own (m := ⟨some w.heap.size, 1, c, 1⟩) MM.add_same rfl, deep_join H hid E (m' := ⟨some w.heap.size, 1, c, 1⟩) (b' := w.heap.size) (cur' := cells') (L := [y]) (gone := [id2]) rfl rfl rfl (heap_alloc_new' w _) (by simp; omega) (by simp) (by unfold maxLen; omega : 1 ≤ maxLen) (fun x _ hx => heap_alloc_old' w _ hx) (.inl (Nat.le_refl _)) (fun i j hi hj => ?_) (fun i j i2 j2 x hi hj hi2 hj2 e1 e2 => ?_), fun id hne => ?_⟩
  · have i0 : i = 0 := by simpa using hi
    subst i0
    rw [Nat.zero_mul, Nat.zero_add, rowv j hj]
    by_cases ej : j = f
    · rw [if_pos ej, ej]
      refine ⟨DC.of_inn (a4 ▸ hinn), fun x hx => ⟨id2, _, m2, by simp, a3, hm2, .inl (hbl x hx), fun hd => (by cases hd), fun _ hb => ?_⟩⟩
      obtain ⟨m3, hm3, hB⟩ := H.blk id2 _ a3
      rw [hm2] at hm3; cases hm3
      exact absurd (hB.lt hb) (Nat.lt_irrefl _)
    · rw [if_neg ej]
      exact ⟨plain_dc (a6 j (by omega) ej) (nrm1_plain (cellv j hj)), fun x hx => absurd (hdrp j x hj hx) ej⟩
  · have i0 : i = 0 := by simpa using hi
    have i20 : i2 = 0 := by simpa using hi2
    subst i0 i20
    rw [Nat.zero_mul, Nat.zero_add] at e1 e2
    exact ⟨rfl, (hdrp j x hj e1).trans (hdrp j2 x hj2 e2).symm⟩
  · by_cases e1 : id = base + 1
    · right; omega
    · left; rwa [MM.add_ne e1] at hne

theorem DC.one {et c : Nat} {l : List (den c)} {i j : Nat} {x : Value} (hj : j < ncell c) (h : DC w S μ et ((rowAV c l i).getD j .undef) x) : x.oneCell' = true := by
  have hl := allL_get (enc_leaf c (l.getD i (dfl c))) j (by rw [enc_len]; exact hj)
  unfold rowAV at h
  generalize (enc c (l.getD i (dfl c))).getD j .undef = v at h hl
  unfold DC at h
  split at h
  · rcases h with ⟨_, q, rfl⟩ | ⟨b, cap, cur, rfl, _⟩ <;> rfl
  · exact (leaf_cells hl h.1).2

/-- The cells of a deep block, as a list. -/
theorem deep_cells {m : MI} {et c : Nat} {ts : List Nat} {l : List (den c)} {b : Nat} {cur : Array Value} (D : DeepAt w S μ m et c ts l none b cur) : (cur.toList.take (l.length * ncell c)).length = l.length * ncell c ∧
    (∀ k, k < l.length * ncell c → (cur.toList.take (l.length * ncell c)).getD k Go.undef = cur.getD k Go.undef) ∧ (∀ k v, (cur.toList.take (l.length * ncell c))[k]? = some v → w.cell? ((⟨b, 0, none⟩ : Addr).add k) = some v) ∧ ∀ u ∈ cur.toList.take (l.length * ncell c), u.oneCell' = true := by
  have h4 : l.length * ncell c ≤ cur.size := by rw [D.sz]; exact Nat.mul_le_mul_right _ D.le
  have hlen : (cur.toList.take (l.length * ncell c)).length = l.length * ncell c := by simp; omega
  have get : ∀ k, k < l.length * ncell c → (cur.toList.take (l.length * ncell c)).getD k Go.undef = cur.getD k Go.undef := fun k hk => by
    have : k < cur.size := by omega
    simp [List.getD_eq_getElem?_getD, List.getElem?_take_of_lt hk, Array.getD, this]
  refine ⟨hlen, get, fun k v hv => ?_, fun u hu => ?_⟩
  · have hk : k < l.length * ncell c := by
      have := (List.getElem?_eq_some_iff.1 hv).1
      omega
    rw [addr_add, Nat.zero_add, cell_at D.hb (by omega)]
    have := get k hk
    rw [List.getD_eq_getElem?_getD, hv] at this
    simp only [Option.getD_some] at this
    rw [this]
  · obtain ⟨k, hk, rfl⟩ := List.getElem_of_mem hu
    have hk' : k < l.length * ncell c := by omega
    have hc0 : 0 < ncell c := by
      rcases Nat.eq_zero_or_pos (ncell c) with h0 | h0
      · rw [h0] at hk'; simp at hk'
      · exact h0
    have h1 : k / ncell c < l.length := Nat.div_lt_of_lt_mul (by rw [Nat.mul_comm]; exact hk')
    have h2 : k % ncell c < ncell c := Nat.mod_lt _ hc0
    have h3 : k / ncell c * ncell c + k % ncell c = k := by rw [Nat.mul_comm]; exact Nat.div_add_mod k (ncell c)
    have g := get k hk'
    rw [List.getD_eq_getElem?_getD, List.getElem?_eq_getElem hk, Option.getD_some] at g
    rw [g]
    rcases D.cell _ h1 _ h2 with ⟨a1, _⟩ | ⟨_, a2⟩
    · simp [outAt] at a1
    · rw [h3] at a2
      exact DC.one h2 a2
theorem rowAV_app {c : Nat} {l l' : List (den c)} (i : Nat) : rowAV c (l ++ l') i = if i < l.length then rowAV c l i else rowAV c l' (i - l.length) := by
  unfold rowAV
  by_cases h : i < l.length
  · rw [if_pos h]; simp [List.getD_eq_getElem?_getD, List.getElem?_append_left h]
  · rw [if_neg h]; simp [List.getD_eq_getElem?_getD, List.getElem?_append_right (show l.length ≤ i by omega)]

/-- Two deep blocks in one: the first one may be none. -/
theorem deep_both (H : HRel w S μ h) {w' : World} {nm : Nat} (hnm : μ nm = none) {m' : MI} {b' : Nat} {cur' : Array Value} {et c : Nat} {ts : List Nat} {l lx : List (den c)} {idx : Nat} {mx : MI} {bx : Nat} {curx : Array Value} (hx : h idx = some (.deep et c ts lx none)) (hmx : μ idx = some mx) (hbx : mx.b = some bx) (Dx : DeepAt w S μ mx et c ts lx none bx curx)
    {gone : List Nat} {cur : Array Value} (hl : (l = [] ∧ gone = [idx]) ∨ ∃ id m b, gone = [id, idx] ∧ id ≠ idx ∧ h id = some (.deep et c ts l none) ∧ μ id = some m ∧ m.b = some b ∧ DeepAt w S μ m et c ts l none b cur)
    (E : Evo w S μ w' S (μ.add nm m')) (hmb : m'.b = some b') (hmn : m'.n = (l ++ lx).length) (hmc : m'.c = c) (hcur : w'.heap[b']? = some (.cells cur' et (0, 0))) (hsz : cur'.size = m'.cap * ncell c) (hle : (l ++ lx).length ≤ m'.cap) (hmax : m'.cap ≤ maxLen)
    (hkeep : ∀ x, x ≠ b' → x < w.heap.size → w'.heap[x]? = w.heap[x]?) (hb' : w.heap.size ≤ b' ∨ ∃ id m, id ∈ gone ∧ id ≠ idx ∧ h id = some (.deep et c ts l none) ∧ μ id = some m ∧ m.b = some b')
    (get1 : ∀ k, k < l.length * ncell c → cur'.getD k Go.undef = cur.getD k Go.undef) (get2 : ∀ k, k < lx.length * ncell c → cur'.getD (l.length * ncell c + k) Go.undef = curx.getD k Go.undef) :
    HRel w' S (μ.add nm m') (updH h (gone.map (·, none) ++ [(nm, some (.deep et c ts (l ++ lx) none))])) := by
  have idxg : idx ∈ gone := by rcases hl with ⟨_, e⟩ | ⟨_, _, _, e, _⟩ <;> simp [e]
  -- where a cell comes from
  have part : ∀ i j, i < (l ++ lx).length → j < ncell c → (i < l.length ∧ cur'.getD (i * ncell c + j) Go.undef = cur.getD (i * ncell c + j) Go.undef) ∨ (l.length ≤ i ∧ i - l.length < lx.length ∧ cur'.getD (i * ncell c + j) Go.undef = curx.getD ((i - l.length) * ncell c + j) Go.undef) := fun i j hi hj => by
    by_cases h1 : i < l.length
    · exact .inl ⟨h1, get1 _ (row_le h1 hj)⟩
    · have h2 : i - l.length < lx.length := by simp at hi; omega
      refine .inr ⟨by omega, h2, ?_⟩
      have e : i * ncell c + j = l.length * ncell c + ((i - l.length) * ncell c + j) := by
        have : i * ncell c = l.length * ncell c + (i - l.length) * ncell c := by rw [← Nat.add_mul]; congr 1; omega
        omega
      rw [e]
      exact get2 _ (row_le h2 hj)
  have src1 : ∀ i j, i < l.length → j < ncell c → DC w S μ (ts.getD j 0) ((rowAV c l i).getD j .undef) (cur.getD (i * ncell c + j) Go.undef) ∧ ∀ y, hdr (cur.getD (i * ncell c + j) Go.undef) = some y → ∃ k mk, k ∈ gone ∧ k ≠ idx ∧ h k = some (.deep et c ts l none) ∧ μ k = some mk ∧ holds w mk (.deep et c ts l none) y ∧ mk.b ≠ some y := fun i j hi hj => by
    rcases hl with ⟨e, _⟩ | ⟨id, m, b, e, hne, h1, h2, h3, D⟩
    · rw [e] at hi; exact absurd hi (Nat.not_lt_zero _)
    · rcases D.cell i hi j hj with ⟨a1, _⟩ | ⟨_, a2⟩
      · simp [outAt] at a1
      · exact ⟨a2, fun y hy => ⟨id, m, by simp [e], hne, h1, h2, (DeepAt.holds_iff D.hb h3).2 (.inr ⟨i, j, hi, hj, rfl, hy⟩), fun e2 => D.ne i j y hi hj rfl hy (by rw [h3] at e2; exact (Option.some.inj e2).symm)⟩⟩
  have src2 : ∀ i j, i < lx.length → j < ncell c → DC w S μ (ts.getD j 0) ((rowAV c lx i).getD j .undef) (curx.getD (i * ncell c + j) Go.undef) ∧ ∀ y, hdr (curx.getD (i * ncell c + j) Go.undef) = some y → holds w mx (.deep et c ts lx none) y ∧ mx.b ≠ some y := fun i j hi hj => by
    rcases Dx.cell i hi j hj with ⟨a1, _⟩ | ⟨_, a2⟩
    · simp [outAt] at a1
    · exact ⟨a2, fun y hy => ⟨(DeepAt.holds_iff Dx.hb hbx).2 (.inr ⟨i, j, hi, hj, rfl, hy⟩), fun e2 => Dx.ne i j y hi hj rfl hy (by rw [hbx] at e2; exact (Option.some.inj e2).symm)⟩⟩
  refine deep_join H hnm E hmb hmn hmc hcur hsz hle hmax gone hkeep ?_ (fun i j hi hj => ?_) (fun i j i2 j2 y hi hj hi2 hj2 e1 e2 => ?_)
  · rcases hb' with hb' | ⟨id, m, g1, _, g2, g3, g4⟩
    · exact .inl hb'
    · exact .inr ⟨id, _, m, g1, g2, g3, g4⟩
  · rcases part i j hi hj with ⟨p1, p2⟩ | ⟨p1, p2, p3⟩
    · rw [p2, rowAV_app, if_pos p1]
      obtain ⟨g1, g2⟩ := src1 i j p1 hj
      refine ⟨g1, fun y hy => ?_⟩
      obtain ⟨k, mk, k1, _, k2, k3, k4, k5⟩ := g2 y hy
      exact ⟨k, _, mk, k1, k2, k3, k4, fun _ => k5, fun hd => by cases hd⟩
    · rw [p3, rowAV_app, if_neg (by omega)]
      obtain ⟨g1, g2⟩ := src2 (i - l.length) j p2 hj
      refine ⟨g1, fun y hy => ?_⟩
      obtain ⟨k4, k5⟩ := g2 y hy
      exact ⟨idx, _, mx, idxg, hx, hmx, k4, fun _ => k5, fun hd => by cases hd⟩
  · have cr : ∀ i j i2 j2, i < l.length → j < ncell c → i2 < lx.length → j2 < ncell c → hdr (cur.getD (i * ncell c + j) Go.undef) = some y → hdr (curx.getD (i2 * ncell c + j2) Go.undef) = some y → False := fun i j i2 j2 a1 a2 a3 a4 a5 a6 => by
      obtain ⟨k, mk, _, k1, k2, k3, k4, _⟩ := (src1 i j a1 a2).2 y a5
      exact k1 (H.injH k idx _ _ mk mx y k2 hx k3 hmx k4 ((src2 i2 j2 a3 a4).2 y a6).1)
    rcases part i j hi hj with ⟨p1, p2⟩ | ⟨p1, p2, p3⟩ <;> rcases part i2 j2 hi2 hj2 with ⟨q1, q2⟩ | ⟨q1, q2, q3⟩
    · rw [p2] at e1; rw [q2] at e2
      rcases hl with ⟨e, _⟩ | ⟨id, m, b, e, hne, h1, h2, h3, D⟩
      · rw [e] at p1; exact absurd p1 (Nat.not_lt_zero _)
      · exact D.inj i j i2 j2 y p1 hj q1 hj2 rfl rfl e1 e2
    · rw [p2] at e1; rw [q3] at e2
      exact (cr i j _ j2 p1 hj q2 hj2 e1 e2).elim
    · rw [p3] at e1; rw [q2] at e2
      exact (cr i2 j2 _ j q1 hj2 p2 hj e2 e1).elim
    · rw [p3] at e1; rw [q3] at e2
      have := Dx.inj _ j _ j2 y p2 hj q2 hj2 rfl rfl e1 e2
      exact ⟨by omega, this.2⟩

theorem getDL {α : Type} {l m : List α} {k : Nat} {d : α} (h : k < l.length) : (l ++ m).getD k d = l.getD k d := by simp [List.getD_eq_getElem?_getD, List.getElem?_append_left h]
theorem getDR {α : Type} {l m : List α} {k : Nat} {d : α} (h : l.length ≤ k) : (l ++ m).getD k d = m.getD (k - l.length) d := by simp [List.getD_eq_getElem?_getD, List.getElem?_append_right h]
theorem getD_app {xs : List Value} {ys : Array Value} (k : Nat) (hk : k < xs.length) : (xs.toArray ++ ys).getD k Go.undef = xs.getD k Go.undef := by
  have h2 : k < (xs.toArray ++ ys).size := by simp; omega
  rw [Array.getD, dif_pos h2]
  show (xs.toArray ++ ys)[k]'h2 = _
  rw [Array.getElem_append_left (by simpa using hk)]
  simp [List.getD_eq_getElem?_getD, hk]
theorem ok_appendDp (H : HRel w S μ h) (hf : ∀ id, base ≤ id → id < base + 10 → μ id = none) {cl : Call} {x y : Operand} {vx : AV} {idx cx : Nat} (ho : o.op = .call cl) (hc : cl.callee = .builtin .append) (ha : cl.args.toList = [x, y]) (hx : VRel w S μ vx (a.eval x)) (hy : VRel w S μ (.own idx cx) (a.eval y)) : DescOK P a o w S μ h base (appendDp P h base cl.argTypes.toList vx idx) := by
  have hargs : cl.args = #[x, y] := by rw [← Array.toArray_toList (xs := cl.args), ha]
  unfold appendDp
  split
  case h_2 => trivial
  rename_i t t' hts
  cases htt : Nat.beq t t' with
  | false => simp only [cond_false]; trivial
  | true =>
  simp only [cond_true]
  have htt' := Nat.eq_of_beq_eq_true htt
  subst htt'
  have hat : cl.argTypes = #[t, t] := by rw [← Array.toArray_toList (xs := cl.argTypes), hts]
  split
  case h_2 => trivial
  rename_i e ex c tsx y0 r0 he hh
  split
  case h_2 => trivial
  rename_i z i hz hi
  cases hs : (Nat.beq e ex && Nat.beq z.length i.size && Nat.beq (ncell c) i.size && Nat.blt 0 i.size && Nat.ble i.bytes 2048) with
  | false => simp only [cond_false]; trivial
  | true =>
  simp only [cond_true]
  simp only [Bool.and_eq_true] at hs
  have s0 : e = ex := Nat.eq_of_beq_eq_true hs.1.1.1.1
  subst s0
  have s1 : z.length = i.size := Nat.eq_of_beq_eq_true hs.1.1.1.2
  have s2 : ncell c = i.size := Nat.eq_of_beq_eq_true hs.1.1.2
  have s3 : 0 < i.size := Nat.le_of_ble_eq_true hs.1.2
  have s4 : i.bytes ≤ 2048 := Nat.le_of_ble_eq_true hs.2
  have hu : P.underlying t = some (.slice e) := by
    unfold Proofs.Ytemffnpliflkgaa.elemOf at he
    split at he
    · simp only [Option.some.injEq] at he; subst he; assumption
    · cases he
  obtain ⟨i', v, hi', hv, rfl⟩ := tzero_spec hz
  rw [hi] at hi'; cases hi'
  have hzl : v.cells.size = i.size := by have := (flat_zero (w := w) (S := S) (μ := μ) v).len; simp at this; omega
  generalize hlx : y0 :: r0 = lx at hh ⊢
  have hpos : 0 < lx.length := by rw [← hlx]; simp
  -- what is put behind
  obtain ⟨mx, hmx, hcase⟩ := hy.own_inv
  obtain ⟨dx1, dx2, dx3⟩ := H.deep hh hmx
  obtain ⟨bx, hbx, hyv⟩ : ∃ bx, mx.b = some bx ∧ a.eval y = .slice (some ⟨bx, 0, none⟩) mx.n mx.cap := by
    rcases hcase with ⟨b, h1, h2⟩ | ⟨h0, _⟩
    · exact ⟨b, h1, h2⟩
    · omega
  obtain ⟨curx, Dx⟩ := dx3 bx hbx
  obtain ⟨n1, n2, n3, n4⟩ := deep_cells Dx
  have hid := hf (base + 1) (by omega) (by omega)
  have fin : ∀ (K : Act → World → Prop) (Q : Exit → Act → World → Prop) y' w', (Builtin.append_ #[t, t] o.type #[a.eval x, a.eval y]).run P w = .ok y' w' → K (a.put o.dst y') w' → o.wp P a w K Q := fun K Q y' w' hr hk =>
    wp_val (exec_builtin ho hc fun _ => by simp [builtin, hat, hargs, hr]) hk
  have bytes : ∀ n : Nat, n ≤ 68719476736 → n * i.bytes ≤ 140737488355328 := fun n hn => by
    have : n * i.bytes ≤ 68719476736 * 2048 := Nat.mul_le_mul hn s4
    omega
  have fr : ∀ (m' : MI) id, (μ.add (base + 1) m') id ≠ none → μ id ≠ none ∨ (base ≤ id ∧ id < base + 10) := fun m' id hne => by
    by_cases e1 : id = base + 1
    · right; omega
    · left; rwa [MM.add_ne e1] at hne
  -- onto nothing
  have fresh : ∀ q, a.eval x = .slice q 0 0 → lx.length ≤ 68719476736 → ∀ (K : Act → World → Prop) (Q : Exit → Act → World → Prop) (u : Upd), (∀ i, updH h u i = none ∨ updH h u i = updH h [(idx, none), (base + 1, some (.deep e c tsx lx none))] i) → (∀ x w', Out w S μ h base (.own (base + 1) c) u w' x → K (a.put o.dst x) w') → o.wp P a w K Q := fun q hxv hle K Q u hu2 hK => by
    have hr := run_append_fresh (P := P) (w := w) (ty := o.type) hu hi hv (q := q) (ad := ⟨bx, 0, none⟩) (n := lx.length) (c := mx.cap) (news := curx.toList.take (lx.length * ncell c)) (by rw [n1, s2]) n3 hpos (by omega) (bytes _ hle)
    refine fin K Q _ _ (by rw [hxv, hyv, dx1]; exact hr) (hK _ _ ?_)
    have hge := grownCap_ge w lx.length 0 e
    have E1 := Evo.alloc w S μ (.cells ((curx.toList.take (lx.length * ncell c)).toArray ++ Builtin.zeroCells v.cells (grownCap w lx.length 0 e - lx.length)) e) H.bd (id := base + 1) (m := ⟨some w.heap.size, lx.length, c, grownCap w lx.length 0 e⟩) hid
    have E : Evo w S μ (w.drew.alloc (.cells ((curx.toList.take (lx.length * ncell c)).toArray ++ Builtin.zeroCells v.cells (grownCap w lx.length 0 e - lx.length)) e)) S (μ.add (base + 1) ⟨some w.heap.size, lx.length, c, grownCap w lx.length 0 e⟩) := ⟨E1.os, E1.tape, E1.output, E1.size, E1.keep, E1.fls, E1.tru, E1.trn, E1.ext⟩
    have J := deep_both H hid (w' := w.drew.alloc (.cells ((curx.toList.take (lx.length * ncell c)).toArray ++ Builtin.zeroCells v.cells (grownCap w lx.length 0 e - lx.length)) e)) (m' := ⟨some w.heap.size, lx.length, c, grownCap w lx.length 0 e⟩) (b' := w.heap.size) (l := []) (lx := lx) (gone := [idx]) (cur := #[]) hh hmx hbx Dx (.inl ⟨rfl, rfl⟩) E rfl rfl rfl (heap_alloc_new' w _) (by
        simp only [Array.size_append, List.size_toArray, size_zeroCells, hzl, n1, ← s2, ← Nat.add_mul]
        congr 1
        omega) (by simpa using hge) (grownCap_le_maxLen w lx.length 0 e (by unfold maxLen; omega)) (fun x _ hx => heap_alloc_old' w _ hx) (.inl (Nat.le_refl _)) (fun k hk => absurd hk (by simp)) (fun k hk => by
        simp only [List.length_nil, Nat.zero_mul, Nat.zero_add]
        rw [getD_app k (by rw [n1]; exact hk), n2 k hk])
    refine ⟨S, _, E, .own (m := ⟨some w.heap.size, lx.length, c, grownCap w lx.length 0 e⟩) MM.add_same rfl, J.sub fun i' ob hob => ?_, fr _⟩
    rcases hu2 i' with e1 | e1
    · rw [e1] at hob; cases hob
    · rw [e1] at hob; exact hob
  split
  · intro hp K Q hK
    have hle : lx.length ≤ 68719476736 := hp _ (by simp)
    have hxv : a.eval x = .slice none 0 0 := by cases hx' : a.eval x <;> (rw [hx'] at hx; cases hx); rfl
    exact fresh none hxv hle K Q _ (fun i => .inr rfl) hK
  · rename_i id c0
    split
    case h_2 => trivial
    rename_i e' c' ts' l' hhi
    cases hb : (Nat.beq e e' && natsEq tsx ts' && !(Nat.beq id idx)) with
    | false => simp only [cond_false]; trivial
    | true =>
    simp only [cond_true]
    simp only [Bool.and_eq_true, Bool.not_eq_true'] at hb
    have b1 : e = e' := Nat.eq_of_beq_eq_true hb.1.1
    have b2 := natsEq_spec hb.1.2
    subst b1 b2
    have hne : id ≠ idx := fun e2 => by have h9 := hb.2; rw [e2, nbeq_same] at h9; cases h9
    split
    case h_2 => trivial
    rename_i l hl
    obtain ⟨ec, hl⟩ := castL_spec hl
    subst ec
    simp only at hl
    subst hl
    intro hp K Q hK
    have hle : l.length + lx.length ≤ 68719476736 := hp _ (by simp)
    obtain ⟨m, hm, hcase2⟩ := hx.own_inv
    obtain ⟨d1, d2, d3⟩ := H.deep hhi hm
    rcases hcase2 with ⟨b, hbb, hxv⟩ | ⟨h0, q, hxv⟩
    · obtain ⟨cur, D⟩ := d3 b hbb
      obtain ⟨o1, o2, o3, o4⟩ := deep_cells D
      have hcs : l.length * ncell c' ≤ cur.size := by rw [D.sz]; exact Nat.mul_le_mul_right _ D.le
      by_cases hroom : m.n + lx.length ≤ m.cap
      · have hfit : m.n * i.size + (curx.toList.take (lx.length * ncell c')).length ≤ cur.size := by
          rw [n1, D.sz, s2, ← Nat.add_mul]; exact Nat.mul_le_mul_right _ hroom
        have hr := run_append_room (P := P) w t o.type e i hu hi b m.n m.cap cur D.hb ⟨bx, 0, none⟩ lx.length mx.cap (curx.toList.take (lx.length * ncell c')) (by rw [n1, s2]) n3 n4 hroom hfit
        refine fin K Q _ _ (by rw [hxv, hyv, dx1]; exact hr) (hK _ _ ?_)
        have hpre : (cur.toList.take (m.n * i.size)).length = l.length * ncell c' := by rw [d1, ← s2]; exact o1
        generalize hA : (cur.toList.take (m.n * i.size) ++ curx.toList.take (lx.length * ncell c') ++ cur.toList.drop (m.n * i.size + (curx.toList.take (lx.length * ncell c')).length)) = A
        have hAlen : A.length = cur.size := by rw [← hA]; simp only [List.length_append, List.length_drop, hpre, n1, Array.length_toList]; rw [d1, ← s2, n1] at hfit; rw [d1, ← s2]; omega
        have hAget : ∀ k, A.toArray.getD k Go.undef = A.getD k Go.undef := fun k => by simp [Array.getD_eq_getD_getElem?, List.getD_eq_getElem?_getD]
        have E : Evo w S μ (w.setRow b A.toArray) S (μ.add (base + 1) { m with n := m.n + lx.length }) := by
          refine ⟨rfl, rfl, rfl, by simp, ?_, fun _ => Iff.rfl, fun _ h => h, fun _ h => .inl h, MM.ext_add hid⟩
          intro p b' hsb
          exact setRow_other w b b' _ fun eb => H.sepH id _ m b p hhi hm (.inl hbb) (eb ▸ hsb)
        have J := deep_both H hid (w' := w.setRow b A.toArray) (m' := { m with n := m.n + lx.length }) (b' := b) (l := l) (lx := lx) (gone := [id, idx]) (cur := cur) hh hmx hbx Dx (.inr ⟨id, m, b, rfl, hne, hhi, hm, hbb, D⟩) E hbb (by simp [d1]) d2 (setRow_heap w b cur _ e (0, 0) D.hb) (by rw [List.size_toArray, hAlen]; exact D.sz) (by simp; omega) D.mx (fun x hx _ => setRow_other w b x _ hx) (.inr ⟨id, m, by simp, hne, hhi, hm, hbb⟩) (fun k hk => by
            rw [hAget, ← hA, getDL (by simp only [List.length_append, hpre, n1]; omega), getDL (by rw [hpre]; exact hk), d1, ← s2, o2 k hk]) (fun k hk => by
            rw [hAget, ← hA, getDL (by simp only [List.length_append, hpre, n1]; omega), getDR (by rw [hpre]; omega), hpre, Nat.add_sub_cancel_left, n2 k hk])
        exact ⟨S, _, E, .own (m := { m with n := m.n + lx.length }) MM.add_same hbb, J, fr _⟩
      · have hr := run_append_grow (P := P) w t o.type e i v hu hi hv ⟨b, 0, none⟩ m.n m.cap (cur.toList.take (l.length * ncell c')) (by rw [o1, d1, s2]) o3 ⟨bx, 0, none⟩ lx.length mx.cap (curx.toList.take (lx.length * ncell c')) (by rw [n1, s2]) n3 (by omega) (by omega) (growslice_fits (by omega) (bytes _ (by omega)))
        refine fin K Q _ _ (by rw [hxv, hyv, dx1]; exact hr) (hK _ _ ?_)
        have hge := grownCap_ge w (m.n + lx.length) m.cap e
        generalize hcap : grownCap w (m.n + lx.length) m.cap e = cap at hge ⊢
        have hmaxc : cap ≤ maxLen := by rw [← hcap]; exact grownCap_le_maxLen w (m.n + lx.length) m.cap e (by unfold maxLen; omega)
        have hpre2 : (cur.toList.take (l.length * ncell c') ++ curx.toList.take (lx.length * ncell c')).length = (l ++ lx).length * ncell c' := by simp only [List.length_append, o1, n1, Nat.add_mul]
        have eA : ((cur.toList.take (l.length * ncell c')).toArray ++ (curx.toList.take (lx.length * ncell c')).toArray ++ Builtin.zeroCells v.cells (cap - (m.n + lx.length))) = (cur.toList.take (l.length * ncell c') ++ curx.toList.take (lx.length * ncell c')).toArray ++ Builtin.zeroCells v.cells (cap - (m.n + lx.length)) := by simp
        rw [eA]
        generalize hB : Builtin.zeroCells v.cells (cap - (m.n + lx.length)) = B
        have hBs : B.size = (cap - (m.n + lx.length)) * ncell c' := by rw [← hB, size_zeroCells, hzl, s2]
        generalize hC : cur.toList.take (l.length * ncell c') ++ curx.toList.take (lx.length * ncell c') = C at hpre2 ⊢
        have E1 := Evo.alloc w S μ (.cells (C.toArray ++ B) e) H.bd (id := base + 1) (m := ⟨some w.heap.size, m.n + lx.length, c', cap⟩) hid
        have E : Evo w S μ (w.drew.alloc (.cells (C.toArray ++ B) e)) S (μ.add (base + 1) ⟨some w.heap.size, m.n + lx.length, c', cap⟩) := ⟨E1.os, E1.tape, E1.output, E1.size, E1.keep, E1.fls, E1.tru, E1.trn, E1.ext⟩
        have J := deep_both H hid (w' := w.drew.alloc (.cells (C.toArray ++ B) e)) (m' := ⟨some w.heap.size, m.n + lx.length, c', cap⟩) (b' := w.heap.size) (l := l) (lx := lx) (gone := [id, idx]) (cur := cur) hh hmx hbx Dx (.inr ⟨id, m, b, rfl, hne, hhi, hm, hbb, D⟩) E rfl (by simp [d1]) rfl (heap_alloc_new' w _) (by
            rw [Array.size_append, List.size_toArray, hpre2, hBs, ← Nat.add_mul]
            congr 1
            simp; omega) (by simp; omega) hmaxc (fun x _ hx => heap_alloc_old' w _ hx) (.inl (Nat.le_refl _)) (fun k hk => by
            rw [getD_app k (by rw [hpre2, List.length_append, Nat.add_mul]; omega), ← hC, getDL (by rw [o1]; exact hk), o2 k hk]) (fun k hk => by
            rw [getD_app _ (by rw [hpre2, List.length_append, Nat.add_mul]; omega), ← hC, getDR (by rw [o1]; omega), o1, Nat.add_sub_cancel_left, n2 k hk])
        exact ⟨S, _, E, .own (m := ⟨some w.heap.size, m.n + lx.length, c', cap⟩) MM.add_same rfl, J, fr _⟩
    · have e0 : l = [] := List.eq_nil_of_length_eq_zero (by omega)
      subst e0
      refine fresh q hxv (by simpa using hle) K Q _ (fun i => ?_) hK
      simp only [updH, List.nil_append]
      by_cases e1 : i = base + 1
      · subst e1; right; simp
      · by_cases e2 : i = idx
        · subst e2; left; simp [nbeq_ne e1]
        · by_cases e3 : i = id
          · subst e3; left; simp [nbeq_ne e1, nbeq_ne e2]
          · right; simp [nbeq_ne e1, nbeq_ne e2, nbeq_ne e3]
  · trivial
end
end Go.Proofs.Ytemffnpliflkgaa
