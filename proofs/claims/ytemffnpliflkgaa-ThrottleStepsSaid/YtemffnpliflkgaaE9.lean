/-
  Lemmas and contracts on the way to the laws of this seat; each theorem states its own conditions, and there are no others.
-/
import Derived.Test.YtemffnpliflkgaaE8
namespace Go.Proofs.Ytemffnpliflkgaa
open Go
set_option linter.unusedVariables false
set_option linter.unusedSimpArgs false
section
variable {P : Program} {a : Act} {o : Oper} {w : World} {S : SS} {μ : MM} {h : Nat → Option OB} {base : Nat}

/-- A value's cells, one by one. -/
theorem leaf_cells {v : AV} {x : Value} (hl : leafA v = true) (hv : VRel w S μ v x) : x.cells = #[x] ∧ x.oneCell' = true := by
  cases hv <;> first | exact ⟨rfl, rfl⟩ | (simp [leafA] at hl)
theorem allL_get : ∀ {l : List AV}, allL l = true → ∀ i, i < l.length → leafA (l.getD i .undef) = true
  | v :: r, hh, i, hi => by
    simp only [allL, Bool.and_eq_true] at hh
    cases i with
    | zero => exact hh.1
    | succ i => exact allL_get hh.2 i (by simpa using hi)
theorem okv_cells {v : AV} {x : Value} (ho : okv v = true) (hv : VRel w S μ v x) : VRs w S μ v.flat x.cells.toList ∧ ∀ u ∈ x.cells.toList, u.oneCell' = true := by
  have key : leafA v = true → v.flat = [v] → VRs w S μ v.flat x.cells.toList ∧ ∀ u ∈ x.cells.toList, u.oneCell' = true := fun hl hf => by
    obtain ⟨h1, h2⟩ := leaf_cells hl hv
    rw [hf, h1]
    exact ⟨.cons hv .nil, fun u hu => by simp at hu; rw [hu]; exact h2⟩
  cases v
  case agg l =>
    obtain ⟨vs, hl, hrel, rfl⟩ := hv.agg_inv
    have hoc : ∀ i, i < l.length → leafA (l.getD i .undef) = true := allL_get ho
    show VRs w S μ l vs.toList ∧ ∀ u ∈ vs.toList, u.oneCell' = true
    refine ⟨VRs.of (by simpa using hl) fun i hi => ?_, fun u hu => ?_⟩
    · have := hrel i hi
      have hi' : i < vs.size := by have : i < l.length := hi; omega
      simpa [Value.cells, List.getD_eq_getElem?_getD, Array.getD, hi'] using this
    · obtain ⟨i, hi, rfl⟩ := List.getElem_of_mem hu
      have hi' : i < vs.size := by simpa using hi
      have h1 := hrel i (by omega)
      have h2 := (leaf_cells (hoc i (by omega)) h1).2
      simpa [Value.cells, Array.getD, hi'] using h2
  all_goals first
    | exact key ho rfl
    | (simp [okv, leafA] at ho)

/-- A box that is made. -/
theorem ok_newbox (H : HRel w S μ h) (hf : ∀ id, base ≤ id → id < base + 10 → μ id = none) {e : TypeId} {cs : List AV} {cur : Array Value} (hrs : VRs w S μ cs cur.toList)
    (hr : (execOp a.eval o).run P w = .ok (.value (.pointer (some ⟨w.heap.size, 0, none⟩))) (w.alloc (.cells cur e))) : DescOK P a o w S μ h base (.det [] (.ptr base 0) [(base, some (.cells e cs))]) := by
  intro _ K Q hK
  refine wp_val hr (hK _ _ ?_)
  have hid := hf base (Nat.le_refl _) (by omega)
  have E := Evo.alloc w S μ (.cells cur e) H.bd (id := base) (m := ⟨some w.heap.size, 0, 0, 0⟩) hid
  refine ⟨S, _, E, .ptr MM.add_same rfl, H.alloc hid rfl ?_, fun id hne => ?_⟩
  · refine ⟨w.heap.size, cur, rfl, heap_alloc_new' w _, by have := hrs.len; simp at this; omega, fun j hj => ?_⟩
    have := (hrs.get j hj).evo E
    simpa [List.getD_eq_getElem?_getD, Array.getD_eq_getD_getElem?] using this
  · by_cases e : id = base
    · right; omega
    · left; rwa [MM.add_ne e] at hne

theorem tzero_spec {t : TypeId} {z : List AV} (hz : tzero P t = some z) : ∃ i v, P.info? t = some i ∧ i.zero = some v ∧ z = (avOf v).flat := by
  unfold tzero at hz
  split at hz
  · rename_i i hi
    split at hz
    · rename_i v hv
      exact ⟨i, v, hi, hv, by simpa using hz.symm⟩
    · cases hz
  · cases hz

theorem flat_zero (x : Value) : VRs w S μ (avOf x).flat x.cells.toList := by
  have key : ∀ v, avOf v = av1 v → v.cells = #[v] → VRs w S μ (avOf v).flat v.cells.toList := fun v h1 h2 => by
    rw [h1, h2]
    have : (av1 v).flat = [av1 v] := by
      unfold av1
      split <;> rfl
    rw [this]
    exact .cons (av1_rel v) .nil
  cases x
  case agg cs =>
    refine VRs.of (by simp [avOf, AV.flat, Value.cells]) fun i hi => ?_
    have hi' : i < cs.size := by simpa [avOf, AV.flat] using hi
    simp [avOf, AV.flat, Value.cells, List.getD_eq_getElem?_getD, hi']
    exact av1_rel _
  all_goals exact key _ rfl rfl

theorem ok_alloc (H : HRel w S μ h) (hf : ∀ id, base ≤ id → id < base + 10 → μ id = none) {e : TypeId} (ho : o.op = .alloc e) : DescOK P a o w S μ h base (allocA P base e) := by
  unfold allocA
  split
  case h_2 => trivial
  rename_i z hz
  obtain ⟨i, v, hi, hv, rfl⟩ := tzero_spec hz
  refine ok_newbox H hf (flat_zero v) ?_
  have hzv : (zeroValue e).run P w = .ok v w := by simp [zeroValue, typeInfo, hi, hv]
  simp only [execOp, ho, Sem.run_bind, Instr.alloc, hzv, Result.andThen_ok, newVar, newRow, run_newObj, Sem.run_pure]
  rfl

theorem ok_box (H : HRel w S μ h) (hf : ∀ id, base ≤ id → id < base + 10 → μ id = none) {e : TypeId} {x : Operand} {v : AV} (ho : o.op = .box e x) (hx : VRel w S μ v (a.eval x)) : DescOK P a o w S μ h base (boxA base e v) := by
  unfold boxA
  by_cases hv : okv v = true
  · simp only [hv, cond_true]
    refine ok_newbox H hf (cur := (a.eval x).cells) (okv_cells hv hx).1 ?_
    simp only [execOp, ho, Sem.run_bind, Instr.box, newVar, newRow, run_newObj, Result.andThen_ok, Sem.run_pure]
    rfl
  · simp only [hv, cond_false]; trivial

/-- Blocks that are given up: nobody writes them any more. -/
def frz (S : SS) (μ : MM) (gone : List Nat) : SS := fun p b => S p b ∨ (p = true ∧ ∃ id, id ∈ gone ∧ ∃ m, μ id = some m ∧ m.b = some b)

theorem updH_gone (gone : List Nat) : ∀ h : Nat → Option OB, ∀ i, updH h (gone.map (·, none)) i = if i ∈ gone then none else h i := by
  induction gone with
  | nil => intro h i; simp [updH]
  | cons g r ih =>
    intro h i
    simp only [List.map_cons, updH, ih, List.mem_cons]
    by_cases e1 : i ∈ r
    · simp [e1]
    · by_cases e2 : i = g
      · subst e2; simp [e1]
      · simp [e1, e2, nbeq_ne e2]

theorem frz_evo (H : HRel w S μ h) {gone : List Nat} (hg : ∀ id ∈ gone, h id ≠ none) : Evo w S μ w (frz S μ gone) μ ∧ HRel w (frz S μ gone) μ (updH h (gone.map (·, none))) := by
  have E : Evo w S μ w (frz S μ gone) μ := by
    refine ⟨rfl, rfl, rfl, Nat.le_refl _, fun _ _ _ => rfl, fun b => ⟨fun hh => ?_, .inl⟩, fun b hh => .inl hh, fun b hh => ?_, fun _ _ hh => hh⟩
    · rcases hh with hh | ⟨hh, _⟩
      · exact hh
      · cases hh
    · rcases hh with hh | ⟨_, id, hid, m, hm, hb⟩
      · exact .inl hh
      · exact .inr (H.sep id m b false (hg id hid) hm hb)
  have ne : ∀ i, updH h (gone.map (·, none)) i ≠ none → i ∉ gone ∧ h i ≠ none := fun i hi => by
    rw [updH_gone] at hi
    by_cases e : i ∈ gone
    · simp [e] at hi
    · exact ⟨e, by simpa [e] using hi⟩
  refine ⟨E, H.upd E ?_ ?_ ?_ ?_ (fun i m b hi hm hb => by obtain ⟨o, ho⟩ := ne_some (ne i hi).2; exact From.same H ho hm hb) ?_⟩
  · intro i ob hi
    have h1 := ne i (by rw [hi]; simp)
    rw [updH_gone, if_neg h1.1] at hi
    exact .inl ⟨hi, fun _ _ _ _ => rfl⟩
  · intro i j mi mj b hi hj
    exact H.inj i j mi mj b (ne i hi).2 (ne j hj).2
  · intro i m b p hi hm hb hs
    have h1 := ne i hi
    rcases hs with hs | ⟨_, id, hid, m', hm', hb'⟩
    · exact H.sep i m b p h1.2 hm hb hs
    · have : i = id := H.inj i id m m' b h1.2 (hg id hid) hm hm' hb hb'
      exact h1.1 (this ▸ hid)
  · intro p b hs
    rcases hs with hs | ⟨_, id, hid, m, hm, hb⟩
    · exact H.bd p b hs
    · cases e : h id with
      | none => exact absurd e (hg id hid)
      | some ob =>
        obtain ⟨m', hm', hB⟩ := H.blk id ob e
        rw [hm] at hm'; cases hm'
        exact hB.lt hb
  · intro b hs
    rcases hs with hs | ⟨_, id, hid, m, hm, hb⟩
    · exact .inl hs
    · obtain ⟨o, ho⟩ := ne_some (hg id hid)
      exact .inr (.inr ⟨id, o, m, ho, hm, hb, .inr (by rw [updH_gone, if_pos hid])⟩)

/-- A slice of one's own, once its block is given up. -/
theorem own_frozen (H : HRel w S μ h) {id c c' : Nat} {et : TypeId} {l : List (den c)} (hh : h id = some (.rows et c l)) {x : Value} (hx : VRel w S μ (.own id c') x) {S' : SS} (E : Evo w S μ w S' μ)
    (hs : ∀ m b, μ id = some m → m.b = some b → S' true b) : VRel w S' μ (.irec true c l) x := by
  obtain ⟨m, hm, hcase⟩ := hx.own_inv
  obtain ⟨h1, h2, h3⟩ := H.rows hh hm
  rcases hcase with ⟨b, hb, rfl⟩ | ⟨h0, p, rfl⟩
  · obtain ⟨cur, hcur, hsz, hlen, _, hrel⟩ := h3 b hb
    rw [h1]
    refine .irec (fun i j => cur.getD (i * ncell c + j) Go.undef) (hs m b hm hb) (by omega) (fun i hi j hj => ?_) (fun i hi j hj => (hrel i hi j hj).evo E)
    rw [Nat.zero_add]
    refine cell_at hcur ?_
    have := row_le hi hj
    have h4 : l.length * ncell c ≤ m.cap * ncell c := Nat.mul_le_mul_right _ hlen
    omega
  · have : l = [] := List.eq_nil_of_length_eq_zero (by omega)
    subst this
    exact .irec0 p 0

theorem fz1_spec {v v' : AV} {gone : List Nat} (hf : fz1 h v = some (v', gone)) : (∀ id ∈ gone, h id ≠ none) ∧
    ∀ (w : World) (S : SS) (μ : MM) (x : Value) (S' : SS), HRel w S μ h → VRel w S μ v x → Evo w S μ w S' μ → (∀ id ∈ gone, ∀ m b, μ id = some m → m.b = some b → S' true b) → VRel w S' μ v' x := by
  unfold fz1 at hf
  split at hf
  · split at hf
    · rename_i et c l hh
      simp only [Option.some.injEq, Prod.mk.injEq] at hf
      obtain ⟨rfl, rfl⟩ := hf
      refine ⟨fun id hid => by simp at hid; subst hid; rw [hh]; simp, fun w S μ x S' H hx E hs => own_frozen H hh hx E (hs _ (by simp))⟩
    · cases hf
  · simp only [Option.some.injEq, Prod.mk.injEq] at hf
    obtain ⟨rfl, rfl⟩ := hf
    exact ⟨fun id hid => (by simp at hid), fun w S μ x S' H hx E _ => hx.evo E⟩
  all_goals first
    | (cases hf; done)
    | (simp only [Option.some.injEq, Prod.mk.injEq] at hf
       obtain ⟨rfl, rfl⟩ := hf
       exact ⟨fun id hid => (by simp at hid), fun w S μ x S' H hx E _ => hx.evo E⟩)
theorem fzs_spec : ∀ {vs vs' : List AV} {gone : List Nat}, fzs h vs = some (vs', gone) → (∀ id ∈ gone, h id ≠ none) ∧
    ∀ (w : World) (S : SS) (μ : MM) (xs : List Value) (S' : SS), HRel w S μ h → VRs w S μ vs xs → Evo w S μ w S' μ → (∀ id ∈ gone, ∀ m b, μ id = some m → m.b = some b → S' true b) → VRs w S' μ vs' xs
  | [], vs', gone, hf => by
    simp only [fzs, Option.some.injEq, Prod.mk.injEq] at hf
    obtain ⟨rfl, rfl⟩ := hf
    exact ⟨fun id hid => (by simp at hid), fun w S μ xs S' H hx E _ => hx.evo E⟩
  | v :: r, vs', gone, hf => by
    simp only [fzs] at hf
    split at hf
    · rename_i v1 g1 h1
      split at hf
      · rename_i r1 g2 h2
        simp only [Option.some.injEq, Prod.mk.injEq] at hf
        obtain ⟨rfl, rfl⟩ := hf
        have s1 := fz1_spec h1
        have s2 := fzs_spec h2
        refine ⟨fun id hid => ?_, fun w S μ xs S' H hx E hs => ?_⟩
        · rcases List.mem_append.1 hid with hid | hid
          · exact s1.1 id hid
          · exact s2.1 id hid
        · cases hx with
          | cons hv ht => exact .cons (s1.2 w S μ _ S' H hv E fun id hid => hs id (by simp [hid])) (s2.2 w S μ _ S' H ht E fun id hid => hs id (by simp [hid]))
      · cases hf
    · cases hf
theorem frz_has {gone : List Nat} : ∀ id ∈ gone, ∀ m b, μ id = some m → m.b = some b → frz S μ gone true b := fun id hid m b hm hb => .inr ⟨rfl, id, hid, m, hm, hb⟩
end
end Go.Proofs.Ytemffnpliflkgaa
