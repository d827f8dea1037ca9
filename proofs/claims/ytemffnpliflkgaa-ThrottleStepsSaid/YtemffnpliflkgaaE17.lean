/-
  Lemmas and contracts on the way to the laws of this seat; each theorem states its own conditions, and there are no others.
-/
import Derived.Test.YtemffnpliflkgaaE16
namespace Go.Proofs.Ytemffnpliflkgaa
open Go
set_option linter.unusedVariables false
set_option linter.unusedSimpArgs false
section
variable {P : Program} {h h' : Nat → Option OB} {base : Nat}

/-- Two heaps are alike at some blocks. -/
def Agree (h h' : Nat → Option OB) (l : List Nat) : Prop := ∀ id ∈ l, h id = h' id
theorem Agree.app {l m : List Nat} (H : Agree h h' (l ++ m)) : Agree h h' l ∧ Agree h h' m := ⟨fun id hi => H id (by simp [hi]), fun id hi => H id (by simp [hi])⟩
theorem Agree.at1 {id : Nat} (H : Agree h h' [id]) : h id = h' id := H id (by simp)

theorem content_congr {v : AV} (H : Agree h h' (ids1 v)) : contentA h v = contentA h' v := by
  cases v <;> simp only [contentA]
  case own => rw [Agree.at1 H]
  case sub => rw [Agree.at1 H]
theorem ids1_sub : (v : AV) → ∀ id, id ∈ ids1 v → id ∈ idsA v
  | .opt _ _ v, id, hi => ids1_sub v id hi
  | .undef, _, hi => by simp [ids1] at hi
  | .int _ _, _, hi => by simp [ids1] at hi
  | .tt, _, hi => by simp [ids1] at hi
  | .ff, _, hi => by simp [ids1] at hi
  | .bool _, _, hi => by simp [ids1] at hi
  | .str _, _, hi => by simp [ids1] at hi
  | .nilp, _, hi => by simp [ids1] at hi
  | .ptr _ _, _, hi => hi
  | .ept _ _ _ _, _, hi => hi
  | .ipt _ _ _, _, hi => by simp [ids1] at hi
  | .pix _ _ _, _, hi => hi
  | .sel _ _, _, hi => by simp [ids1] at hi
  | .nfn, _, hi => by simp [ids1] at hi
  | .nsl, _, hi => by simp [ids1] at hi
  | .zsl, _, hi => by simp [ids1] at hi
  | .own _ _, _, hi => hi
  | .sub _ _ _ _, _, hi => hi
  | .irec _ _ _, _, hi => by simp [ids1] at hi
  | .mp _, _, hi => hi
  | .imp _ _ _ _, _, hi => by simp [ids1] at hi
  | .agg _, _, hi => by simp [ids1] at hi
  | .tup _, _, hi => by simp [ids1] at hi
  | .fn _ _ _, _, hi => by simp [ids1] at hi
theorem agreeA {v : AV} (H : Agree h h' (idsA v)) : Agree h h' (ids1 v) := fun id hi => H id (ids1_sub v id hi)
theorem contentAs_congr {v : AV} {c : Nat} (H : Agree h h' (idsA v)) : contentAs h c v = contentAs h' c v := by
  have := content_congr (agreeA H)
  unfold contentAs
  split
  · rfl
  · rw [this]
theorem fz1_congr {v : AV} (H : Agree h h' (ids1 v)) : fz1 h v = fz1 h' v := by
  cases v
  case own => simp only [fz1]; rw [Agree.at1 H]
  case irec p c l => cases p <;> rfl
  case imp p g c f => cases p <;> rfl
  all_goals rfl
theorem fzs_congr : ∀ {vs : List AV}, Agree h h' (idsL vs) → fzs h vs = fzs h' vs
  | [], _ => rfl
  | v :: r, H => by
    obtain ⟨h1, h2⟩ := Agree.app H
    simp only [fzs, fz1_congr h1, fzs_congr h2]
theorem flat_ids {v : AV} (H : Agree h h' (idsA v)) : Agree h h' (idsL v.flat) := by
  cases v
  case agg l => exact H
  all_goals
    intro id hi
    simp only [AV.flat, idsL, List.append_nil] at hi
    exact agreeA H id hi
theorem loadA_congr {v : AV} {n : Nat} {g : Bool} (H : Agree h h' (idsA v)) : loadA h n g v = loadA h' n g v := by
  have H1 := agreeA H
  cases v <;> simp only [loadA]
  case ptr => rw [Agree.at1 H1]
  case ept => rw [Agree.at1 H1]
  case pix => rw [Agree.at1 H1]
theorem storeA_congr {v a : AV} (Hv : Agree h h' (idsA v)) (Ha : Agree h h' (idsA a)) : storeA h v.flat a = storeA h' v.flat a := by
  have H1 := agreeA Ha
  have H2 := fzs_congr (flat_ids Hv)
  cases a <;> simp only [storeA]
  case ptr => rw [Agree.at1 H1]
  case ept => rw [Agree.at1 H1, H2]
theorem lenA_congr {v : AV} (H : Agree h h' (idsA v)) : lenA h v = lenA h' v := by
  have := content_congr (agreeA H)
  unfold lenA
  split
  · rfl
  · rfl
  · rw [this]
theorem lenD_congr {v : AV} {ts : List TypeId} (H : Agree h h' (idsA v)) : lenD P h ts v = lenD P h' ts v := by
  unfold lenD
  split
  · split
    · rfl
    · rw [lenA_congr H]
  · rfl
theorem idxA_congr {v : AV} {es : Option Nat} {i : Int} (H : Agree h h' (idsA v)) : idxA h es i v = idxA h' es i v := by
  have H1 := agreeA H
  cases v <;> simp only [idxA]
  case own => rw [Agree.at1 H1]
theorem idxP_congr {v : AV} {al : Option Nat} {k : Bool} {i : Int} (H : Agree h h' (idsA v)) : idxP h al k i v = idxP h' al k i v := by
  have H1 := agreeA H
  unfold idxP
  split
  · rw [Agree.at1 H1]
  · rfl
theorem sliceA_congr {v : AV} {es : Option Nat} {lo hi mx : Option AV} (H : Agree h h' (idsA v)) : sliceA h es v lo hi mx = sliceA h' es v lo hi mx := by
  have H1 := content_congr (agreeA H)
  have H2 := agreeA H
  unfold sliceA
  rw [H1]
  split
  · rfl
  · rfl
  · split
    · cases v <;> simp only
      case own => rw [Agree.at1 H2]
    · rfl
theorem copyA_congr {x y : AV} {ts : List TypeId} (Hx : Agree h h' (idsA x)) (Hy : Agree h h' (idsA y)) : copyA P h ts x y = copyA P h' ts x y := by
  have H2 := agreeA Hx
  unfold copyA
  split
  · split
    · split
      · rename_i c _ _ _
        simp only [contentAs_congr Hy]
        cases x <;> simp only
        case sub => rw [Agree.at1 H2]
      · rfl
    · rfl
  · rfl
theorem appendA_congr {s x : AV} {ts : List TypeId} (Hs : Agree h h' (idsA s)) (Hx : Agree h h' (idsA x)) : appendA P h base ts s x = appendA P h' base ts s x := by
  have H2 := agreeA Hs
  unfold appendA
  split
  · split
    · split
      · rename_i c _ _ _ _ _
        simp only [contentAs_congr Hx]
        cases s <;> simp only
        case own => rw [Agree.at1 H2]
      · rfl
    · rfl
  · rfl

theorem appendS_congr {id lo k : Nat} {x : AV} {ts : List TypeId} (Hs : h id = h' id) (Hx : Agree h h' (idsA x)) : appendS P h base ts id lo k x = appendS P h' base ts id lo k x := by
  unfold appendS
  split
  · split
    · split
      · rename_i c _ _ _ _ _
        simp only [contentAs_congr Hx]
        rw [Hs]
      · rfl
    · rfl
  · rfl

theorem fillA_ids : ∀ {ps : List (Option (Nat × Nat) × AV)} {z cs : List AV}, fillA z ps = some cs → ∀ id, id ∈ idsL cs → id ∈ idsL z ∨ ∃ p ∈ ps, id ∈ idsA p.2
  | [], z, cs, hf, id, hi => by
    simp only [fillA, Option.some.injEq] at hf
    subst hf; exact .inl hi
  | (none, v) :: r, z, cs, hf, id, hi => by simp [fillA] at hf
  | (some (o, n), v) :: r, z, cs, hf, id, hi => by
    simp only [fillA] at hf
    by_cases hc : (okv v && Nat.beq v.flat.length n && Nat.ble (o + n) z.length) = true
    · simp only [hc, cond_true] at hf
      simp only [Bool.and_eq_true] at hc
      have app : ∀ {l m : List AV}, id ∈ idsL (l ++ m) → id ∈ idsL l ∨ id ∈ idsL m := by
        intro l m
        induction l with
        | nil => intro hh; exact .inr hh
        | cons x l ih =>
          intro hh
          simp only [List.cons_append, idsL, List.mem_append] at hh ⊢
          rcases hh with hh | hh
          · exact .inl (.inl hh)
          · rcases ih hh with hh | hh
            · exact .inl (.inr hh)
            · exact .inr hh
      have mem : ∀ {l : List AV} {x : AV}, x ∈ l → ∀ j, j ∈ ids1 x → j ∈ idsL l := by
        intro l
        induction l with
        | nil => intro x hx; simp at hx
        | cons y l ih =>
          intro x hx j hj
          simp only [idsL, List.mem_append]
          rcases List.mem_cons.1 hx with e | hx
          · subst e; exact .inl hj
          · exact .inr (ih hx j hj)
      have inv : ∀ {l : List AV}, id ∈ idsL l → ∃ x ∈ l, id ∈ ids1 x := by
        intro l
        induction l with
        | nil => intro hh; simp [idsL] at hh
        | cons y l ih =>
          intro hh
          simp only [idsL, List.mem_append] at hh
          rcases hh with hh | hh
          · exact ⟨y, by simp, hh⟩
          · obtain ⟨x, h1, h2⟩ := ih hh
            exact ⟨x, by simp [h1], h2⟩
      rcases fillA_ids hf id hi with h1 | ⟨p, h1, h2⟩
      · unfold splice at h1
        rcases app h1 with h1 | h1
        · rcases app h1 with h1 | h1
          · obtain ⟨x, k1, k2⟩ := inv h1
            exact .inl (mem (List.mem_of_mem_take k1) id k2)
          · right
            refine ⟨(some (o, n), v), by simp, ?_⟩
            show id ∈ idsA v
            cases v
            case agg l => exact h1
            case opt => simp [okv, leafA] at hc
            all_goals first
              | (simpa [AV.flat, idsL, idsA] using h1)
              | (simp [AV.flat, idsL, ids1] at h1)
        · obtain ⟨x, k1, k2⟩ := inv h1
          exact .inl (mem (List.mem_of_mem_drop k1) id k2)
      · exact .inr ⟨p, by simp [h1], h2⟩
    · simp [hc] at hf

theorem fzAll_congr : ∀ {rs : List (List AV)}, (∀ r ∈ rs, Agree h h' (idsL r)) → fzAll h rs = fzAll h' rs
  | [], _ => rfl
  | r :: rs, H => by
    have e1 := fzs_congr (H r (by simp))
    have e2 := fzAll_congr fun r hr => H r (List.mem_cons_of_mem _ hr)
    unfold fzAll
    rw [e1, e2]
theorem idsL_sub {l m : List AV} (hs : ∀ x, x ∈ l → x ∈ m) : ∀ id, id ∈ idsL l → id ∈ idsL m := by
  have mem : ∀ {l : List AV} {x : AV}, x ∈ l → ∀ j, j ∈ ids1 x → j ∈ idsL l := by
    intro l
    induction l with
    | nil => intro x hx; simp at hx
    | cons y l ih =>
      intro x hx j hj
      simp only [idsL, List.mem_append]
      rcases List.mem_cons.1 hx with e | hx
      · subst e; exact .inl hj
      · exact .inr (ih hx j hj)
  intro id hi
  induction l with
  | nil => simp [idsL] at hi
  | cons y l ih =>
    simp only [idsL, List.mem_append] at hi
    rcases hi with hi | hi
    · exact mem (hs y (by simp)) id hi
    · exact ih (fun x hx => hs x (by simp [hx])) hi
theorem chunks_sub {m : Nat} : ∀ {n : Nat} {l : List AV} {r : List AV}, r ∈ chunks m n l → ∀ x, x ∈ r → x ∈ l
  | 0, l, r, hr, x, hx => by simp [chunks] at hr
  | n + 1, l, r, hr, x, hx => by
    simp only [chunks, List.mem_cons] at hr
    rcases hr with e | hr
    · subst e; exact List.mem_of_mem_take hx
    · exact List.mem_of_mem_drop (chunks_sub hr x hx)

theorem av1_ids (v : Value) : ids1 (av1 v) = [] := by unfold av1; split <;> rfl
theorem avOf_ids (v : Value) : idsL (avOf v).flat = [] := by
  have key : ∀ l : List Value, idsL (l.map av1) = [] := fun l => by
    induction l with
    | nil => rfl
    | cons x l ih => simp [idsL, av1_ids, ih]
  unfold avOf
  split
  · exact key _
  · have := av1_ids v
    unfold AV.flat
    split
    · rename_i l hl
      have : ∀ l, av1 v ≠ .agg l := fun l => by unfold av1; split <;> simp
      exact absurd hl (this l)
    · simp [idsL, this]
theorem repl_ids {z : List AV} (hz : idsL z = []) : ∀ n, idsL (repl n z) = []
  | 0 => rfl
  | n + 1 => by
    have app : ∀ (l m : List AV), idsL (l ++ m) = idsL l ++ idsL m := by
      intro l m
      induction l with
      | nil => rfl
      | cons x l ih => simp [idsL, ih]
    simp [repl, app, hz, repl_ids hz n]

theorem buildSliceA_congr {t : TypeId} {n : Nat} {parts : List (Nat × AV)} (H : ∀ p ∈ parts, Agree h h' (idsA p.2)) : buildSliceA P h base t n parts = buildSliceA P h' base t n parts := by
  unfold buildSliceA
  split
  · split
    · rename_i e _ c z m hc hz hm
      split
      · rename_i cs hf
        have hfz : fzAll h (chunks m n cs) = fzAll h' (chunks m n cs) := fzAll_congr fun r hr id hi => by
          have h1 := idsL_sub (chunks_sub hr) id hi
          rcases fillA_ids hf id h1 with h2 | ⟨p, h2, h3⟩
          · obtain ⟨i, v, _, _, rfl⟩ := tzero_spec hz
            rw [repl_ids (avOf_ids v)] at h2; cases h2
          · obtain ⟨q, hq, rfl⟩ := List.mem_map.1 h2
            exact H q hq id h3
        rw [hfz]
      · rfl
    · rfl
  · rfl

theorem lend1_congr {v : AV} (H : Agree h h' (ids1 v)) : lend1 h v = lend1 h' v := by
  have := content_congr H
  cases v <;> simp only [lend1]
  case own => rw [this]
  case sub => rw [this]
  case mp => rw [Agree.at1 H]
theorem lendC_congr {v : AV} (H : Agree h h' (ids1 v)) : lendC h v = lendC h' v := by
  cases v
  case ptr id off =>
    simp only [lendC]
    rw [H id (by simp [ids1])]
  all_goals exact lend1_congr H
theorem lendCL_congr {l : List AV} (H : Agree h h' (idsL l)) : l.map (lendC h) = l.map (lendC h') := by
  apply List.map_congr_left
  intro x hx
  refine lendC_congr fun id hi => H id ?_
  have mem : ∀ {l : List AV} {x : AV}, x ∈ l → ∀ j, j ∈ ids1 x → j ∈ idsL l := by
    intro l
    induction l with
    | nil => intro x hx; simp at hx
    | cons y l ih =>
      intro x hx j hj
      simp only [idsL, List.mem_append]
      rcases List.mem_cons.1 hx with e | hx
      · subst e; exact .inl hj
      · exact .inr (ih hx j hj)
  exact mem hx id hi
theorem lendL_congr {l : List AV} (H : Agree h h' (idsL l)) : l.map (lend1 h) = l.map (lend1 h') := by
  apply List.map_congr_left
  intro x hx
  refine lend1_congr fun id hi => H id ?_
  have mem : ∀ {l : List AV} {x : AV}, x ∈ l → ∀ j, j ∈ ids1 x → j ∈ idsL l := by
    intro l
    induction l with
    | nil => intro x hx; simp at hx
    | cons y l ih =>
      intro x hx j hj
      simp only [idsL, List.mem_append]
      rcases List.mem_cons.1 hx with e | hx
      · subst e; exact .inl hj
      · exact .inr (ih hx j hj)
  exact mem hx id hi
theorem lend_congr {v : AV} (H : Agree h h' (idsA v)) : lend h v = lend h' v := by
  cases v
  case agg l =>
    simp only [lend]
    rw [lendL_congr (l := l) H]
  case fn f a b =>
    simp only [lend]
    rw [lendCL_congr (l := a) fun id hi => H id (by show id ∈ idsL a ++ idsL b; exact List.mem_append_left _ hi), lendCL_congr (l := b) fun id hi => H id (by show id ∈ idsL a ++ idsL b; exact List.mem_append_right _ hi)]
  all_goals exact lend1_congr (agreeA H)
theorem boxesOk_congr {js : List Nat} : ∀ {ids : List Nat}, Agree h h' ids → boxesOk h js ids = boxesOk h' js ids
  | [], _ => rfl
  | i :: r, H => by
    have e1 : h i = h' i := H i (by simp)
    have e2 := boxesOk_congr (js := js) (ids := r) fun id hi => H id (List.mem_cons_of_mem _ hi)
    simp only [boxesOk, e1, e2]
/-- What boxes lead on to. -/
def RAg (h h' : Nat → Option OB) (args : List AV) : Prop := ∀ v ∈ args, ∀ id ∈ ptrId1 v, Agree h h' (reach h id)
theorem callA_congr {spec : FuncId → Option Spec} {f : FuncId} {args : List AV} (H : ∀ v ∈ args, Agree h h' (idsA v)) (HR : RAg h h' args) : callA spec h base f args = callA spec h' base f args := by
  have hp : ∀ id, id ∈ args.flatMap ptrId1 → h id = h' id := fun id hi => by
    obtain ⟨v, hv, hp⟩ := List.mem_flatMap.1 hi
    refine H v hv id ?_
    cases v <;> simp [ptrId1] at hp
    simp [idsA, ids1, hp]
  have er : (args.flatMap ptrId1).flatMap (reach h) = (args.flatMap ptrId1).flatMap (reach h') := by
    have : ∀ l : List Nat, (∀ id ∈ l, h id = h' id) → l.flatMap (reach h) = l.flatMap (reach h') := fun l => by
      induction l with
      | nil => intro _; rfl
      | cons x r ih =>
        intro hl
        simp only [List.flatMap_cons]
        rw [ih fun id hi => hl id (by simp [hi])]
        have : reach h x = reach h' x := by unfold reach; rw [hl x (by simp)]
        rw [this]
    exact this _ hp
  have e0 : callIds h args = callIds h' args := by unfold callIds; rw [er]
  have hids : Agree h h' (callIds h args) := fun id hi => by
    have hi := nub_mem.1 hi
    rcases List.mem_append.1 hi with hi | hi
    · exact hp id hi
    · obtain ⟨k, hk, hr⟩ := List.mem_flatMap.1 hi
      obtain ⟨v, hv, hpv⟩ := List.mem_flatMap.1 hk
      exact HR v hv k hpv id hr
  have e1 : (args.map fun v => ren1 (fun x => pos x (callIds h args)) (lend (without h (callIds h args)) v)) = args.map fun v => ren1 (fun x => pos x (callIds h args)) (lend (without h' (callIds h args)) v) :=
    List.map_congr_left fun v hv => by
      rw [lend_congr (h := without h (callIds h args)) (h' := without h' (callIds h args)) fun id hi => by unfold without; rw [H v hv id hi]]
  have e2 : subH h (callIds h args) = subH h' (callIds h args) := by
    funext i
    unfold subH
    cases e : (callIds h args)[i]? with
    | none => rfl
    | some id => simp only [hids id (List.mem_of_getElem? e)]
  unfold callA
  simp only [← e0, e1, e2, boxesOk_congr hids]

theorem mapCont_congr {v : AV} (H : Agree h h' (idsA v)) : mapCont h v = mapCont h' v := by
  have H1 := agreeA H
  cases v <;> simp only [mapCont]
  case mp => rw [Agree.at1 H1]
theorem lookupA_congr {t : TypeId} {v i : AV} (H : Agree h h' (idsA v)) : lookupA P h t v i = lookupA P h' t v i := by
  unfold lookupA
  rw [mapCont_congr H]
theorem mapUpdA_congr {t : TypeId} {x k v : AV} (H : Agree h h' (idsA x)) : mapUpdA P h t x k v = mapUpdA P h' t x k v := by
  have H1 := agreeA H
  unfold mapUpdA
  split
  · rw [Agree.at1 H1]
  · rfl
theorem fzOwn1_congr {v : AV} (H : Agree h h' (idsA v)) : fzOwn1 h v = fzOwn1 h' v := by
  cases v
  case own id c =>
    have : fz1 h (.own id c) = fz1 h' (.own id c) := fz1_congr H
    simp only [fzOwn1, this]
  all_goals rfl
theorem fzOwn1_ids {v : AV} (id : Nat) (hi : id ∈ idsA (fzOwn1 h v).1) : id ∈ idsA v := by
  cases v
  case own i c =>
    unfold fzOwn1 at hi
    simp only at hi
    split at hi
    · rename_i r hr
      simp only [fz1] at hr
      split at hr
      · simp only [Option.some.injEq] at hr
        subst hr
        simp [idsA, ids1] at hi
      · cases hr
    · exact hi
  all_goals exact hi
theorem fzOwn1_ptr {v : AV} : ptrId1 (fzOwn1 h v).1 = ptrId1 v := by
  cases v
  case own i c =>
    unfold fzOwn1
    simp only
    split
    · rename_i r hr
      simp only [fz1] at hr
      split at hr
      · simp only [Option.some.injEq] at hr
        subst hr
        rfl
      · cases hr
    · rfl
  all_goals rfl
theorem callG_congr {spec : FuncId → Option Spec} {f : FuncId} {args : List AV} (H : ∀ v ∈ args, Agree h h' (idsA v)) (HR : RAg h h' args) : callG spec h base f args = callG spec h' base f args := by
  have e1 : fzOwn h args = fzOwn h' args := by
    unfold fzOwn
    have : args.map (fzOwn1 h) = args.map (fzOwn1 h') := List.map_congr_left fun v hv => fzOwn1_congr (H v hv)
    have e2 : ∀ k : Nat → Option OB, (args.map fun v => (fzOwn1 k v).1) = (args.map (fzOwn1 k)).map (·.1) := fun k => by simp
    have e3 : ∀ k : Nat → Option OB, (args.flatMap fun v => (fzOwn1 k v).2) = (args.map (fzOwn1 k)).flatMap (·.2) := fun k => by simp [List.flatMap_map]
    rw [e2, e3, this, e2, e3]
  have e2 : callA spec (updH h ((fzOwn h args).2.map (·, none))) base f (fzOwn h args).1 = callA spec (updH h' ((fzOwn h args).2.map (·, none))) base f (fzOwn h args).1 :=
    callA_congr (fun v hv id hi => by
      rw [updH_gone, updH_gone]
      split
      · rfl
      · obtain ⟨v0, hv0, rfl⟩ := List.mem_map.1 hv
        exact H v0 hv0 id (fzOwn1_ids id hi)) fun v hv k hk id hi => by
      obtain ⟨v0, hv0, rfl⟩ := List.mem_map.1 hv
      rw [fzOwn1_ptr] at hk
      have hi' : id ∈ reach h k := by
        unfold reach at hi ⊢
        rw [updH_gone] at hi
        split at hi
        · rename_i et cs hh
          split at hh
          · cases hh
          · rw [hh]; exact hi
        · simp at hi
      rw [updH_gone, updH_gone]
      split
      · rfl
      · exact HR v0 hv0 k hk id hi'
  unfold callG
  rw [callA_congr H HR, e2, e1]

theorem callV_congr {spec : FuncId → Option Spec} {args : List AV} {f : AV} (H1 : ∀ v ∈ f :: args, Agree h h' (idsA v)) (H2 : ∀ v ∈ f :: args, ∀ id ∈ idsA v, Agree h h' (reach h id)) : callV spec h base args f = callV spec h' base args f := by
  simp only [callV]
  split
  · rename_i fid fa fb
    by_cases hcap : (allL fa && allL fb) = true
    case neg => simp only [hcap, cond_false]
    simp only [hcap, cond_true]
    simp only [Bool.and_eq_true] at hcap
    have ptrA : ∀ {v : AV} {id : Nat}, id ∈ ptrId1 v → id ∈ idsA v := fun {v id} hp => by
      cases v <;> simp [ptrId1] at hp
      simp [idsA, ids1, hp]
    have inAll : ∀ v ∈ fa ++ args ++ fb, ∀ id ∈ idsA v, ∃ v0 ∈ (AV.fn (.func fid) fa fb) :: args, id ∈ idsA v0 := fun v hv id hi => by
      have capt : ∀ {l : List AV} {x : AV}, allL l = true → x ∈ l → id ∈ idsA x → id ∈ idsL l := by
        intro l x hl hx hi
        induction l with
        | nil => simp at hx
        | cons y l ih =>
          simp only [allL, Bool.and_eq_true] at hl
          rcases List.mem_cons.1 hx with e | hx
          · subst e
            simp only [idsL, List.mem_append]
            left
            cases x
            case agg => simp [leafA] at hl
            case opt => simp [leafA] at hl
            case fn f p q =>
              simp only [leafA, Bool.and_eq_true, List.isEmpty_iff] at hl
              obtain ⟨⟨rfl, rfl⟩, _⟩ := hl
              simp [idsA, idsL] at hi
            all_goals exact hi
          · simp only [idsL, List.mem_append]
            exact .inr (ih hl.2 hx)
      rcases List.mem_append.1 hv with hv | hv
      · rcases List.mem_append.1 hv with hv | hv
        · exact ⟨_, List.mem_cons_self, by simp only [idsA, List.mem_append]; exact .inl (capt hcap.1 hv hi)⟩
        · exact ⟨v, by simp [hv], hi⟩
      · exact ⟨_, List.mem_cons_self, by simp only [idsA, List.mem_append]; exact .inr (capt hcap.2 hv hi)⟩
    have HR : RAg h h' (fa ++ args ++ fb) := fun v hv id hid => by
      obtain ⟨v0, g1, g2⟩ := inAll v hv id (ptrA hid)
      exact H2 v0 g1 id g2
    refine callG_congr (fun v hv => ?_) HR
    have hfn := H1 (.fn (.func fid) fa fb) (by simp)
    have capt : ∀ {l : List AV} {x : AV}, allL l = true → x ∈ l → Agree h h' (idsL l) → Agree h h' (idsA x) := by
      intro l x hl hx hag id hi
      induction l with
      | nil => simp at hx
      | cons y l ih =>
        simp only [allL, Bool.and_eq_true] at hl
        rcases List.mem_cons.1 hx with e | hx
        · subst e
          refine hag id ?_
          simp only [idsL, List.mem_append]
          left
          cases x
          case agg => simp [leafA] at hl
          case opt => simp [leafA] at hl
          case fn f p q =>
            simp only [leafA, Bool.and_eq_true, List.isEmpty_iff] at hl
            obtain ⟨⟨rfl, rfl⟩, _⟩ := hl
            simp [idsA, idsL] at hi
          all_goals exact hi
        · exact ih hl.2 hx (Agree.app hag).2
    rcases List.mem_append.1 hv with hv | hv
    · rcases List.mem_append.1 hv with hv | hv
      · exact capt hcap.1 hv (Agree.app hfn).1
      · exact H1 v (by simp [hv])
    · exact capt hcap.2 hv (Agree.app hfn).2
  · have e : (fun f => callA spec h base f args) = fun f => callA spec h' base f args := funext fun f => callA_congr (fun v hv => H1 v (by simp [hv])) fun v hv id hid => H2 v (by simp [hv]) id (by cases v <;> simp [ptrId1] at hid; simp [idsA, ids1, hid])
    rw [e]
  · rfl
theorem descV0_congr {E : Env} {op : Op} {vals : List AV} (H : Agree h h' (reads vals)) (HC : callB op = true → ∀ id ∈ reads vals, Agree h h' (reach h id)) : descV0 E h base op vals = descV0 E h' base op vals := by
  have H1 : ∀ v ∈ vals, Agree h h' (idsA v) := fun v hv id hi => H id (List.mem_flatMap.2 ⟨v, hv, hi⟩)
  unfold descV0
  split
  case h_7 =>
    refine buildSliceA_congr fun p hp => ?_
    obtain ⟨p1, p2⟩ := p
    exact H1 _ (List.of_mem_zip hp).2
  case h_8 => simp only [loadD]; split <;> first | rfl | rw [loadA_congr (H1 _ (by simp))]
  case h_9 => simp only [storeD]; rw [storeA_congr (H1 _ (by simp)) (H1 _ (by simp))]
  case h_17 =>
    simp only [sliceD]
    split <;> first | rfl | exact sliceA_congr (H1 _ (by simp))
  case h_20 =>
    have Hx := H1 _ List.mem_cons_self
    simp only [indexAddrA]
    split
    · rw [idxP_congr Hx, idxA_congr Hx]
    · rfl
  case h_22 =>
    split
    · split <;> first | rfl | exact lenD_congr (H1 _ (by simp))
    · rfl
    · rfl
    · split <;> first | rfl | exact appendA_congr (H1 _ (by simp)) (H1 _ (by simp))
    · split <;> first | rfl | exact copyA_congr (H1 _ (by simp)) (H1 _ (by simp))
    · split <;> first | rfl | exact callV_congr H1 fun v hv id hi => HC rfl id (List.mem_flatMap.2 ⟨v, hv, hi⟩)
    · rfl
  case h_24 => exact lookupA_congr (H1 _ (by simp))
  case h_25 => exact mapUpdA_congr (H1 _ (by simp))
  all_goals rfl
theorem idsA_of1 {v : AV} {id : Nat} (hi : id ∈ ids1 v) : id ∈ idsA v := by
  cases v <;> first | exact hi | (simp [ids1] at hi; done) | skip
  case opt g b v => exact idsA_of1 (v := v) (by simpa [ids1] using hi)
theorem nilCmp_congr {P : Program} {b : BinOp} {t : TypeId} {x y : AV} (H : Agree h h' (ids1 x)) : nilCmp P h b t x y = nilCmp P h' b t x y := by
  unfold nilCmp
  rw [content_congr H]
theorem descV1_congr {E : Env} {op : Op} {vals : List AV} (H : Agree h h' (reads vals)) (HC : callB op = true → ∀ id ∈ reads vals, Agree h h' (reach h id)) : descV1 E h base op vals = descV1 E h' base op vals := by
  have h0 := descV0_congr (E := E) (base := base) (op := op) H HC
  unfold descV1
  split
  · split
    · split
      · exact callV_congr (fun v hv id hi => H id (List.mem_flatMap.2 ⟨v, hv, hi⟩)) fun v hv id hi => HC rfl id (List.mem_flatMap.2 ⟨v, hv, hi⟩)
      · rfl
    · split
      · rename_i id cc lo k x
        exact appendS_congr (H id (List.mem_flatMap.2 ⟨.sub id cc lo k, by simp, idsA_of1 (v := .sub id cc lo k) (by simp [ids1])⟩)) fun id' hi => H id' (List.mem_flatMap.2 ⟨x, by simp, hi⟩)
      · rw [h0]
    · rw [h0]
  · split
    · rename_i x y
      have e : ∀ b t, nilCmp E.P h b t x y = nilCmp E.P h' b t x y := fun b t => nilCmp_congr fun id hi => H id (List.mem_flatMap.2 ⟨x, by simp, idsA_of1 hi⟩)
      rw [e, h0]
    · rw [h0]
  · rw [h0]
theorem links_deep {c : Bool} {id : Nat} {et cc : Nat} {ts : List Nat} {l : List (den cc)} {r f name : Nat} (hh : h id = some (.deep et cc ts l (some (r, f, name)))) : name ∈ links c h id := by
  unfold links; rw [hh]; simp
theorem closeD_congr {c : Bool} {id : Nat} (H1 : h id = h' id) (H2 : Agree h h' (links c h id)) : closeD h id = closeD h' id := by
  unfold closeD
  rw [← H1]
  split
  · rfl
  · rename_i et cc ts l r j name hh
    rw [H2 name (links_deep hh)]
  · rfl
theorem closeD_keys {id : Nat} {q : List Prop} {u : Upd} (hc : closeD h id = some (q, u)) : ∀ k o, (k, o) ∈ u → (k = id ∨ ∀ c, k ∈ links c h id) ∧ ∀ et cs, o ≠ some (.cells et cs) := fun k o hk => by
  unfold closeD at hc
  split at hc
  · simp only [Option.some.injEq, Prod.mk.injEq] at hc
    rw [← hc.2] at hk; simp at hk
  · rename_i et cc ts l r j name hh
    split at hc
    · rename_i et' c' l' hn
      cases he : Nat.beq et' (ts.getD j 0) with
      | false => rw [he, cond_false] at hc; cases hc
      | true =>
        rw [he, cond_true] at hc
        split at hc
        · simp only [Option.some.injEq, Prod.mk.injEq] at hc
          rw [← hc.2] at hk
          simp only [List.mem_cons, List.not_mem_nil, or_false, Prod.mk.injEq] at hk
          rcases hk with ⟨rfl, rfl⟩ | ⟨rfl, rfl⟩
          · exact ⟨.inr fun c => links_deep hh, fun et cs h => by cases h⟩
          · exact ⟨.inl rfl, fun et cs h => by cases h⟩
        · cases hc
    · cases hc
  · cases hc
theorem updH_same {u : Upd} {i : Nat} (e : h i = h' i) : updH h u i = updH h' u i := by
  induction u generalizing h h' with
  | nil => exact e
  | cons p r ih =>
    obtain ⟨k, o⟩ := p
    exact ih (by show (bif Nat.beq i k then o else h i) = (bif Nat.beq i k then o else h' i); rw [e])
theorem loadDp_congr {t : TypeId} {id r f : Nat} (H1 : h id = h' id) (H2 : Agree h h' (links false h id)) : loadDp P h base t id r f = loadDp P h' base t id r f := by
  unfold loadDp
  rw [← H1]
  split
  · split
    · rename_i et c ts l out hh
      have e1 := closeD_congr (c := false) H1 H2
      rw [← e1]
      cases hc : closeD h id with
      | none => rfl
      | some p =>
        obtain ⟨q, u⟩ := p
        have : borrowD (updH h u) base id r f = borrowD (updH h' u) base id r f := by
          unfold borrowD
          rw [updH_same H1]
        simp only [this]
    · rfl
  · rfl
theorem storeDp_congr {t : TypeId} {id r f : Nat} {v : AV} (H1 : h id = h' id) (H2 : Agree h h' (idsA v)) : storeDp P h t id r f v = storeDp P h' t id r f v := by
  unfold storeDp
  rw [← H1]
  split
  · split
    · rename_i id2 c2
      rw [H2 id2 (by simp [idsA, ids1])]
    · rfl
  · rfl
theorem deepAt_congr {id : Nat} (H1 : h id = h' id) : deepAt h id = deepAt h' id := by unfold deepAt; rw [H1]
theorem appendDp_congr {ts : List TypeId} {s : AV} {idx : Nat} (H1 : h idx = h' idx) (H2 : Agree h h' (idsA s)) : appendDp P h base ts s idx = appendDp P h' base ts s idx := by
  unfold appendDp
  rw [← H1]
  cases s
  case own id c0 => simp only [H2 id (by simp [idsA, ids1])]
  all_goals rfl
theorem absRow_congr {ts : List Nat} {vs : List AV} (H : Agree h h' (idsL vs)) : absRow h ts vs = absRow h' ts vs := by
  unfold absRow
  split
  · rename_i f hf
    split
    · rename_i id c0 hv
      have hm : id ∈ idsL vs := by
        clear hf
        induction vs generalizing f with
        | nil => simp at hv
        | cons x r ih =>
          simp only [idsL, List.mem_append]
          cases f with
          | zero =>
            simp only [List.getD_cons_zero] at hv
            subst hv
            left; simp [ids1]
          | succ f => exact .inr (ih (fun i hi => H i (by simp [idsL, hi])) f (by simpa using hv))
      rw [H id hm]
    · rfl
  · rfl
theorem buildSliceDp_congr {t : TypeId} {n : Nat} {parts : List (Nat × AV)} (H : ∀ p ∈ parts, Agree h h' (idsA p.2)) : buildSliceDp P h base t n parts = buildSliceDp P h' base t n parts := by
  unfold buildSliceDp
  split
  · rename_i e v _
    have hv : Agree h h' (idsL v.flat) := flat_ids (H (0, v) (by simp))
    split
    · rename_i c z m ts _ _ _ _
      rw [absRow_congr hv]
    · rfl
  · rfl
theorem descD_congr {E : Env} {op : Op} {vals : List AV} (H : Agree h h' (reads vals)) (HL : ∀ id ∈ reads vals, Agree h h' (links false h id)) : descD E h base op vals = descD E h' base op vals := by
  unfold descD
  split
  · rename_i t x id c r f
    have e : h id = h' id := H id (by simp [reads, idsA, ids1])
    rw [deepAt_congr e, loadDp_congr e (HL id (by simp [reads, idsA, ids1]))]
  · rename_i t x y id c r f v
    have e : h id = h' id := H id (by simp [reads, idsA, ids1])
    rw [deepAt_congr e, storeDp_congr e fun i hi => H i (by simp [reads, hi])]
  · rename_i t x y id c k i
    have e : h id = h' id := H id (by simp [reads, idsA, ids1])
    rw [deepAt_congr e]
    unfold idxDp
    rw [e]
  · rfl
  · rename_i c id c'
    have e : h id = h' id := H id (by simp [reads, idsA, ids1])
    split
    · rw [deepAt_congr e]
      unfold lenDp
      rw [e]
    · rfl
  · rename_i c s idx c'
    have e : h idx = h' idx := H idx (by simp [reads, idsA, ids1])
    split
    · rw [deepAt_congr e, appendDp_congr e fun i hi => H i (by simp [reads, hi])]
    · rfl
  · rename_i vs t n parts
    rw [buildSliceDp_congr fun p hp => ?_]
    obtain ⟨p1, p2⟩ := p
    exact fun i hi => H i (List.mem_flatMap.2 ⟨p2, (List.of_mem_zip hp).2, hi⟩)
  · rfl
theorem deepId_congr : ∀ {vals : List AV}, Agree h h' (reads vals) → deepId h vals = deepId h' vals
  | [], _ => rfl
  | v :: r, H => by
    have H' : Agree h h' (reads r) := fun id hi => H id (by simp only [reads, List.flatMap_cons, List.mem_append]; exact .inr hi)
    have ih := deepId_congr H'
    cases v
    case own id c =>
      have e : h id = h' id := H id (by simp [reads, idsA, ids1])
      simp only [deepId, deepAt_congr e, ih]
    all_goals exact ih
theorem deepId_mem : ∀ {vals : List AV} {id : Nat}, deepId h vals = some id → id ∈ reads vals
  | v :: r, id, hd => by
    have key : deepId h r = some id → id ∈ reads (v :: r) := fun hk => by
      simp only [reads, List.flatMap_cons, List.mem_append]
      exact .inr (deepId_mem hk)
    cases v
    case own i c =>
      simp only [deepId] at hd
      cases hb : deepAt h i with
      | true => rw [hb, cond_true] at hd; cases hd; simp [reads, idsA, ids1]
      | false => rw [hb, cond_false] at hd; exact key hd
    all_goals exact key hd
theorem softD_congr {c : Bool} {id : Nat} (H1 : h id = h' id) (H2 : Agree h h' (links c h id)) : softD h id = softD h' id := by
  unfold softD
  rw [← closeD_congr H1 H2]
  cases hc : closeD h id with
  | none => rfl
  | some p =>
    obtain ⟨q, u⟩ := p
    simp only
    rw [updH_same H1]
theorem softD_keys {id : Nat} {q : List Prop} {u : Upd} (hc : softD h id = some (q, u)) : ∀ k o, (k, o) ∈ u → (k = id ∨ ∀ c, k ∈ links c h id) ∧ ∀ et cs, o ≠ some (.cells et cs) := fun k o hk => by
  unfold softD at hc
  split at hc
  case h_2 => cases hc
  rename_i q0 u0 h0
  split at hc
  case h_2 => cases hc
  rename_i et c ts l hh
  simp only [Option.some.injEq, Prod.mk.injEq] at hc
  rw [← hc.2] at hk
  rcases List.mem_append.1 hk with hk | hk
  · exact closeD_keys h0 k o hk
  · simp only [List.mem_cons, List.not_mem_nil, or_false, Prod.mk.injEq] at hk
    exact ⟨.inl hk.1, fun et cs h => by rw [hk.2] at h; cases h⟩
theorem updH_cells {id et : Nat} {cs : List AV} : ∀ {u : Upd} {h : Nat → Option OB}, (∀ k o, (k, o) ∈ u → ∀ et cs, o ≠ some (.cells et cs)) → updH h u id = some (.cells et cs) → h id = some (.cells et cs)
  | [], h, _, hh => hh
  | (k, o) :: r, h, hu, hh => by
    have := updH_cells (fun k o hm => hu k o (by simp [hm])) (h := fun n => bif Nat.beq n k then o else h n) hh
    replace this : (bif Nat.beq id k then o else h id) = some (.cells et cs) := this
    cases e : Nat.beq id k with
    | true => rw [e, cond_true] at this; exact absurd this (hu k o (by simp) et cs)
    | false => rw [e, cond_false] at this; exact this
theorem links_sub {c : Bool} {id x : Nat} (hx : x ∈ links false h id) : x ∈ links c h id := by
  unfold links at hx ⊢
  split at hx
  · exact hx
  · simp at hx
  · simp at hx
theorem reach_links {id x : Nat} (hx : x ∈ reach h id) : x ∈ links true h id := by
  unfold reach at hx
  split at hx
  · rename_i et cs hh
    unfold links; rw [hh]; exact hx
  · simp at hx
theorem descV_congr {E : Env} {op : Op} {vals : List AV} (H : Agree h h' (readsH (callB op) h vals)) : descV E h base op vals = descV E h' base op vals := by
  have H0 : Agree h h' (reads vals) := (Agree.app H).1
  have HL : ∀ id ∈ reads vals, Agree h h' (links (callB op) h id) := fun id hi x hx => (Agree.app H).2 x (List.mem_flatMap.2 ⟨id, hi, hx⟩)
  have HC : callB op = true → ∀ id ∈ reads vals, Agree h h' (reach h id) := fun hc id hi x hx => HL id hi x (by rw [hc]; exact reach_links hx)
  unfold descV
  rw [descD_congr H0 fun id hi x hx => HL id hi x (links_sub hx), deepId_congr H0, descV1_congr H0 HC]
  congr 1
  congr 1
  cases hd : deepId h' vals with
  | none => rfl
  | some id =>
    rw [← deepId_congr H0] at hd
    have hm := deepId_mem hd
    simp only
    rw [← softD_congr (c := callB op) (H0 id hm) (HL id hm)]
    cases hs : softD h id with
    | none => rfl
    | some p =>
      obtain ⟨q, u⟩ := p
      have key := softD_keys hs
      have : descV1 E (updH h u) base op vals = descV1 E (updH h' u) base op vals := descV1_congr (fun id hi => updH_same (H0 id hi)) fun hc id hi x hx => by
        refine updH_same (HC hc id hi x ?_)
        unfold reach at hx ⊢
        split at hx
        · rename_i et cs hh
          rw [updH_cells (fun k o hm => (key k o hm).2) hh]; exact hx
        · simp at hx
      simp only [this]
end
end Go.Proofs.Ytemffnpliflkgaa
