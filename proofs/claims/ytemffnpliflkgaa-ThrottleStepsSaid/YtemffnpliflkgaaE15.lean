/-
  Lemmas and contracts on the way to the laws of this seat; each theorem states its own conditions, and there are no others.
-/
import Derived.Test.YtemffnpliflkgaaE14
namespace Go.Proofs.Ytemffnpliflkgaa
open Go
set_option linter.unusedVariables false
set_option linter.unusedSimpArgs false
section
variable {P : Program} {a : Act} {o : Oper} {w : World} {S : SS} {μ : MM} {h : Nat → Option OB} {base : Nat}

theorem hasKey_iff {i : Nat} {u : List (Nat × OB)} : hasKey i u = true ↔ ∃ ob, (i, ob) ∈ u := by
  induction u with
  | nil => simp [hasKey]
  | cons p r ih =>
    obtain ⟨j, o⟩ := p
    simp only [hasKey, Bool.or_eq_true, ih, List.mem_cons, Prod.mk.injEq]
    constructor
    · rintro (e | ⟨ob, hob⟩)
      · exact ⟨o, .inl ⟨Nat.eq_of_beq_eq_true e, rfl⟩⟩
      · exact ⟨ob, .inr hob⟩
    · rintro ⟨ob, ⟨e, _⟩ | hob⟩
      · subst e; exact .inl (Nat.beq_refl _)
      · exact .inr ⟨ob, hob⟩
theorem keysIn_spec {n : Nat} {u : List (Nat × OB)} (hk : keysIn n u = true) : ∀ j ob, (j, ob) ∈ u → (j < n ∨ (100 ≤ j ∧ j < 110)) ∧ shallowO ob = true := by
  induction u with
  | nil => intro j ob hm; simp at hm
  | cons p r ih =>
    obtain ⟨i, o⟩ := p
    simp only [keysIn, Bool.and_eq_true, Bool.or_eq_true] at hk
    intro j ob hm
    rcases List.mem_cons.1 hm with e | hm
    · cases e
      refine ⟨?_, hk.1.1.2⟩
      rcases hk.1.1.1 with h1 | ⟨h1, h2⟩
      · exact .inl (Nat.le_of_ble_eq_true h1)
      · exact .inr ⟨Nat.le_of_ble_eq_true h1, Nat.le_of_ble_eq_true h2⟩
    · exact ih hk.2 j ob hm
theorem keysAll_spec {u : List (Nat × OB)} : ∀ {n : Nat}, keysAll u n = true → ∀ i, i < n → hasKey i u = true
  | 0, _, i, hi => absurd hi (Nat.not_lt_zero _)
  | n + 1, hk, i, hi => by
    simp only [keysAll, Bool.and_eq_true] at hk
    by_cases e : i = n
    · subst e; exact hk.1
    · exact keysAll_spec hk.2 i (by omega)
theorem heapOf_mem {u : List (Nat × OB)} {n : Nat} (hk : keysIn n u = true) : ∀ i ob, (i, ob) ∈ u → heapOf u i = some ob := by
  induction u with
  | nil => intro i ob hm; simp at hm
  | cons p r ih =>
    obtain ⟨j, o⟩ := p
    simp only [keysIn, Bool.and_eq_true, Bool.not_eq_true'] at hk
    intro i ob hm0
    rcases List.mem_cons.1 hm0 with e | hm
    · cases e; simp [heapOf]
    · have : i ≠ j := fun e => by
        subst e
        have := hasKey_iff.2 ⟨ob, hm⟩
        rw [hk.1.2] at this; cases this
      simp only [heapOf, nbeq_ne this, cond_false]
      exact ih hk.2 i ob hm
theorem heapOf_none {u : List (Nat × OB)} {i : Nat} : heapOf u i ≠ none → ∃ ob, (i, ob) ∈ u ∧ heapOf u i = some ob := by
  induction u with
  | nil => intro hne; simp [heapOf] at hne
  | cons p r ih =>
    obtain ⟨j, o⟩ := p
    intro hne
    by_cases e : i = j
    · subst e; exact ⟨o, by simp, by simp [heapOf]⟩
    · simp only [heapOf, nbeq_ne e, cond_false] at hne ⊢
      obtain ⟨ob, h1, h2⟩ := ih hne
      exact ⟨ob, by simp [h1], h2⟩

/-- What a list of renamed blocks makes of the heap. -/
theorem updH_map {ρ : Nat → Nat} {g : OB → OB} : ∀ {u : List (Nat × OB)} (_ : ∀ i j oi oj, (i, oi) ∈ u → (j, oj) ∈ u → ρ i = ρ j → i = j) {n : Nat} (_ : keysIn n u = true) (h : Nat → Option OB) (id : Nat),
    (∃ i ob, (i, ob) ∈ u ∧ ρ i = id ∧ updH h (u.map fun p => (ρ p.1, some (g p.2))) id = some (g ob)) ∨ ((∀ i ob, (i, ob) ∈ u → ρ i ≠ id) ∧ updH h (u.map fun p => (ρ p.1, some (g p.2))) id = h id) := by
  intro u
  induction u with
  | nil => intro _ n _ h id; exact .inr ⟨fun i ob hm => by simp at hm, rfl⟩
  | cons p r ih =>
    obtain ⟨j, o⟩ := p
    intro hinj n hk h id
    simp only [keysIn, Bool.and_eq_true, Bool.not_eq_true'] at hk
    simp only [List.map_cons, updH]
    rcases ih (fun i j oi oj h1 h2 => hinj i j oi oj (by simp [h1]) (by simp [h2])) hk.2 (fun n => bif Nat.beq n (ρ j) then some (g o) else h n) id with ⟨i, ob, h1, h2, h3⟩ | ⟨h1, h2⟩
    · exact .inl ⟨i, ob, by simp [h1], h2, h3⟩
    · by_cases e : id = ρ j
      · subst e
        left
        exact ⟨j, o, by simp, rfl, by rw [h2]; simp⟩
      · right
        refine ⟨fun i ob hm => ?_, by rw [h2]; simp [nbeq_ne e]⟩
        rcases List.mem_cons.1 hm with e2 | hm
        · cases e2; exact fun e3 => e e3.symm
        · exact h1 i ob hm

theorem renO_ok {w' : World} {S S' : SS} {μ μ' : MM} {ρ : Nat → Nat} (hS : ∀ p b, S p b → S' p b) (hμ : ∀ i m, μ i = some m → μ' (ρ i) = some m) {m : MI} {ob : OB} (hs : shallowO ob = true) (hB : BOk w' S μ m ob) : BOk w' S' μ' m (renO ρ ob) := by
  cases ob with
  | cells et cs =>
    obtain ⟨b, cur, h1, h2, h3, h4⟩ := hB
    refine ⟨b, cur, h1, h2, by simpa using h3, fun j hj => ?_⟩
    have hj' : j < cs.length := by simpa using hj
    have e : (cs.map (ren1 ρ)).getD j .undef = ren1 ρ (cs.getD j .undef) := by simp [List.getD_eq_getElem?_getD, hj']
    rw [e]
    exact ren1_rel hS hμ (all1_get hs j hj') (h4 j hj')
  | rows et c l =>
    obtain ⟨h0, h1, h2⟩ := hB
    refine ⟨h0, h1, ?_⟩
    rcases h2 with h2 | ⟨b, cur, h2, h3, h4, h5, h6, h7⟩
    · exact .inl h2
    · exact .inr ⟨b, cur, h2, h3, h4, h5, h6, fun i hi j hj => enc_free hj ((h7 i hi j hj).weaken hS fun _ _ h => h) μ'⟩
  | imap g c f =>
    obtain ⟨b, clock, es, u, h1, h2, h3, h4, h5⟩ := hB
    exact ⟨b, clock, es, u, h1, h2, h3, h4, fun k hk j hj => enc_free hj ((h5 k hk j hj).weaken hS fun _ _ h => h) μ'⟩
  | deep et c ts l out =>
    cases out with
    | some _ => cases hs
    | none =>
    obtain ⟨h0, h1, h2⟩ := hB
    refine ⟨h0, h1, ?_⟩
    rcases h2 with h2 | ⟨b, cur, h2, h3, h4, h5, h6, h7, h8⟩
    · exact .inl h2
    · refine .inr ⟨b, cur, h2, h3, h4, h5, h6, fun i hi j hj => ?_, h8⟩
      rcases h7 i hi j hj with ⟨a1, _⟩ | ⟨a1, a2⟩
      · simp [outAt] at a1
      · exact .inr ⟨a1, DC.weak (fun b hb => hS true b hb) a2 hj⟩
theorem holds_renO {ρ : Nat → Nat} {w : World} {m : MI} {ob : OB} (hs : shallowO ob = true) (b : Nat) : holds w m (renO ρ ob) b ↔ holds w m ob b := by
  cases ob with
  | deep et c ts l out =>
    cases out with
    | some _ => cases hs
    | none => exact Iff.rfl
  | _ => exact Iff.rfl

theorem boxesOk_get {h : Nat → Option OB} {js : List Nat} : ∀ {ids : List Nat}, boxesOk h js ids = true → ∀ id ∈ ids, boxOk js (h id) = true
  | i :: r, hb, id, hm => by
    simp only [boxesOk, Bool.and_eq_true] at hb
    rcases List.mem_cons.1 hm with e | hm
    · subst e; exact hb.1
    · exact boxesOk_get hb.2 id hm
theorem boxVs_get {ids : List Nat} : ∀ {l : List AV}, boxVs ids l = true → ∀ j, j < l.length → boxV ids (l.getD j .undef) = true
  | v :: r, hb, j, hj => by
    simp only [boxVs, Bool.and_eq_true] at hb
    cases j with
    | zero => exact hb.1
    | succ j => exact boxVs_get hb.2 j (by simpa using hj)
theorem boxOk_shallow {ids : List Nat} {ob : OB} (hb : boxOk ids (some ob) = true) : shallowO (renO (pos · ids) ob) = true ∧ (∀ w m b, holds w m (renO (pos · ids) ob) b ↔ holds w m ob b) := by
  cases ob with
  | cells et cs =>
    refine ⟨?_, fun _ _ _ => Iff.rfl⟩
    have : ∀ l : List AV, boxVs ids l = true → all1 (l.map (ren1 (pos · ids))) = true := fun l => by
      induction l with
      | nil => intro _; rfl
      | cons v r ih =>
        intro hb
        simp only [boxVs, Bool.and_eq_true] at hb
        simp only [List.map_cons, all1, Bool.and_eq_true]
        refine ⟨?_, ih hb.2⟩
        have h1 := hb.1
        cases v <;> first | rfl | (simp [boxV, idfree1] at h1; done) | (simpa [boxV, idfree1, ren1, shallow1] using h1)
    exact this cs hb
  | rows et c l => exact ⟨rfl, fun _ _ _ => Iff.rfl⟩
  | imap g c f => simp [boxOk] at hb
  | deep et c ts l out =>
    cases out with
    | some _ => simp [boxOk] at hb
    | none => exact ⟨rfl, fun _ _ _ => Iff.rfl⟩
theorem argsOk_get : ∀ {l : List AV}, argsOk l = true → ∀ v ∈ l, argOk v = true
  | v :: r, hb, x, hm => by
    simp only [argsOk, Bool.and_eq_true] at hb
    rcases List.mem_cons.1 hm with e | hm
    · subst e; exact hb.1
    · exact argsOk_get hb.2 x hm

theorem run_callFunc {f : FuncId} (hc : Callable P f) (args : Array Value) : (callFunc f args).run P w = .ok (.enter f args) w := by
  obtain ⟨fn, h1, h2, h3⟩ := hc
  simp only [callFunc, Sem.run_bind, run_program, Result.andThen_ok, h1, h2, h3, Bool.false_eq_true, if_false, Sem.run_pure]

theorem VRs.map {S' : SS} {μ' : MM} {vs : List AV} {xs : List Value} {g : AV → AV} (h : VRs w S μ vs xs) (hg : ∀ v x, v ∈ vs → VRel w S μ v x → VRel w S' μ' (g v) x) : VRs w S' μ' (vs.map g) xs := by
  induction h with
  | nil => exact .nil
  | cons h _ ih => exact .cons (hg _ _ (by simp) h) (ih fun v x hm hv => hg v x (by simp [hm]) hv)

/-- The heart of a call: the callee's promise, in the caller's names. -/
theorem call_core (H : HRel w S μ h) (hf : ∀ id, base ≤ id → id < base + 10 → μ id = none) {f : FuncId} {args : List AV} {xs : List Value} (hcall : Callable P f) (hv : VRs w S μ args xs)
    {ids : List Nat} (hids : ids = callIds h args) {args' : List AV} (hargs : args' = args.map fun v => ren1 (pos · ids) (lend (without h ids) v)) {h' : Nat → Option OB} (hh' : h' = subH h ids) (hok : argsOk args' = true) (hbox : boxesOk h ids ids = true) (hdis : ∀ v ∈ args, ∀ id, id ∈ capIds v → id ∉ ids) {R : AV → List (Nat × OB) → Prop} (hR : ∀ r u, R r u → shallow r = true ∧ keysOk ids.length u = true) (hlen : ids.length ≤ 100) (hM : Meets P f (args'.map nrm) h' R)
    {o : Oper} {a : Act} {K : Act → World → Prop} {Q : Exit → Act → World → Prop} (hrun : (execOp a.eval o).run P w = .ok (.enter f xs.toArray) w)
    (hK : ∀ r u, R r u → ∀ x w', Out w S μ h base (ren (back ids base) r) (u.map fun p => (back ids base p.1, some (renO (back ids base) p.2))) w' x → K (a.put o.dst x) w') : o.wp P a w K Q := by
  have nd : ids.Nodup := hids ▸ nub_nodup _
  have hW : ∀ i, without h ids i ≠ none → i ∉ ids ∧ without h ids i = h i := fun i hi => by
    by_cases e : memN i ids = true
    · simp [without, e] at hi
    · refine ⟨fun hm => e (memN_iff.2 hm), ?_⟩
      simp only [Bool.not_eq_true] at e
      simp [without, e]
  have HW : HRel w S μ (without h ids) := H.sub fun i o hi => by rw [← (hW i (by rw [hi]; simp)).2]; exact hi
  -- the callee's names
  let μc : MM := fun i => match ids[i]? with
    | some id => μ id
    | none => none
  have mc : ∀ i id, ids[i]? = some id → μc i = μ id := fun i id hi => by simp only [μc, hi]
  have mc0 : ∀ i, ids.length ≤ i → μc i = none := fun i hi => by simp only [μc, List.getElem?_eq_none hi]
  have hc : ∀ i ob', h' i = some ob' → ∃ id ob, ids[i]? = some id ∧ h id = some ob ∧ ob' = renO (pos · ids) ob ∧ boxOk ids (some ob) = true := fun i ob' hi => by
    rw [hh'] at hi
    simp only [subH] at hi
    split at hi
    · rename_i id hid
      split at hi
      · rename_i ob hob
        refine ⟨id, ob, hid, hob, (Option.some.inj hi).symm, ?_⟩
        rw [← hob]
        exact boxesOk_get hbox id (List.mem_of_getElem? hid)
      · cases hi
    · cases hi
  have idx : ∀ i j id, ids[i]? = some id → ids[j]? = some id → i = j := fun i j id hi hj => by
    have h1 := (List.getElem?_eq_some_iff.1 hi).1
    exact (List.getElem?_inj h1 nd).1 (hi.trans hj.symm)
  -- what the callee has of its own
  have heldC : ∀ i ob' m b, h' i = some ob' → μc i = some m → holds w m ob' b → ∃ id ob, ids[i]? = some id ∧ h id = some ob ∧ μ id = some m ∧ holds w m ob b := fun i ob' m b hi hm hb => by
    obtain ⟨id, ob, g1, g2, g3, g4⟩ := hc i ob' hi
    subst g3
    rw [mc i id g1] at hm
    exact ⟨id, ob, g1, g2, hm, ((boxOk_shallow g4).2 w m b).1 hb⟩
  -- nothing that is fixed is the callee's own
  have notpassed : ∀ p b, S p b → ∀ i ob' m, h' i = some ob' → μc i = some m → ¬ holds w m ob' b := fun p b hs i ob' m hi hm hb => by
    obtain ⟨id, ob, g1, g2, g3, g4⟩ := heldC i ob' m b hi hm hb
    exact H.sepH id ob m b p g2 g3 g4 hs
  have hSZ : ∀ p b, S p b → ZL w (S true) μc h' p b := fun p b hs => by
    cases p
    · exact ⟨H.bd false b hs, notpassed false b hs⟩
    · exact hs
  have fsub : ∀ b, S false b → ZL w (S true) μc h' false b := fun b hs => ⟨H.bd false b hs, notpassed false b hs⟩
  have own_in : ∀ id ob et cs, id ∈ ids → h id = some ob → ob = .cells et cs → ∀ j, j < cs.length → ∀ i c, cs.getD j .undef = .own i c → i ∈ ids := fun id ob et cs hid hob e j hj i c hv => by
    have hbo := boxesOk_get hbox id hid
    rw [hob, e] at hbo
    have := boxVs_get hbo j hj
    rw [hv] at this
    exact memN_iff.1 this
  have HC : HRel w (ZL w (S true) μc h') μc h' := by
    refine ⟨fun i ob' hi => ?_, fun i j oi oj mi mj b hi hj hmi hmj hbi hbj => ?_, fun i ob' m b p hi hm hb hs => ?_, fun p b hs => ?_⟩
    · obtain ⟨id, ob, g1, g2, rfl, g4⟩ := hc i ob' hi
      obtain ⟨m, hm, hB⟩ := H.blk id ob g2
      refine ⟨m, by rw [mc i id g1]; exact hm, ?_⟩
      cases ob with
      | rows et c l =>
        obtain ⟨k0, k1, k2⟩ := hB
        refine ⟨k0, k1, ?_⟩
        rcases k2 with k2 | ⟨b, cur, k2, k3, k4, k5, k6, k7⟩
        · exact .inl k2
        · exact .inr ⟨b, cur, k2, k3, k4, k5, k6, fun i hi j hj => enc_free hj ((k7 i hi j hj).weaken hSZ fun _ _ h => h) μc⟩
      | imap g c f => simp [boxOk] at g4
      | deep et c ts l out =>
        cases out with
        | some _ => simp [boxOk] at g4
        | none =>
        obtain ⟨k0, k1, k2⟩ := hB
        refine ⟨k0, k1, ?_⟩
        rcases k2 with k2 | ⟨b, cur, k2, k3, k4, k5, k6, k7, k8⟩
        · exact .inl k2
        · refine .inr ⟨b, cur, k2, k3, k4, k5, k6, fun i hi j hj => ?_, k8⟩
          rcases k7 i hi j hj with ⟨a1, _⟩ | ⟨a1, a2⟩
          · simp [outAt] at a1
          · exact .inr ⟨a1, DC.weak (fun b hb => hSZ true b hb) a2 hj⟩
      | cells et cs =>
        obtain ⟨b, cur, k1, k2, k3, k4⟩ := hB
        refine ⟨b, cur, k1, k2, by simpa using k3, fun j hj => ?_⟩
        have hj' : j < cs.length := by simpa using hj
        have e : (cs.map (ren1 (pos · ids))).getD j .undef = ren1 (pos · ids) (cs.getD j .undef) := by simp [List.getD_eq_getElem?_getD, hj']
        rw [e]
        have hv := k4 j hj'
        have hbv := boxVs_get g4 j hj'
        have hin := own_in id _ et cs (List.mem_of_getElem? g1) g2 rfl j hj'
        generalize cur.getD j Go.undef = xv at hv ⊢
        generalize cs.getD j .undef = v at hv hbv hin ⊢
        have plain : idfree1 v = true → ren1 (pos · ids) v = v → VRel w (ZL w (S true) μc h') μc (ren1 (pos · ids) v) xv := fun h1 h2 => by
          rw [h2]; exact free1 h1 (hv.weaken hSZ fun _ _ h => h) μc
        cases v
        case own i' c' =>
          have hm' := hin i' c' rfl
          obtain ⟨p1, p2⟩ := pos_get hm'
          have : μc (pos i' ids) = μ i' := mc _ i' p1
          cases hv with
          | own hm hb => exact .own (by rw [this]; exact hm) hb
          | own0 q hm h0 => exact .own0 q (by rw [this]; exact hm) h0
        all_goals first
          | exact plain hbv rfl
          | (simp [boxV, idfree1] at hbv; done)
    · obtain ⟨id, ob, g1, g2, g3, g4⟩ := heldC i oi mi b hi hmi hbi
      obtain ⟨jd, ob2, k1, k2, k3, k4⟩ := heldC j oj mj b hj hmj hbj
      have := H.injH id jd ob ob2 mi mj b g2 k2 g3 k3 g4 k4
      subst this
      exact idx i j id g1 k1
    · cases p
      · exact hs.2 i ob' m hi hm hb
      · obtain ⟨id, ob, g1, g2, g3, g4⟩ := heldC i ob' m b hi hm hb
        exact H.sepH id ob m b true g2 g3 g4 hs
    · cases p
      · exact hs.1
      · exact H.bd true b hs
  have oldZ : ∀ id : Nat, (∀ i : Nat, ids[i]? ≠ some id) → ∀ ob m b, h id = some ob → μ id = some m → holds w m ob b → ZL w (S true) μc h' false b := fun id hn ob m b hob hm hb => by
    refine ⟨?_, fun i ob' m' hi hm' hb' => ?_⟩
    · obtain ⟨m2, hm2, hB⟩ := H.blk id ob hob
      rw [hm] at hm2; cases hm2
      exact hB.ltH hb
    · obtain ⟨jd, ob2, k1, k2, k3, k4⟩ := heldC i ob' m' b hi hm' hb'
      have := H.injH id jd ob ob2 m m' b hob k2 hm k3 hb k4
      subst this
      exact hn i k1
  have notin : ∀ id, id ∉ ids → ∀ i : Nat, ids[i]? ≠ some id := fun id hn i hi => hn (List.mem_of_getElem? hi)
  have hvc : VRs w (ZL w (S true) μc h') μc args' xs := by
    rw [hargs]
    have lentZ : ∀ id ob, without h ids id = some ob → ∀ m b, μ id = some m → m.b = some b → ZL w (S true) μc h' false b := fun id ob hid m b hm hb => by
      obtain ⟨g1, g2⟩ := hW id (by rw [hid]; simp)
      exact oldZ id (notin id g1) ob m b (by rw [← g2]; exact hid) hm (.inl hb)
    refine hv.map fun v x hm hx => arg_rel HW hSZ (fun id et c l hh m b hm' hb => lentZ id _ hh m b hm' hb) (fun id g c f hh m b hm' hb => lentZ id _ hh m b hm' hb) (fun id et cs hh hni m b hm' hb => lentZ id _ hh m b hm' hb) (fun id hid => ?_) (fun id hid => ?_) (hdis v hm) ?_ hx
    · exact mc _ id (pos_get hid).1
    · rw [hids]
      exact nub_mem.2 (List.mem_append_left _ (List.mem_flatMap.2 ⟨v, hm, hid⟩))
    · exact argsOk_get hok _ (by rw [hargs]; exact List.mem_map.2 ⟨v, hm, rfl⟩)
  have hZZ : ∀ b, S true b → ZL w (S true) μc h' false b := fun b hs => ⟨H.bd true b hs, notpassed true b hs⟩
  have hC := hM w (S true) μc xs (fun i hi => mc0 i (by omega)) hZZ HC (hvc.map fun v x _ hx => nrm_rel hx)
  unfold Oper.wp
  rw [hrun, Oper.upon_enter]
  refine hC.mono fun e w' hE => ?_
  obtain ⟨r, u, v, S', μ', hRr, rfl, E, hr, Hr, hsepF, hfr⟩ := hE
  simp only
  refine hK r u hRr v w' ?_
  obtain ⟨hsh, hko⟩ := hR r u hRr
  simp only [keysOk, Bool.and_eq_true] at hko
  -- the caller's names behind the call
  let μ'' : MM := fun id => match μ id with
    | some m => some m
    | none => if base ≤ id ∧ id < base + 10 then μ' (100 + (id - base)) else none
  have m2 : ∀ id m, μ id = some m → μ'' id = some m := fun id m hm => by simp only [μ'', hm]
  have bk : ∀ (i id : Nat), ids[i]? = some id → back ids base i = id := fun i id hi => by
    have hlt : i < ids.length := (List.getElem?_eq_some_iff.1 hi).1
    have : Nat.blt i 100 = true := Nat.ble_eq_true_of_le (show i + 1 ≤ 100 by omega)
    simp only [back, this, cond_true, List.getD_eq_getElem?_getD, hi, Option.getD_some]
  have bk2 : ∀ i, 100 ≤ i → back ids base i = base + (i - 100) := fun i hi => by
    have : Nat.blt i 100 = false := by
      apply Bool.eq_false_iff.2
      intro e
      have : i + 1 ≤ 100 := Nat.le_of_ble_eq_true e
      omega
    simp only [back, this, cond_false]
  have hμ : ∀ i m, μ' i = some m → μ'' (back ids base i) = some m := fun i m hm => by
    rcases hfr i (by rw [hm]; simp) with h1 | ⟨h1, h2⟩
    · cases e : ids[i]? with
      | none => simp only [μc, e] at h1; exact absurd rfl h1
      | some id =>
        cases e2 : μ id with
        | none => rw [mc i id e, e2] at h1; exact absurd rfl h1
        | some m' =>
          have := E.ext i m' (by rw [mc i id e]; exact e2)
          rw [hm] at this; cases this
          rw [bk i id e]
          exact m2 id m e2
    · rw [bk2 i h1]
      have hn := hf (base + (i - 100)) (by omega) (by omega)
      have e1 : base ≤ base + (i - 100) ∧ base + (i - 100) < base + 10 := by omega
      have e2 : 100 + (base + (i - 100) - base) = i := by omega
      simp only [μ'', hn, if_pos e1, e2, hm]
  let S'' : SS := fun p b => if p then S' true b else S false b
  have hSS : ∀ p b, trS S' p b → S'' p b := fun p b hs => by
    obtain ⟨rfl, hs⟩ := hs
    exact hs
  have zf : ∀ b, ZL w (S true) μc h' false b → S' false b := fun b hb => (E.fls b).2 hb
  have E'' : Evo w S μ w' S'' μ'' := by
    refine ⟨E.os, E.tape, E.output, E.size, fun p b hs => E.keep p b (hSZ p b hs), fun b => Iff.rfl, fun b hs => E.tru b hs, fun b hs => ?_, m2⟩
    rcases E.trn b hs with h1 | h1
    · exact .inl h1
    · exact .inr fun h2 => h1 (fsub b h2)
  have binj : ∀ i j : Nat, (i < ids.length ∨ (100 ≤ i ∧ i < 110)) → (j < ids.length ∨ (100 ≤ j ∧ j < 110)) → (∀ id : Nat, ids[i]? = some id → ∃ ob, h id = some ob) → (∀ id : Nat, ids[j]? = some id → ∃ ob, h id = some ob) → back ids base i = back ids base j → i = j := fun i j hi hj li lj he => by
    have lo : ∀ (i id : Nat), ids[i]? = some id → (∃ ob, h id = some ob) → μ id ≠ none := fun i id hi ⟨ob, hob⟩ => by
      obtain ⟨m, hm, _⟩ := H.blk id ob hob
      rw [hm]; simp
    by_cases ci : i < ids.length <;> by_cases cj : j < ids.length
    · have e1 := List.getElem?_eq_getElem ci
      have e2 := List.getElem?_eq_getElem cj
      rw [bk i _ e1, bk j _ e2] at he
      exact idx i j _ e1 (he ▸ e2)
    · have e1 := List.getElem?_eq_getElem ci
      rw [bk i _ e1, bk2 j (by omega)] at he
      have h1 := lo i _ e1 (li _ e1)
      rw [he, hf _ (by omega) (by omega)] at h1
      exact absurd rfl h1
    · have e2 := List.getElem?_eq_getElem cj
      rw [bk j _ e2, bk2 i (by omega)] at he
      have h1 := lo j _ e2 (lj _ e2)
      rw [← he, hf _ (by omega) (by omega)] at h1
      exact absurd rfl h1
    · rw [bk2 i (by omega), bk2 j (by omega)] at he
      omega
  have alive : ∀ (i id : Nat), ids[i]? = some id → ∃ ob, h id = some ob := fun i id hi => by
    have hbo := boxesOk_get hbox id (List.mem_of_getElem? hi)
    cases e : h id with
    | none => rw [e] at hbo; simp [boxOk] at hbo
    | some ob => exact ⟨ob, rfl⟩
  have uinj : ∀ i j oi oj, (i, oi) ∈ u → (j, oj) ∈ u → back ids base i = back ids base j → i = j := fun i j oi oj hi hj he =>
    binj i j (keysIn_spec hko.1.2 i oi hi).1 (keysIn_spec hko.1.2 j oj hj).1 (alive i) (alive j) he
  have hcs := updH_map (g := renO (back ids base)) uinj hko.1.2 h
  -- old blocks that are not passed stay
  have oldkey : ∀ id : Nat, (∀ i ob, (i, ob) ∈ u → back ids base i ≠ id) → ∀ i : Nat, ids[i]? ≠ some id := fun id hn i hi => by
    have hlt : i < ids.length := (List.getElem?_eq_some_iff.1 hi).1
    obtain ⟨ob, hob⟩ := hasKey_iff.1 (keysAll_spec hko.2 i hlt)
    exact hn i ob hob (bk i id hi)
  have newm : ∀ i ob, (i, ob) ∈ u → ∃ m, μ' i = some m ∧ BOk w' (trS S') μ' m ob ∧ μ'' (back ids base i) = some m := fun i ob hi => by
    have h1 := heapOf_mem hko.1.2 i ob hi
    obtain ⟨m, hm, hB⟩ := Hr.blk i ob h1
    exact ⟨m, hm, hB, hμ i m hm⟩
  -- which kind of block
  have kind : ∀ id o, updH h (u.map fun p => (back ids base p.1, some (renO (back ids base) p.2))) id = some o → (∃ i ob m, o = renO (back ids base) ob ∧ back ids base i = id ∧ heapOf u i = some ob ∧ μ' i = some m ∧ μ'' id = some m ∧ shallowO ob = true ∧ BOk w' (trS S') μ' m ob) ∨ ((∀ i : Nat, ids[i]? ≠ some id) ∧ h id = some o ∧ ∃ m, μ id = some m ∧ μ'' id = some m) := fun id o hid => by
    rcases hcs id with ⟨i, ob, h1, h2, h3⟩ | ⟨h1, h2⟩
    · obtain ⟨m, hm, hB, hm2⟩ := newm i ob h1
      rw [h3] at hid; cases hid
      exact .inl ⟨i, ob, m, rfl, h2, heapOf_mem hko.1.2 i ob h1, hm, h2 ▸ hm2, (keysIn_spec hko.1.2 i ob h1).2, hB⟩
    · rw [h2] at hid
      obtain ⟨m, hm, _⟩ := H.blk id o hid
      exact .inr ⟨oldkey id h1, hid, m, hm, m2 id m hm⟩
  have newsep : ∀ i o m b, heapOf u i = some o → μ' i = some m → holds w' m o b → ¬ ZL w (S true) μc h' false b := fun i o m b hi hm hb hz => hsepF i o m b hi hm hb (zf b hz)
  have oldsame : ∀ id o m, (∀ i : Nat, ids[i]? ≠ some id) → h id = some o → μ id = some m → ∀ b, holds w m o b → w'.heap[b]? = w.heap[b]? := fun id o m hn ho hm b hb => E.keep false b (oldZ id hn o m b ho hm hb)
  have oldheld : ∀ id o m b, (∀ i : Nat, ids[i]? ≠ some id) → h id = some o → μ id = some m → holds w' m o b → holds w m o b := fun id o m b hn ho hm hb => (holds_same (fun b hb => oldsame id o m hn ho hm b (.inl hb)) b).1 hb
  refine ⟨S'', μ'', E'', ?_, H.updH' E'' ?_ ?_ ?_ ?_, fun id hne => ?_⟩
  · unfold ren
    unfold shallow at hsh
    cases r
    case tup l =>
      obtain ⟨vs, hl, hrel, rfl⟩ := hr.tup_inv
      refine .tup (by simpa using hl) fun i hi => ?_
      have hi' : i < l.length := by simpa using hi
      have e : ∀ g : AV → AV, (l.map g).getD i .undef = g (l.getD i .undef) := fun g => by simp [List.getD_eq_getElem?_getD, hi']
      rw [e]
      exact ren2_rel hSS hμ (all2_get hsh i hi') (hrel i hi')
    all_goals exact ren2_rel hSS hμ hsh hr
  · intro id ob hob
    rcases kind id ob hob with ⟨i, ob', m, rfl, k2, k3, k4, k5, k6, k7⟩ | ⟨k1, k2, m, k3, k4⟩
    · exact .inr ⟨m, k5, renO_ok hSS hμ k6 k7⟩
    · exact .inl ⟨k2, fun m' b hm' hb => oldsame id ob m' k1 k2 hm' b hb⟩
  · intro i j oi oj mi mj b hi hj hmi hmj hbi hbj
    rcases kind i oi hi with ⟨i', ob, m, rfl, k2, k3, k4, k5, k6, k7⟩ | ⟨k1, k2, m, k3, k4⟩ <;> rcases kind j oj hj with ⟨j', ob', m', rfl, l2, l3, l4, l5, l6, l7⟩ | ⟨l1, l2, m', l3, l4⟩
    · rw [hmi] at k5; cases k5
      rw [hmj] at l5; cases l5
      have := Hr.injH i' j' ob ob' mi mj b k3 l3 k4 l4 ((holds_renO k6 b).1 hbi) ((holds_renO l6 b).1 hbj)
      subst this
      exact k2.symm.trans l2
    · rw [hmi] at k5; cases k5
      rw [hmj] at l4; cases l4
      exact absurd (oldZ j l1 oj mj b l2 l3 (oldheld j oj mj b l1 l2 l3 hbj)) (newsep i' ob mi b k3 k4 ((holds_renO k6 b).1 hbi))
    · rw [hmi] at k4; cases k4
      rw [hmj] at l5; cases l5
      exact absurd (oldZ i k1 oi mi b k2 k3 (oldheld i oi mi b k1 k2 k3 hbi)) (newsep j' ob' mj b l3 l4 ((holds_renO l6 b).1 hbj))
    · rw [hmi] at k4; cases k4
      rw [hmj] at l4; cases l4
      exact H.injH i j oi oj mi mj b k2 l2 k3 l3 (oldheld i oi mi b k1 k2 k3 hbi) (oldheld j oj mj b l1 l2 l3 hbj)
  · intro i o mi b p hi hmi hb hs
    rcases kind i o hi with ⟨i', ob, m, rfl, k2, k3, k4, k5, k6, k7⟩ | ⟨k1, k2, m, k3, k4⟩
    · rw [hmi] at k5; cases k5
      have hb' := (holds_renO k6 b).1 hb
      cases p
      · exact newsep i' ob mi b k3 k4 hb' (fsub b hs)
      · exact Hr.sepH i' ob mi b true k3 k4 hb' ⟨rfl, hs⟩
    · rw [hmi] at k4; cases k4
      have hb' := oldheld i o mi b k1 k2 k3 hb
      cases p
      · exact H.sepH i o mi b false k2 k3 hb' hs
      · rcases E.trn b hs with h1 | h1
        · exact H.sepH i o mi b true k2 k3 hb' h1
        · exact h1 (oldZ i k1 o mi b k2 k3 hb')
  · intro p b hs
    cases p
    · exact Nat.lt_of_lt_of_le (H.bd false b hs) E.size
    · exact Hr.bd true b ⟨rfl, hs⟩
  · cases e : μ id with
    | some m => exact .inl (by simp)
    | none =>
      right
      simp only [μ'', e] at hne
      by_cases c : base ≤ id ∧ id < base + 10
      · exact c
      · rw [if_neg c] at hne; exact absurd rfl hne

theorem ok_callA {spec : FuncId → Option Spec} (henv : ∀ f s, spec f = some s → Callable P f ∧ Valid P f s) (H : HRel w S μ h) (hf : ∀ id, base ≤ id → id < base + 10 → μ id = none) {fid : Nat} {args : List AV} {xs : List Value}
    (hv : VRs w S μ args xs) (hrun : Callable P fid → (execOp a.eval o).run P w = .ok (.enter fid xs.toArray) w) : DescOK P a o w S μ h base (callA spec h base fid args) := by
  unfold callA
  simp only
  by_cases hok : (argsOk (args.map fun v => ren1 (fun x => pos x (callIds h args)) (lend (without h (callIds h args)) v)) && (boxesOk h (callIds h args) (callIds h args) && disj (args.flatMap capIds) (callIds h args)) && Nat.ble (callIds h args).length 100) = true
  case neg => simp only [hok, cond_false]; trivial
  simp only [hok, cond_true]
  simp only [Bool.and_eq_true] at hok
  have hlen : (callIds h args).length ≤ 100 := Nat.le_of_ble_eq_true hok.2
  have hdis : ∀ v ∈ args, ∀ id, id ∈ capIds v → id ∉ callIds h args := fun v hv id hid hm => by
    have := (List.all_eq_true.1 hok.1.2.2) id (List.mem_flatMap.2 ⟨v, hv, hid⟩)
    rw [memN_iff.2 hm] at this
    cases this
  split
  · rename_i s hs
    obtain ⟨hcl, hval⟩ := henv _ _ hs
    split
    · rename_i x hinst
      by_cases hk : (shallow (s.res x) && keysOk (callIds h args).length (s.upd x)) = true
      case neg => simp only [hk, cond_false]; trivial
      simp only [hk, cond_true]
      simp only [Bool.and_eq_true] at hk
      intro hp K Q hK
      have hpre : s.pre x := hp _ (by simp)
      exact call_core H hf hcl hv rfl rfl rfl hok.1.1 hok.1.2.1 hdis (R := fun r u => r = s.res x ∧ u = s.upd x) (fun r u ⟨h1, h2⟩ => by rw [h1, h2]; exact hk) hlen (hval _ _ x hinst hpre) (hrun hcl) (fun r u ⟨h1, h2⟩ x w' hO => by subst h1 h2; exact hK x w' hO)
    · trivial
  · rename_i s hs
    obtain ⟨hcl, hval⟩ := henv _ _ hs
    split
    · rename_i x hinst
      intro hp K Q hK
      have hpre : s.pre x := hp _ (by simp)
      have hk : ∀ y, (shallow (s.res x y) && keysOk (callIds h args).length (s.upd x y)) = true := hp _ (by simp)
      exact call_core H hf hcl hv rfl rfl rfl hok.1.1 hok.1.2.1 hdis (R := fun r u => ∃ y, s.post x y ∧ r = s.res x y ∧ u = s.upd x y) (fun r u ⟨y, _, h1, h2⟩ => by rw [h1, h2]; simpa using hk y) hlen (hval _ _ x hinst hpre) (hrun hcl) (fun r u ⟨y, hy, h1, h2⟩ x w' hO => by subst h1 h2; exact hK y hy x w' hO)
    · trivial
  · trivial
theorem fzOwn_spec : ∀ {args : List AV}, (∀ id ∈ (fzOwn h args).2, h id ≠ none) ∧ ∀ (w : World) (S : SS) (μ : MM) (xs : List Value) (S' : SS), HRel w S μ h → VRs w S μ args xs → Evo w S μ w S' μ → (∀ id ∈ (fzOwn h args).2, ∀ m b, μ id = some m → m.b = some b → S' true b) → VRs w S' μ (fzOwn h args).1 xs
  | [] => ⟨fun id hid => (by simp [fzOwn] at hid), fun w S μ xs S' H hx E _ => hx.evo E⟩
  | v :: r => by
    have ih := fzOwn_spec (args := r)
    have one : (∀ id ∈ (fzOwn1 h v).2, h id ≠ none) ∧ ∀ (w : World) (S : SS) (μ : MM) (x : Value) (S' : SS), HRel w S μ h → VRel w S μ v x → Evo w S μ w S' μ → (∀ id ∈ (fzOwn1 h v).2, ∀ m b, μ id = some m → m.b = some b → S' true b) → VRel w S' μ (fzOwn1 h v).1 x := by
      unfold fzOwn1
      split
      · rename_i id c
        split
        · rename_i r hr
          exact fz1_spec hr
        · exact ⟨fun id hid => (by simp at hid), fun w S μ x S' _ hx E _ => hx.evo E⟩
      · exact ⟨fun id hid => (by simp at hid), fun w S μ x S' _ hx E _ => hx.evo E⟩
    refine ⟨fun id hid => ?_, fun w S μ xs S' H hx E hs => ?_⟩
    · simp only [fzOwn, List.flatMap_cons, List.mem_append] at hid
      rcases hid with hid | hid
      · exact one.1 id hid
      · exact ih.1 id hid
    · cases hx with
      | cons hv hr =>
        exact .cons (one.2 w S μ _ S' H hv E fun id hid => hs id (by simp only [fzOwn, List.flatMap_cons, List.mem_append]; exact .inl hid)) (ih.2 w S μ _ S' H hr E fun id hid => hs id (by simp only [fzOwn, List.flatMap_cons, List.mem_append]; exact .inr hid))
theorem ok_preU {S1 : SS} {g : List Nat} {d : Desc} (E1 : Evo w S μ w S1 μ) (hd : DescOK P a o w S1 μ (updH h (g.map (·, none))) base d) : DescOK P a o w S μ h base (preU g d) := by
  have out : ∀ {v : AV} {u : Upd} {w' : World} {x : Value}, Out w S1 μ (updH h (g.map (·, none))) base v u w' x → Out w S μ h base v (g.map (·, none) ++ u) w' x := fun ⟨S', μ', e, hv, hr, hf⟩ =>
    ⟨S', μ', E1.trans e, hv, by rw [updH_append]; exact hr, hf⟩
  cases d with
  | det pre v u => exact fun hp K Q hK => hd hp K Q fun x w' hO => hK x w' (out hO)
  | dem pre Y post v u wr => exact fun hp K Q hK => hd hp K Q fun y hy x w' hO => hK y hy x w' (out hO)
  | bad w => trivial
theorem ok_callG {spec : FuncId → Option Spec} (henv : ∀ f s, spec f = some s → Callable P f ∧ Valid P f s) (H : HRel w S μ h) (hf : ∀ id, base ≤ id → id < base + 10 → μ id = none) {fid : Nat} {args : List AV} {xs : List Value}
    (hv : VRs w S μ args xs) (hrun : Callable P fid → (execOp a.eval o).run P w = .ok (.enter fid xs.toArray) w) : DescOK P a o w S μ h base (callG spec h base fid args) := by
  unfold callG
  by_cases hb : (isBad (callA spec h base fid args) && !(fzOwn h args).2.isEmpty) = true
  · rw [hb, cond_true]
    obtain ⟨g1, g2⟩ := fzOwn_spec (h := h) (args := args)
    obtain ⟨E1, H1⟩ := frz_evo H g1
    exact ok_preU E1 (ok_callA henv H1 hf (g2 w S μ xs _ H hv E1 frz_has) hrun)
  · simp only [Bool.not_eq_true] at hb
    rw [hb, cond_false]
    exact ok_callA henv H hf hv hrun
theorem ok_callF {spec : FuncId → Option Spec} (henv : ∀ f s, spec f = some s → Callable P f ∧ Valid P f s) (H : HRel w S μ h) (hf : ∀ id, base ≤ id → id < base + 10 → μ id = none) {c : Call} {fo : Operand} {fid : Nat} {fa fb : List AV} {vargs : List AV} (ho : o.op = .call c) (hc : c.callee = .value fo)
    (hvf : VRel w S μ (.fn (.func fid) fa fb) (a.eval fo)) (hva : VRs w S μ vargs (c.args.toList.map a.eval)) : DescOK P a o w S μ h base (bif allL fa && allL fb then callG spec h base fid (fa ++ vargs ++ fb) else .bad "call captured") := by
  obtain ⟨xa, xb, hla, hra, hlb, hrb, hx⟩ : ∃ (xa xb : Array Value), fa.length = xa.size ∧ (∀ i, i < fa.length → VRel w S μ (fa.getD i .undef) (xa.getD i Go.undef)) ∧ fb.length = xb.size ∧ (∀ i, i < fb.length → VRel w S μ (fb.getD i .undef) (xb.getD i Go.undef)) ∧ a.eval fo = .func (.func fid) xa xb := by
    cases hx : a.eval fo <;> (rw [hx] at hvf; cases hvf)
    exact ⟨_, _, by assumption, by assumption, by assumption, by assumption, rfl⟩
  have toVRs : ∀ {l : List AV} {x : Array Value}, l.length = x.size → (∀ i, i < l.length → VRel w S μ (l.getD i .undef) (x.getD i Go.undef)) → VRs w S μ l x.toList := fun {l x} h1 h2 => VRs.of (by simpa using h1) fun i hi => by
    have := h2 i hi
    have hi' : i < x.size := by omega
    simpa [List.getD_eq_getElem?_getD, Array.getD, hi'] using this
  have hv : VRs w S μ (fa ++ vargs ++ fb) (xa.toList ++ c.args.toList.map a.eval ++ xb.toList) := ((toVRs hla hra).append hva).append (toVRs hlb hrb)
  have hrun : Callable P fid → (execOp a.eval o).run P w = .ok (.enter fid (xa.toList ++ c.args.toList.map a.eval ++ xb.toList).toArray) w := fun hcl => by
    have e : (xa.toList ++ c.args.toList.map a.eval ++ xb.toList).toArray = xa ++ c.args.map a.eval ++ xb := by
      apply Array.ext'
      simp
    rw [e]
    simp only [execOp, ho, Sem.run_bind, resolve, hc, hx, Deferred.ofValue, Sem.run_pure, Result.andThen_ok, invoke, run_callFunc hcl]
  by_cases hcap : (allL fa && allL fb) = true
  case neg => simp only [hcap, cond_false]; trivial
  simp only [hcap, cond_true]
  exact ok_callG henv H hf hv hrun
theorem selP_spec {cd : Nat → Desc} {i : Int} : ∀ {fs : List (Option Nat)} {k : Nat} {ps : List Prop} {bs : List Bool}, selP cd i k fs = some (ps, bs) → (∀ p ∈ ps, p) → (k : Int) ≤ i → i < k + fs.length →
    ∃ f pre b, fs[(i - k).toNat]? = some (some f) ∧ cd f = .det pre (.bool b) [] ∧ (∀ p ∈ pre, p) ∧ bs.getD (i - k).toNat false = b
  | [], k, ps, bs, hs, hp, h1, h2 => by simp at h2; omega
  | none :: r, k, ps, bs, hs, hp, h1, h2 => by
    simp only [selP] at hs
    split at hs
    · rename_i ps' bs' hr
      simp only [Option.some.injEq, Prod.mk.injEq] at hs
      obtain ⟨rfl, rfl⟩ := hs
      have hne : ¬ i = k := hp _ (by simp)
      obtain ⟨f, pre, b, g1, g2, g3, g4⟩ := selP_spec hr (fun p hm => hp p (by simp [hm])) (by omega) (by simp at h2; omega)
      have e : (i - k).toNat = (i - (k + 1 : Nat)).toNat + 1 := by omega
      exact ⟨f, pre, b, by rw [e]; simpa using g1, g2, g3, by rw [e]; simpa using g4⟩
    · cases hs
  | some f :: r, k, ps, bs, hs, hp, h1, h2 => by
    simp only [selP] at hs
    split at hs
    · rename_i pre b ps' bs' hd hr
      simp only [Option.some.injEq, Prod.mk.injEq] at hs
      obtain ⟨rfl, rfl⟩ := hs
      by_cases e : i = k
      · refine ⟨f, pre, b, by simp [e], hd, fun p hm => ?_, by simp [e]⟩
        exact hp (i = k → p) (by simp only [List.mem_append, List.mem_map]; exact .inl ⟨p, hm, rfl⟩) e
      · obtain ⟨f', pre', b', g1, g2, g3, g4⟩ := selP_spec hr (fun p hm => hp p (by simp [hm])) (by omega) (by simp at h2; omega)
        have e2 : (i - k).toNat = (i - (k + 1 : Nat)).toNat + 1 := by omega
        exact ⟨f', pre', b', by rw [e2]; simpa using g1, g2, g3, by rw [e2]; simpa using g4⟩
    · cases hs

theorem ok_call {spec : FuncId → Option Spec} (henv : ∀ f s, spec f = some s → Callable P f ∧ Valid P f s) (H : HRel w S μ h) (hf : ∀ id, base ≤ id → id < base + 10 → μ id = none) {c : Call} {fo : Operand} {vf : AV} {vargs : List AV} (ho : o.op = .call c) (hc : c.callee = .value fo)
    (hvf : VRel w S μ vf (a.eval fo)) (hva : VRs w S μ vargs (c.args.toList.map a.eval)) : DescOK P a o w S μ h base (callV spec h base vargs vf) := by
  unfold callV
  split
  · exact ok_callF henv H hf ho hc hvf hva
  · rename_i i fs
    split
    · rename_i ps bs hs
      intro hp K Q hK
      have hi : 0 ≤ i ∧ i < (fs.length : Nat) := hp _ (by simp)
      obtain ⟨f, pre, b, g1, g2, g3, g4⟩ := selP_spec hs (fun p hm => hp p (by simp [hm])) (by omega) (by omega)
      have e0 : (i - ((0 : Nat) : Int)).toNat = i.toNat := by omega
      rw [e0] at g1 g4
      have hfo : a.eval fo = .func (.func f) #[] #[] := by
        cases hvf with
        | sel hh => exact hh f g1
      have hfn : VRel w S μ (.fn (.func f) [] []) (a.eval fo) := by
        rw [hfo]
        exact .fn (by simp) (fun i hi => (by simp at hi)) (by simp) (fun i hi => (by simp at hi))
      have hok := ok_callF henv H hf ho hc hfn hva
      simp only [allL, Bool.and_self, cond_true, List.nil_append, List.append_nil, callG, g2, isBad, Bool.false_and, cond_false] at hok
      rw [g4] at hK
      exact hok g3 K Q hK
    · trivial
  · trivial
end
end Go.Proofs.Ytemffnpliflkgaa
