/-
  Lemmas and contracts on the way to the laws of this seat; each theorem states its own conditions, and there are no others.
-/
import Derived.Test.YtemffnpliflkgaaE13
import Derived.MapKept
import Derived.Laws.IdiomStrings
import Derived.Carry
import Derived.Laws.IdiomCopy
namespace Go.Proofs.Ytemffnpliflkgaa
open Go Go.MapKept
set_option linter.unusedVariables false
set_option linter.unusedSimpArgs false
section
variable {P : Program} {a : Act} {o : Oper} {w : World} {S : SS} {μ : MM} {h : Nat → Option OB} {base : Nat}

/-- Where a map's entry with a number lies. -/
def mapIdx : List MapEntry → Int → Option (Nat × Value)
  | [], _ => none
  | e :: r, k => bif keyIs k e.key then some (0, e.val) else (mapIdx r k).map fun p => (p.1 + 1, p.2)
theorem mapGet_idx : ∀ (l : List MapEntry) (k : Int), mapGet l k = (mapIdx l k).map (·.2)
  | [], _ => rfl
  | e :: r, k => by
    simp only [mapGet, mapIdx]
    cases keyIs k e.key
    · simp only [cond_false, mapGet_idx r k, Option.map_map]; rfl
    · rfl
theorem keyIs_int {n k : Int} {v : Value} (hv : v = .int .i64 n) : keyIs k v = decide (n = k) := by subst hv; rfl
theorem findNow_int (q : IntKind) (k : Int) : ∀ (l : List MapEntry) (i : Nat), (∀ e ∈ l, ∃ n, e.key = .int .i64 n) → Instr.findNow (.int q) (.int .i64 k) l i = some ((mapIdx l k).map fun p => (i + p.1, p.2))
  | [], _, _ => rfl
  | e :: r, i, hk => by
    obtain ⟨n, hn⟩ := hk e (by simp)
    have ih := findNow_int q k r (i + 1) fun x hx => hk x (by simp [hx])
    have hs : Instr.sameNow (.int q) (.int .i64 k) e.key = some (k == n) := by rw [hn]; rfl
    simp only [Instr.findNow, hs, mapIdx, keyIs_int hn]
    by_cases he : n = k
    · subst he; simp
    · have h1 : (k == n) = false := by simpa using fun h => he h.symm
      have h2 : decide (n = k) = false := by simpa using he
      simp only [h1, h2, cond_false, ih, Option.map_map]
      congr 2
      funext p
      simp only [Function.comp]
      congr 1; omega
theorem mapIdx_some : ∀ {l : List MapEntry} {k : Int} {j : Nat} {v : Value}, mapIdx l k = some (j, v) → ∃ e, l[j]? = some e ∧ keyIs k e.key = true ∧ e.val = v
  | e :: r, k, j, v, hm => by
    simp only [mapIdx] at hm
    cases hk : keyIs k e.key with
    | true =>
      simp only [hk, cond_true, Option.some.injEq, Prod.mk.injEq] at hm
      obtain ⟨rfl, rfl⟩ := hm
      exact ⟨e, rfl, hk, rfl⟩
    | false =>
      simp only [hk, cond_false, Option.map_eq_some_iff] at hm
      obtain ⟨p, hp, he⟩ := hm
      simp only [Prod.mk.injEq] at he
      obtain ⟨e', h1, h2, h3⟩ := mapIdx_some (j := p.1) (v := p.2) hp
      exact ⟨e', by rw [← he.1]; simpa using h1, h2, h3.trans he.2⟩
theorem keyIs_eq {k k' : Int} {v : Value} (h : keyIs k v = true) (h' : keyIs k' v = true) : k = k' := by
  unfold keyIs at h h'
  split at h
  · simp only [decide_eq_true_eq] at h h'; omega
  · cases h
theorem mapGet_modify : ∀ {l : List MapEntry} {k : Int} {j : Nat} {v : Value} (g : MapEntry → MapEntry), mapIdx l k = some (j, v) → (∀ e, (g e).key = e.key) → ∀ k', mapGet (l.modify j g) k' = if k' = k then (l[j]?).map fun e => (g e).val else mapGet l k'
  | e :: r, k, j, v, g, hm, hg, k' => by
    simp only [mapIdx] at hm
    cases hk : keyIs k e.key with
    | true =>
      simp only [hk, cond_true, Option.some.injEq, Prod.mk.injEq] at hm
      obtain ⟨rfl, rfl⟩ := hm
      simp only [List.modify_zero_cons, mapGet, hg, List.getElem?_cons_zero, Option.map_some]
      by_cases e1 : k' = k
      · subst e1; simp [hk]
      · have : keyIs k' e.key = false := by
          cases h2 : keyIs k' e.key
          · rfl
          · exact absurd (keyIs_eq h2 hk) e1
        simp [this, e1]
    | false =>
      simp only [hk, cond_false, Option.map_eq_some_iff] at hm
      obtain ⟨p, hp, he⟩ := hm
      simp only [Prod.mk.injEq] at he
      have ih := mapGet_modify (j := p.1) (v := p.2) g hp hg k'
      rw [← he.1]
      simp only [List.modify_succ_cons, mapGet, List.getElem?_cons_succ]
      cases h2 : keyIs k' e.key with
      | true =>
        have : k' ≠ k := fun e1 => by subst e1; rw [hk] at h2; cases h2
        simp [this]
      | false => simpa using ih
theorem mapGet_push : ∀ {l : List MapEntry} {k : Int} {e : MapEntry}, mapIdx l k = none → keyIs k e.key = true → ∀ k', mapGet (l ++ [e]) k' = if k' = k then some e.val else mapGet l k'
  | [], k, e, _, he, k' => by
    by_cases e1 : k' = k
    · subst e1; simp [mapGet, he]
    · have : keyIs k' e.key = false := by
        cases h2 : keyIs k' e.key
        · rfl
        · exact absurd (keyIs_eq h2 he) e1
      simp [mapGet, this, e1]
  | x :: r, k, e, hm, he, k' => by
    simp only [mapIdx] at hm
    cases hk : keyIs k x.key with
    | true => simp [hk] at hm
    | false =>
      simp only [hk, cond_false, Option.map_eq_none_iff] at hm
      have ih := mapGet_push (e := e) hm he k'
      simp only [List.cons_append, mapGet]
      cases h2 : keyIs k' x.key with
      | true =>
        have : k' ≠ k := fun e1 => by subst e1; rw [hk] at h2; cases h2
        simp [this]
      | false => simpa using ih

theorem mapTy_spec {t e : TypeId} (ht : mapTy P t = some e) : ∃ k, P.underlying t = some (.map k e) ∧ P.underlying k = some (.int .i64) := by
  unfold mapTy at ht
  split at ht
  · split at ht
    · simp only [Option.some.injEq] at ht
      subst ht
      exact ⟨_, by assumption, by assumption⟩
    · cases ht
  · cases ht

theorem isK_int {k : Int} : IsKey (.int .i64) (.int .i64 k) := by simp [IsKey]

theorem run_lookup_int {t e kt : TypeId} (hm : P.underlying t = some (.map kt e)) (hk : P.underlying kt = some (.int .i64)) {b clock : Nat} {es : Array MapEntry} (hb : w.heap[b]? = some (.map es clock)) (hks : ∀ e ∈ es.toList, ∃ n, e.key = .int .i64 n) (k : Int) {z : Value} (hz : (zeroValue e).run P w = .ok z w) :
    (Instr.lookup t (.map (some b)) (.int .i64 k) false).run P w = .ok ((mapGet es.toList k).getD z) w := by
  have h1 := findNow_int .i64 k es.toList 0 hks
  have h2 : (Instr.findKey kt (.int .i64 k) es.toList).run P w = .ok ((mapIdx es.toList k).map fun p => (0 + p.1, p.2)) w := run_findKey hk h1
  simp only [Instr.lookup, Sem.run_bind, run_underlying hm, Result.andThen_ok, MapKept.run_getObj_map hb, Sem.run_pure, run_checkKey hk isK_int, h2]
  rw [mapGet_idx]
  cases hx : mapIdx es.toList k with
  | none => simp [hz]
  | some p => simp

theorem av_aggV (v : AV) (x : Value) (hv : VRel w S μ v x) (hl : okv v = true) : aggV v = true → ∃ vs, x = .agg vs := fun h => by
  cases v <;> simp [aggV] at h
  obtain ⟨vs, _, _, e⟩ := hv.agg_inv
  exact ⟨vs, e⟩
theorem av_one {v : AV} {x : Value} (hv : VRel w S μ v x) (hl : okv v = true) (hn : aggV v = false) : x.cells = #[x] ∧ v.flat = [v] := by
  have h1 : leafA v = true := by
    cases v <;> first | exact hl | (simp [aggV] at hn)
  refine ⟨(leaf_cells h1 hv).1, ?_⟩
  cases v <;> first | rfl | (simp [aggV] at hn)
theorem av_aggV_zero {v : Value} : (aggV (avOf v) = true → ∃ vs, v = .agg vs) ∧ (aggV (avOf v) = false → v.cells = #[v]) := by
  have key : ∀ v, aggV (av1 v) = false := fun v => by unfold av1; split <;> rfl
  cases v
  case agg cs => exact ⟨fun _ => ⟨cs, rfl⟩, fun h => by simp [avOf, aggV] at h⟩
  all_goals
    refine ⟨fun h => ?_, fun _ => rfl⟩
    simp only [avOf] at h
    rw [key] at h
    cases h

theorem enc_agg {c : Nat} {x : den c} {g : Bool} {v : AV} (hm : mkA g (enc c x) = some v) {y : Value} (hl : y.cells.size = ncell c) (hg : g = true → ∃ vs, y = .agg vs) (h1 : g = false → y.cells = #[y]) (hv : ∀ j, j < ncell c → VRel w S μ ((enc c x).getD j .undef) (y.cells.getD j Go.undef)) : VRel w S μ v y := by
  cases g with
  | true =>
    simp only [mkA, cond_true, Option.some.injEq] at hm
    subst hm
    obtain ⟨vs, rfl⟩ := hg rfl
    exact .agg (by rw [enc_len]; exact hl.symm) fun i hi => hv i (by rw [enc_len] at hi; exact hi)
  | false =>
    simp only [mkA, cond_false] at hm
    have h2 := h1 rfl
    split at hm
    · rename_i v' he
      simp only [Option.some.injEq] at hm
      subst hm
      have hn : ncell c = 1 := by rw [← enc_len c x, he]; rfl
      have := hv 0 (by omega)
      rw [he, h2] at this
      exact this
    · cases hm

theorem ok_makeMap (H : HRel w S μ h) (hf : ∀ id, base ≤ id → id < base + 10 → μ id = none) {t : TypeId} (ho : o.op = .makeMap t none) : DescOK P a o w S μ h base (makeMapA P base t) := by
  unfold makeMapA
  split
  case h_2 => trivial
  split
  case h_2 => trivial
  rename_i e he c n g hc hk
  by_cases hb : (Nat.beq (ncell c) n && (g || Nat.beq n 1)) = true
  case neg => simp only [hb, cond_false]; trivial
  simp only [hb, cond_true]
  intro _ K Q hK
  have hr : (execOp a.eval o).run P w = .ok (.value (.map (some w.heap.size))) (w.alloc (.map #[] 0)) := by
    have hm : (Instr.makeMap t none).run P w = .ok (.map (some w.heap.size)) (w.alloc (.map #[] 0)) := rfl
    simp only [execOp, ho, Option.map_none, Sem.run_bind, hm, Result.andThen_ok, Sem.run_pure]
  refine wp_val hr (hK _ _ ?_)
  have hid := hf base (Nat.le_refl _) (by omega)
  have E := Evo.alloc w S μ (.map #[] 0) H.bd (id := base) (m := ⟨some w.heap.size, 0, 0, 0⟩) hid
  refine ⟨S, _, E, .mp MM.add_same rfl, H.alloc hid rfl ?_, fun id hne => ?_⟩
  · refine ⟨w.heap.size, 0, #[], fun _ _ => Go.undef, rfl, heap_alloc_new' w _, ⟨fun e he => by simp at he, fun _ _ => rfl, fun k v hh => by simp [mapGet] at hh, fun _ k v hh => by simp [mapGet] at hh, fun _ k v hh => by simp [mapGet] at hh⟩, fun k v hh => by simp [mapGet] at hh, fun k hh => by simp [mapGet] at hh⟩
  · by_cases e : id = base
    · right; omega
    · left; rwa [MM.add_ne e] at hne

theorem mapCont_rel (H : HRel w S μ h) {v : AV} {g : Bool} {c : Nat} {f : Int → den c} (hc : mapCont h v = some ⟨g, c, f⟩) {x : Value} (hx : VRel w S μ v x) :
    ∃ (b clock : Nat) (es : Array MapEntry) (u : Int → Nat → Value), x = .map (some b) ∧ w.heap[b]? = some (.map es clock) ∧ MShape es.toList g c f ∧ (∀ k v, mapGet es.toList k = some v → ∀ j, j < ncell c → v.cells.getD j Go.undef = u k j) ∧ ∀ k, mapGet es.toList k ≠ none → ∀ j, j < ncell c → VRel w S μ ((enc c (f k)).getD j .undef) (u k j) := by
  unfold mapCont at hc
  split at hc
  · rename_i id
    split at hc
    · rename_i g' c' f' hh
      cases hc
      obtain ⟨m, b, hm, hb, rfl⟩ := hx.mp_inv
      obtain ⟨m2, hm2, b2, clock, es, u, g1, g2, g3, g4, g5⟩ := H.blk id _ hh
      rw [hm] at hm2; cases hm2
      rw [hb] at g1; cases g1
      exact ⟨b, clock, es, u, rfl, g2, g3, g4, g5⟩
    · cases hc
  · cases hc
    obtain ⟨b, clock, es, u, _, hh, hm, hu, hrel, rfl⟩ := hx.imp_inv
    exact ⟨b, clock, es, u, rfl, hh, hm, hu, hrel⟩
  · cases hc

theorem ok_lookup (H : HRel w S μ h) {t : TypeId} {x y : Operand} {vx vy : AV} (ho : o.op = .lookup t x y false) (hx : VRel w S μ vx (a.eval x)) (hy : VRel w S μ vy (a.eval y)) : DescOK P a o w S μ h base (lookupA P h t vx vy) := by
  unfold lookupA
  split
  case h_2 => trivial
  rename_i k i
  by_cases hk : kindEq k .i64 = true
  case neg => simp only [hk, cond_false]; trivial
  simp only [hk, cond_true]
  have ek := kindEq_spec hk
  subst ek
  split
  case h_2 => trivial
  rename_i e g c f ht hc
  split
  case h_2 => trivial
  rename_i n g' z hn hz
  by_cases hb : (Nat.beq (ncell c) n && g == g' && g == aggV z) = true
  case neg => simp only [hb, cond_false]; trivial
  simp only [hb, cond_true]
  simp only [Bool.and_eq_true] at hb
  obtain ⟨⟨b1, b2⟩, b3⟩ := hb
  split
  case h_2 => trivial
  rename_i d v hd hv
  obtain ⟨kt, hm, hkt⟩ := mapTy_spec ht
  obtain ⟨b, clock, es, u, hxe, hblk, hsh, hu, hrel⟩ := mapCont_rel H hc hx
  obtain ⟨ie, zv, hi, hzv, rfl⟩ : ∃ ie zv, P.info? e = some ie ∧ ie.zero = some zv ∧ z = avOf zv := by
    unfold tzeroA at hz
    split at hz
    · rename_i ie hi
      split at hz
      · rename_i zv hzv
        exact ⟨ie, zv, hi, hzv, by simpa using hz.symm⟩
      · cases hz
    · cases hz
  have hzr : (zeroValue e).run P w = .ok zv w := by simp [zeroValue, typeInfo, hi, hzv]
  have hr := run_lookup_int hm hkt hblk hsh.keys i hzr
  refine ok_pure H fun hp => ⟨(mapGet es.toList i).getD zv, ?_, ?_⟩
  · simp only [execOp, ho, Sem.run_bind, hxe, hy.int_inv, hr, Result.andThen_ok, Sem.run_pure]
  · have hde : d = dfl c := hp _ (by simp)
    have b3' : g = aggV (avOf zv) := by simpa using b3
    cases hg : mapGet es.toList i with
    | some vv =>
      simp only [Option.getD_some]
      refine enc_agg hv (hsh.len i vv hg) (fun h => hsh.agg h i vv hg) (fun h => hsh.one h i vv hg) fun j hj => ?_
      rw [hu i vv hg j hj]
      exact hrel i (by rw [hg]; simp) j hj
    | none =>
      simp only [Option.getD_none]
      have hfi := hsh.abs i hg
      have hzf := dec_rel hd (flat_zero (w := w) (S := S) (μ := μ) zv)
      have hzl : zv.cells.size = ncell c := by have := hzf.len; rw [enc_len] at this; simpa using this.symm
      rw [hfi, ← hde] at hv
      refine enc_agg hv hzl (fun h => av_aggV_zero.1 (by rw [← b3']; exact h)) (fun h => av_aggV_zero.2 (by rw [← b3']; exact h)) fun j hj => ?_
      have := hzf.get j (by rw [enc_len]; exact hj)
      have hj2 : j < zv.cells.size := by omega
      simpa [List.getD_eq_getElem?_getD, Array.getD, hj2] using this

/-- The heap with another map in a block. -/
theorem HRel.putMap (H : HRel w S μ h) {id : Nat} {m : MI} {ob ob' : OB} {b : Nat} {o0 o' : Obj} (hh : h id = some ob) (hm : μ id = some m) (hmb : m.b = some b) (hb : w.heap[b]? = some o0)
    (hok : ∀ E : Evo w S μ { w with heap := w.heap.setIfInBounds b o' } S μ, BOk { w with heap := w.heap.setIfInBounds b o' } S μ m ob') (hd' : dpB ob' = false := by rfl) : Evo w S μ { w with heap := w.heap.setIfInBounds b o' } S μ ∧ HRel { w with heap := w.heap.setIfInBounds b o' } S μ (updH h [(id, some ob')]) := by
  obtain ⟨s1, s2⟩ := heap_set (o' := o') hb
  have E : Evo w S μ { w with heap := w.heap.setIfInBounds b o' } S μ := by
    refine ⟨rfl, rfl, rfl, by simp, ?_, fun _ => Iff.rfl, fun _ h => h, fun _ h => .inl h, fun _ _ h => h⟩
    intro p b' hs
    exact s2 b' fun e => H.sep id m b p (by rw [hh]; simp) hm hmb (e ▸ hs)
  refine ⟨E, ?_⟩
  have cs' : ∀ i, (updH h [(id, some ob')]) i = if i = id then some ob' else h i := fun i => by
    simp only [updH]
    by_cases e : i = id
    · subst e; simp
    · simp [e, nbeq_ne e]
  have ne : ∀ i, (updH h [(id, some ob')]) i ≠ none → h i ≠ none := fun i hi => by
    rw [cs'] at hi
    split at hi
    · rename_i e; rw [e, hh]; simp
    · exact hi
  refine H.upd E ?_ ?_ ?_ ?_ ?_ fun _ hs => .inl hs
  · intro i o ho
    rw [cs'] at ho
    split at ho
    · rename_i e; subst e; cases ho
      exact .inr ⟨fun _ _ _ hx => holds_plain hd' hx, m, hm, hok E⟩
    · rename_i e
      refine .inl ⟨ho, fun mi bi hmi hbi => s2 bi fun eb => e ?_⟩
      subst eb
      exact H.injH i id o ob mi m bi ho hh hmi hm hbi (.inl hmb)
  · intro i j mi mj b' hi hj
    exact H.inj i j mi mj b' (ne i hi) (ne j hj)
  · intro i mi b' p hi
    exact H.sep i mi b' p (ne i hi)
  · intro p b' hs
    simpa using H.bd p b' hs
  · intro i mi b' hi hmi hb'
    by_cases e : i = id
    · subst e
      rw [hm] at hmi; cases hmi
      exact From.same H hh hm hb'
    · obtain ⟨oi, hoi⟩ := ne_some (ne i hi)
      exact From.same H hoi hmi hb'

theorem ok_mapUpdate (H : HRel w S μ h) {t : TypeId} {x y z : Operand} {vx vy vz : AV} (ho : o.op = .mapUpdate t x y z) (hx : VRel w S μ vx (a.eval x)) (hy : VRel w S μ vy (a.eval y)) (hz : VRel w S μ vz (a.eval z)) : DescOK P a o w S μ h base (mapUpdA P h t vx vy vz) := by
  unfold mapUpdA
  split
  case h_2 => trivial
  rename_i id q i
  split
  case h_2 => trivial
  rename_i g c f e hh ht
  by_cases hb : (kindEq q .i64 && okv vz && (g == aggV vz)) = true
  case neg => simp only [hb, cond_false]; trivial
  simp only [hb, cond_true]
  simp only [Bool.and_eq_true] at hb
  obtain ⟨⟨b1, b2⟩, b3⟩ := hb
  have ek := kindEq_spec b1
  subst ek
  have b3' : g = aggV vz := by simpa using b3
  split
  case h_2 => trivial
  rename_i d hd
  intro _ K Q hK
  obtain ⟨kt, hm, hkt⟩ := mapTy_spec ht
  obtain ⟨m, b, hmm, hmb, hxe⟩ := hx.mp_inv
  obtain ⟨m2, hm2, b2', clock, es, u, g1, g2, g3, g4, g5⟩ := H.blk id _ hh
  rw [hmm] at hm2; cases hm2
  rw [hmb] at g1; cases g1
  have hrow := dec_rel hd (okv_cells b2 hz).1
  have hzl : (a.eval z).cells.size = ncell c := by have := hrow.len; rw [enc_len] at this; simpa using this.symm
  have hzag : g = true → ∃ vs, a.eval z = .agg vs := fun hg => av_aggV _ _ hz b2 (by rw [← b3']; exact hg)
  have hz1 : g = false → (a.eval z).cells = #[a.eval z] := fun hg => (av_one hz b2 (by rw [← b3']; exact hg)).1
  have hfind : (Instr.findKey kt (.int .i64 i) es.toList).run P w = .ok ((mapIdx es.toList i).map fun p => (0 + p.1, p.2)) w := run_findKey hkt (findNow_int .i64 i es.toList 0 g3.keys)
  -- a map that holds the new value there and the old ones elsewhere
  have fin : ∀ (es' : Array MapEntry) (clock' : Nat), (∀ e ∈ es'.toList, ∃ n, e.key = .int .i64 n) → (∀ k', mapGet es'.toList k' = if k' = i then some (a.eval z) else mapGet es.toList k') →
      (Instr.mapUpdate t (.map (some b)) (.int .i64 i) (a.eval z)).run P w = .ok () { w with heap := w.heap.setIfInBounds b (.map es' clock') } → o.wp P a w K Q := fun es' clock' hkeys hget hrun => by
    refine wp_skp ?_ (hK _ _ ?_) (w' := { w with heap := w.heap.setIfInBounds b (.map es' clock') })
    · simp only [execOp, ho, Sem.run_bind, hxe, hy.int_inv, hrun, Result.andThen_ok, Sem.run_pure]
    · obtain ⟨E, H'⟩ := H.putMap (o' := .map es' clock') (ob' := .imap g c (updF c f i d)) hh hmm hmb g2 (fun E => by
        refine ⟨b, clock', es', fun k j => if k = i then (a.eval z).cells.getD j Go.undef else u k j, hmb, (heap_set g2).1, ⟨hkeys, fun k hk => ?_, fun k v hk => ?_, fun hg k v hk => ?_, fun hg k v hk => ?_⟩, fun k v hk j hj => ?_, fun k hk j hj => ?_⟩
        · rw [hget] at hk
          by_cases e : k = i
          · rw [if_pos e] at hk; cases hk
          · rw [if_neg e] at hk; simp only [updF, if_neg e]; exact g3.abs k hk
        · rw [hget] at hk
          by_cases e : k = i
          · rw [if_pos e] at hk; cases hk; exact hzl
          · rw [if_neg e] at hk; exact g3.len k v hk
        · rw [hget] at hk
          by_cases e : k = i
          · rw [if_pos e] at hk; cases hk; exact hzag hg
          · rw [if_neg e] at hk; exact g3.agg hg k v hk
        · rw [hget] at hk
          by_cases e : k = i
          · rw [if_pos e] at hk; cases hk; exact hz1 hg
          · rw [if_neg e] at hk; exact g3.one hg k v hk
        · rw [hget] at hk
          by_cases e : k = i
          · rw [if_pos e] at hk; cases hk; simp only [if_pos e]
          · rw [if_neg e] at hk; simp only [if_neg e]; exact g4 k v hk j hj
        · rw [hget] at hk
          by_cases e : k = i
          · simp only [updF, if_pos e]
            have := (hrow.evo E).get j (by rw [enc_len]; exact hj)
            have hj2 : j < (a.eval z).cells.size := by omega
            simpa [List.getD_eq_getElem?_getD, Array.getD, hj2] using this
          · rw [if_neg e] at hk
            simp only [updF, if_neg e]
            exact (g5 k hk j hj).evo E)
      exact ⟨S, μ, E, .undef _, H', fun id hne => .inl hne⟩
  cases hx : mapIdx es.toList i with
  | none =>
    refine fin (es.push { key := .int .i64 i, val := a.eval z, born := clock }) (clock + 1) (fun e he => ?_) (fun k' => ?_) ?_
    · simp only [Array.toList_push, List.mem_append, List.mem_singleton] at he
      rcases he with he | he
      · exact g3.keys e he
      · subst he; exact ⟨i, rfl⟩
    · rw [Array.toList_push]
      exact mapGet_push (e := { key := .int .i64 i, val := a.eval z, born := clock }) hx (by simp [keyIs]) k'
    · rw [hx] at hfind
      simp only [Instr.mapUpdate, Sem.run_bind, run_underlying hm, Result.andThen_ok, MapKept.run_getObj_map g2, run_checkKey hkt isK_int, hfind, Option.map_none, run_setObj_map _ g2]
  | some p =>
    obtain ⟨j, vv⟩ := p
    obtain ⟨e0, he0, hke, hve⟩ := mapIdx_some hx
    have hkey : e0.key = .int .i64 i := by
      obtain ⟨n, hn⟩ := g3.keys e0 (List.mem_of_getElem? he0)
      rw [hn] at hke ⊢
      simp only [keyIs, decide_eq_true_eq] at hke
      rw [hke]
    have e1 : es[j]? = some e0 := by simpa using he0
    have hstay : (Instr.keyThatStays (.int .i64 i) (.int .i64 i)).run P w = .ok (.int .i64 i) w := run_keyThatStays (d := .int .i64) isK_int
    have hmod : (es.modify j fun e => { e with key := .int .i64 i, val := a.eval z }) = es.modify j fun e => { e with val := a.eval z } := by
      apply Array.ext'
      simp only [Array.toList_modify]
      apply List.ext_getElem?
      intro k
      simp only [List.getElem?_modify]
      by_cases ek : j = k
      · subst ek
        rw [he0]
        simp [hkey]
      · simp [ek]
    refine fin (es.modify j fun e => { e with key := .int .i64 i, val := a.eval z }) clock (fun e he => ?_) (fun k' => ?_) ?_
    · rw [hmod] at he
      simp only [Array.toList_modify] at he
      have : e.key ∈ (es.toList.map (·.key)) := by
        obtain ⟨n, hn, rfl⟩ := List.getElem_of_mem he
        rw [List.getElem_modify]
        split
        · exact List.mem_map.2 ⟨_, List.getElem_mem _, rfl⟩
        · exact List.mem_map.2 ⟨_, List.getElem_mem _, rfl⟩
      obtain ⟨y, hy, hye⟩ := List.mem_map.1 this
      rw [← hye]; exact g3.keys y hy
    · rw [hmod]
      simp only [Array.toList_modify]
      have := mapGet_modify (v := vv) (fun e => { e with val := a.eval z }) hx (fun _ => rfl) k'
      rw [he0] at this
      simpa using this
    · rw [hx] at hfind
      simp only [Instr.mapUpdate, Sem.run_bind, run_underlying hm, Result.andThen_ok, MapKept.run_getObj_map g2, run_checkKey hkt isK_int, hfind, Option.map_some, Nat.zero_add, e1, Option.getD_some, hkey, hstay, run_setObj_map _ g2]

theorem bytesOf_get {s : ByteArray} {i : Nat} (hi : i < s.size) : (bytesOf s).getD i 0 = (s[i]'hi).toNat := by
  have h2 : i < s.data.size := hi
  unfold bytesOf
  rw [List.getD_eq_getElem?_getD, List.getElem?_map, Array.getElem?_toList, Array.getElem?_eq_getElem h2]
  rfl
theorem bytesOf_len (s : ByteArray) : (bytesOf s).length = s.size := by
  unfold bytesOf
  rw [List.length_map, Array.length_toList]
  rfl

theorem irecsC_spec {c : Nat} : ∀ {vs : List AV} {ls : List (List (den c))}, irecsC c vs = some ls → ls.length = vs.length ∧ ∀ j, j < vs.length → vs.getD j .undef = .irec true c (ls.getD j [])
  | [], ls, h => by
    simp only [irecsC, Option.some.injEq] at h
    subst h
    exact ⟨rfl, fun j hj => by simp at hj⟩
  | v :: r, ls, h => by
    unfold irecsC at h
    split at h
    · rename_i heq; cases heq
    · rename_i c' l r' heq
      cases heq
      split at h
      · rename_i l' ls' h1 h2
        simp only [Option.some.injEq] at h
        subst h
        obtain ⟨e, rfl⟩ := castL_spec h1
        subst e
        obtain ⟨g1, g2⟩ := irecsC_spec h2
        refine ⟨by simp [g1], fun j hj => ?_⟩
        cases j with
        | zero => rfl
        | succ j => exact g2 j (by simpa using hj)
      · cases h
    · cases h
theorem ok_arrIdx (H : HRel w S μ h) {t : TypeId} {x y : Operand} {vs : List AV} {k : IntKind} {i : Int} (ho : o.op = .index t x y) (hx : VRel w S μ (.agg vs) (a.eval x)) (hy : VRel w S μ (.int k i) (a.eval y)) : DescOK P a o w S μ h base (arrIdx P t vs i) := by
  unfold arrIdx
  split
  case h_2 => trivial
  rename_i n e ls hu hls
  split
  case h_2 => trivial
  rename_i ht
  by_cases hn : (Nat.beq n vs.length && Nat.beq n ls.length) = true
  case neg => simp only [hn, cond_false]; trivial
  simp only [hn, cond_true]
  simp only [Bool.and_eq_true] at hn
  have e1 := Nat.eq_of_beq_eq_true hn.1
  obtain ⟨g1, g2⟩ := irecsC_spec hls
  refine ok_pure H fun hp => ?_
  have hi : 0 ≤ i ∧ i < n := hp _ (by simp)
  obtain ⟨xs, hl, hrel, hx'⟩ := hx.agg_inv
  have hj : i.toNat < vs.length := by omega
  have hm : mkA false ((vs.drop i.toNat).take 1) = some (.irec true (codeHd vs) (ls.getD i.toNat [])) := by
    have h1 : (vs.drop i.toNat).take 1 = [vs.getD i.toNat .undef] := by
      rw [List.drop_eq_getElem_cons hj, List.take_succ_cons, List.take_zero, List.getD_eq_getElem?_getD, List.getElem?_eq_getElem hj]; rfl
    rw [h1, g2 _ hj]; rfl
  obtain ⟨y', hy', hv'⟩ := run_part (w := w) (S := S) (μ := μ) ht (by omega) hm hl hrel
  have hsz : (sizeOf e).run P w = .ok 1 w := by
    unfold tkind at ht
    split at ht
    · rename_i inf d hinf hd
      simp only [Option.some.injEq, Prod.mk.injEq] at ht
      simp [sizeOf, typeInfo, hinf, ht.1]
    · cases ht
  refine ⟨y', ?_, hv'⟩
  simp only [execOp, ho, Sem.run_bind, Instr.index, hx', hy.int_inv, asIntOf, run_underlying hu, Result.andThen_ok, Sem.run_pure, hi.1, hi.2, and_self, if_true, hsz, Nat.mul_one, hy']

theorem ok_index (H : HRel w S μ h) {t : TypeId} {x y : Operand} {vx vy : AV} (ho : o.op = .index t x y) (hx : VRel w S μ vx (a.eval x)) (hy : VRel w S μ vy (a.eval y)) : DescOK P a o w S μ h base (indexV P t vx vy) := by
  unfold indexV
  split
  case h_3 => trivial
  case h_2 => exact ok_arrIdx H ho hx hy
  rename_i s k i
  unfold strIdx
  by_cases hs : strTy P t = true
  case neg => simp only [hs, cond_false]; trivial
  simp only [hs, cond_true]
  have hu : P.underlying t = some .string := by
    unfold strTy at hs; split at hs <;> first | assumption | cases hs
  have hx' : a.eval x = .string s := by cases hx' : a.eval x <;> (rw [hx'] at hx; cases hx); rfl
  refine ok_pure H fun hp => ?_
  have hi : 0 ≤ i ∧ i < s.size := hp _ (by simp)
  refine ⟨.int .u8 ((bytesOf s).getD i.toNat 0), ?_, .int _ _⟩
  have hr := run_index_string (P := P) w t s k i hu
  rw [dif_pos hi] at hr
  rw [bytesOf_get (by omega)]
  simp only [execOp, ho, Sem.run_bind, hx', hy.int_inv, hr, Result.andThen_ok, Sem.run_pure]

theorem ok_quoK (H : HRel w S μ h) {op : BinOp} {t ty : TypeId} {x y : Operand} {vx vy : AV} (ho : o.op = .binOp op t x y ty) (hq : (isQuo op && isK y) = true) (hx : VRel w S μ vx (a.eval x)) (hy : VRel w S μ vy (a.eval y)) : DescOK P a o w S μ h base (quoK vx vy) := by
  unfold quoK
  split
  case h_2 => trivial
  rename_i n m
  simp only [Bool.and_eq_true] at hq
  have ho2 : op = .quo := by
    cases op <;> first | rfl | (simp [isQuo] at hq)
  subst ho2
  have hk : a.eval y = .int .i64 1000 := by
    have h2 := hq.2
    unfold isK at h2
    split at h2
    · rename_i k
      have := Nat.eq_of_beq_eq_true h2
      subst this
      rfl
    · cases h2
  refine ok_pure H fun hp => ⟨.int .i64 (n.tdiv 1000), ?_, .int _ _⟩
  have h1 : i64R n := hp _ (by simp)
  have hb : i64R (n.tdiv 1000) := by
    unfold i64R at h1 ⊢
    by_cases h0 : 0 ≤ n
    · rw [Int.tdiv_eq_ediv_of_nonneg h0]; omega
    · have e : n = -(-n) := by omega
      rw [e, Int.neg_tdiv, Int.tdiv_eq_ediv_of_nonneg (by omega)]
      omega
  have hw := wrap_in (k := .i64) hb
  simp only [execOp, ho, Sem.run_bind, hx.int_inv, hk, eqGuard_int, Result.andThen_ok, binOp, Op.intDiv, show ¬ (1000 : Int) = 0 by omega, if_false, ne_eq, not_true_eq_false, Sem.run_pure, hw]
theorem ok_mulE (H : HRel w S μ h) {op : BinOp} {t ty : TypeId} {x y : Operand} {vx vy : AV} (ho : o.op = .binOp op t x y ty) (hq : (isMul op && isE x) = true) (hx : VRel w S μ vx (a.eval x)) (hy : VRel w S μ vy (a.eval y)) : DescOK P a o w S μ h base (mulE vx vy) := by
  unfold mulE
  split
  case h_2 => trivial
  rename_i n m
  simp only [Bool.and_eq_true] at hq
  have ho2 : op = .mul := by
    cases op <;> first | rfl | (simp [isMul] at hq)
  subst ho2
  refine ok_pure H fun hp => ⟨.int .i64 (IntKind.i64.wrap (n * m)), ?_, .int _ _⟩
  simp only [execOp, ho, Sem.run_bind, hx.int_inv, hy.int_inv, eqGuard_int, Result.andThen_ok, binOp, Op.intArith, ne_eq, not_true_eq_false, if_false, Sem.run_pure]
theorem ok_binC (H : HRel w S μ h) {op : BinOp} {t ty : TypeId} {x y : Operand} {vx vy : AV} (ho : o.op = .binOp op t x y ty) (hx : VRel w S μ vx (a.eval x)) (hy : VRel w S μ vy (a.eval y)) : DescOK P a o w S μ h base (binC P op t x y vx vy) := by
  unfold binC
  by_cases hq : (isQuo op && isK y) = true
  · rw [hq, cond_true]; exact ok_quoK H ho hq hx hy
  · simp only [Bool.not_eq_true] at hq
    rw [hq, cond_false]
    by_cases hm : (isMul op && isE x) = true
    · rw [hm, cond_true]; exact ok_mulE H ho hm hx hy
    · simp only [Bool.not_eq_true] at hm
      rw [hm, cond_false]; exact ok_binD H ho hx hy
theorem ok_subW (H : HRel w S μ h) {op : BinOp} {t ty : TypeId} {x y : Operand} {vx vy : AV} (ho : o.op = .binOp op t x y ty) (hq : isSub op = true) (hx : VRel w S μ vx (a.eval x)) (hy : VRel w S μ vy (a.eval y)) : DescOK P a o w S μ h base (subW vx vy) := by
  unfold subW
  split
  case h_2 => trivial
  rename_i n m
  have ho2 : op = .sub := by
    cases op <;> first | rfl | (simp [isSub] at hq)
  subst ho2
  refine ok_pure H fun hp => ⟨.int .i64 (IntKind.i64.wrap (n - m)), ?_, .int _ _⟩
  simp only [execOp, ho, Sem.run_bind, hx.int_inv, hy.int_inv, eqGuard_int, Result.andThen_ok, binOp, Op.intArith, ne_eq, not_true_eq_false, if_false, Sem.run_pure]
theorem ok_binW (H : HRel w S μ h) {wr : Bool} {op : BinOp} {t ty : TypeId} {x y : Operand} {vx vy : AV} (ho : o.op = .binOp op t x y ty) (hx : VRel w S μ vx (a.eval x)) (hy : VRel w S μ vy (a.eval y)) : DescOK P a o w S μ h base (binW wr P op t x y vx vy) := by
  unfold binW
  by_cases hq : (wr && isSub op) = true
  · rw [hq, cond_true]
    simp only [Bool.and_eq_true] at hq
    exact ok_subW H ho hq.2 hx hy
  · simp only [Bool.not_eq_true] at hq
    rw [hq, cond_false]
    exact ok_binC H ho hx hy

theorem ok_convS (H : HRel w S μ h) {s d : TypeId} {x : Operand} {v : AV} (ho : o.op = .convert s d x) (hx : VRel w S μ v (a.eval x)) : DescOK P a o w S μ h base (convA P s d v) := by
  cases v
  case str y =>
    unfold convA
    simp only
    by_cases hs : strTy P s = true
    case neg => simp only [hs, cond_false]; trivial
    simp only [hs, cond_true]
    have hu : P.underlying s = some .string := by
      unfold strTy at hs; split at hs <;> first | assumption | cases hs
    split
    case h_2 => trivial
    rename_i c hb
    by_cases hc : Nat.beq c u8c = true
    case neg => simp only [hc, cond_false]; trivial
    simp only [hc, cond_true]
    obtain ⟨e, hd, he⟩ : ∃ e, P.underlying d = some (.slice e) ∧ P.underlying e = some (.int .u8) := by
      unfold bytesTy at hb
      split at hb
      · split at hb
        · exact ⟨_, by assumption, by assumption⟩
        · cases hb
      · cases hb
    have hx' : a.eval x = .string y := by cases hx' : a.eval x <;> (rw [hx'] at hx; cases hx); rfl
    have hr := run_bytes_of_string (P := P) w s d e y hu hd he
    intro _ K Q hK
    have hrun : (execOp a.eval o).run P w = .ok (.value (.slice (some ⟨w.heap.size, 0, none⟩) y.size (grownCap w y.size 0 e))) (w.drew.alloc (.cells (bytesRow y (grownCap w y.size 0 e)) e ((bytesRow y (grownCap w y.size 0 e)).size, (bytesRow y (grownCap w y.size 0 e)).size + 1))) := by
      simp only [execOp, ho, Sem.run_bind, hx', hr, Result.andThen_ok, Sem.run_pure]
    refine wp_val hrun (hK _ _ ?_)
    let C := bytesRow y (grownCap w y.size 0 e)
    let ob : Obj := .cells C e (C.size, C.size + 1)
    let S' : SS := fun p b => S p b ∨ (p = true ∧ b = w.heap.size)
    have hal : (w.drew.alloc ob).heap = w.heap.push ob := rfl
    have hold : ∀ b, b < w.heap.size → (w.drew.alloc ob).heap[b]? = w.heap[b]? := fun b hb => by
      rw [hal, Array.getElem?_push]; simp [Nat.ne_of_lt hb]
    have hnew : (w.drew.alloc ob).heap[w.heap.size]? = some ob := by rw [hal]; simp
    have E : Evo w S μ (w.drew.alloc ob) S' μ := by
      refine ⟨rfl, rfl, rfl, by rw [hal]; simp, fun p b hs => hold b (H.bd p b hs), fun b => ⟨fun hh => ?_, .inl⟩, fun b hh => .inl hh, fun b hh => ?_, fun _ _ h => h⟩
      · rcases hh with hh | ⟨hh, _⟩
        · exact hh
        · cases hh
      · rcases hh with hh | ⟨_, hh⟩
        · exact .inl hh
        · subst hh
          exact .inr fun h2 => absurd (H.bd false _ h2) (Nat.lt_irrefl _)
    have hlt : ∀ i mi b, h i ≠ none → μ i = some mi → mi.b = some b → b < w.heap.size := fun i mi b hi hmi hb => by
      cases e : h i with
      | none => exact absurd e hi
      | some ob' =>
        obtain ⟨m', hm', hB⟩ := H.blk i ob' e
        rw [hmi] at hm'; cases hm'
        exact hB.lt hb
    refine ⟨S', μ, E, ?_, H.upd E ?_ H.inj ?_ ?_ (fun i m b hi hm hb => by obtain ⟨o, ho⟩ := ne_some hi; exact From.same H ho hm hb) ?_, fun id hne => .inl hne⟩
    · have hl : (u8mk (bytesOf y)).length = y.size := by rw [u8_len, bytesOf_len]
      have hle := grownCap_ge w y.size 0 e
      have key : VRel (w.drew.alloc ob) S' μ (.irec true u8c (u8mk (bytesOf y))) (.slice (some ⟨w.heap.size, 0, none⟩) (u8mk (bytesOf y)).length (grownCap w y.size 0 e)) := by
       refine .irec (fun i _ => .int .u8 ((bytesOf y).getD i 0)) (.inr ⟨rfl, rfl⟩) (by rw [hl]; exact hle) (fun i hi j hj => ?_) (fun i hi j hj => ?_)
       · rw [u8_ncell] at hj ⊢
         have ej : j = 0 := by omega
         subst ej
         have hi' : i < y.size := by omega
         have hd2 : i < y.data.size := hi'
         have h1 := bytesRow_at y (grownCap w y.size 0 e) i hd2
         have e2 : 0 + i * 1 + 0 = i := by omega
         rw [e2, bytesOf_get hi']
         show World.cell? _ _ = _
         simp only [World.cell?]
         rw [hnew]; simp only [ob, C]
         refine Eq.trans ?_ (Eq.trans h1 rfl)
         simp
       · rw [u8_ncell] at hj
         have ej : j = 0 := by omega
         subst ej
         rw [u8_row _ _ (by rw [bytesOf_len]; omega)]
         exact .int _ _
      rw [hl] at key
      exact key
    · intro i o' ho'
      exact .inl ⟨ho', fun m b hm hb => hold b (by obtain ⟨m2, hm2, hB⟩ := H.blk i o' ho'; rw [hm] at hm2; cases hm2; exact hB.ltH hb)⟩
    · intro i m b p hi hm hb hs
      rcases hs with hs | ⟨_, hs⟩
      · exact H.sep i m b p hi hm hb hs
      · have := hlt i m b hi hm hb
        omega
    · intro p b hs
      rw [hal]
      rcases hs with hs | ⟨_, hs⟩
      · have := H.bd p b hs
        simp; omega
      · subst hs; simp
    · intro b hs
      rcases hs with hs | ⟨_, hs⟩
      · exact .inl hs
      · exact .inr (.inl (Nat.le_of_eq hs.symm))
  case int k n => exact ok_convert H ho hx
  all_goals trivial
theorem splice_getD {α : Type} (l m : List α) (lo i : Nat) (d : α) (hl : lo + m.length ≤ l.length) : (l.take lo ++ m ++ l.drop (lo + m.length)).getD i d = if i < lo then l.getD i d else if i < lo + m.length then m.getD (i - lo) d else l.getD i d := by
  have e1 : (l.take lo).length = lo := by simp; omega
  simp only [List.getD_eq_getElem?_getD]
  by_cases h1 : i < lo
  · rw [if_pos h1, List.getElem?_append_left (by simp; omega), List.getElem?_append_left (by omega), List.getElem?_take_of_lt h1]
  · rw [if_neg h1]
    by_cases h2 : i < lo + m.length
    · rw [if_pos h2, List.getElem?_append_left (by simp; omega), List.getElem?_append_right (by omega), e1]
    · rw [if_neg h2, List.getElem?_append_right (by simp; omega), List.getElem?_drop]
      congr 2
      simp; omega
theorem ok_copy (H : HRel w S μ h) {c : Call} {x y : Operand} {vx vy : AV} (ho : o.op = .call c) (hc : c.callee = .builtin .copy) (ha : c.args.toList = [x, y]) (hx : VRel w S μ vx (a.eval x)) (hy : VRel w S μ vy (a.eval y)) : DescOK P a o w S μ h base (copyA P h c.argTypes.toList vx vy) := by
  have hargs : c.args = #[x, y] := by rw [← Array.toArray_toList (xs := c.args), ha]
  unfold copyA
  split
  case h_2 => trivial
  rename_i t t' hts
  split
  case h_2 => trivial
  rename_i e he
  split
  case h_2 => trivial
  rename_i cd hcd hsz
  split
  case h_2 => trivial
  rename_i id c'' lo k
  split
  case h_2 => trivial
  rename_i e' c' l hh
  split
  case h_2 => trivial
  rename_i l1 ly h1 h2
  by_cases hnc : Nat.beq (ncell cd) 1 = true
  case neg => simp only [hnc, cond_false]; trivial
  rw [hnc, cond_true]
  have hn1 := Nat.eq_of_beq_eq_true hnc
  obtain ⟨ee, rfl⟩ := castL_spec h1
  subst ee
  have htys : c.argTypes = #[t, t'] := by rw [← Array.toArray_toList (xs := c.argTypes), hts]
  have hu : P.underlying t = some (.slice e) := by
    unfold elemOf at he
    split at he
    · cases he; assumption
    · cases he
  obtain ⟨i, hi, his⟩ : ∃ i, P.info? e = some i ∧ i.size = 1 := by
    unfold tsize at hsz
    split at hsz
    · exact ⟨_, by assumption, by simpa using hsz⟩
    · cases hsz
  intro _ K Q hK
  have fin : ∀ w', (Builtin.copy_ #[t, t'] o.type #[a.eval x, a.eval y]).run P w = .ok (goInt (min k ly.length : Nat)) w' → Out w S μ h base (.int .i64 (min k ly.length : Nat)) [(id, some (.rows e' c' (copyL l lo (ly.take k))))] w' (goInt (min k ly.length : Nat)) → o.wp P a w K Q := fun w' hr hO =>
    wp_val (exec_builtin ho hc fun _ => by simp [builtin, hargs, htys, hr]) (hK _ _ hO)
  have same : ly.take k = [] → Out w S μ h base (.int .i64 (min k ly.length : Nat)) [(id, some (.rows e' c' (copyL l lo (ly.take k))))] w (goInt (min k ly.length : Nat)) := fun h0 => by
    have e1 : copyL l lo (ly.take k) = l := by rw [h0]; simp [copyL]
    rw [e1]
    refine ⟨S, μ, Evo.refl _ _ _, .int _ _, ?_, fun _ hne => .inl hne⟩
    have e2 : updH h [(id, some (.rows e' c' l))] = h := by
      funext j
      simp only [updH]
      by_cases ej : j = id
      · subst ej; simp [hh]
      · simp [nbeq_ne ej]
    rw [e2]
    exact H
  obtain ⟨news, hnl, hnr, hsrc⟩ := content_src H h2 hy
  have hone := news_one hnl hnr
  have hsz1 : (P.info? e).map (·.size) = some 1 := by rw [hi]; simp [his]
  rcases hx.sub_inv with ⟨m, b, cap, hm, hb, hmc, hlo, hcap, hxv⟩ | ⟨rfl, q, cap, hxv⟩
  · obtain ⟨r1, r2, r3⟩ := H.rows hh hm
    obtain ⟨cur, hcur, hcsz, hlen, hmax, hrel⟩ := r3 b hb
    have ec : c'' = c' := by rw [← hmc, r2]
    subst ec
    rw [hn1, Nat.mul_one] at hxv hcsz hnl
    rcases hsrc with ⟨ad, capy, hyv, hcells⟩ | ⟨rfl, q, capy, hyv⟩
    · have hq : (news.take (min k ly.length)).length = min k ly.length := by simp; omega
      have hrun := run_copy_row P w t t' o.type e b lo k cap ad ly.length capy cur e' (news.take (min k ly.length)) hu hsz1 hcur (by rw [hq]; show min k ly.length = min ly.length k; omega)
        (fun j v hj => hcells j v (by
          obtain ⟨hj1, hj2⟩ := List.getElem?_eq_some_iff.1 hj
          rw [List.getElem_take] at hj2
          exact List.getElem?_eq_some_iff.2 ⟨by simp at hj1; omega, hj2⟩)) (by rw [hq, hcsz]; omega)
        (fun v hv => hone v (List.mem_of_mem_take hv))
      rw [hq] at hrun
      refine fin _ (by rw [hxv, hyv]; exact hrun) ?_
      have hml : (ly.take k).length = min k ly.length := by simp
      have hlL : lo + (ly.take k).length ≤ l.length := by rw [hml]; omega
      have hclen : (copyL l lo (ly.take k)).length = l.length := by
        unfold copyL
        simp only [List.length_append, List.length_take, List.length_drop]
        omega
      have hnlen : (cur.toList.take lo ++ news.take (min k ly.length) ++ cur.toList.drop (lo + min k ly.length)).length = cur.size := by
        simp only [List.length_append, hq, List.length_take, List.length_drop, Array.length_toList]
        omega
      obtain ⟨E, H'⟩ := H.write (cs := (cur.toList.take lo ++ news.take (min k ly.length) ++ cur.toList.drop (lo + min k ly.length)).toArray) hh hm hb (ob' := .rows e' c'' (copyL l lo (ly.take k))) (fun E => by
        refine ⟨by rw [hclen]; exact r1, r2, .inr ⟨b, _, hb, setRow_heap w b cur _ e' (0, 0) hcur, by rw [List.size_toArray, hnlen, hcsz, hn1, Nat.mul_one], by rw [hclen]; exact hlen, hmax, fun i' hi' j hj => ?_⟩⟩
        rw [hclen] at hi'
        have hj0 : j = 0 := by omega
        subst hj0
        have e3 : (cur.toList.take lo ++ news.take (min k ly.length) ++ cur.toList.drop (lo + min k ly.length)).toArray.getD (i' * ncell c'' + 0) Go.undef = (cur.toList.take lo ++ news.take (min k ly.length) ++ cur.toList.drop (lo + (news.take (min k ly.length)).length)).getD i' Go.undef := by
          rw [hn1, Nat.mul_one, Nat.add_zero, hq]
          simp only [List.getD_eq_getElem?_getD, Array.getD, List.size_toArray]
          by_cases hb2 : i' < (cur.toList.take lo ++ news.take (min k ly.length) ++ cur.toList.drop (lo + min k ly.length)).length
          · rw [dif_pos hb2, List.getElem?_eq_getElem hb2]; rfl
          · exact absurd (by rw [hnlen, hcsz]; omega) hb2
        have e4 : rowAV c'' (copyL l lo (ly.take k)) i' = if i' < lo then rowAV c'' l i' else if i' < lo + (ly.take k).length then rowAV c'' (ly.take k) (i' - lo) else rowAV c'' l i' := by
          unfold rowAV copyL
          rw [splice_getD l (ly.take k) lo i' (dfl c'') hlL]
          split
          · rfl
          · split <;> rfl
        rw [e3, e4, splice_getD cur.toList (news.take (min k ly.length)) lo i' Go.undef (by rw [hq]; simp; omega), hq, hml]
        have old := hrel i' hi' 0 (by omega)
        rw [hn1, Nat.mul_one, Nat.add_zero] at old
        have eo : cur.toList.getD i' Go.undef = cur.getD i' Go.undef := by simp [List.getD_eq_getElem?_getD, Array.getD, show i' < cur.size by omega]
        by_cases c1 : i' < lo
        · rw [if_pos c1, if_pos c1, eo]; exact old.evo E
        · rw [if_neg c1, if_neg c1]
          by_cases c2 : i' < lo + min k ly.length
          · rw [if_pos c2, if_pos c2]
            have hnn := hnr (i' - lo) (by omega) 0 (by omega)
            rw [hn1, Nat.mul_one, Nat.add_zero] at hnn
            have ea : rowAV c'' (ly.take k) (i' - lo) = rowAV c'' ly (i' - lo) := by
              unfold rowAV
              rw [List.getD_eq_getElem?_getD, List.getElem?_take_of_lt (by omega), ← List.getD_eq_getElem?_getD]
            have eb : (news.take (min k ly.length)).getD (i' - lo) Go.undef = news.getD (i' - lo) Go.undef := by
              rw [List.getD_eq_getElem?_getD, List.getElem?_take_of_lt (by omega), ← List.getD_eq_getElem?_getD]
            rw [ea, eb]
            exact hnn.evo E
          · rw [if_neg c2, if_neg c2, eo]; exact old.evo E)
      exact ⟨S, μ, E, .int _ _, H', fun _ hne => .inl hne⟩
    · refine fin w ?_ (same (by simp))
      rw [hxv, hyv]
      have : (min k ([] : List (den c'')).length : Nat) = 0 := by simp
      rw [this]
      exact run_copy_none w t t' o.type e _ _ k cap 0 capy hu hsz1 (by show min 0 k = 0; omega)
  · refine fin w ?_ (same (by simp))
    have : (min 0 ly.length : Nat) = 0 := by simp
    rw [hxv, this]
    rcases hsrc with ⟨ad, capy, hyv, hcells⟩ | ⟨hl0, q', capy, hyv⟩
    · rw [hyv]
      exact run_copy_none w t t' o.type e _ _ 0 cap ly.length capy hu hsz1 (by show min ly.length 0 = 0; omega)
    · rw [hyv]
      exact run_copy_none w t t' o.type e _ _ 0 cap 0 capy hu hsz1 (by show min 0 0 = 0; omega)
end
end Go.Proofs.Ytemffnpliflkgaa
