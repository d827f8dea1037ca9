/-
  Lemmas and contracts on the way to the laws of this seat; each theorem states its own conditions, and there are no others.
-/
import Derived.Test.YtemffnpliflkgaaE25
namespace Go.Proofs.Ytemffnpliflkgaa
open Go
set_option linter.unusedVariables false
set_option linter.unusedSimpArgs false

/-- A return that is as told. -/
theorem ret_sound {P : Program} {N : Nat} {s : St} {a : Act} {w w' : World} {S S' : SS} {μ μ' : MM} {h : Nat → Option OB} (H0 : HRel w S μ h) {fn : Func} {boxes : List OB} (hb : ∀ i o, heapOf (numb boxes 0) i = some o → h i = some o) (hμ : ∀ i, 100 ≤ i → μ i = none)
    (R : Rel N s a w' S' μ') (ev : WEvo w S w' S') (st : ∀ id m, μ id = some m → μ' id = some m) {v : AV} {u : List (Nat × OB)} (hr : retOk P fn s boxes.length v u) :
    ∃ x S2 μ2, (results fn a.tmps).run P w' = .ok x w' ∧ Evo w S μ w' S2 μ2 ∧ VRel w' (trS S2) μ2 v x ∧ HRel w' (trS S2) μ2 (heapOf u) ∧
      (∀ i o m b, heapOf u i = some o → μ2 i = some m → holds w' m o b → ¬ S2 false b) ∧ (∀ i, μ2 i ≠ none → μ i ≠ none ∨ (100 ≤ i ∧ i < 110)) := by
  unfold retOk at hr
  cases hR : retA P s fn with
  | none => rw [hR] at hr; omega
  | some r =>
    simp only [hR] at hr
    by_cases hc : (clean v && cleanU u && once u && resBelow boxes.length (mtRet s boxes.length v r u)) = true
    case neg => simp only [hc, cond_false] at hr; omega
    simp only [hc, cond_true] at hr
    simp only [Bool.and_eq_true] at hc
    obtain ⟨⟨⟨hcv, hcu⟩, honce⟩, hbel⟩ := hc
    obtain ⟨x, hx, hxr⟩ := retA_run R hR
    cases hM : mtRet s boxes.length v r u with
    | none => rw [hM] at hr; simp [mtEnd] at hr
    | some M =>
      rw [hM] at hr hbel
      simp only [mtEnd] at hr
      by_cases hg : goneOk M = true
      case neg => simp only [hg, cond_false] at hr; omega
      simp only [hg, cond_true] at hr
      have hps := conjL_iff hr
      unfold mtRet at hM
      split at hM
      · rename_i m1 h1
        obtain ⟨e1, o1, r1⟩ := mt3_spec h1
        obtain ⟨e2, o2, k2, r2⟩ := mtOs_spec hM
        have hok0 : MOk s.h ⟨[], idRen boxes.length, []⟩ := ⟨idRen_ok _, fun j hj => by simp at hj⟩
        have hok := o2 (o1 hok0)
        obtain ⟨H', Ev⟩ := heap_after (fb := μ) R.hp hM hok hps hg honce
        have hv := r1 M w' S' μ' (nm M u μ' μ) x e2 hps R.hp (nm_named _ _ _ _) hxr
        have ext : ∀ id m, μ id = some m → nm M u μ' μ id = some m := fun id m hm => by
          have hlt : id < 100 := by
            by_cases h : id < 100
            · exact h
            · rw [hμ id (by omega)] at hm; cases hm
          simp only [nm]
          cases hl : M.ρ.look id with
          | none => exact hm
          | some q =>
            have := hok.ren.stab id q hl
            have hs : stab id = true := by
              unfold stab
              have : Nat.blt id 100 = true := Nat.ble_eq_true_of_le hlt
              rw [this, Bool.true_or]
            simp only [stabOk, hs, Bool.not_true, Bool.false_or] at this
            cases q with
            | none => cases this
            | some k =>
              have := Nat.eq_of_beq_eq_true this
              subst this
              exact st _ _ hm
        have ev2 := ev.trans Ev.w
        refine ⟨x, frz S' μ' M.gone, nm M u μ' μ, hx, ⟨ev2.os, ev2.tape, ev2.output, ev2.size, ev2.keep, ev2.fls, ev2.tru, ev2.trn, ext⟩, clean_rel hcv hv, clean_heap hcu H', fun i o m b h1 h2 h3 => H'.sepH i o m b false h1 h2 h3, fun i hi => ?_⟩
        by_cases h0 : μ i = none
        case neg => exact .inl h0
        simp only [nm] at hi
        cases hl : M.ρ.look i with
        | none => simp only [hl] at hi; exact absurd h0 hi
        | some q =>
          obtain ⟨r', hr'⟩ := look_mem hl
          simp only [resBelow] at hbel
          rw [List.all_eq_true] at hbel
          have hk := hbel _ hr'
          simp only [Bool.or_eq_true, Bool.and_eq_true] at hk
          rcases hk with hk | ⟨h5, h6⟩
          · have hlt : i < boxes.length := Nat.le_of_ble_eq_true hk
            obtain ⟨o, ho⟩ := numb_some (l := boxes) (k := 0) (i := i) (by omega) (by omega)
            obtain ⟨m, hm, _⟩ := H0.blk i o (hb i o ho)
            rw [h0] at hm; cases hm
          · exact .inr ⟨Nat.le_of_ble_eq_true h5, Nat.le_of_ble_eq_true h6⟩
      · cases hM

theorem init_rel {N : Nat} {w : World} {S : SS} {μ : MM} {h : Nat → Option OB} (H0 : HRel w S μ h) {boxes : List OB} (hb : ∀ i o, heapOf (numb boxes 0) i = some o → h i = some o) {avs : List AV} {xs : List Value} (hv : VRs w S μ avs xs) (hn : avs.length ≤ N) :
    Rel N (initSt avs (numb boxes 0)) { tmps := xs.toArray ++ Array.replicate (N - xs.toArray.size) Go.undef, defers := [] } w S μ where
  tm := fun i => by
    have hl := hv.len
    show VRel w S μ (avs.getD i .undef) _
    by_cases hi : i < avs.length
    · have := hv.get i hi
      have e : (xs.toArray ++ Array.replicate (N - xs.toArray.size) Go.undef).getD i Go.undef = xs.getD i Go.undef := by
        have : i < xs.length := by omega
        simp [Array.getD_eq_getD_getElem?, List.getD_eq_getElem?_getD, Array.getElem?_append, this]
      rw [e]; exact this
    · have : avs.getD i .undef = .undef := by simp [List.getD_eq_getElem?_getD, List.getElem?_eq_none (Nat.le_of_not_lt hi)]
      rw [this]; exact .undef _
  hp := H0.sub hb
  df := rfl
  sz := by
    have := hv.len
    simp; omega

/-- The condition holds: so the function does as told. -/
theorem meets_of_vc (E : Env) (henv : ∀ f s, E.spec f = some s → Callable E.P f ∧ Valid E.P f s) (hmix : E.P.follows .mixedOrders = true) {f : FuncId} {fn : Func} (hf : E.P.funcs[f]? = some fn) {avs : List AV} {boxes : List OB} {h : Nat → Option OB} (hb : ∀ i o, heapOf (numb boxes 0) i = some o → h i = some o)
    {Y : Type} {post : Y → Prop} {res : Y → AV} {upd : Y → List (Nat × OB)} (hvc : fnVC E fn avs boxes Y post res upd) : Meets E.P f avs h fun r u => ∃ y, post y ∧ r = res y ∧ u = upd y := by
  intro w Z μ xs hμ _ H hv
  unfold fnVC at hvc
  cases hB : fn.body with
  | none => rw [hB] at hvc; omega
  | some c =>
    simp only [hB] at hvc
    by_cases hc : (!(Nat.ble avs.length fn.ntmps && Nat.ble boxes.length 100)) = true
    case pos => simp only [hc, cond_true] at hvc; omega
    simp only [hc, cond_false] at hvc
    simp only [Bool.not_eq_true', Bool.not_eq_false, Bool.and_eq_true] at hc
    have hn : avs.length ≤ fn.ntmps := Nat.le_of_ble_eq_true hc.1
    refine calls_of_wp hf hB ?_
    have R := init_rel (N := fn.ntmps) H hb hv hn
    have hfresh : ∀ k, μ k ≠ none → k < (initSt avs (numb boxes 0)).nx := fun k hk => by
      show k < 1000
      have : k < 100 := by
        by_cases h : k < 100
        · exact h
        · exact absurd (hμ k (by omega)) hk
      omega
    have low : ∀ id m, μ id = some m → stab id = true ∧ id < 1000 := fun id m hm => by
      have : id < 100 := by
        by_cases h : id < 100
        · exact h
        · rw [hμ id (by omega)] at hm; cases hm
      refine ⟨?_, by omega⟩
      unfold stab
      have h1 : Nat.blt id 100 = true := Nat.ble_eq_true_of_le this
      rw [h1, Bool.true_or]
    refine exec_sound { E with nt := fn.ntmps } henv hmix c _ _ w _ μ _ _ R hfresh hvc fun e s' a' w' S' μ' B hk => ?_
    have fin : (∃ y, post y ∧ prep (retPre E.P fn s' boxes.length (upd y)) s' fun s' => retOk E.P fn s' boxes.length (res y) (upd y)) → a'.defers = [] ∧ ∃ v, (results fn a'.tmps).run E.P w' = .ok v w' ∧ ∃ r u v' S' μ', (∃ y, post y ∧ r = res y ∧ u = upd y) ∧ Ending.returned v = .returned v' ∧ Evo w (ZL w Z μ h) μ w' S' μ' ∧ VRel w' (trS S') μ' r v' ∧ HRel w' (trS S') μ' (heapOf u) ∧
      (∀ i o m b, heapOf u i = some o → μ' i = some m → holds w' m o b → ¬ S' false b) ∧ (∀ i, μ' i ≠ none → μ i ≠ none ∨ (100 ≤ i ∧ i < 110)) := fun ⟨y, hp, hret⟩ => by
      obtain ⟨s2, S1, hret, E1, R1, _, _⟩ := prep_ok hret B.rel
      obtain ⟨x, S2, μ2, g1, g2, g3, g4, g5, g6⟩ := ret_sound H hb hμ R1 (B.ev.trans E1.w) (fun id m hm => B.st id m (low id m hm).1 (low id m hm).2 hm) hret
      exact ⟨B.rel.df, x, g1, _, _, x, S2, μ2, ⟨y, hp, rfl, rfl⟩, rfl, g2, g3, g4, g5, g6⟩
    cases e with
    | norm => exact fin hk
    | ret => exact fin hk
    | exit i => simp only at hk; omega

theorem Meets.mono {P : Program} {f : FuncId} {avs : List AV} {h : Nat → Option OB} {R R' : AV → List (Nat × OB) → Prop} (hm : Meets P f avs h R) (hR : ∀ r u, R r u → R' r u) : Meets P f avs h R' := by
  intro w Z μ xs h1 h2 h3 h4
  exact (hm w Z μ xs h1 h2 h3 h4).mono fun e w' ⟨r, u, v, S', μ', g, k⟩ => ⟨r, u, v, S', μ', hR r u g, k⟩

/-- A slice that may be nil, as its content. -/
def nil1 : AV → Nat → AV
  | .nsl, c => .irec false c []
  | v, _ => v
theorem Meets.of {P : Program} {f : FuncId} {avs avs' : List AV} {h : Nat → Option OB} {R : AV → List (Nat × OB) → Prop} (hm : Meets P f avs' h R) (hv : ∀ w S μ xs, (∀ b, S true b → S false b) → VRs w S μ avs xs → VRs w S μ avs' xs) : Meets P f avs h R :=
  fun w Z μ xs h1 h2 h3 h4 => hm w Z μ xs h1 h2 h3 (hv w (ZL w Z μ h) μ xs h2 h4)

/-- What is asked of a function's proof. -/
structure FnOK (E : Env) (f : FuncId) (S : Spec) : Prop where
  fn : ∃ fn, E.P.funcs[f]? = some fn ∧ (fn.name == "runtime.NumGoroutine") = false ∧ fn.body.isNone = false
  ok : Valid E.P f S

/-- A spec's data, read from arguments: avs as values args, and the boxes there are. -/
def Reads (avs : List AV) (h : Nat → Option OB) (args : List AV) (boxes : List OB) : Prop :=
  (∀ w S μ xs, (∀ b, S true b → S false b) → VRs w S μ avs xs → VRs w S μ args xs) ∧ ∀ i o, heapOf (numb boxes 0) i = some o → h i = some o

theorem valid_d (E : Env) (henv : ∀ f s, E.spec f = some s → Callable E.P f ∧ Valid E.P f s) (hmix : E.P.follows .mixedOrders = true) {f : FuncId} {fn : Func} (hf : E.P.funcs[f]? = some fn) (D : DSpec) (args : D.X → List AV) (boxes : D.X → List OB)
    (hi : ∀ avs h x, D.inst avs h = some x → Reads avs h (args x) (boxes x)) (hvc : ∀ x, D.pre x → fnVC E fn (args x) (boxes x) Unit (fun _ => True) (fun _ => D.res x) (fun _ => D.upd x)) : Valid E.P f (.d D) :=
  fun avs h x hx hp => ((meets_of_vc E henv hmix hf (hi avs h x hx).2 (hvc x hp)).of (hi avs h x hx).1).mono fun r u ⟨_, _, h1, h2⟩ => ⟨h1, h2⟩
theorem valid_f (E : Env) (henv : ∀ f s, E.spec f = some s → Callable E.P f ∧ Valid E.P f s) (hmix : E.P.follows .mixedOrders = true) {f : FuncId} {fn : Func} (hf : E.P.funcs[f]? = some fn) (D : FSpec) (args : D.X → List AV) (boxes : D.X → List OB)
    (hi : ∀ avs h x, D.inst avs h = some x → Reads avs h (args x) (boxes x)) (hvc : ∀ x, D.pre x → fnVC E fn (args x) (boxes x) D.Y (D.post x) (D.res x) (D.upd x)) : Valid E.P f (.f D) :=
  fun avs h x hx hp => (meets_of_vc E henv hmix hf (hi avs h x hx).2 (hvc x hp)).of (hi avs h x hx).1
end Go.Proofs.Ytemffnpliflkgaa
