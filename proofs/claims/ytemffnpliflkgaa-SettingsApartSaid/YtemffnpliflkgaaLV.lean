/-
  Lemmas and contracts on the way to the laws of this seat; each theorem states its own conditions, and there are no others.
-/
import Derived.Test.YtemffnpliflkgaaPL2

namespace Go.Proofs.Ytemffnpliflkgaa
open Go
set_option linter.unusedVariables false
set_option linter.unusedSimpArgs false
set_option linter.unusedVariables false

def sLaw11 : DS := ⟨_, one pkIntsP, fun _ => True, fun _ => .bool true, nou⟩
def contF (s : St) (v : AV) : List Cfg := match v with
  | .nsl => []
  | v => match contentA s.h v with
    | some ⟨6, l⟩ => l
    | _ => []
def rowsN (s : St) (id : Nat) : List Nod := match s.h id with
  | some (.rows _ 3 l) => l
  | _ => []
def cellI1 (s : St) (id : Nat) : Int := match s.h id with
  | some (.cells _ [_, .int _ n]) => n
  | _ => 0

def inv5a (s : St) : Inv where
  X := Int
  ok := fun i => 0 ≤ i
  sl := fun i => [(53, .int .i64 i), (5, .own 101 6), (7, .own 103 6), (9, .own 105 0)]
  hp := fun i => [(101, .rows 96 6 (contF s (s.t 5))), (103, .rows 96 6 (contF s (s.t 7))), (105, .rows 3 0 (contI s (s.t 9)))]
  keep := [50020, 50011]
  me := fun i => ((rowsN s 50011).length - i).toNat
def inv5b (s : St) : Inv where
  X := Int
  ok := fun k => 0 ≤ k ∧ k ≤ (contI s (s.t 62)).length
  sl := fun k => [(64, .int .i64 k), (12, .bool (anyI (slotI s 11) ((contI s (s.t 62)).take k.toNat))), (5, .own 101 6), (7, .own 103 6), (9, .own 105 0), (62, .own 105 0)]
  hp := fun k => [(101, .rows 96 6 (contF s (s.t 5))), (103, .rows 96 6 (contF s (s.t 7))), (105, .rows 3 0 (contI s (s.t 9)))]
  keep := [50020, 50011]
  me := fun k => ((contI s (s.t 62)).length - k).toNat
set_option maxRecDepth 100000 in
theorem vc5 (L : List Int) (hx : True) : sLaw11.vc (EV Try.prog [(14, sLight.spec), (15, sSane11.spec), (16, sRoll.spec), (17, sTree.spec), (18, sCfgsD.spec), (23, sNext.spec), (31, sStgD.spec), (30, sSetC.spec), (32, sSubR.spec), (19, sLow.spec), (29, sEqS.spec)] (invsS [(12, inv5a), (17, inv5b)]) noInv) Try.f5 (L, ()) := by
  have e : (True ∧ ((!decide ((↑L.length : Int) ≤ 600)) = true → True ∧ ∃ (y : Unit), True ∧ true = true) ∧ ((!decide ((↑L.length : Int) ≤ 600)) = false → True ∧ (DOK (L, 0) ∧ (0 : Int) ≤ 7 ∧ (7 : Int) ≤ 20) ∧ (∀ (y : (List Nod × Int) × Int), true = true) ∧ ∀ (y : (List Nod × Int) × Int), (TreeP y.fst.fst y.fst.snd ∧ (↑y.fst.fst.length : Int) ≤ (7 : Int) + 1) ∧ 0 ≤ y.snd ∧ y.snd ≤ (↑L.length : Int) → (DOK (L, y.snd) ∧ y.fst.fst.length ≤ (64 : Nat)) ∧ (∀ (y : List Cfg × Int), true = true) ∧ ∀ (y_1 : List Cfg × Int), CfgsP y.fst.fst y_1.fst ∧ y.snd ≤ y_1.snd ∧ y_1.snd ≤ (↑L.length : Int) → (DOK (L, y_1.snd) ∧ (↑y.fst.fst.length : Int) ≤ 4611686018427387904) ∧ (∀ (y : Int × Int), true = true) ∧ ∀ (y_2 : Int × Int), (1 ≤ (↑y.fst.fst.length : Int) → 0 ≤ y_2.fst ∧ y_2.fst < (↑y.fst.fst.length : Int)) ∧ ((↑y.fst.fst.length : Int) < 1 → y_2.fst = 0) ∧ y_1.snd ≤ y_2.snd ∧ y_2.snd ≤ (↑L.length : Int) → (0 ≤ y_2.fst ∧ y_2.fst < (↑y.fst.fst.length : Int)) ∧ DOK (L, y_2.snd) ∧ (∀ (y : Stg × Int), true = true) ∧ ∀ (y_3 : Stg × Int), MS y_3.fst ∧ y_2.snd ≤ y_3.snd ∧ y_3.snd ≤ (↑L.length : Int) → ((WfN y.fst.fst ∧ CL y_1.fst) ∧ SOk y_3.fst) ∧ ((!decide (setE y.fst.fst y.fst.snd y_1.fst (nd y.fst.fst y_2.fst.toNat).id y_3.fst = 0)) = true → ∃ (y : Unit), True ∧ false = true) ∧ ((!decide (setE y.fst.fst y.fst.snd y_1.fst (nd y.fst.fst y_2.fst.toNat).id y_3.fst = 0)) = false → ChkP y.fst.fst y.fst.snd ∧ (∀ (y : List Int), true = true) ∧ ∀ (y_4 : List Int), Sub y.fst.fst (nd y.fst.fst y_2.fst.toNat).id y_4 → (∃ (x : Int), 0 ≤ x ∧ 0 = x ∧ y_1.fst = y_1.fst ∧ setL y.fst.fst y.fst.snd y_1.fst (nd y.fst.fst y_2.fst.toNat).id y_3.fst = setL y.fst.fst y.fst.snd y_1.fst (nd y.fst.fst y_2.fst.toNat).id y_3.fst ∧ y_4 = y_4 ∧ y.fst.snd = y.fst.snd ∧ y.fst.fst = y.fst.fst) ∧ ∀ (x : Int), 0 ≤ x → (decide (x < (↑y.fst.fst.length : Int)) = true → (0 ≤ x ∧ x < (↑y.fst.fst.length : Int)) ∧ (∃ (x_1 : Int), (0 ≤ x_1 ∧ x_1 ≤ (↑y_4.length : Int)) ∧ 0 = x_1 ∧ false = anyI (nd y.fst.fst x.toNat).id (List.take x_1.toNat y_4) ∧ y_1.fst = y_1.fst ∧ setL y.fst.fst y.fst.snd y_1.fst (nd y.fst.fst y_2.fst.toNat).id y_3.fst = setL y.fst.fst y.fst.snd y_1.fst (nd y.fst.fst y_2.fst.toNat).id y_3.fst ∧ y_4 = y_4 ∧ y.fst.snd = y.fst.snd ∧ y.fst.fst = y.fst.fst) ∧ ∀ (x_1 : Int), 0 ≤ x_1 ∧ x_1 ≤ (↑y_4.length : Int) → (decide (x_1 < (↑y_4.length : Int)) = true → (0 ≤ x_1 ∧ x_1 < (↑y_4.length : Int)) ∧ (anyI (nd y.fst.fst x.toNat).id (List.take x_1.toNat y_4) = false → anyI (nd y.fst.fst x.toNat).id (List.take x_1.toNat y_4) = false) ∧ (anyI (nd y.fst.fst x.toNat).id (List.take x_1.toNat y_4) = false → anyI (nd y.fst.fst x.toNat).id (List.take x_1.toNat y_4) = false) ∧ (anyI (nd y.fst.fst x.toNat).id (List.take x_1.toNat y_4) = false → anyI (nd y.fst.fst x.toNat).id (List.take x_1.toNat y_4) = false) ∧ i64R (x_1 + 1) ∧ ∃ (x' : Int), (0 ≤ x' ∧ x' ≤ (↑y_4.length : Int)) ∧ ((↑y_4.length : Int) - x').toNat < ((↑y_4.length : Int) - x_1).toNat ∧ x_1 + 1 = x' ∧ (anyI (nd y.fst.fst x.toNat).id (List.take x_1.toNat y_4) || decide (y_4.getD x_1.toNat 0 = (nd y.fst.fst x.toNat).id)) = anyI (nd y.fst.fst x.toNat).id (List.take x'.toNat y_4) ∧ y_1.fst = y_1.fst ∧ setL y.fst.fst y.fst.snd y_1.fst (nd y.fst.fst y_2.fst.toNat).id y_3.fst = setL y.fst.fst y.fst.snd y_1.fst (nd y.fst.fst y_2.fst.toNat).id y_3.fst ∧ y_4 = y_4 ∧ y.fst.snd = y.fst.snd ∧ y.fst.fst = y.fst.fst) ∧ (decide (x_1 < (↑y_4.length : Int)) = false → ((!anyI (nd y.fst.fst x.toNat).id (List.take x_1.toNat y_4)) = true → (!anyI (nd y.fst.fst x.toNat).id (List.take x_1.toNat y_4)) = true) ∧ ((!anyI (nd y.fst.fst x.toNat).id (List.take x_1.toNat y_4)) = true → (!anyI (nd y.fst.fst x.toNat).id (List.take x_1.toNat y_4)) = true) ∧ ((!anyI (nd y.fst.fst x.toNat).id (List.take x_1.toNat y_4)) = true → (!anyI (nd y.fst.fst x.toNat).id (List.take x_1.toNat y_4)) = true) ∧ ((!anyI (nd y.fst.fst x.toNat).id (List.take x_1.toNat y_4)) = true → ChkP y.fst.fst y.fst.snd ∧ CL y_1.fst) ∧ ((!anyI (nd y.fst.fst x.toNat).id (List.take x_1.toNat y_4)) = true → (!anyI (nd y.fst.fst x.toNat).id (List.take x_1.toNat y_4)) = true) ∧ ((!anyI (nd y.fst.fst x.toNat).id (List.take x_1.toNat y_4)) = true → (!anyI (nd y.fst.fst x.toNat).id (List.take x_1.toNat y_4)) = true) ∧ ((!anyI (nd y.fst.fst x.toNat).id (List.take x_1.toNat y_4)) = true → (!anyI (nd y.fst.fst x.toNat).id (List.take x_1.toNat y_4)) = true) ∧ ((!anyI (nd y.fst.fst x.toNat).id (List.take x_1.toNat y_4)) = true → ChkP y.fst.fst y.fst.snd ∧ CL (setL y.fst.fst y.fst.snd y_1.fst (nd y.fst.fst y_2.fst.toNat).id y_3.fst)) ∧ ((!anyI (nd y.fst.fst x.toNat).id (List.take x_1.toNat y_4)) = true → (!anyI (nd y.fst.fst x.toNat).id (List.take x_1.toNat y_4)) = true) ∧ ((!anyI (nd y.fst.fst x.toNat).id (List.take x_1.toNat y_4)) = true → (!anyI (nd y.fst.fst x.toNat).id (List.take x_1.toNat y_4)) = true) ∧ ((!anyI (nd y.fst.fst x.toNat).id (List.take x_1.toNat y_4)) = true → SOk (lowS y.fst.fst y.fst.snd y_1.fst (nd y.fst.fst x.toNat).id)) ∧ ((!anyI (nd y.fst.fst x.toNat).id (List.take x_1.toNat y_4)) = true → (!anyI (nd y.fst.fst x.toNat).id (List.take x_1.toNat y_4)) = true) ∧ ((!anyI (nd y.fst.fst x.toNat).id (List.take x_1.toNat y_4)) = true → (!anyI (nd y.fst.fst x.toNat).id (List.take x_1.toNat y_4)) = true) ∧ ((!anyI (nd y.fst.fst x.toNat).id (List.take x_1.toNat y_4) && !eqS (lowS y.fst.fst y.fst.snd y_1.fst (nd y.fst.fst x.toNat).id) (lowS y.fst.fst y.fst.snd (setL y.fst.fst y.fst.snd y_1.fst (nd y.fst.fst y_2.fst.toNat).id y_3.fst) (nd y.fst.fst x.toNat).id)) = true → ∃ (y : Unit), True ∧ false = true) ∧ ((!anyI (nd y.fst.fst x.toNat).id (List.take x_1.toNat y_4) && !eqS (lowS y.fst.fst y.fst.snd y_1.fst (nd y.fst.fst x.toNat).id) (lowS y.fst.fst y.fst.snd (setL y.fst.fst y.fst.snd y_1.fst (nd y.fst.fst y_2.fst.toNat).id y_3.fst) (nd y.fst.fst x.toNat).id)) = false → i64R (x + 1) ∧ ∃ (x' : Int), 0 ≤ x' ∧ ((↑y.fst.fst.length : Int) - x').toNat < ((↑y.fst.fst.length : Int) - x).toNat ∧ x + 1 = x' ∧ y_1.fst = y_1.fst ∧ setL y.fst.fst y.fst.snd y_1.fst (nd y.fst.fst y_2.fst.toNat).id y_3.fst = setL y.fst.fst y.fst.snd y_1.fst (nd y.fst.fst y_2.fst.toNat).id y_3.fst ∧ y_4 = y_4 ∧ y.fst.snd = y.fst.snd ∧ y.fst.fst = y.fst.fst))) ∧ (decide (x < (↑y.fst.fst.length : Int)) = false → True ∧ ∃ (y : Unit), True ∧ true = true)))) = sLaw11.vc (EV Try.prog [(14, sLight.spec), (15, sSane11.spec), (16, sRoll.spec), (17, sTree.spec), (18, sCfgsD.spec), (23, sNext.spec), (31, sStgD.spec), (30, sSetC.spec), (32, sSubR.spec), (19, sLow.spec), (29, sEqS.spec)] (invsS [(12, inv5a), (17, inv5b)]) noInv) Try.f5 (L, ()) := by kernel_rfl
  rw [← e]
  clear e
  simp only [imp_self, true_and, and_true, exists_const, implies_true, gd1, gd2, gd3, gd4, gd5, gd6 ]
  simp only [Prod.forall, Prod.exists, exists_const, implies_true, not_true_eq_false, not_false_eq_true, or_self, or_false, false_or, or_true, true_or, and_false, false_and, forall_const, true_and, and_true, i64R, imp_self, Int.reduceLE, Int.reduceLT, Int.reduceNeg, false_implies, true_implies, decide_eq_true_eq, decide_eq_false_iff_not, Bool.not_eq_true', Bool.not_eq_false', Bool.true_eq_false, Bool.false_eq_true, Bool.and_eq_true, Bool.or_eq_true, Bool.and_eq_false_iff, Bool.or_eq_false_iff ]
  intro hL
  have hd : ∀ j : Int, 0 ≤ j → j ≤ L.length → DOK (L, j) := fun j h1 h2 => ⟨h1, h2, by show L.length ≤ 600; omega⟩
  refine ⟨hd 0 (by omega) (by omega), fun l n j1 ht => ?_⟩
  obtain ⟨⟨htp, htl⟩, t1, t2⟩ := ht
  have hc := htp.chk
  have l1 := hc.len1
  have l2 := hc.len2
  refine ⟨⟨hd _ (by omega) (by omega), l2⟩, fun c j2 hp => ⟨⟨hd _ (by omega) (by omega), by omega⟩, fun r j3 hr => ?_⟩⟩
  have hr1 := hr.1 (by omega)
  refine ⟨by omega, hd _ (by omega) (by omega), fun s j4 hs => ?_⟩
  have hcl := hp.1.cl hc
  obtain ⟨k1, k2, k3, k4⟩ := set_law hp.1 hc hs.1 (i := r.toNat) (by omega)
  have hcl2 := k2.cl hc
  refine ⟨⟨⟨hc.wf, hcl⟩, hs.1.2⟩, fun h => h k1, fun _ => ⟨hc, fun S hS => ⟨⟨0, by omega, rfl⟩, fun x hx hlt => ⟨by omega, ⟨0, by omega, rfl, rfl⟩, fun k hk => ⟨fun hlt2 => ?_, fun hge => ?_⟩⟩⟩⟩⟩
  · have hSl := sub_len hS
    have ek : (k + 1).toNat = k.toNat + 1 := by omega
    refine ⟨by omega, by omega, k + 1, by omega, by omega, rfl, ?_⟩
    rw [ek]
    exact anyI_step (by omega)
  · rw [List.take_of_length_le (by omega)]
    have key : anyI (nd l x.toNat).id S = false → (nd l r.toNat).id ∉ upT l (nd l x.toNat).id := fun h hm => by
      rw [anyI_iff.2 ((hS.2 _).2 hm)] at h
      cases h
    refine ⟨fun _ => ⟨hc, hcl⟩, fun _ => ⟨hc, hcl2⟩, fun h => ?_, fun h => ?_, fun _ => ⟨by omega, x + 1, by omega, by omega, rfl⟩⟩
    · rw [low_at hp.1 hc (ids_mem.2 ⟨x.toNat, by omega, rfl⟩)]
      obtain ⟨a1, a2, a3⟩ := lowF_keep c (upT l (nd l x.toNat).id) (getC c (nd l x.toNat).id)
      have := getC_ok hcl (nd l x.toNat).id
      unfold SOk at this ⊢
      show (lowF c _ _).cpus.length ≤ _ ∧ (lowF c _ _).mems.length ≤ _ ∧ (lowF c _ _).devs.length ≤ _
      rw [a1, a2, a3]
      exact this
    · rw [← apart_law hp.1 hc hs.1 (by omega) (by omega) (key h.1), eqS_refl] at h
      exact Bool.noConfusion h.2
end Go.Proofs.Ytemffnpliflkgaa
