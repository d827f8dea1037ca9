/-
  Lemmas and contracts on the way to the laws of this seat; each theorem states its own conditions, and there are no others.
-/
import Derived.Test.YtglkagaammnojaaXM

namespace Go.Proofs.Ytglkagaammnojaa
open Go
set_option linter.unusedVariables false
set_option linter.unusedSimpArgs false
set_option linter.unusedVariables false

def getCtr : AV → Option (List Chg)
  | .agg [v] => getL 7 v
  | _ => none
def pkCtr : PK (List Chg) where
  get := getCtr
  put := fun l => .agg [.irec false 7 l]
  ok := fun v a h w S μ x hS hx => by
    unfold getCtr at h
    split at h
    · obtain ⟨vs, h1, h2, rfl⟩ := hx.agg_inv
      refine .agg (by simpa using h1) fun i hi => ?_
      match i, hi with
      | 0, _ => exact getL_rel h hS (h2 0 (by simp))
      | k + 1, h => exact absurd h (by simp)
    · cases h
def ownL (gs : List Chg) (g : Int) : Int := match gs.find? (fun x => decide (x.group = g)) with
  | some x => x.own
  | none => 0
theorem ownL_at {gs : List Chg} {g : Int} {i : Nat} (h : ∀ j, j < i → ¬ (gn gs j).group = g) (hi : i < gs.length) (e : (gn gs i).group = g) : ownL gs g = (gn gs i).own := by
  have : gs.find? (fun x => decide (x.group = g)) = some (gn gs i) := by
    rw [List.find?_eq_some_iff_getElem]
    refine ⟨by simpa using e, i, hi, by simp [gn, List.getD_eq_getElem?_getD, hi], fun j hj => ?_⟩
    have := h j hj
    have e2 : gn gs j = gs[j] := by simp [gn, List.getD_eq_getElem?_getD, show j < gs.length by omega]
    rw [e2] at this
    simpa using this
  rw [ownL, this]
theorem ownL_none {gs : List Chg} {g : Int} (h : ∀ j, j < gs.length → ¬ (gn gs j).group = g) : ownL gs g = 0 := by
  have : gs.find? (fun x => decide (x.group = g)) = none := by
    rw [List.find?_eq_none]
    intro x hx
    obtain ⟨i, hi, e⟩ := List.getElem_of_mem hx
    have := h i hi
    have e2 : gn gs i = gs[i] := by simp [gn, List.getD_eq_getElem?_getD, hi]
    rw [e2, e] at this
    simpa using this
  rw [ownL, this]
def sOwn : DS := ⟨_, two pkCtr pkI, fun x => x.1.length ≤ 9223372036854775807, fun x => .int .i64 (ownL x.1 x.2.1), nou⟩

def inv94 (gs : List Chg) (g : Int) : Inv where
  X := Int
  ok := fun i => 0 ≤ i ∧ i ≤ gs.length ∧ ∀ j : Nat, (j : Int) < i → ¬ (gn gs j).group = g
  sl := fun i => [(5, .int .i64 i)]
  hp := fun _ => []
  keep := [10000]
  me := fun i => (gs.length - i).toNat
set_option maxRecDepth 100000 in
theorem vc94 (gs : List Chg) (g : Int) (hx : gs.length ≤ 9223372036854775807) : sOwn.vc (EV Try.prog [] (invs [(2, inv94 gs g)]) noInv) Try.f94 (gs, g, ()) := by
  have e : ((∃ (x : Int), ((0 : Int) ≤ x ∧ x ≤ (↑gs.length : Int) ∧ ∀ (j : Nat), (↑j : Int) < x → ¬(gn gs j).group = g) ∧ (0 : Int) = x ∧ gs = gs) ∧ ∀ (x : Int), ((0 : Int) ≤ x ∧ x ≤ (↑gs.length : Int) ∧ ∀ (j : Nat), (↑j : Int) < x → ¬(gn gs j).group = g) → (Decidable.decide (x < (↑gs.length : Int)) = Bool.true → ((0 : Int) ≤ x ∧ x < (↑gs.length : Int)) ∧ (Decidable.decide ((gs.getD x.toNat { group := (0 : Int), own := (0 : Int) : Chg }).group = g) = Bool.true → ((0 : Int) ≤ x ∧ x < (↑gs.length : Int)) ∧ ∃ (y : Unit), True ∧ (gs.getD x.toNat { group := (0 : Int), own := (0 : Int) : Chg }).own = ownL gs g) ∧ (Decidable.decide ((gs.getD x.toNat { group := (0 : Int), own := (0 : Int) : Chg }).group = g) = Bool.false → i64R (x + (1 : Int)) ∧ ∃ (x' : Int), ((0 : Int) ≤ x' ∧ x' ≤ (↑gs.length : Int) ∧ ∀ (j : Nat), (↑j : Int) < x' → ¬(gn gs j).group = g) ∧ ((↑gs.length : Int) - x').toNat < ((↑gs.length : Int) - x).toNat ∧ x + (1 : Int) = x' ∧ gs = gs)) ∧ (Decidable.decide (x < (↑gs.length : Int)) = Bool.false → ∃ (y : Unit), True ∧ (0 : Int) = ownL gs g)) = sOwn.vc (EV Try.prog [] (invs [(2, inv94 gs g)]) noInv) Try.f94 (gs, g, ()) := by kernel_rfl
  rw [← e]
  clear e
  simp only [imp_self, true_and, and_true, exists_const, implies_true, gd1, gd2, gd3, gd4, gd5, gd6, NilL_eq ]
  simp only [Prod.forall, Prod.exists, exists_const, implies_true, not_true_eq_false, not_false_eq_true, or_self, or_false, false_or, or_true, true_or, and_false, false_and, forall_const, true_and, and_true, i64R, imp_self, Int.reduceLE, Int.reduceLT, Int.reduceNeg, false_implies, true_implies, decide_eq_true_eq, decide_eq_false_iff_not, Bool.not_eq_true', Bool.not_eq_false', Bool.true_eq_false, Bool.false_eq_true, Bool.and_eq_true, Bool.or_eq_true, NilL_eq, Bool.and_eq_false_iff, Bool.or_eq_false_iff ]
  simp only [gn_fold]
  refine ⟨⟨0, ⟨by omega, by omega, fun j hj => by omega⟩, rfl⟩, fun x hi => ⟨fun hlt => ⟨by omega, fun he => ⟨by omega, ?_⟩, fun hn => ⟨by omega, x + 1, ⟨by omega, by omega, fun j hj => ?_⟩, by omega, rfl⟩⟩, fun hge => ?_⟩⟩
  · rw [ownL_at (fun j hj => hi.2.2 j (by omega)) (by omega) he]
  · by_cases e : (j : Int) < x
    · exact hi.2.2 j e
    · have : j = x.toNat := by omega
      rw [this]; exact hn
  · rw [ownL_none (fun j hj => hi.2.2 j (by omega))]
end Go.Proofs.Ytglkagaammnojaa
