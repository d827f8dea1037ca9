/-
  Lemmas and contracts on the way to the laws of this seat; each theorem states its own conditions, and there are no others.
-/
import Derived.Test.YtaipgdhaoldhjaaE9
namespace Go.Proofs.Ytaipgdhaoldhjaa
open Go
set_option linter.unusedVariables false
set_option linter.unusedSimpArgs false
theorem dec_rel {w : World} {S : SS} {μ : MM} {c : Nat} {vs : List AV} {x : den c} (hd : dec c vs = some x) {xs : List Value} (h : VRs w S μ vs xs) : VRs w S μ (enc c x) xs := by
  unfold dec at hd
  split at hd
  · cases hd; exact h
  · cases hd; exact h
  · cases hd
    cases h with
    | cons h t => cases h; exact .cons (.bool _) t
  · cases hd
    cases h with
    | cons h t => cases h; exact .cons (.bool _) t
  · cases hd; exact h
  · cases hd
theorem enc_leaf : ∀ (c : Nat) (x : den c), allL (enc c x) = true
  | 0, _ => rfl
  | 1, _ => rfl
  | 2, _ => rfl
  | _ + 3, _ => rfl
/-- A row's cells bear no names of blocks. -/
theorem enc_free {w : World} {S : SS} {μ : MM} {c : Nat} {x : den c} {j : Nat} {y : Value} (hj : j < ncell c) (hv : VRel w S μ ((enc c x).getD j .undef) y) (μ' : MM) : VRel w S μ' ((enc c x).getD j .undef) y := by
  match c, x, j, hj, hv with
  | 0, x, 0, _, hv => cases hv; exact .int _ _
  | 1, x, 0, _, hv => cases hv; exact .bool _
  | 2, x, 0, _, hv => cases hv; exact .str _
  | 0, x, k + 1, h, _ => exact absurd h (by simp [ncell])
  | 1, x, k + 1, h, _ => exact absurd h (by simp [ncell])
  | 2, x, k + 1, h, _ => exact absurd h (by simp [ncell])
  | k + 3, x, j, h, _ => exact absurd h (by simp [ncell])
/-- They are read for good, whatever they are. -/
theorem enc_clean {w : World} {S S' : SS} (_ : ∀ b, S true b → S' true b) {μ : MM} {c : Nat} {x : den c} {j : Nat} {y : Value} (hj : j < ncell c) (hv : VRel w S μ ((enc c x).getD j .undef) y) (μ' : MM) : VRel w S' μ' ((enc c x).getD j .undef) y := by
  match c, x, j, hj, hv with
  | 0, x, 0, _, hv => cases hv; exact .int _ _
  | 1, x, 0, _, hv => cases hv; exact .bool _
  | 2, x, 0, _, hv => cases hv; exact .str _
  | 0, x, k + 1, h, _ => exact absurd h (by simp [ncell])
  | 1, x, k + 1, h, _ => exact absurd h (by simp [ncell])
  | 2, x, k + 1, h, _ => exact absurd h (by simp [ncell])
  | k + 3, x, j, h, _ => exact absurd h (by simp [ncell])
end Go.Proofs.Ytaipgdhaoldhjaa
