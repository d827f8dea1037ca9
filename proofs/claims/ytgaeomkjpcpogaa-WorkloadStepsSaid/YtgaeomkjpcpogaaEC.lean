/-
  Lemmas and contracts on the way to the laws of this seat; each theorem states its own conditions, and there are no others.
-/
import Derived.Test.YtgaeomkjpcpogaaE9
namespace Go.Proofs.Ytgaeomkjpcpogaa
open Go
set_option linter.unusedVariables false
set_option linter.unusedSimpArgs false
theorem dec_rel {w : World} {S : SS} {μ : MM} {c : Nat} {vs : List AV} {x : den c} (hd : dec c vs = some x) {xs : List Value} (h : VRs w S μ vs xs) : VRs w S μ (enc c x) xs := by
  unfold dec at hd
  split at hd
  · cases hd; exact h
  · cases hd; exact h
  · cases hd
    cases h with
    | cons h t => cases h; exact .cons (.bool _) t
  · cases hd
    cases h with
    | cons h t => cases h; exact .cons (.bool _) t
  · cases hd; exact h
  · cases hd; exact h
  · cases hd; exact h
  · cases hd
    cases h with
    | cons h t => cases h; exact .cons (.irec0 none 0) t
  · cases hd
theorem enc_leaf : ∀ (c : Nat) (x : den c), allL (enc c x) = true
  | 0, _ => rfl
  | 1, _ => rfl
  | 2, _ => rfl
  | 3, _ => rfl
  | 4, _ => rfl
  | _ + 5, _ => rfl
theorem step_free {w : World} {S S' : SS} {μ : MM} {x : Stp} {j : Nat} {y : Value} (hj : j < 4) (hv : VRel w S μ ((enc 3 x).getD j .undef) y) (μ' : MM) : VRel w S' μ' ((enc 3 x).getD j .undef) y := by
  match j, hj, hv with
  | 0, _, hv => cases hv; exact .int _ _
  | 1, _, hv => cases hv; exact .int _ _
  | 2, _, hv => cases hv; exact .int _ _
  | 3, _, hv => cases hv; exact .int _ _
  | k + 4, h, _ => exact absurd h (by omega)
/-- A row's cells bear no names of blocks. -/
theorem enc_free {w : World} {S : SS} {μ : MM} {c : Nat} {x : den c} {j : Nat} {y : Value} (hj : j < ncell c) (hv : VRel w S μ ((enc c x).getD j .undef) y) (μ' : MM) : VRel w S μ' ((enc c x).getD j .undef) y := by
  match c, x, j, hj, hv with
  | 0, x, 0, _, hv => cases hv; exact .int _ _
  | 1, x, 0, _, hv => cases hv; exact .bool _
  | 2, x, 0, _, hv => cases hv; exact .str _
  | 3, x, j, hj, hv => exact step_free hj hv μ'
  | 4, x, 0, _, hv =>
    have hv' : VRel w S μ (.irec true 3 x) y := hv
    show VRel w S μ' (.irec true 3 x) y
    rcases hv'.irec_inv with ⟨u, b, o, cap, h1, h2, h3, h4, rfl⟩ | ⟨h0, q, cap, rfl⟩
    · exact .irec u h1 h2 h3 fun i hi j hj => step_free hj (h4 i hi j hj) μ'
    · subst h0; exact .irec0 q cap
  | 0, x, k + 1, h, _ => exact absurd h (by simp [ncell])
  | 1, x, k + 1, h, _ => exact absurd h (by simp [ncell])
  | 2, x, k + 1, h, _ => exact absurd h (by simp [ncell])
  | 4, x, k + 1, h, _ => exact absurd h (by simp [ncell])
  | k + 5, x, j, h, _ => exact absurd h (by simp [ncell])
/-- They are read for good, whatever they are. -/
theorem enc_clean {w : World} {S S' : SS} (hS : ∀ b, S true b → S' true b) {μ : MM} {c : Nat} {x : den c} {j : Nat} {y : Value} (hj : j < ncell c) (hv : VRel w S μ ((enc c x).getD j .undef) y) (μ' : MM) : VRel w S' μ' ((enc c x).getD j .undef) y := by
  match c, x, j, hj, hv with
  | 0, x, 0, _, hv => cases hv; exact .int _ _
  | 1, x, 0, _, hv => cases hv; exact .bool _
  | 2, x, 0, _, hv => cases hv; exact .str _
  | 3, x, j, hj, hv => exact step_free hj hv μ'
  | 4, x, 0, _, hv =>
    have hv' : VRel w S μ (.irec true 3 x) y := hv
    show VRel w S' μ' (.irec true 3 x) y
    rcases hv'.irec_inv with ⟨u, b, o, cap, h1, h2, h3, h4, rfl⟩ | ⟨h0, q, cap, rfl⟩
    · exact .irec u (hS _ h1) h2 h3 fun i hi j hj => step_free hj (h4 i hi j hj) μ'
    · subst h0; exact .irec0 q cap
  | 0, x, k + 1, h, _ => exact absurd h (by simp [ncell])
  | 1, x, k + 1, h, _ => exact absurd h (by simp [ncell])
  | 2, x, k + 1, h, _ => exact absurd h (by simp [ncell])
  | 4, x, k + 1, h, _ => exact absurd h (by simp [ncell])
  | k + 5, x, j, h, _ => exact absurd h (by simp [ncell])
end Go.Proofs.Ytgaeomkjpcpogaa
