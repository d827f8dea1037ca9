/-
  Lemmas and contracts on the way to the laws of this seat; each theorem states its own conditions, and there are no others.
-/
import Derived.Test.YtompifpamldjaaaE9
namespace Go.Proofs.Ytompifpamldjaaa
open Go
set_option linter.unusedVariables false
set_option linter.unusedSimpArgs false

theorem u8_len (l : List Int) : (u8mk l).length = l.length := rfl
theorem u8_ncell : ncell u8c = 1 := rfl
theorem u8_row (l : List Int) (i : Nat) (hi : i < l.length) : (rowAV u8c (u8mk l) i).getD 0 .undef = .int .u8 (l.getD i 0) := rfl
section
variable {w : World} {S S' : SS} {μ μ' : MM} {v : AV} {x : Value}
theorem decI_rel {a : Int} (h : decI v = some a) (hx : VRel w S μ v x) : VRel w S μ (.int .i64 a) x := by
  unfold decI at h
  split at h
  · cases h; exact hx
  · cases h
theorem decY_rel {a : Int} (h : decY v = some a) (hx : VRel w S μ v x) : VRel w S μ (.int .u8 a) x := by
  unfold decY at h
  split at h
  · cases h; exact hx
  · cases h
theorem decS_rel {a : ByteArray} (h : decS v = some a) (hx : VRel w S μ v x) : VRel w S μ (.str a) x := by
  unfold decS at h
  split at h
  · cases h; exact hx
  · cases h
theorem decB_rel {a : Bool} (h : AV.asB v = some a) (hx : VRel w S μ v x) : VRel w S μ (.bool a) x := by
  have := asB_rel hx h
  subst this
  exact .bool a
theorem decL_rel {c : Nat} {a : List (den c)} (h : decL c v = some a) (hx : VRel w S μ v x) : VRel w S μ (.irec true c a) x := by
  unfold decL at h
  split at h
  · rename_i c' l
    unfold castL at h
    split at h
    · rename_i e
      subst e
      cases h
      exact hx
    · cases h
  · cases h
    cases hx
    exact .irec0 none 0
  · cases h
end
theorem dec_rel {w : World} {S : SS} {μ : MM} {c : Nat} {vs : List AV} {x : den c} (hd : dec c vs = some x) {xs : List Value} (h : VRs w S μ vs xs) : VRs w S μ (enc c x) xs := by
  unfold dec at hd
  split at hd
  · cases h with | cons h0 h => exact .cons (decI_rel hd h0) h
  · cases h with | cons h0 h => exact .cons (decB_rel hd h0) h
  · cases h with | cons h0 h => exact .cons (decS_rel hd h0) h
  · simp only [Option.bind_eq_some_iff, Option.some.injEq] at hd
    obtain ⟨a0, e0, a1, e1, rfl⟩ := hd
    cases h with | cons h0 h =>
    cases h with | cons h1 h =>
    exact .cons (decI_rel e0 h0) (.cons (decI_rel e1 h1) h)
  · simp only [Option.bind_eq_some_iff, Option.some.injEq] at hd
    obtain ⟨a0, e0, a1, e1, rfl⟩ := hd
    cases h with | cons h0 h =>
    cases h with | cons h1 h =>
    exact .cons (decI_rel e0 h0) (.cons (decL_rel e1 h1) h)
  · simp only [Option.bind_eq_some_iff, Option.some.injEq] at hd
    obtain ⟨a0, e0, a1, e1, a2, e2, rfl⟩ := hd
    cases h with | cons h0 h =>
    cases h with | cons h1 h =>
    cases h with | cons h2 h =>
    exact .cons (decI_rel e0 h0) (.cons (decI_rel e1 h1) (.cons (decI_rel e2 h2) h))
  · cases h with | cons h0 h => exact .cons (decL_rel hd h0) h
  · cases h with | cons h0 h => exact .cons (decL_rel hd h0) h
  · cases h with | cons h0 h => exact .cons (decY_rel hd h0) h
  · cases hd
theorem enc_leaf : ∀ (c : Nat) (x : den c), allL (enc c x) = true
  | 0, _ => rfl
  | 1, _ => rfl
  | 2, _ => rfl
  | 3, _ => rfl
  | 4, _ => rfl
  | 5, _ => rfl
  | 6, _ => rfl
  | 7, _ => rfl
  | 8, _ => rfl
  | _ + 9, _ => rfl
/-- What a cell of a row may be. -/
inductive Cel (c : Nat) : AV → Prop
  | int (k : IntKind) (n : Int) : Cel c (.int k n)
  | bool (b : Bool) : Cel c (.bool b)
  | str (s : ByteArray) : Cel c (.str s)
  | lst (c' : Nat) (l : List (den c')) (h : c' < c) : Cel c (.irec true c' l)
theorem enc_cel : ∀ (c : Nat) (x : den c) (j : Nat), j < ncell c → Cel c ((enc c x).getD j .undef)
  | 0, _, 0, _ => .int _ _
  | 0, _, j + 1, h => absurd h (by simp [ncell])
  | 1, _, 0, _ => .bool _
  | 1, _, j + 1, h => absurd h (by simp [ncell])
  | 2, _, 0, _ => .str _
  | 2, _, j + 1, h => absurd h (by simp [ncell])
  | 3, _, 0, _ => .int _ _
  | 3, _, 1, _ => .int _ _
  | 3, _, j + 2, h => absurd h (by simp [ncell])
  | 4, _, 0, _ => .int _ _
  | 4, _, 1, _ => .lst _ _ (by decide)
  | 4, _, j + 2, h => absurd h (by simp [ncell])
  | 5, _, 0, _ => .int _ _
  | 5, _, 1, _ => .int _ _
  | 5, _, 2, _ => .int _ _
  | 5, _, j + 3, h => absurd h (by simp [ncell])
  | 6, _, 0, _ => .lst _ _ (by decide)
  | 6, _, j + 1, h => absurd h (by simp [ncell])
  | 7, _, 0, _ => .lst _ _ (by decide)
  | 7, _, j + 1, h => absurd h (by simp [ncell])
  | 8, _, 0, _ => .int _ _
  | 8, _, j + 1, h => absurd h (by simp [ncell])
  | _ + 9, _, _, h => absurd h (by simp [ncell])
/-- They are read for good, whatever they are. -/
theorem enc_clean {w : World} {S S' : SS} (hS : ∀ b, S true b → S' true b) {μ : MM} {c : Nat} {x : den c} {j : Nat} {y : Value} (hj : j < ncell c) (hv : VRel w S μ ((enc c x).getD j .undef) y) (μ' : MM) : VRel w S' μ' ((enc c x).getD j .undef) y := by
  induction c using Nat.strongRecOn generalizing j y with
  | _ c ih =>
    have hc := enc_cel c x j hj
    generalize (enc c x).getD j .undef = v at hc hv ⊢
    cases hc with
    | int k n => cases hv; exact .int _ _
    | bool b => cases hv; exact .bool _
    | str s => cases hv; exact .str _
    | lst c' l hlt =>
      rcases hv.irec_inv with ⟨u, b, o, cap, h1, h2, h3, h4, rfl⟩ | ⟨h0, q, cap, rfl⟩
      · exact .irec u (hS _ h1) h2 h3 fun i hi j hj => ih c' hlt hj (h4 i hi j hj)
      · subst h0; exact .irec0 q cap
/-- A row's cells bear no names of blocks. -/
theorem enc_free {w : World} {S : SS} {μ : MM} {c : Nat} {x : den c} {j : Nat} {y : Value} (hj : j < ncell c) (hv : VRel w S μ ((enc c x).getD j .undef) y) (μ' : MM) : VRel w S μ' ((enc c x).getD j .undef) y :=
  enc_clean (fun _ h => h) hj hv μ'
end Go.Proofs.Ytompifpamldjaaa
