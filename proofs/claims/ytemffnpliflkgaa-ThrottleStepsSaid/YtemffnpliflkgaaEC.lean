/-
  Lemmas and contracts on the way to the laws of this seat; each theorem states its own conditions, and there are no others.
-/
import Derived.Test.YtemffnpliflkgaaE9
namespace Go.Proofs.Ytemffnpliflkgaa
open Go
set_option linter.unusedVariables false
set_option linter.unusedSimpArgs false

theorem u8_len (l : List Int) : (u8mk l).length = l.length := rfl
theorem u8_ncell : ncell u8c = 1 := rfl
theorem u8_row (l : List Int) (i : Nat) (hi : i < l.length) : (rowAV u8c (u8mk l) i).getD 0 .undef = .int .u8 (l.getD i 0) := rfl
section
variable {w : World} {S S' : SS} {μ μ' : MM} {v : AV} {x : Value}
theorem decI_rel {a : Int} (h : decI v = some a) (hx : VRel w S μ v x) : VRel w S μ (.int .i64 a) x := by
  unfold decI at h
  split at h
  · cases h; exact hx
  · cases h
theorem decY_rel {a : Int} (h : decY v = some a) (hx : VRel w S μ v x) : VRel w S μ (.int .u8 a) x := by
  unfold decY at h
  split at h
  · cases h; exact hx
  · cases h
theorem decS_rel {a : ByteArray} (h : decS v = some a) (hx : VRel w S μ v x) : VRel w S μ (.str a) x := by
  unfold decS at h
  split at h
  · cases h; exact hx
  · cases h
theorem decB_rel {a : Bool} (h : AV.asB v = some a) (hx : VRel w S μ v x) : VRel w S μ (.bool a) x := by
  have := asB_rel hx h
  subst this
  exact .bool a
theorem decL_rel {c : Nat} {a : List (den c)} (h : decL c v = some a) (hx : VRel w S μ v x) : VRel w S μ (.irec true c a) x := by
  unfold decL at h
  split at h
  · rename_i c' l
    unfold castL at h
    split at h
    · rename_i e
      subst e
      cases h
      exact hx
    · cases h
  · cases h
    cases hx
    exact .irec0 none 0
  · cases h
end
theorem dec_rel {w : World} {S : SS} {μ : MM} {c : Nat} {vs : List AV} {x : den c} (hd : dec c vs = some x) {xs : List Value} (h : VRs w S μ vs xs) : VRs w S μ (enc c x) xs := by
  unfold dec at hd
  split at hd
  · cases h with | cons h0 h => exact .cons (decI_rel hd h0) h
  · cases h with | cons h0 h => exact .cons (decB_rel hd h0) h
  · cases h with | cons h0 h => exact .cons (decS_rel hd h0) h
  · simp only [Option.bind_eq_some_iff, Option.some.injEq] at hd
    obtain ⟨a0, e0, a1, e1, a2, e2, a3, e3, a4, e4, a5, e5, rfl⟩ := hd
    cases h with | cons h0 h =>
    cases h with | cons h1 h =>
    cases h with | cons h2 h =>
    cases h with | cons h3 h =>
    cases h with | cons h4 h =>
    cases h with | cons h5 h =>
    exact .cons (decI_rel e0 h0) (.cons (decI_rel e1 h1) (.cons (decS_rel e2 h2) (.cons (decI_rel e3 h3) (.cons (decI_rel e4 h4) (.cons (decI_rel e5 h5) h)))))
  · simp only [Option.bind_eq_some_iff, Option.some.injEq] at hd
    obtain ⟨a0, e0, a1, e1, a2, e2, a3, e3, a4, e4, a5, e5, a6, e6, a7, e7, a8, e8, a9, e9, rfl⟩ := hd
    cases h with | cons h0 h =>
    cases h with | cons h1 h =>
    cases h with | cons h2 h =>
    cases h with | cons h3 h =>
    cases h with | cons h4 h =>
    cases h with | cons h5 h =>
    cases h with | cons h6 h =>
    cases h with | cons h7 h =>
    cases h with | cons h8 h =>
    cases h with | cons h9 h =>
    exact .cons (decI_rel e0 h0) (.cons (decI_rel e1 h1) (.cons (decI_rel e2 h2) (.cons (decI_rel e3 h3) (.cons (decI_rel e4 h4) (.cons (decL_rel e5 h5) (.cons (decI_rel e6 h6) (.cons (decI_rel e7 h7) (.cons (decI_rel e8 h8) (.cons (decB_rel e9 h9) h)))))))))
  · simp only [Option.bind_eq_some_iff, Option.some.injEq] at hd
    obtain ⟨a0, e0, a1, e1, a2, e2, a3, e3, a4, e4, a5, e5, a6, e6, rfl⟩ := hd
    cases h with | cons h0 h =>
    cases h with | cons h1 h =>
    cases h with | cons h2 h =>
    cases h with | cons h3 h =>
    cases h with | cons h4 h =>
    cases h with | cons h5 h =>
    cases h with | cons h6 h =>
    exact .cons (decI_rel e0 h0) (.cons (decI_rel e1 h1) (.cons (decI_rel e2 h2) (.cons (decI_rel e3 h3) (.cons (decI_rel e4 h4) (.cons (decI_rel e5 h5) (.cons (decI_rel e6 h6) h))))))
  · simp only [Option.bind_eq_some_iff, Option.some.injEq] at hd
    obtain ⟨a0, e0, a1, e1, a2, e2, a3, e3, a4, e4, a5, e5, a6, e6, a7, e7, a8, e8, a9, e9, a10, e10, a11, e11, a12, e12, a13, e13, a14, e14, a15, e15, a16, e16, a17, e17, rfl⟩ := hd
    cases h with | cons h0 h =>
    cases h with | cons h1 h =>
    cases h with | cons h2 h =>
    cases h with | cons h3 h =>
    cases h with | cons h4 h =>
    cases h with | cons h5 h =>
    cases h with | cons h6 h =>
    cases h with | cons h7 h =>
    cases h with | cons h8 h =>
    cases h with | cons h9 h =>
    cases h with | cons h10 h =>
    cases h with | cons h11 h =>
    cases h with | cons h12 h =>
    cases h with | cons h13 h =>
    cases h with | cons h14 h =>
    cases h with | cons h15 h =>
    cases h with | cons h16 h =>
    cases h with | cons h17 h =>
    exact .cons (decI_rel e0 h0) (.cons (decI_rel e1 h1) (.cons (decI_rel e2 h2) (.cons (decI_rel e3 h3) (.cons (decI_rel e4 h4) (.cons (decI_rel e5 h5) (.cons (decI_rel e6 h6) (.cons (decI_rel e7 h7) (.cons (decL_rel e8 h8) (.cons (decL_rel e9 h9) (.cons (decI_rel e10 h10) (.cons (decI_rel e11 h11) (.cons (decI_rel e12 h12) (.cons (decI_rel e13 h13) (.cons (decI_rel e14 h14) (.cons (decI_rel e15 h15) (.cons (decB_rel e16 h16) (.cons (decL_rel e17 h17) h)))))))))))))))))
  · simp only [Option.bind_eq_some_iff, Option.some.injEq] at hd
    obtain ⟨a0, e0, a1, e1, a2, e2, a3, e3, a4, e4, a5, e5, a6, e6, a7, e7, a8, e8, a9, e9, a10, e10, a11, e11, a12, e12, a13, e13, a14, e14, a15, e15, a16, e16, rfl⟩ := hd
    cases h with | cons h0 h =>
    cases h with | cons h1 h =>
    cases h with | cons h2 h =>
    cases h with | cons h3 h =>
    cases h with | cons h4 h =>
    cases h with | cons h5 h =>
    cases h with | cons h6 h =>
    cases h with | cons h7 h =>
    cases h with | cons h8 h =>
    cases h with | cons h9 h =>
    cases h with | cons h10 h =>
    cases h with | cons h11 h =>
    cases h with | cons h12 h =>
    cases h with | cons h13 h =>
    cases h with | cons h14 h =>
    cases h with | cons h15 h =>
    cases h with | cons h16 h =>
    exact .cons (decI_rel e0 h0) (.cons (decI_rel e1 h1) (.cons (decI_rel e2 h2) (.cons (decI_rel e3 h3) (.cons (decI_rel e4 h4) (.cons (decI_rel e5 h5) (.cons (decI_rel e6 h6) (.cons (decL_rel e7 h7) (.cons (decL_rel e8 h8) (.cons (decI_rel e9 h9) (.cons (decI_rel e10 h10) (.cons (decI_rel e11 h11) (.cons (decI_rel e12 h12) (.cons (decI_rel e13 h13) (.cons (decI_rel e14 h14) (.cons (decB_rel e15 h15) (.cons (decL_rel e16 h16) h))))))))))))))))
  · cases h with | cons h0 h => exact .cons (decL_rel hd h0) h
  · simp only [Option.bind_eq_some_iff, Option.some.injEq] at hd
    obtain ⟨a0, e0, a1, e1, rfl⟩ := hd
    cases h with | cons h0 h =>
    cases h with | cons h1 h =>
    exact .cons (decL_rel e0 h0) (.cons (decI_rel e1 h1) h)
  · cases h with | cons h0 h => exact .cons (decY_rel hd h0) h
  · cases hd
theorem enc_leaf : ∀ (c : Nat) (x : den c), allL (enc c x) = true
  | 0, _ => rfl
  | 1, _ => rfl
  | 2, _ => rfl
  | 3, _ => rfl
  | 4, _ => rfl
  | 5, _ => rfl
  | 6, _ => rfl
  | 7, _ => rfl
  | 8, _ => rfl
  | 9, _ => rfl
  | 10, _ => rfl
  | _ + 11, _ => rfl
/-- What a cell of a row may be. -/
inductive Cel (c : Nat) : AV → Prop
  | int (k : IntKind) (n : Int) : Cel c (.int k n)
  | bool (b : Bool) : Cel c (.bool b)
  | str (s : ByteArray) : Cel c (.str s)
  | lst (c' : Nat) (l : List (den c')) (h : c' < c) : Cel c (.irec true c' l)
theorem enc_cel : ∀ (c : Nat) (x : den c) (j : Nat), j < ncell c → Cel c ((enc c x).getD j .undef)
  | 0, _, 0, _ => .int _ _
  | 0, _, j + 1, h => absurd h (by simp [ncell])
  | 1, _, 0, _ => .bool _
  | 1, _, j + 1, h => absurd h (by simp [ncell])
  | 2, _, 0, _ => .str _
  | 2, _, j + 1, h => absurd h (by simp [ncell])
  | 3, _, 0, _ => .int _ _
  | 3, _, 1, _ => .int _ _
  | 3, _, 2, _ => .str _
  | 3, _, 3, _ => .int _ _
  | 3, _, 4, _ => .int _ _
  | 3, _, 5, _ => .int _ _
  | 3, _, j + 6, h => absurd h (by simp [ncell])
  | 4, _, 0, _ => .int _ _
  | 4, _, 1, _ => .int _ _
  | 4, _, 2, _ => .int _ _
  | 4, _, 3, _ => .int _ _
  | 4, _, 4, _ => .int _ _
  | 4, _, 5, _ => .lst _ _ (by decide)
  | 4, _, 6, _ => .int _ _
  | 4, _, 7, _ => .int _ _
  | 4, _, 8, _ => .int _ _
  | 4, _, 9, _ => .bool _
  | 4, _, j + 10, h => absurd h (by simp [ncell])
  | 5, _, 0, _ => .int _ _
  | 5, _, 1, _ => .int _ _
  | 5, _, 2, _ => .int _ _
  | 5, _, 3, _ => .int _ _
  | 5, _, 4, _ => .int _ _
  | 5, _, 5, _ => .int _ _
  | 5, _, 6, _ => .int _ _
  | 5, _, j + 7, h => absurd h (by simp [ncell])
  | 6, _, 0, _ => .int _ _
  | 6, _, 1, _ => .int _ _
  | 6, _, 2, _ => .int _ _
  | 6, _, 3, _ => .int _ _
  | 6, _, 4, _ => .int _ _
  | 6, _, 5, _ => .int _ _
  | 6, _, 6, _ => .int _ _
  | 6, _, 7, _ => .int _ _
  | 6, _, 8, _ => .lst _ _ (by decide)
  | 6, _, 9, _ => .lst _ _ (by decide)
  | 6, _, 10, _ => .int _ _
  | 6, _, 11, _ => .int _ _
  | 6, _, 12, _ => .int _ _
  | 6, _, 13, _ => .int _ _
  | 6, _, 14, _ => .int _ _
  | 6, _, 15, _ => .int _ _
  | 6, _, 16, _ => .bool _
  | 6, _, 17, _ => .lst _ _ (by decide)
  | 6, _, j + 18, h => absurd h (by simp [ncell])
  | 7, _, 0, _ => .int _ _
  | 7, _, 1, _ => .int _ _
  | 7, _, 2, _ => .int _ _
  | 7, _, 3, _ => .int _ _
  | 7, _, 4, _ => .int _ _
  | 7, _, 5, _ => .int _ _
  | 7, _, 6, _ => .int _ _
  | 7, _, 7, _ => .lst _ _ (by decide)
  | 7, _, 8, _ => .lst _ _ (by decide)
  | 7, _, 9, _ => .int _ _
  | 7, _, 10, _ => .int _ _
  | 7, _, 11, _ => .int _ _
  | 7, _, 12, _ => .int _ _
  | 7, _, 13, _ => .int _ _
  | 7, _, 14, _ => .int _ _
  | 7, _, 15, _ => .bool _
  | 7, _, 16, _ => .lst _ _ (by decide)
  | 7, _, j + 17, h => absurd h (by simp [ncell])
  | 8, _, 0, _ => .lst _ _ (by decide)
  | 8, _, j + 1, h => absurd h (by simp [ncell])
  | 9, _, 0, _ => .lst _ _ (by decide)
  | 9, _, 1, _ => .int _ _
  | 9, _, j + 2, h => absurd h (by simp [ncell])
  | 10, _, 0, _ => .int _ _
  | 10, _, j + 1, h => absurd h (by simp [ncell])
  | _ + 11, _, _, h => absurd h (by simp [ncell])
/-- They are read for good, whatever they are. -/
theorem enc_clean {w : World} {S S' : SS} (hS : ∀ b, S true b → S' true b) {μ : MM} {c : Nat} {x : den c} {j : Nat} {y : Value} (hj : j < ncell c) (hv : VRel w S μ ((enc c x).getD j .undef) y) (μ' : MM) : VRel w S' μ' ((enc c x).getD j .undef) y := by
  induction c using Nat.strongRecOn generalizing j y with
  | _ c ih =>
    have hc := enc_cel c x j hj
    generalize (enc c x).getD j .undef = v at hc hv ⊢
    cases hc with
    | int k n => cases hv; exact .int _ _
    | bool b => cases hv; exact .bool _
    | str s => cases hv; exact .str _
    | lst c' l hlt =>
      rcases hv.irec_inv with ⟨u, b, o, cap, h1, h2, h3, h4, rfl⟩ | ⟨h0, q, cap, rfl⟩
      · exact .irec u (hS _ h1) h2 h3 fun i hi j hj => ih c' hlt hj (h4 i hi j hj)
      · subst h0; exact .irec0 q cap
/-- A row's cells bear no names of blocks. -/
theorem enc_free {w : World} {S : SS} {μ : MM} {c : Nat} {x : den c} {j : Nat} {y : Value} (hj : j < ncell c) (hv : VRel w S μ ((enc c x).getD j .undef) y) (μ' : MM) : VRel w S μ' ((enc c x).getD j .undef) y :=
  enc_clean (fun _ h => h) hj hv μ'
end Go.Proofs.Ytemffnpliflkgaa
