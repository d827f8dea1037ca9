/-
  Lemmas and contracts on the way to the laws of this seat; each theorem states its own conditions, and there are no others.
-/
import Derived.Test.YtenfpjponaaolaaVC

namespace Go.Proofs.Ytenfpjponaaolaa
open Go
set_option linter.unusedVariables false
set_option linter.unusedSimpArgs false
set_option linter.unusedVariables false

def newP (g q bu s : Int) (c : Nat) : Pool := ⟨g, q, bu, s, if q = 4611686018427387904 then 0 else q, List.replicate c 0, 0, 1, 0, false⟩
def sNew : DS := ⟨_, Sig.cons pkI (Sig.cons pkI (three pkI pkI pkI)), fun x => Good (newP x.1 x.2.1 x.2.2.1 x.2.2.2.1 x.2.2.2.2.1.toNat) ∧ 1 ≤ x.2.2.2.2.1 ∧ x.2.2.2.2.1 ≤ 16, fun x => .tup [ret (newP x.1 x.2.1 x.2.2.1 x.2.2.2.1 x.2.2.2.2.1.toNat), .int .i64 0], fun x => row (newP x.1 x.2.1 x.2.2.1 x.2.2.2.1 x.2.2.2.2.1.toNat)⟩
/-- Dice that can be thrown. -/
structure DOK (d : List Int × Int) : Prop where
  lo : 0 ≤ d.2
  hi : d.2 ≤ d.1.length
  len : d.1.length ≤ 600
abbrev diceSig {X : Type} (s : Sig X) (hs : ∀ x, s.boxes x = []) := Sig.dice s hs
def sNext : FSp := ⟨_, Sig.dice (one pkI) (fun _ => rfl), fun x => DOK x.1 ∧ x.2.1 ≤ 4611686018427387904, Int × Int, fun x y => (1 ≤ x.2.1 → 0 ≤ y.1 ∧ y.1 < x.2.1) ∧ (x.2.1 < 1 → y.1 = 0) ∧ x.1.2 ≤ y.2 ∧ y.2 ≤ x.1.1.length, fun _ y => .int .i64 y.1, fun x y => [(0, diceO (x.1.1, y.2))], fun x h => ⟨(0, x.1.2), fun h => ⟨Int.le_refl _, by show (0 : Int) < x.2.1; omega⟩, fun _ => rfl, Int.le_refl _, h.1.hi⟩⟩
def sBool : FSp := ⟨_, Sig.dice (one pkI) (fun _ => rfl), fun x => DOK x.1 ∧ x.2.1 ≤ 1000000 ∧ -1000000 ≤ x.2.1, Bool × Int, fun x y => x.1.2 ≤ y.2 ∧ y.2 ≤ x.1.1.length, fun _ y => .bool y.1, fun x y => [(0, diceO (x.1.1, y.2))], fun x h => ⟨(true, x.1.2), Int.le_refl _, h.1.hi⟩⟩
def sLeft : DS := ⟨_, Sig.dice Sig.nil (fun _ => rfl), fun _ => True, fun x => .bool (decide (x.1.2 < x.1.1.length)), fun x => [(0, diceO x.1)]⟩
def sRoll : DS := ⟨_, one pkIntsP, fun _ => True, fun _ => .ptr 100 0, fun x => [(100, diceO (x.1, 0))]⟩
def sLight : DS := ⟨_, one pkInts, fun _ => True, fun x => .bool (decide ((x.1.length : Int) ≤ 600)), nou⟩


set_option maxRecDepth 100000 in
theorem vc26 (g q bu s c : Int) (hx : Good (newP g q bu s c.toNat) ∧ 1 ≤ c ∧ c ≤ 16) : sNew.vc (EV Try.prog [(39, sWithin.spec), (13, sLimited.spec), (33, sGood.spec)] noInv noInv) Try.f26 (g, q, bu, s, c, ()) := by
  have e : (True ∧ ((decide ((1 : Int) ≤ c) && decide (c ≤ (16 : Int))) = true → ((0 : Int) ≤ c ∧ c ≤ c ∧ (↑(8 : Nat) : Int) * c ≤ (281474976710656 : Int) ∧ c ≤ (1099511627776 : Int)) ∧ True ∧ ((!decide (q = (4611686018427387904 : Int))) = true → Good { g := g, q := q, bu := bu, s := s, le := q, l := List.replicate c.toNat (0 : Int), sp := (0 : Int), pe := (1 : Int), th := (0 : Int), em := false : Pool } ∧ (false = true → ∃ (y : Unit), True ∧ (0 : Int) = g ∧ (0 : Int) = q ∧ (0 : Int) = bu ∧ (0 : Int) = s ∧ ((0 : Int) = if q = (4611686018427387904 : Int) then (0 : Int) else q) ∧ (0 : Int) = (0 : Int) ∧ (0 : Int) = (1 : Int) ∧ (0 : Int) = (0 : Int) ∧ false = false ∧ (3 : Int) = (0 : Int) ∧ NilL Int = List.replicate c.toNat (0 : Int)) ∧ (false = false → ∃ (y : Unit), True ∧ g = g ∧ q = q ∧ bu = bu ∧ s = s ∧ (q = if q = (4611686018427387904 : Int) then (0 : Int) else q) ∧ (0 : Int) = (0 : Int) ∧ (1 : Int) = (1 : Int) ∧ (0 : Int) = (0 : Int) ∧ false = false ∧ (0 : Int) = (0 : Int) ∧ List.replicate c.toNat (0 : Int) = List.replicate c.toNat (0 : Int))) ∧ ((!decide (q = (4611686018427387904 : Int))) = false → Good { g := g, q := q, bu := bu, s := s, le := (0 : Int), l := List.replicate c.toNat (0 : Int), sp := (0 : Int), pe := (1 : Int), th := (0 : Int), em := false : Pool } ∧ (false = true → ∃ (y : Unit), True ∧ (0 : Int) = g ∧ (0 : Int) = q ∧ (0 : Int) = bu ∧ (0 : Int) = s ∧ ((0 : Int) = if q = (4611686018427387904 : Int) then (0 : Int) else q) ∧ (0 : Int) = (0 : Int) ∧ (0 : Int) = (1 : Int) ∧ (0 : Int) = (0 : Int) ∧ false = false ∧ (3 : Int) = (0 : Int) ∧ NilL Int = List.replicate c.toNat (0 : Int)) ∧ (false = false → ∃ (y : Unit), True ∧ g = g ∧ q = q ∧ bu = bu ∧ s = s ∧ ((0 : Int) = if q = (4611686018427387904 : Int) then (0 : Int) else q) ∧ (0 : Int) = (0 : Int) ∧ (1 : Int) = (1 : Int) ∧ (0 : Int) = (0 : Int) ∧ false = false ∧ (0 : Int) = (0 : Int) ∧ List.replicate c.toNat (0 : Int) = List.replicate c.toNat (0 : Int)))) ∧ ((decide ((1 : Int) ≤ c) && decide (c ≤ (16 : Int))) = false → True ∧ ((!decide (q = (4611686018427387904 : Int))) = true → Good { g := g, q := q, bu := bu, s := s, le := q, l := NilL Int, sp := (0 : Int), pe := (1 : Int), th := (0 : Int), em := false : Pool } ∧ (false = true → ∃ (y : Unit), True ∧ (0 : Int) = g ∧ (0 : Int) = q ∧ (0 : Int) = bu ∧ (0 : Int) = s ∧ ((0 : Int) = if q = (4611686018427387904 : Int) then (0 : Int) else q) ∧ (0 : Int) = (0 : Int) ∧ (0 : Int) = (1 : Int) ∧ (0 : Int) = (0 : Int) ∧ false = false ∧ (3 : Int) = (0 : Int) ∧ NilL Int = List.replicate c.toNat (0 : Int)) ∧ (false = false → ∃ (y : Unit), True ∧ g = g ∧ q = q ∧ bu = bu ∧ s = s ∧ (q = if q = (4611686018427387904 : Int) then (0 : Int) else q) ∧ (0 : Int) = (0 : Int) ∧ (1 : Int) = (1 : Int) ∧ (0 : Int) = (0 : Int) ∧ false = false ∧ (0 : Int) = (0 : Int) ∧ NilL Int = List.replicate c.toNat (0 : Int))) ∧ ((!decide (q = (4611686018427387904 : Int))) = false → Good { g := g, q := q, bu := bu, s := s, le := (0 : Int), l := NilL Int, sp := (0 : Int), pe := (1 : Int), th := (0 : Int), em := false : Pool } ∧ (false = true → ∃ (y : Unit), True ∧ (0 : Int) = g ∧ (0 : Int) = q ∧ (0 : Int) = bu ∧ (0 : Int) = s ∧ ((0 : Int) = if q = (4611686018427387904 : Int) then (0 : Int) else q) ∧ (0 : Int) = (0 : Int) ∧ (0 : Int) = (1 : Int) ∧ (0 : Int) = (0 : Int) ∧ false = false ∧ (3 : Int) = (0 : Int) ∧ NilL Int = List.replicate c.toNat (0 : Int)) ∧ (false = false → ∃ (y : Unit), True ∧ g = g ∧ q = q ∧ bu = bu ∧ s = s ∧ ((0 : Int) = if q = (4611686018427387904 : Int) then (0 : Int) else q) ∧ (0 : Int) = (0 : Int) ∧ (1 : Int) = (1 : Int) ∧ (0 : Int) = (0 : Int) ∧ false = false ∧ (0 : Int) = (0 : Int) ∧ NilL Int = List.replicate c.toNat (0 : Int))))) = sNew.vc (EV Try.prog [(39, sWithin.spec), (13, sLimited.spec), (33, sGood.spec)] noInv noInv) Try.f26 (g, q, bu, s, c, ()) := by kernel_rfl
  rw [← e]
  clear e
  obtain ⟨hg, h1, h2⟩ := hx
  simp only [NilL_eq, newP] at hg ⊢
  by_cases hq : q = 4611686018427387904
  · simp only [hq, if_true] at hg
    simp [*]
    omega
  · simp only [hq, if_false] at hg
    simp [*]
    omega


set_option maxRecDepth 100000 in
theorem vc27 (g q bu s c : Int) (hx : Good (newP g q bu s c.toNat) ∧ 1 ≤ c ∧ c ≤ 16) : sNew.vc (EV Try.prog [(37, sWithin.spec), (19, sLimited.spec), (18, sGood.spec)] noInv noInv) Try.f27 (g, q, bu, s, c, ()) := by
  have e : (True ∧ ((!(decide ((1 : Int) ≤ c) && decide (c ≤ (16 : Int)))) = true → ∃ (y : Unit), True ∧ (0 : Int) = g ∧ (0 : Int) = q ∧ (0 : Int) = bu ∧ (0 : Int) = s ∧ ((0 : Int) = if q = (4611686018427387904 : Int) then (0 : Int) else q) ∧ (0 : Int) = (0 : Int) ∧ (0 : Int) = (1 : Int) ∧ (0 : Int) = (0 : Int) ∧ false = false ∧ (3 : Int) = (0 : Int) ∧ NilL Int = List.replicate c.toNat (0 : Int)) ∧ ((!(decide ((1 : Int) ≤ c) && decide (c ≤ (16 : Int)))) = false → ((0 : Int) ≤ c ∧ c ≤ c ∧ (↑(8 : Nat) : Int) * c ≤ (281474976710656 : Int) ∧ c ≤ (1099511627776 : Int)) ∧ True ∧ ((!decide (q = (4611686018427387904 : Int))) = true → Good { g := g, q := q, bu := bu, s := s, le := q, l := List.replicate c.toNat (0 : Int), sp := (0 : Int), pe := (1 : Int), th := (0 : Int), em := false : Pool } ∧ (false = true → ∃ (y : Unit), True ∧ (0 : Int) = g ∧ (0 : Int) = q ∧ (0 : Int) = bu ∧ (0 : Int) = s ∧ ((0 : Int) = if q = (4611686018427387904 : Int) then (0 : Int) else q) ∧ (0 : Int) = (0 : Int) ∧ (0 : Int) = (1 : Int) ∧ (0 : Int) = (0 : Int) ∧ false = false ∧ (3 : Int) = (0 : Int) ∧ NilL Int = List.replicate c.toNat (0 : Int)) ∧ (false = false → ∃ (y : Unit), True ∧ g = g ∧ q = q ∧ bu = bu ∧ s = s ∧ (q = if q = (4611686018427387904 : Int) then (0 : Int) else q) ∧ (0 : Int) = (0 : Int) ∧ (1 : Int) = (1 : Int) ∧ (0 : Int) = (0 : Int) ∧ false = false ∧ (0 : Int) = (0 : Int) ∧ List.replicate c.toNat (0 : Int) = List.replicate c.toNat (0 : Int))) ∧ ((!decide (q = (4611686018427387904 : Int))) = false → Good { g := g, q := q, bu := bu, s := s, le := (0 : Int), l := List.replicate c.toNat (0 : Int), sp := (0 : Int), pe := (1 : Int), th := (0 : Int), em := false : Pool } ∧ (false = true → ∃ (y : Unit), True ∧ (0 : Int) = g ∧ (0 : Int) = q ∧ (0 : Int) = bu ∧ (0 : Int) = s ∧ ((0 : Int) = if q = (4611686018427387904 : Int) then (0 : Int) else q) ∧ (0 : Int) = (0 : Int) ∧ (0 : Int) = (1 : Int) ∧ (0 : Int) = (0 : Int) ∧ false = false ∧ (3 : Int) = (0 : Int) ∧ NilL Int = List.replicate c.toNat (0 : Int)) ∧ (false = false → ∃ (y : Unit), True ∧ g = g ∧ q = q ∧ bu = bu ∧ s = s ∧ ((0 : Int) = if q = (4611686018427387904 : Int) then (0 : Int) else q) ∧ (0 : Int) = (0 : Int) ∧ (1 : Int) = (1 : Int) ∧ (0 : Int) = (0 : Int) ∧ false = false ∧ (0 : Int) = (0 : Int) ∧ List.replicate c.toNat (0 : Int) = List.replicate c.toNat (0 : Int))))) = sNew.vc (EV Try.prog [(37, sWithin.spec), (19, sLimited.spec), (18, sGood.spec)] noInv noInv) Try.f27 (g, q, bu, s, c, ()) := by kernel_rfl
  rw [← e]
  clear e
  obtain ⟨hg, h1, h2⟩ := hx
  simp only [NilL_eq, newP] at hg ⊢
  by_cases hq : q = 4611686018427387904
  · simp only [hq, if_true] at hg
    simp [*]
    omega
  · simp only [hq, if_false] at hg
    simp [*]
    omega


set_option maxRecDepth 100000 in
theorem vc16 (L : List Int) (k n : Int) (hx : DOK (L, k) ∧ n ≤ 4611686018427387904) : sNext.vc (EV Try.prog [] noInv noInv) Try.f16 ((L, k), n, ()) := by
  have e : ((decide ((↑L.length : Int) ≤ k) = false → decide ((↑L.length : Int) ≤ k) = false) ∧ (decide ((↑L.length : Int) ≤ k) = false → decide ((↑L.length : Int) ≤ k) = false) ∧ ((decide ((↑L.length : Int) ≤ k) || decide (n < 1)) = true → ∃ (y : Int × Int), ((1 ≤ n → 0 ≤ y.1 ∧ y.1 < n) ∧ (n < 1 → y.1 = 0) ∧ k ≤ y.2 ∧ y.2 ≤ (↑L.length : Int)) ∧ 0 = y.1 ∧ L = L ∧ k = y.2) ∧ ((decide ((↑L.length : Int) ≤ k) || decide (n < 1)) = false → i64R (k + 1) ∧ i64R (k + (1 : Int) - 1) ∧ (0 ≤ k + (1 : Int) - 1 ∧ k + (1 : Int) - 1 < (↑L.length : Int)) ∧ 0 < n ∧ (decide ((L.getD (k + (1 : Int) - 1).toNat 0).tmod n < 0) = true → i64R ((L.getD (k + (1 : Int) - 1).toNat 0).tmod n + n) ∧ ∃ (y : Int × Int), ((1 ≤ n → 0 ≤ y.1 ∧ y.1 < n) ∧ (n < 1 → y.1 = 0) ∧ k ≤ y.2 ∧ y.2 ≤ (↑L.length : Int)) ∧ (L.getD (k + (1 : Int) - 1).toNat 0).tmod n + n = y.1 ∧ L = L ∧ k + 1 = y.2) ∧ (decide ((L.getD (k + (1 : Int) - 1).toNat 0).tmod n < 0) = false → ∃ (y : Int × Int), ((1 ≤ n → 0 ≤ y.1 ∧ y.1 < n) ∧ (n < 1 → y.1 = 0) ∧ k ≤ y.2 ∧ y.2 ≤ (↑L.length : Int)) ∧ (L.getD (k + (1 : Int) - 1).toNat 0).tmod n = y.1 ∧ L = L ∧ k + 1 = y.2))) = sNext.vc (EV Try.prog [] noInv noInv) Try.f16 ((L, k), n, ()) := by kernel_rfl
  rw [← e]
  clear e
  obtain ⟨⟨h1, h2, h3⟩, h4⟩ := hx
  have h1 : 0 ≤ k := h1
  have h2 : k ≤ L.length := h2
  have h3 : L.length ≤ 600 := h3
  have key : 0 < n → ∀ x : Int, -n < x.tmod n ∧ x.tmod n < n := fun h x => ⟨Int.lt_tmod_of_pos x h, Int.tmod_lt_of_pos x h⟩
  refine ⟨fun h => h, fun h => h, fun h => ⟨(0, k), ⟨⟨fun _ => ⟨Int.le_refl _, by simp at h ⊢; omega⟩, fun _ => rfl, Int.le_refl _, h2⟩, rfl, rfl, rfl⟩⟩, fun h => ?_⟩
  have h5 : k < L.length ∧ 1 ≤ n := by simp at h; omega
  have h6 := key (by omega) (L.getD (k + 1 - 1).toNat 0)
  generalize (L.getD (k + 1 - 1).toNat 0).tmod n = x at *
  simp only [i64R]
  refine ⟨by omega, by omega, by omega, by omega, fun h => ⟨by simp at h; omega, (x + n, k + 1), ⟨⟨fun _ => ?_, fun _ => ?_, ?_, ?_⟩, by simp⟩⟩, fun h => ⟨(x, k + 1), ⟨⟨fun _ => ?_, fun _ => ?_, ?_, ?_⟩, by simp⟩⟩⟩
  all_goals (simp at h ⊢; omega)


set_option maxRecDepth 100000 in
theorem vc24 (L : List Int) (k n : Int) (hx : DOK (L, k) ∧ n ≤ 1000000 ∧ -1000000 ≤ n) : sBool.vc (EV Try.prog [(16, sNext.spec)] noInv noInv) Try.f24 ((L, k), n, ()) := by
  have e : ((DOK (L, k) ∧ n ≤ 4611686018427387904) ∧ (∀ (y : Int × Int), true = true) ∧ ∀ (y : Int × Int), (1 ≤ n → 0 ≤ y.1 ∧ y.1 < n) ∧ (n < 1 → y.1 = 0) ∧ k ≤ y.2 ∧ y.2 ≤ (↑L.length : Int) → i64R (n - 1) ∧ ∃ (y_1 : Bool × Int), (k ≤ y_1.2 ∧ y_1.2 ≤ (↑L.length : Int)) ∧ decide (y.1 = n - 1) = y_1.1 ∧ L = L ∧ y.2 = y_1.2) = sBool.vc (EV Try.prog [(16, sNext.spec)] noInv noInv) Try.f24 ((L, k), n, ()) := by kernel_rfl
  rw [← e]
  clear e
  obtain ⟨h1, h2, h3⟩ := hx
  refine ⟨⟨h1, by omega⟩, fun _ => rfl, fun y hy => ⟨by simp only [i64R]; omega, (decide (y.1 = n - 1), y.2), hy.2.2, rfl, rfl, rfl⟩⟩


set_option maxRecDepth 100000 in
theorem vc20 (L : List Int) (k : Int) (hx : True) : sLeft.vc (EV Try.prog [] noInv noInv) Try.f20 ((L, k), ()) := by
  have e : (∃ (y : Unit), True ∧ decide (k < (↑L.length : Int)) = decide (k < (↑L.length : Int)) ∧ L = L ∧ k = k) = sLeft.vc (EV Try.prog [] noInv noInv) Try.f20 ((L, k), ()) := by kernel_rfl
  rw [← e]
  clear e
  simp


set_option maxRecDepth 100000 in
theorem vc10 (L : List Int) (hx : True) : sRoll.vc (EV Try.prog [] noInv noInv) Try.f10 (L, ()) := by
  have e : (∃ (y : Unit), True ∧ L = L ∧ (0 : Int) = 0) = sRoll.vc (EV Try.prog [] noInv noInv) Try.f10 (L, ()) := by kernel_rfl
  rw [← e]
  clear e
  simp


set_option maxRecDepth 100000 in
theorem vc8 (L : List Int) (hx : True) : sLight.vc (EV Try.prog [] noInv noInv) Try.f8 (L, ()) := by
  have e : (∃ (y : Unit), True ∧ decide ((↑L.length : Int) ≤ 600) = decide ((↑L.length : Int) ≤ 600)) = sLight.vc (EV Try.prog [] noInv noInv) Try.f8 (L, ()) := by kernel_rfl
  rw [← e]
  clear e
  simp
end Go.Proofs.Ytenfpjponaaolaa
