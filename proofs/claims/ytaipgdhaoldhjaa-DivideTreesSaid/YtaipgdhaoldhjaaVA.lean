/-
  Lemmas and contracts on the way to the laws of this seat; each theorem states its own conditions, and there are no others.
-/
import Derived.Test.YtaipgdhaoldhjaaPA

namespace Go.Proofs.Ytaipgdhaoldhjaa
open Go
set_option linter.unusedVariables false
set_option linter.unusedSimpArgs false
set_option linter.unusedVariables false

def sCap : DS := ⟨_, three pkI pkPeek pkPeek, fun _ => True, fun x => .bool (decide (x.1 < x.2.1) || decide (x.2.2.1 < x.1)), nou⟩
def sIdx : DS := ⟨_, two pkInts pkWithin, fun x => In x.2.1.1 x.2.1.2 x.1 ∧ x.1.length ≤ 1048576, fun _ => .int .i64 (-1), nou⟩
def sCont : DS := ⟨_, two pkInts pkWithin, fun x => In x.2.1.1 x.2.1.2 x.1 ∧ x.1.length ≤ 1048576, fun _ => .bool false, nou⟩
def sWithin : DS := ⟨_, three pkInts pkI pkI, fun x => In x.2.1 x.2.2.1 x.1 ∧ x.1.length ≤ 1048576, fun _ => .bool true, nou⟩
def sValid : DS := ⟨_, three pkI pkInts pkInts, fun x => 0 ≤ x.1 ∧ x.1 ≤ 65536 ∧ InOK x.2.1 x.2.2.1, fun _ => .bool true, nou⟩
/-- What level wants. -/
structure LvlOK (w g : List Int) (i j : Int) : Prop where
  i0 : 0 ≤ i
  i1 : i < w.length
  i2 : i < g.length
  j0 : 0 ≤ j
  j1 : j < w.length
  j2 : j < g.length
  hw : In 1 10000 w
  hg : In 0 65536 g
  n : w.length ≤ 64
  m : g.length ≤ 64
def sLevel : DS := ⟨_, four pkInts pkInts pkI pkI, fun x => LvlOK x.1 x.2.1 x.2.2.1 x.2.2.2.1, fun x => .int .i64 (lvl x.1 x.2.1 x.2.2.1 x.2.2.2.1), nou⟩
theorem LvlOK.mul {w g : List Int} {i j : Int} (h : LvlOK w g i j) : 0 ≤ (nth g i.toNat + 1) * nth w j.toNat ∧ (nth g i.toNat + 1) * nth w j.toNat ≤ 655370000 := by
  have a := h.hg i.toNat (by have := h.i0; have := h.i2; omega)
  have b := h.hw j.toNat (by have := h.j0; have := h.j1; omega)
  refine ⟨Int.mul_nonneg (by omega) (by omega), ?_⟩
  have : (nth g i.toNat + 1) * nth w j.toNat ≤ 65537 * 10000 := Int.mul_le_mul (by omega) (by omega) (by omega) (by omega)
  omega
theorem LvlOK.swap {w g : List Int} {i j : Int} (h : LvlOK w g i j) : LvlOK w g j i := ⟨h.j0, h.j1, h.j2, h.i0, h.i1, h.i2, h.hw, h.hg, h.n, h.m⟩
theorem All.slice {p : Int → Prop} {l : List Int} (h : All p l) (n k : Nat) : All p ((l.drop k).take n) := fun m hm => by
  have hk : m < n ∧ k + m < l.length := by simp at hm; omega
  have e : nth ((l.drop k).take n) m = nth l (k + m) := by
    simp only [nth, List.getD_eq_getElem?_getD, List.getElem?_take_of_lt hk.1, List.getElem?_drop]
  rw [e]
  exact h _ hk.2


set_option maxRecDepth 100000 in
theorem vc29 (x a b : Int) (hx : True) : sCap.vc (EV Try.prog [] noInv noInv) Try.f29 (x, a, b, ()) := by
  have e : ((decide (x < a) = false → decide (x < a) = false) ∧ (decide (x < a) = false → decide (x < a) = false) ∧ (decide (x < a) = false → decide (x < a) = false) ∧ ∃ (y : Unit), True ∧ (decide (x < a) || decide (b < x)) = (decide (x < a) || decide (b < x))) = sCap.vc (EV Try.prog [] noInv noInv) Try.f29 (x, a, b, ()) := by kernel_rfl
  rw [← e]
  clear e
  simp only [Prod.forall, Prod.exists, exists_const, implies_true, not_true_eq_false, not_false_eq_true, or_self, or_false, false_or, or_true, true_or, and_false, false_and, forall_const, true_and, and_true, i64R, imp_self, Int.reduceLE, Int.reduceLT, Int.reduceNeg, false_implies, true_implies, decide_eq_true_eq, decide_eq_false_iff_not, Bool.not_eq_true', Bool.not_eq_false', Bool.true_eq_false, Bool.false_eq_true, Bool.and_eq_true, Bool.or_eq_true, NilL_eq, Bool.and_eq_false_iff, Bool.or_eq_false_iff ]

def inv30 (l : List Int) (s : St) : Inv where
  X := Int
  ok := fun i => 0 ≤ i ∧ i ≤ l.length
  sl := fun i => [(8, .int .i64 i)]
  hp := fun _ => []
  keep := []
  me := fun i => (l.length - i).toNat
set_option maxRecDepth 100000 in
theorem vc30 (l : List Int) (a b : Int) (hx : In a b l ∧ l.length ≤ 1048576) : sIdx.vc (EV Try.prog [(29, sCap.spec)] (invsS [(2, inv30 l)]) noInv) Try.f30 (l, (a, b), ()) := by
  have e : ((∃ (x : Int), (0 ≤ x ∧ x ≤ (↑l.length : Int)) ∧ 0 = x) ∧ ∀ (x : Int), 0 ≤ x ∧ x ≤ (↑l.length : Int) → (decide (x < (↑l.length : Int)) = true → (0 ≤ x ∧ x < (↑l.length : Int)) ∧ True ∧ ((decide (l.getD x.toNat 0 < a) || decide (b < l.getD x.toNat 0)) = true → ∃ (y : Unit), True ∧ x = (-1)) ∧ ((decide (l.getD x.toNat 0 < a) || decide (b < l.getD x.toNat 0)) = false → i64R (x + 1) ∧ ∃ (x' : Int), (0 ≤ x' ∧ x' ≤ (↑l.length : Int)) ∧ ((↑l.length : Int) - x').toNat < ((↑l.length : Int) - x).toNat ∧ x + 1 = x')) ∧ (decide (x < (↑l.length : Int)) = false → ∃ (y : Unit), True ∧ (-1 : Int) = (-1))) = sIdx.vc (EV Try.prog [(29, sCap.spec)] (invsS [(2, inv30 l)]) noInv) Try.f30 (l, (a, b), ()) := by kernel_rfl
  rw [← e]
  clear e
  obtain ⟨hin, hn⟩ := hx
  simp only [Prod.forall, Prod.exists, exists_const, implies_true, not_true_eq_false, not_false_eq_true, or_self, or_false, false_or, or_true, true_or, and_false, false_and, forall_const, true_and, and_true, i64R, imp_self, Int.reduceLE, Int.reduceLT, Int.reduceNeg, false_implies, true_implies, decide_eq_true_eq, decide_eq_false_iff_not, Bool.not_eq_true', Bool.not_eq_false', Bool.true_eq_false, Bool.false_eq_true, Bool.and_eq_true, Bool.or_eq_true, NilL_eq, Bool.and_eq_false_iff, Bool.or_eq_false_iff ]
  refine ⟨⟨0, by omega, rfl⟩, fun i hi hlt => ⟨by omega, fun hc => ?_, fun _ => ⟨by omega, i + 1, by omega, by omega, rfl⟩⟩⟩
  have h : a ≤ nth l i.toNat ∧ nth l i.toNat ≤ b := hin i.toNat (by omega)
  simp only [nth] at h
  omega


set_option maxRecDepth 100000 in
theorem vc28 (l : List Int) (a b : Int) (hx : In a b l ∧ l.length ≤ 1048576) : sCont.vc (EV Try.prog [(30, sIdx.spec)] noInv noInv) Try.f28 (l, (a, b), ()) := by
  have e : ((In a b l ∧ l.length ≤ (1048576 : Nat)) ∧ ∃ (y : Unit), True ∧ false = false) = sCont.vc (EV Try.prog [(30, sIdx.spec)] noInv noInv) Try.f28 (l, (a, b), ()) := by kernel_rfl
  rw [← e]
  clear e
  simp only [Prod.forall, Prod.exists, exists_const, implies_true, not_true_eq_false, not_false_eq_true, or_self, or_false, false_or, or_true, true_or, and_false, false_and, forall_const, true_and, and_true, i64R, imp_self, Int.reduceLE, Int.reduceLT, Int.reduceNeg, false_implies, true_implies, decide_eq_true_eq, decide_eq_false_iff_not, Bool.not_eq_true', Bool.not_eq_false', Bool.true_eq_false, Bool.false_eq_true, Bool.and_eq_true, Bool.or_eq_true, NilL_eq, Bool.and_eq_false_iff, Bool.or_eq_false_iff ]
  exact hx


set_option maxRecDepth 100000 in
theorem vc21 (l : List Int) (a b : Int) (hx : In a b l ∧ l.length ≤ 1048576) : sWithin.vc (EV Try.prog [(28, sCont.spec)] noInv noInv) Try.f21 (l, a, b, ()) := by
  have e : ((In a b l ∧ l.length ≤ (1048576 : Nat)) ∧ ∃ (y : Unit), True ∧ true = true) = sWithin.vc (EV Try.prog [(28, sCont.spec)] noInv noInv) Try.f21 (l, a, b, ()) := by kernel_rfl
  rw [← e]
  clear e
  simp only [Prod.forall, Prod.exists, exists_const, implies_true, not_true_eq_false, not_false_eq_true, or_self, or_false, false_or, or_true, true_or, and_false, false_and, forall_const, true_and, and_true, i64R, imp_self, Int.reduceLE, Int.reduceLT, Int.reduceNeg, false_implies, true_implies, decide_eq_true_eq, decide_eq_false_iff_not, Bool.not_eq_true', Bool.not_eq_false', Bool.true_eq_false, Bool.false_eq_true, Bool.and_eq_true, Bool.or_eq_true, NilL_eq, Bool.and_eq_false_iff, Bool.or_eq_false_iff ]
  exact hx


set_option maxRecDepth 100000 in
theorem vc18 (k : Int) (w d : List Int) (hx : 0 ≤ k ∧ k ≤ 65536 ∧ InOK w d) : sValid.vc (EV Try.prog [(21, sWithin.spec)] noInv noInv) Try.f18 (k, w, d, ()) := by
  have e : ((In 0 65536 (k :: NilL Int) ∧ (k :: NilL Int).length ≤ (1048576 : Nat)) ∧ (true = true → true = true) ∧ (true = true → true = true) ∧ (true = true → true = true) ∧ ((true && decide ((↑w.length : Int) ≤ 64)) = true → (true && decide ((↑w.length : Int) ≤ 64)) = true) ∧ ((true && decide ((↑w.length : Int) ≤ 64)) = true → (true && decide ((↑w.length : Int) ≤ 64)) = true) ∧ ((true && decide ((↑w.length : Int) ≤ 64)) = true → (true && decide ((↑w.length : Int) ≤ 64)) = true) ∧ ((true && decide ((↑w.length : Int) ≤ 64)) = true → (true && decide ((↑w.length : Int) ≤ 64)) = true) ∧ ((true && decide ((↑w.length : Int) ≤ 64)) = true → (true && decide ((↑w.length : Int) ≤ 64)) = true) ∧ ((true && decide ((↑w.length : Int) ≤ 64) && decide ((↑w.length : Int) = (↑d.length : Int))) = true → (true && decide ((↑w.length : Int) ≤ 64) && decide ((↑w.length : Int) = (↑d.length : Int))) = true) ∧ ((true && decide ((↑w.length : Int) ≤ 64) && decide ((↑w.length : Int) = (↑d.length : Int))) = true → In 1 10000 w ∧ w.length ≤ (1048576 : Nat)) ∧ ((true && decide ((↑w.length : Int) ≤ 64) && decide ((↑w.length : Int) = (↑d.length : Int))) = true → (true && decide ((↑w.length : Int) ≤ 64) && decide ((↑w.length : Int) = (↑d.length : Int))) = true) ∧ ((true && decide ((↑w.length : Int) ≤ 64) && decide ((↑w.length : Int) = (↑d.length : Int)) && true) = true → (true && decide ((↑w.length : Int) ≤ 64) && decide ((↑w.length : Int) = (↑d.length : Int)) && true) = true) ∧ ((true && decide ((↑w.length : Int) ≤ 64) && decide ((↑w.length : Int) = (↑d.length : Int)) && true) = true → In 0 65536 d ∧ d.length ≤ (1048576 : Nat)) ∧ ((true && decide ((↑w.length : Int) ≤ 64) && decide ((↑w.length : Int) = (↑d.length : Int)) && true) = true → (true && decide ((↑w.length : Int) ≤ 64) && decide ((↑w.length : Int) = (↑d.length : Int)) && true) = true) ∧ ∃ (y : Unit), True ∧ (true && decide ((↑w.length : Int) ≤ 64) && decide ((↑w.length : Int) = (↑d.length : Int)) && true && true) = true) = sValid.vc (EV Try.prog [(21, sWithin.spec)] noInv noInv) Try.f18 (k, w, d, ()) := by kernel_rfl
  rw [← e]
  clear e
  obtain ⟨h1, h2, h3⟩ := hx
  simp only [Prod.forall, Prod.exists, exists_const, implies_true, not_true_eq_false, not_false_eq_true, or_self, or_false, false_or, or_true, true_or, and_false, false_and, forall_const, true_and, and_true, i64R, imp_self, Int.reduceLE, Int.reduceLT, Int.reduceNeg, false_implies, true_implies, decide_eq_true_eq, decide_eq_false_iff_not, Bool.not_eq_true', Bool.not_eq_false', Bool.true_eq_false, Bool.false_eq_true, Bool.and_eq_true, Bool.or_eq_true, NilL_eq, Bool.and_eq_false_iff, Bool.or_eq_false_iff ]
  have := h3.len
  have := h3.n
  refine ⟨⟨fun i hi => ?_, by simp⟩, fun _ => ⟨h3.w, by omega⟩, fun _ => ⟨h3.d, by omega⟩, by omega, by omega⟩
  have : i = 0 := by simpa using hi
  subst this
  exact ⟨h1, h2⟩


set_option maxRecDepth 100000 in
theorem vc23 (w g : List Int) (i j : Int) (hx : LvlOK w g i j) : sLevel.vc (EV Try.prog [] noInv noInv) Try.f23 (w, g, i, j, ()) := by
  have e : ((0 ≤ i ∧ i < (↑g.length : Int)) ∧ i64R (g.getD i.toNat (0 : Int) + 1) ∧ (0 ≤ j ∧ j < (↑w.length : Int)) ∧ i64R ((g.getD i.toNat (0 : Int) + 1) * w.getD j.toNat 0) ∧ (0 ≤ j ∧ j < (↑g.length : Int)) ∧ i64R (g.getD j.toNat (0 : Int) + 1) ∧ (0 ≤ i ∧ i < (↑w.length : Int)) ∧ i64R ((g.getD j.toNat (0 : Int) + 1) * w.getD i.toNat 0) ∧ (decide ((g.getD i.toNat (0 : Int) + 1) * w.getD j.toNat 0 < (g.getD j.toNat (0 : Int) + 1) * w.getD i.toNat 0) = true → ∃ (y : Unit), True ∧ (-1) = if (g.getD i.toNat (0 : Int) + 1) * w.getD j.toNat 0 < (g.getD j.toNat (0 : Int) + 1) * w.getD i.toNat 0 then (-1) else if (g.getD i.toNat (0 : Int) + 1) * w.getD j.toNat 0 > (g.getD j.toNat (0 : Int) + 1) * w.getD i.toNat 0 then 1 else 0) ∧ (decide ((g.getD i.toNat (0 : Int) + 1) * w.getD j.toNat 0 < (g.getD j.toNat (0 : Int) + 1) * w.getD i.toNat 0) = false → (decide ((g.getD j.toNat (0 : Int) + 1) * w.getD i.toNat 0 < (g.getD i.toNat (0 : Int) + 1) * w.getD j.toNat 0) = true → ∃ (y : Unit), True ∧ 1 = if (g.getD i.toNat (0 : Int) + 1) * w.getD j.toNat 0 < (g.getD j.toNat (0 : Int) + 1) * w.getD i.toNat 0 then (-1) else if (g.getD i.toNat (0 : Int) + 1) * w.getD j.toNat 0 > (g.getD j.toNat (0 : Int) + 1) * w.getD i.toNat 0 then 1 else 0) ∧ (decide ((g.getD j.toNat (0 : Int) + 1) * w.getD i.toNat 0 < (g.getD i.toNat (0 : Int) + 1) * w.getD j.toNat 0) = false → ∃ (y : Unit), True ∧ 0 = if (g.getD i.toNat (0 : Int) + 1) * w.getD j.toNat 0 < (g.getD j.toNat (0 : Int) + 1) * w.getD i.toNat 0 then (-1) else if (g.getD i.toNat (0 : Int) + 1) * w.getD j.toNat 0 > (g.getD j.toNat (0 : Int) + 1) * w.getD i.toNat 0 then 1 else 0))) = sLevel.vc (EV Try.prog [] noInv noInv) Try.f23 (w, g, i, j, ()) := by kernel_rfl
  rw [← e]
  clear e
  have m1 := hx.mul
  have m2 := hx.swap.mul
  have a := hx.hg i.toNat (by have := hx.i0; have := hx.i2; omega)
  have b := hx.hg j.toNat (by have := hx.j0; have := hx.j2; omega)
  obtain ⟨i0, i1, i2, j0, j1, j2, _, _, _, _⟩ := hx
  simp only [nth] at m1 m2 a b
  simp only [Prod.forall, Prod.exists, exists_const, implies_true, not_true_eq_false, not_false_eq_true, or_self, or_false, false_or, or_true, true_or, and_false, false_and, forall_const, true_and, and_true, i64R, imp_self, Int.reduceLE, Int.reduceLT, Int.reduceNeg, false_implies, true_implies, decide_eq_true_eq, decide_eq_false_iff_not, Bool.not_eq_true', Bool.not_eq_false', Bool.true_eq_false, Bool.false_eq_true, Bool.and_eq_true, Bool.or_eq_true, NilL_eq, Bool.and_eq_false_iff, Bool.or_eq_false_iff ]
  generalize (g.getD i.toNat 0 + 1) * w.getD j.toNat 0 = p at *
  generalize (g.getD j.toNat 0 + 1) * w.getD i.toNat 0 = q at *
  refine ⟨by omega, by omega, by omega, by omega, by omega, by omega, by omega, by omega, fun h => ?_, fun h => ⟨fun h2 => ?_, fun h2 => ?_⟩⟩
  · rw [if_pos h]
  · rw [if_neg h, if_pos h2]
  · rw [if_neg h, if_neg h2]

def inv16 (i j : Int) (s : St) : Inv where
  X := Int
  ok := fun k => 0 ≤ k ∧ k ≤ 2
  sl := fun k => [(19, .own 101 0), (21, .int .i64 k)]
  hp := fun _ => [(101, .rows 3 0 [i, j])]
  keep := []
  me := fun k => (2 - k).toNat
set_option maxRecDepth 100000 in
theorem vc16 (w g : List Int) (i j : Int) (hx : LvlOK w g i j) : sLevel.vc (EV Try.prog [(23, sLevel.spec), (21, sWithin.spec)] (invsS [(3, inv16 i j)]) noInv) Try.f16 (w, g, i, j, ()) := by
  have e : ((∃ (x : Int), (0 ≤ x ∧ x ≤ 2) ∧ 0 = x ∧ i :: j :: NilL Int = i :: j :: NilL Int) ∧ ∀ (x : Int), 0 ≤ x ∧ x ≤ 2 → (decide (x < (↑(i :: j :: NilL Int).length : Int)) = true → (0 ≤ x ∧ x < (↑(i :: j :: NilL Int).length : Int)) ∧ (decide ((i :: j :: NilL Int).getD x.toNat (0 : Int) < 0) = false → decide ((i :: j :: NilL Int).getD x.toNat (0 : Int) < 0) = false) ∧ (decide ((i :: j :: NilL Int).getD x.toNat (0 : Int) < 0) = false → decide ((i :: j :: NilL Int).getD x.toNat (0 : Int) < 0) = false) ∧ (decide ((i :: j :: NilL Int).getD x.toNat (0 : Int) < 0) = false → decide ((i :: j :: NilL Int).getD x.toNat (0 : Int) < 0) = false) ∧ ((decide ((i :: j :: NilL Int).getD x.toNat (0 : Int) < 0) || decide (Min.min (↑w.length : Int) (↑g.length : Int) ≤ (i :: j :: NilL Int).getD x.toNat 0)) = false → (decide ((i :: j :: NilL Int).getD x.toNat (0 : Int) < 0) || decide (Min.min (↑w.length : Int) (↑g.length : Int) ≤ (i :: j :: NilL Int).getD x.toNat 0)) = false) ∧ ((decide ((i :: j :: NilL Int).getD x.toNat (0 : Int) < 0) || decide (Min.min (↑w.length : Int) (↑g.length : Int) ≤ (i :: j :: NilL Int).getD x.toNat 0)) = false → i64R ((i :: j :: NilL Int).getD x.toNat (0 : Int) + 1)) ∧ ((decide ((i :: j :: NilL Int).getD x.toNat (0 : Int) < 0) || decide (Min.min (↑w.length : Int) (↑g.length : Int) ≤ (i :: j :: NilL Int).getD x.toNat 0)) = false → (decide ((i :: j :: NilL Int).getD x.toNat (0 : Int) < 0) || decide (Min.min (↑w.length : Int) (↑g.length : Int) ≤ (i :: j :: NilL Int).getD x.toNat 0)) = false) ∧ ((decide ((i :: j :: NilL Int).getD x.toNat (0 : Int) < 0) || decide (Min.min (↑w.length : Int) (↑g.length : Int) ≤ (i :: j :: NilL Int).getD x.toNat 0)) = false → (decide ((i :: j :: NilL Int).getD x.toNat (0 : Int) < 0) || decide (Min.min (↑w.length : Int) (↑g.length : Int) ≤ (i :: j :: NilL Int).getD x.toNat 0)) = false) ∧ ((decide ((i :: j :: NilL Int).getD x.toNat (0 : Int) < 0) || decide (Min.min (↑w.length : Int) (↑g.length : Int) ≤ (i :: j :: NilL Int).getD x.toNat 0)) = false → (decide ((i :: j :: NilL Int).getD x.toNat (0 : Int) < 0) || decide (Min.min (↑w.length : Int) (↑g.length : Int) ≤ (i :: j :: NilL Int).getD x.toNat 0)) = false) ∧ ((decide ((i :: j :: NilL Int).getD x.toNat (0 : Int) < 0) || decide (Min.min (↑w.length : Int) (↑g.length : Int) ≤ (i :: j :: NilL Int).getD x.toNat 0)) = false → 0 ≤ (i :: j :: NilL Int).getD x.toNat 0 ∧ (i :: j :: NilL Int).getD x.toNat 0 ≤ (i :: j :: NilL Int).getD x.toNat (0 : Int) + 1 ∧ (i :: j :: NilL Int).getD x.toNat (0 : Int) + 1 ≤ (↑w.length : Int)) ∧ ((decide ((i :: j :: NilL Int).getD x.toNat (0 : Int) < 0) || decide (Min.min (↑w.length : Int) (↑g.length : Int) ≤ (i :: j :: NilL Int).getD x.toNat 0)) = false → (decide ((i :: j :: NilL Int).getD x.toNat (0 : Int) < 0) || decide (Min.min (↑w.length : Int) (↑g.length : Int) ≤ (i :: j :: NilL Int).getD x.toNat 0)) = false) ∧ ((decide ((i :: j :: NilL Int).getD x.toNat (0 : Int) < 0) || decide (Min.min (↑w.length : Int) (↑g.length : Int) ≤ (i :: j :: NilL Int).getD x.toNat 0)) = false → In 1 10000 (List.take ((i :: j :: NilL Int).getD x.toNat (0 : Int) + 1 - (i :: j :: NilL Int).getD x.toNat 0).toNat (List.drop ((i :: j :: NilL Int).getD x.toNat 0).toNat w)) ∧ (List.take ((i :: j :: NilL Int).getD x.toNat (0 : Int) + 1 - (i :: j :: NilL Int).getD x.toNat 0).toNat (List.drop ((i :: j :: NilL Int).getD x.toNat 0).toNat w)).length ≤ (1048576 : Nat)) ∧ ((decide ((i :: j :: NilL Int).getD x.toNat (0 : Int) < 0) || decide (Min.min (↑w.length : Int) (↑g.length : Int) ≤ (i :: j :: NilL Int).getD x.toNat 0)) = false → (decide ((i :: j :: NilL Int).getD x.toNat (0 : Int) < 0) || decide (Min.min (↑w.length : Int) (↑g.length : Int) ≤ (i :: j :: NilL Int).getD x.toNat 0)) = false) ∧ ((decide ((i :: j :: NilL Int).getD x.toNat (0 : Int) < 0) || decide (Min.min (↑w.length : Int) (↑g.length : Int) ≤ (i :: j :: NilL Int).getD x.toNat 0)) = false → (decide ((i :: j :: NilL Int).getD x.toNat (0 : Int) < 0) || decide (Min.min (↑w.length : Int) (↑g.length : Int) ≤ (i :: j :: NilL Int).getD x.toNat 0)) = false) ∧ ((decide ((i :: j :: NilL Int).getD x.toNat (0 : Int) < 0) || decide (Min.min (↑w.length : Int) (↑g.length : Int) ≤ (i :: j :: NilL Int).getD x.toNat 0) || !true) = false → (decide ((i :: j :: NilL Int).getD x.toNat (0 : Int) < 0) || decide (Min.min (↑w.length : Int) (↑g.length : Int) ≤ (i :: j :: NilL Int).getD x.toNat 0) || !true) = false) ∧ ((decide ((i :: j :: NilL Int).getD x.toNat (0 : Int) < 0) || decide (Min.min (↑w.length : Int) (↑g.length : Int) ≤ (i :: j :: NilL Int).getD x.toNat 0) || !true) = false → i64R ((i :: j :: NilL Int).getD x.toNat (0 : Int) + 1)) ∧ ((decide ((i :: j :: NilL Int).getD x.toNat (0 : Int) < 0) || decide (Min.min (↑w.length : Int) (↑g.length : Int) ≤ (i :: j :: NilL Int).getD x.toNat 0) || !true) = false → (decide ((i :: j :: NilL Int).getD x.toNat (0 : Int) < 0) || decide (Min.min (↑w.length : Int) (↑g.length : Int) ≤ (i :: j :: NilL Int).getD x.toNat 0) || !true) = false) ∧ ((decide ((i :: j :: NilL Int).getD x.toNat (0 : Int) < 0) || decide (Min.min (↑w.length : Int) (↑g.length : Int) ≤ (i :: j :: NilL Int).getD x.toNat 0) || !true) = false → (decide ((i :: j :: NilL Int).getD x.toNat (0 : Int) < 0) || decide (Min.min (↑w.length : Int) (↑g.length : Int) ≤ (i :: j :: NilL Int).getD x.toNat 0) || !true) = false) ∧ ((decide ((i :: j :: NilL Int).getD x.toNat (0 : Int) < 0) || decide (Min.min (↑w.length : Int) (↑g.length : Int) ≤ (i :: j :: NilL Int).getD x.toNat 0) || !true) = false → (decide ((i :: j :: NilL Int).getD x.toNat (0 : Int) < 0) || decide (Min.min (↑w.length : Int) (↑g.length : Int) ≤ (i :: j :: NilL Int).getD x.toNat 0) || !true) = false) ∧ ((decide ((i :: j :: NilL Int).getD x.toNat (0 : Int) < 0) || decide (Min.min (↑w.length : Int) (↑g.length : Int) ≤ (i :: j :: NilL Int).getD x.toNat 0) || !true) = false → 0 ≤ (i :: j :: NilL Int).getD x.toNat 0 ∧ (i :: j :: NilL Int).getD x.toNat 0 ≤ (i :: j :: NilL Int).getD x.toNat (0 : Int) + 1 ∧ (i :: j :: NilL Int).getD x.toNat (0 : Int) + 1 ≤ (↑g.length : Int)) ∧ ((decide ((i :: j :: NilL Int).getD x.toNat (0 : Int) < 0) || decide (Min.min (↑w.length : Int) (↑g.length : Int) ≤ (i :: j :: NilL Int).getD x.toNat 0) || !true) = false → (decide ((i :: j :: NilL Int).getD x.toNat (0 : Int) < 0) || decide (Min.min (↑w.length : Int) (↑g.length : Int) ≤ (i :: j :: NilL Int).getD x.toNat 0) || !true) = false) ∧ ((decide ((i :: j :: NilL Int).getD x.toNat (0 : Int) < 0) || decide (Min.min (↑w.length : Int) (↑g.length : Int) ≤ (i :: j :: NilL Int).getD x.toNat 0) || !true) = false → In 0 65536 (List.take ((i :: j :: NilL Int).getD x.toNat (0 : Int) + 1 - (i :: j :: NilL Int).getD x.toNat 0).toNat (List.drop ((i :: j :: NilL Int).getD x.toNat 0).toNat g)) ∧ (List.take ((i :: j :: NilL Int).getD x.toNat (0 : Int) + 1 - (i :: j :: NilL Int).getD x.toNat 0).toNat (List.drop ((i :: j :: NilL Int).getD x.toNat 0).toNat g)).length ≤ (1048576 : Nat)) ∧ ((decide ((i :: j :: NilL Int).getD x.toNat (0 : Int) < 0) || decide (Min.min (↑w.length : Int) (↑g.length : Int) ≤ (i :: j :: NilL Int).getD x.toNat 0) || !true) = false → (decide ((i :: j :: NilL Int).getD x.toNat (0 : Int) < 0) || decide (Min.min (↑w.length : Int) (↑g.length : Int) ≤ (i :: j :: NilL Int).getD x.toNat 0) || !true) = false) ∧ ((decide ((i :: j :: NilL Int).getD x.toNat (0 : Int) < 0) || decide (Min.min (↑w.length : Int) (↑g.length : Int) ≤ (i :: j :: NilL Int).getD x.toNat 0) || !true) = false → (decide ((i :: j :: NilL Int).getD x.toNat (0 : Int) < 0) || decide (Min.min (↑w.length : Int) (↑g.length : Int) ≤ (i :: j :: NilL Int).getD x.toNat 0) || !true) = false) ∧ ((decide ((i :: j :: NilL Int).getD x.toNat (0 : Int) < 0) || decide (Min.min (↑w.length : Int) (↑g.length : Int) ≤ (i :: j :: NilL Int).getD x.toNat 0) || !true || !true) = true → ∃ (y : Unit), True ∧ 0 = lvl w g i j) ∧ ((decide ((i :: j :: NilL Int).getD x.toNat (0 : Int) < 0) || decide (Min.min (↑w.length : Int) (↑g.length : Int) ≤ (i :: j :: NilL Int).getD x.toNat 0) || !true || !true) = false → i64R (x + 1) ∧ ∃ (x' : Int), (0 ≤ x' ∧ x' ≤ 2) ∧ (2 - x').toNat < (2 - x).toNat ∧ x + 1 = x' ∧ i :: j :: NilL Int = i :: j :: NilL Int)) ∧ (decide (x < (↑(i :: j :: NilL Int).length : Int)) = false → LvlOK w g i j ∧ ∃ (y : Unit), True ∧ lvl w g i j = lvl w g i j)) = sLevel.vc (EV Try.prog [(23, sLevel.spec), (21, sWithin.spec)] (invsS [(3, inv16 i j)]) noInv) Try.f16 (w, g, i, j, ()) := by kernel_rfl
  rw [← e]
  clear e
  obtain ⟨i0, i1, i2, j0, j1, j2, hw, hg, hn, hm⟩ := id hx
  have hE : ∀ x : Int, 0 ≤ x → x < 2 → 0 ≤ [i, j].getD x.toNat 0 ∧ [i, j].getD x.toNat 0 < w.length ∧ [i, j].getD x.toNat 0 < g.length := fun x h0 h1 => by
    have : x.toNat = 0 ∨ x.toNat = 1 := by omega
    rcases this with e | e <;> rw [e] <;> simp <;> omega
  have hl : (([i, j].length : Nat) : Int) = 2 := rfl
  simp only [Prod.forall, Prod.exists, exists_const, implies_true, not_true_eq_false, not_false_eq_true, or_self, or_false, false_or, or_true, true_or, and_false, false_and, forall_const, true_and, and_true, i64R, imp_self, Int.reduceLE, Int.reduceLT, Int.reduceNeg, false_implies, true_implies, decide_eq_true_eq, decide_eq_false_iff_not, Bool.not_eq_true', Bool.not_eq_false', Bool.true_eq_false, Bool.false_eq_true, Bool.and_eq_true, Bool.or_eq_true, NilL_eq, Bool.and_eq_false_iff, Bool.or_eq_false_iff ]
  simp only [hl]
  refine ⟨⟨0, by omega, rfl⟩, fun x hx1 => ⟨fun hlt => ?_, fun _ => hx⟩⟩
  simp only [decide_eq_true_eq] at hlt
  have hE' := hE x hx1.1 hlt
  obtain ⟨E, hEe⟩ : ∃ E, [i, j].getD x.toNat 0 = E := ⟨_, rfl⟩
  simp only [hEe] at hE' ⊢
  obtain ⟨e0, e1, e2⟩ := hE'
  refine ⟨by omega, fun _ => by omega, fun _ => by omega, fun _ => ⟨hw.slice _ _, by simp; omega⟩, fun _ => by omega, fun _ => by omega, fun _ => ⟨hg.slice _ _, by simp; omega⟩, fun h => ?_, fun _ => ⟨by omega, x + 1, by omega, by omega, rfl⟩⟩
  rcases h with h | h <;> simp at h <;> omega
end Go.Proofs.Ytaipgdhaoldhjaa
