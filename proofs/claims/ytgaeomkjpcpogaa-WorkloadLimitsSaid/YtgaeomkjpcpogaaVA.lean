/-
  Lemmas and contracts on the way to the laws of this seat; each theorem states its own conditions, and there are no others.
-/
import Derived.Test.YtgaeomkjpcpogaaPA

namespace Go.Proofs.Ytgaeomkjpcpogaa
open Go
set_option linter.unusedVariables false
set_option linter.unusedSimpArgs false
set_option linter.unusedVariables false

def sNext : FSp := ⟨_, Sig.dice (one pkI) (fun _ => rfl), fun x => DOK x.1 ∧ x.2.1 ≤ 4611686018427387904, Int × Int, fun x y => (1 ≤ x.2.1 → 0 ≤ y.1 ∧ y.1 < x.2.1) ∧ (x.2.1 < 1 → y.1 = 0) ∧ x.1.2 ≤ y.2 ∧ y.2 ≤ x.1.1.length, fun _ y => .int .i64 y.1, fun x y => [(0, diceO (x.1.1, y.2))], fun x h => ⟨(0, x.1.2), fun h => ⟨Int.le_refl _, by show (0 : Int) < x.2.1; omega⟩, fun _ => rfl, Int.le_refl _, h.1.hi⟩⟩
def sRoll : DS := ⟨_, one pkIntsP, fun _ => True, fun _ => .ptr 100 0, fun x => [(100, diceO (x.1, 0))]⟩
def sLight : DS := ⟨_, one pkInts, fun _ => True, fun x => .bool (decide ((x.1.length : Int) ≤ 600)), nou⟩
def sBool : FSp := ⟨_, Sig.dice (one pkI) (fun _ => rfl), fun x => DOK x.1 ∧ 1 ≤ x.2.1 ∧ x.2.1 ≤ 1000, Bool × Int, fun x y => x.1.2 ≤ y.2 ∧ y.2 ≤ x.1.1.length, fun _ y => .bool y.1, fun x y => [(0, diceO (x.1.1, y.2))], fun x h => ⟨(true, x.1.2), Int.le_refl _, h.1.hi⟩⟩
def sPick : FSp := ⟨_, Sig.dice (one pkInts) (fun _ => rfl), fun x => DOK x.1 ∧ 1 ≤ x.2.1.length ∧ x.2.1.length ≤ 1000, Int × Int, fun x y => y.1 ∈ x.2.1 ∧ x.1.2 ≤ y.2 ∧ y.2 ≤ x.1.1.length, fun _ y => .int .i64 y.1, fun x y => [(0, diceO (x.1.1, y.2))], fun x h => ⟨(x.2.1.getD 0 0, x.1.2), by obtain ⟨h1, h2, h3⟩ := h; match h4 : x.2.1, h2 with | a :: l, _ => simp, Int.le_refl _, h.1.hi⟩⟩
def sIn : DS := ⟨_, three pkI pkI pkI, fun _ => True, fun x => .bool (inb x.1 x.2.1 x.2.2.1), nou⟩
def sTicks : DS := ⟨_, two pkStp pkI, fun x => 0 ≤ x.2.1 ∧ x.2.1 ≤ 32, fun x => .bool (okTicks x.1), nou⟩
def sPages : DS := ⟨_, two pkStp pkI, fun x => 0 ≤ x.2.1 ∧ x.2.1 ≤ 32, fun x => .bool (okPages x.1), nou⟩
def sTouch : DS := ⟨_, two pkStp pkI, fun x => 0 ≤ x.2.1 ∧ x.2.1 ≤ 32, fun x => .bool (okTouch x.1), nou⟩
def sReq : DS := ⟨_, two pkStp pkI, fun x => 0 ≤ x.2.1 ∧ x.2.1 ≤ 32, fun x => .bool (okReq x.1), nou⟩
def sFork : DS := ⟨_, two pkStp pkI, fun x => 0 ≤ x.2.1 ∧ x.2.1 ≤ 32, fun x => .bool (okFork x.1 x.2.1), nou⟩
def sNone : DS := ⟨_, two pkStp pkI, fun x => 0 ≤ x.2.1 ∧ x.2.1 ≤ 32, fun x => .bool (okNone x.1), nou⟩


set_option maxRecDepth 100000 in
theorem vc9 (L : List Int) (k n : Int) (hx : DOK (L, k) ∧ n ≤ 4611686018427387904) : sNext.vc (EV Try.prog [] noInv noInv) Try.f9 ((L, k), n, ()) := by
  have e : ((decide ((↑L.length : Int) ≤ k) = false → decide ((↑L.length : Int) ≤ k) = false) ∧ (decide ((↑L.length : Int) ≤ k) = false → decide ((↑L.length : Int) ≤ k) = false) ∧ ((decide ((↑L.length : Int) ≤ k) || decide (n < 1)) = true → ∃ (y : Int × Int), ((1 ≤ n → 0 ≤ y.fst ∧ y.fst < n) ∧ (n < 1 → y.fst = 0) ∧ k ≤ y.snd ∧ y.snd ≤ (↑L.length : Int)) ∧ 0 = y.fst ∧ L = L ∧ k = y.snd) ∧ ((decide ((↑L.length : Int) ≤ k) || decide (n < 1)) = false → i64R (k + 1) ∧ i64R (k + (1 : Int) - 1) ∧ (0 ≤ k + (1 : Int) - 1 ∧ k + (1 : Int) - 1 < (↑L.length : Int)) ∧ 0 < n ∧ (decide ((L.getD (k + (1 : Int) - 1).toNat 0).tmod n < 0) = true → i64R ((L.getD (k + (1 : Int) - 1).toNat 0).tmod n + n) ∧ ∃ (y : Int × Int), ((1 ≤ n → 0 ≤ y.fst ∧ y.fst < n) ∧ (n < 1 → y.fst = 0) ∧ k ≤ y.snd ∧ y.snd ≤ (↑L.length : Int)) ∧ (L.getD (k + (1 : Int) - 1).toNat 0).tmod n + n = y.fst ∧ L = L ∧ k + 1 = y.snd) ∧ (decide ((L.getD (k + (1 : Int) - 1).toNat 0).tmod n < 0) = false → ∃ (y : Int × Int), ((1 ≤ n → 0 ≤ y.fst ∧ y.fst < n) ∧ (n < 1 → y.fst = 0) ∧ k ≤ y.snd ∧ y.snd ≤ (↑L.length : Int)) ∧ (L.getD (k + (1 : Int) - 1).toNat 0).tmod n = y.fst ∧ L = L ∧ k + 1 = y.snd))) = sNext.vc (EV Try.prog [] noInv noInv) Try.f9 ((L, k), n, ()) := by kernel_rfl
  rw [← e]
  clear e
  obtain ⟨⟨h1, h2, h3⟩, h4⟩ := hx
  have h1 : 0 ≤ k := h1
  have h2 : k ≤ L.length := h2
  have h3 : L.length ≤ 600 := h3
  have key : 0 < n → ∀ x : Int, -n < x.tmod n ∧ x.tmod n < n := fun h x => ⟨Int.lt_tmod_of_pos x h, Int.tmod_lt_of_pos x h⟩
  refine ⟨fun h => h, fun h => h, fun h => ⟨(0, k), ⟨⟨fun _ => ⟨Int.le_refl _, by simp at h ⊢; omega⟩, fun _ => rfl, Int.le_refl _, h2⟩, rfl, rfl, rfl⟩⟩, fun h => ?_⟩
  have h5 : k < L.length ∧ 1 ≤ n := by simp at h; omega
  have h6 := key (by omega) (L.getD (k + 1 - 1).toNat 0)
  generalize (L.getD (k + 1 - 1).toNat 0).tmod n = x at *
  simp only [i64R]
  refine ⟨by omega, by omega, by omega, by omega, fun h => ⟨by simp at h; omega, (x + n, k + 1), ⟨⟨fun _ => ?_, fun _ => ?_, ?_, ?_⟩, by simp⟩⟩, fun h => ⟨(x, k + 1), ⟨⟨fun _ => ?_, fun _ => ?_, ?_, ?_⟩, by simp⟩⟩⟩
  all_goals (simp at h ⊢; omega)


set_option maxRecDepth 100000 in
theorem vc8 (L : List Int) (hx : True) : sRoll.vc (EV Try.prog [] noInv noInv) Try.f8 (L, ()) := by
  have e : (∃ (y : Unit), True ∧ L = L ∧ (0 : Int) = 0) = sRoll.vc (EV Try.prog [] noInv noInv) Try.f8 (L, ()) := by kernel_rfl
  rw [← e]
  clear e
  simp


set_option maxRecDepth 100000 in
theorem vc13 (L : List Int) (hx : True) : sLight.vc (EV Try.prog [] noInv noInv) Try.f13 (L, ()) := by
  have e : (∃ (y : Unit), True ∧ decide ((↑L.length : Int) ≤ 600) = decide ((↑L.length : Int) ≤ 600)) = sLight.vc (EV Try.prog [] noInv noInv) Try.f13 (L, ()) := by kernel_rfl
  rw [← e]
  clear e
  simp


set_option maxRecDepth 100000 in
theorem vc36 (L : List Int) (k n : Int) (hx : DOK (L, k) ∧ 1 ≤ n ∧ n ≤ 1000) : sBool.vc (EV Try.prog [(9, sNext.spec)] noInv noInv) Try.f36 ((L, k), n, ()) := by
  have e : ((DOK (L, k) ∧ n ≤ 4611686018427387904) ∧ (∀ (y : Int × Int), true = true) ∧ ∀ (y : Int × Int), (1 ≤ n → 0 ≤ y.fst ∧ y.fst < n) ∧ (n < 1 → y.fst = 0) ∧ k ≤ y.snd ∧ y.snd ≤ (↑L.length : Int) → i64R (n - 1) ∧ ∃ (y_1 : Bool × Int), (k ≤ y_1.snd ∧ y_1.snd ≤ (↑L.length : Int)) ∧ decide (y.fst = n - 1) = y_1.fst ∧ L = L ∧ y.snd = y_1.snd) = sBool.vc (EV Try.prog [(9, sNext.spec)] noInv noInv) Try.f36 ((L, k), n, ()) := by kernel_rfl
  rw [← e]
  clear e
  obtain ⟨h1, h2, h3⟩ := hx
  simp only [Prod.forall, Prod.exists, exists_const, implies_true, not_true_eq_false, not_false_eq_true, or_self, or_false, false_or, or_true, true_or, and_false, false_and, forall_const, true_and, and_true, i64R, imp_self, Int.reduceLE, Int.reduceLT, Int.reduceNeg, false_implies, true_implies, decide_eq_true_eq, decide_eq_false_iff_not, Bool.not_eq_true', Bool.not_eq_false', Bool.true_eq_false, Bool.false_eq_true, Bool.and_eq_true, Bool.or_eq_true, NilL_eq, Bool.and_eq_false_iff, Bool.or_eq_false_iff ]
  refine ⟨⟨h1, by omega⟩, fun a b hy => ⟨by omega, _, _, hy.2.2, rfl, rfl⟩⟩


set_option maxRecDepth 100000 in
theorem vc18 (L : List Int) (k : Int) (l : List Int) (hx : DOK (L, k) ∧ 1 ≤ l.length ∧ l.length ≤ 1000) : sPick.vc (EV Try.prog [(9, sNext.spec)] noInv noInv) Try.f18 ((L, k), l, ()) := by
  have e : ((DOK (L, k) ∧ (↑l.length : Int) ≤ 4611686018427387904) ∧ (∀ (y : Int × Int), true = true) ∧ ∀ (y : Int × Int), (1 ≤ (↑l.length : Int) → 0 ≤ y.fst ∧ y.fst < (↑l.length : Int)) ∧ ((↑l.length : Int) < 1 → y.fst = 0) ∧ k ≤ y.snd ∧ y.snd ≤ (↑L.length : Int) → (0 ≤ y.fst ∧ y.fst < (↑l.length : Int)) ∧ ∃ (y_1 : Int × Int), (y_1.fst ∈ l ∧ k ≤ y_1.snd ∧ y_1.snd ≤ (↑L.length : Int)) ∧ l.getD y.fst.toNat 0 = y_1.fst ∧ L = L ∧ y.snd = y_1.snd) = sPick.vc (EV Try.prog [(9, sNext.spec)] noInv noInv) Try.f18 ((L, k), l, ()) := by kernel_rfl
  rw [← e]
  clear e
  obtain ⟨h1, h2, h3⟩ := hx
  simp only [Prod.forall, Prod.exists, exists_const, implies_true, not_true_eq_false, not_false_eq_true, or_self, or_false, false_or, or_true, true_or, and_false, false_and, forall_const, true_and, and_true, i64R, imp_self, Int.reduceLE, Int.reduceLT, Int.reduceNeg, false_implies, true_implies, decide_eq_true_eq, decide_eq_false_iff_not, Bool.not_eq_true', Bool.not_eq_false', Bool.true_eq_false, Bool.false_eq_true, Bool.and_eq_true, Bool.or_eq_true, NilL_eq, Bool.and_eq_false_iff, Bool.or_eq_false_iff ]
  refine ⟨⟨h1, by omega⟩, fun a b hy => ?_⟩
  have hb := hy.1 (by omega)
  refine ⟨hb, _, _, ⟨?_, hy.2.2⟩, rfl, rfl⟩
  rw [List.getD_eq_getElem?_getD, List.getElem?_eq_getElem (by omega)]
  exact List.getElem_mem _


set_option maxRecDepth 100000 in
theorem vc26 (x a b : Int) (hx : True) : sIn.vc (EV Try.prog [] noInv noInv) Try.f26 (x, a, b, ()) := by
  have e : ((decide (a ≤ x) = true → decide (a ≤ x) = true) ∧ (decide (a ≤ x) = true → decide (a ≤ x) = true) ∧ (decide (a ≤ x) = true → decide (a ≤ x) = true) ∧ ∃ (y : Unit), True ∧ (decide (a ≤ x) && decide (x ≤ b)) = (decide (a ≤ x) && decide (x ≤ b))) = sIn.vc (EV Try.prog [] noInv noInv) Try.f26 (x, a, b, ()) := by kernel_rfl
  rw [← e]
  clear e
  simp only [Prod.forall, Prod.exists, exists_const, implies_true, not_true_eq_false, not_false_eq_true, or_self, or_false, false_or, or_true, true_or, and_false, false_and, forall_const, true_and, and_true, i64R, imp_self, Int.reduceLE, Int.reduceLT, Int.reduceNeg, false_implies, true_implies, decide_eq_true_eq, decide_eq_false_iff_not, Bool.not_eq_true', Bool.not_eq_false', Bool.true_eq_false, Bool.false_eq_true, Bool.and_eq_true, Bool.or_eq_true, NilL_eq, Bool.and_eq_false_iff, Bool.or_eq_false_iff ]


set_option maxRecDepth 100000 in
theorem vc42 (s : Stp) (n : Int) (hx : 0 ≤ n ∧ n ≤ 32) : sTicks.vc (EV Try.prog [(26, sIn.spec)] noInv noInv) Try.f42 (s, n, ()) := by
  have e : (True ∧ (inb s.n 1 1048576 = true → inb s.n 1 1048576 = true) ∧ (inb s.n 1 1048576 = true → inb s.n 1 1048576 = true) ∧ (inb s.n 1 1048576 = true → inb s.n 1 1048576 = true) ∧ ((inb s.n 1 1048576 && decide (s.a = 0)) = true → (inb s.n 1 1048576 && decide (s.a = 0)) = true) ∧ ((inb s.n 1 1048576 && decide (s.a = 0)) = true → (inb s.n 1 1048576 && decide (s.a = 0)) = true) ∧ ((inb s.n 1 1048576 && decide (s.a = 0)) = true → (inb s.n 1 1048576 && decide (s.a = 0)) = true) ∧ ∃ (y : Unit), True ∧ (inb s.n 1 1048576 && decide (s.a = 0) && decide (s.t = 0)) = (inb s.n 1 1048576 && decide (s.a = 0) && decide (s.t = 0))) = sTicks.vc (EV Try.prog [(26, sIn.spec)] noInv noInv) Try.f42 (s, n, ()) := by kernel_rfl
  rw [← e]
  clear e
  simp only [Prod.forall, Prod.exists, exists_const, implies_true, not_true_eq_false, not_false_eq_true, or_self, or_false, false_or, or_true, true_or, and_false, false_and, forall_const, true_and, and_true, i64R, imp_self, Int.reduceLE, Int.reduceLT, Int.reduceNeg, false_implies, true_implies, decide_eq_true_eq, decide_eq_false_iff_not, Bool.not_eq_true', Bool.not_eq_false', Bool.true_eq_false, Bool.false_eq_true, Bool.and_eq_true, Bool.or_eq_true, NilL_eq, Bool.and_eq_false_iff, Bool.or_eq_false_iff ]


set_option maxRecDepth 100000 in
theorem vc43 (s : Stp) (n : Int) (hx : 0 ≤ n ∧ n ≤ 32) : sPages.vc (EV Try.prog [(26, sIn.spec)] noInv noInv) Try.f43 (s, n, ()) := by
  have e : (True ∧ (inb s.n 1 16777216 = true → inb s.n 1 16777216 = true) ∧ (inb s.n 1 16777216 = true → inb s.n 1 16777216 = true) ∧ (inb s.n 1 16777216 = true → inb s.n 1 16777216 = true) ∧ ((inb s.n 1 16777216 && decide (s.a = 0)) = true → (inb s.n 1 16777216 && decide (s.a = 0)) = true) ∧ ((inb s.n 1 16777216 && decide (s.a = 0)) = true → (inb s.n 1 16777216 && decide (s.a = 0)) = true) ∧ ((inb s.n 1 16777216 && decide (s.a = 0)) = true → (inb s.n 1 16777216 && decide (s.a = 0)) = true) ∧ ∃ (y : Unit), True ∧ (inb s.n 1 16777216 && decide (s.a = 0) && decide (s.t = 0)) = (inb s.n 1 16777216 && decide (s.a = 0) && decide (s.t = 0))) = sPages.vc (EV Try.prog [(26, sIn.spec)] noInv noInv) Try.f43 (s, n, ()) := by kernel_rfl
  rw [← e]
  clear e
  simp only [Prod.forall, Prod.exists, exists_const, implies_true, not_true_eq_false, not_false_eq_true, or_self, or_false, false_or, or_true, true_or, and_false, false_and, forall_const, true_and, and_true, i64R, imp_self, Int.reduceLE, Int.reduceLT, Int.reduceNeg, false_implies, true_implies, decide_eq_true_eq, decide_eq_false_iff_not, Bool.not_eq_true', Bool.not_eq_false', Bool.true_eq_false, Bool.false_eq_true, Bool.and_eq_true, Bool.or_eq_true, NilL_eq, Bool.and_eq_false_iff, Bool.or_eq_false_iff ]


set_option maxRecDepth 100000 in
theorem vc44 (s : Stp) (n : Int) (hx : 0 ≤ n ∧ n ≤ 32) : sTouch.vc (EV Try.prog [(26, sIn.spec)] noInv noInv) Try.f44 (s, n, ()) := by
  have e : (True ∧ (inb s.n 1 16777216 = true → inb s.n 1 16777216 = true) ∧ (inb s.n 1 16777216 = true → inb s.n 1 16777216 = true) ∧ (inb s.n 1 16777216 = true → True) ∧ (inb s.n 1 16777216 = true → inb s.n 1 16777216 = true) ∧ ((inb s.n 1 16777216 && inb s.a 1 2147483647) = true → (inb s.n 1 16777216 && inb s.a 1 2147483647) = true) ∧ ((inb s.n 1 16777216 && inb s.a 1 2147483647) = true → (inb s.n 1 16777216 && inb s.a 1 2147483647) = true) ∧ ((inb s.n 1 16777216 && inb s.a 1 2147483647) = true → (inb s.n 1 16777216 && inb s.a 1 2147483647) = true) ∧ ∃ (y : Unit), True ∧ (inb s.n 1 16777216 && inb s.a 1 2147483647 && decide (s.t = 0)) = (inb s.n 1 16777216 && inb s.a 1 2147483647 && decide (s.t = 0))) = sTouch.vc (EV Try.prog [(26, sIn.spec)] noInv noInv) Try.f44 (s, n, ()) := by kernel_rfl
  rw [← e]
  clear e
  simp only [Prod.forall, Prod.exists, exists_const, implies_true, not_true_eq_false, not_false_eq_true, or_self, or_false, false_or, or_true, true_or, and_false, false_and, forall_const, true_and, and_true, i64R, imp_self, Int.reduceLE, Int.reduceLT, Int.reduceNeg, false_implies, true_implies, decide_eq_true_eq, decide_eq_false_iff_not, Bool.not_eq_true', Bool.not_eq_false', Bool.true_eq_false, Bool.false_eq_true, Bool.and_eq_true, Bool.or_eq_true, NilL_eq, Bool.and_eq_false_iff, Bool.or_eq_false_iff ]


set_option maxRecDepth 100000 in
theorem vc45 (s : Stp) (n : Int) (hx : 0 ≤ n ∧ n ≤ 32) : sReq.vc (EV Try.prog [(26, sIn.spec)] noInv noInv) Try.f45 (s, n, ()) := by
  have e : (True ∧ (inb s.n 1 4096 = true → inb s.n 1 4096 = true) ∧ (inb s.n 1 4096 = true → inb s.n 1 4096 = true) ∧ (inb s.n 1 4096 = true → inb s.n 1 4096 = true) ∧ (inb s.n 1 4096 = true → i64R (16777216 - s.n)) ∧ (inb s.n 1 4096 = true → inb s.n 1 4096 = true) ∧ (inb s.n 1 4096 = true → inb s.n 1 4096 = true) ∧ (inb s.n 1 4096 = true → True) ∧ (inb s.n 1 4096 = true → inb s.n 1 4096 = true) ∧ ((inb s.n 1 4096 && inb s.t 0 (16777216 - s.n)) = true → (inb s.n 1 4096 && inb s.t 0 (16777216 - s.n)) = true) ∧ ((inb s.n 1 4096 && inb s.t 0 (16777216 - s.n)) = true → (inb s.n 1 4096 && inb s.t 0 (16777216 - s.n)) = true) ∧ ((inb s.n 1 4096 && inb s.t 0 (16777216 - s.n)) = true → True) ∧ ((inb s.n 1 4096 && inb s.t 0 (16777216 - s.n)) = true → (inb s.n 1 4096 && inb s.t 0 (16777216 - s.n)) = true) ∧ ∃ (y : Unit), True ∧ (inb s.n 1 4096 && inb s.t 0 (16777216 - s.n) && inb s.a 0 7) = (inb s.n 1 4096 && inb s.t 0 (16777216 - s.n) && inb s.a 0 7)) = sReq.vc (EV Try.prog [(26, sIn.spec)] noInv noInv) Try.f45 (s, n, ()) := by kernel_rfl
  rw [← e]
  clear e
  simp only [Prod.forall, Prod.exists, exists_const, implies_true, not_true_eq_false, not_false_eq_true, or_self, or_false, false_or, or_true, true_or, and_false, false_and, forall_const, true_and, and_true, i64R, imp_self, Int.reduceLE, Int.reduceLT, Int.reduceNeg, false_implies, true_implies, decide_eq_true_eq, decide_eq_false_iff_not, Bool.not_eq_true', Bool.not_eq_false', Bool.true_eq_false, Bool.false_eq_true, Bool.and_eq_true, Bool.or_eq_true, NilL_eq, Bool.and_eq_false_iff, Bool.or_eq_false_iff ]
  simp [inb]
  omega


set_option maxRecDepth 100000 in
theorem vc46 (s : Stp) (n : Int) (hx : 0 ≤ n ∧ n ≤ 32) : sFork.vc (EV Try.prog [(26, sIn.spec)] noInv noInv) Try.f46 (s, n, ()) := by
  have e : ((decide (s.n = 0) = true → decide (s.n = 0) = true) ∧ (decide (s.n = 0) = true → decide (s.n = 0) = true) ∧ (decide (s.n = 0) = true → i64R (n - 1)) ∧ (decide (s.n = 0) = true → decide (s.n = 0) = true) ∧ (decide (s.n = 0) = true → decide (s.n = 0) = true) ∧ (decide (s.n = 0) = true → True) ∧ (decide (s.n = 0) = true → decide (s.n = 0) = true) ∧ ((decide (s.n = 0) && inb s.a 0 (n - 1)) = true → (decide (s.n = 0) && inb s.a 0 (n - 1)) = true) ∧ ((decide (s.n = 0) && inb s.a 0 (n - 1)) = true → (decide (s.n = 0) && inb s.a 0 (n - 1)) = true) ∧ ((decide (s.n = 0) && inb s.a 0 (n - 1)) = true → (decide (s.n = 0) && inb s.a 0 (n - 1)) = true) ∧ ∃ (y : Unit), True ∧ (decide (s.n = 0) && inb s.a 0 (n - 1) && decide (s.t = 0)) = (decide (s.n = 0) && inb s.a 0 (n - 1) && decide (s.t = 0))) = sFork.vc (EV Try.prog [(26, sIn.spec)] noInv noInv) Try.f46 (s, n, ()) := by kernel_rfl
  rw [← e]
  clear e
  simp only [Prod.forall, Prod.exists, exists_const, implies_true, not_true_eq_false, not_false_eq_true, or_self, or_false, false_or, or_true, true_or, and_false, false_and, forall_const, true_and, and_true, i64R, imp_self, Int.reduceLE, Int.reduceLT, Int.reduceNeg, false_implies, true_implies, decide_eq_true_eq, decide_eq_false_iff_not, Bool.not_eq_true', Bool.not_eq_false', Bool.true_eq_false, Bool.false_eq_true, Bool.and_eq_true, Bool.or_eq_true, NilL_eq, Bool.and_eq_false_iff, Bool.or_eq_false_iff ]
  omega


set_option maxRecDepth 100000 in
theorem vc47 (s : Stp) (n : Int) (hx : 0 ≤ n ∧ n ≤ 32) : sNone.vc (EV Try.prog [(26, sIn.spec)] noInv noInv) Try.f47 (s, n, ()) := by
  have e : ((decide (s.n = 0) = true → decide (s.n = 0) = true) ∧ (decide (s.n = 0) = true → decide (s.n = 0) = true) ∧ (decide (s.n = 0) = true → decide (s.n = 0) = true) ∧ ((decide (s.n = 0) && decide (s.a = 0)) = true → (decide (s.n = 0) && decide (s.a = 0)) = true) ∧ ((decide (s.n = 0) && decide (s.a = 0)) = true → (decide (s.n = 0) && decide (s.a = 0)) = true) ∧ ((decide (s.n = 0) && decide (s.a = 0)) = true → (decide (s.n = 0) && decide (s.a = 0)) = true) ∧ ∃ (y : Unit), True ∧ (decide (s.n = 0) && decide (s.a = 0) && decide (s.t = 0)) = (decide (s.n = 0) && decide (s.a = 0) && decide (s.t = 0))) = sNone.vc (EV Try.prog [(26, sIn.spec)] noInv noInv) Try.f47 (s, n, ()) := by kernel_rfl
  rw [← e]
  clear e
  simp only [Prod.forall, Prod.exists, exists_const, implies_true, not_true_eq_false, not_false_eq_true, or_self, or_false, false_or, or_true, true_or, and_false, false_and, forall_const, true_and, and_true, i64R, imp_self, Int.reduceLE, Int.reduceLT, Int.reduceNeg, false_implies, true_implies, decide_eq_true_eq, decide_eq_false_iff_not, Bool.not_eq_true', Bool.not_eq_false', Bool.true_eq_false, Bool.false_eq_true, Bool.and_eq_true, Bool.or_eq_true, NilL_eq, Bool.and_eq_false_iff, Bool.or_eq_false_iff ]
end Go.Proofs.Ytgaeomkjpcpogaa
