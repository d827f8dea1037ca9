/-
  Lemmas and contracts on the way to the laws of this seat; each theorem states its own conditions, and there are no others.
-/
import Derived.Test.YtemffnpliflkgaaPA

namespace Go.Proofs.Ytemffnpliflkgaa
open Go
set_option linter.unusedVariables false
set_option linter.unusedSimpArgs false
set_option linter.unusedVariables false

def sNext : FSp := ⟨_, Sig.dice (one pkI) (fun _ => rfl), fun x => DOK x.1 ∧ x.2.1 ≤ 4611686018427387904, Int × Int, fun x y => (1 ≤ x.2.1 → 0 ≤ y.1 ∧ y.1 < x.2.1) ∧ (x.2.1 < 1 → y.1 = 0) ∧ x.1.2 ≤ y.2 ∧ y.2 ≤ x.1.1.length, fun _ y => .int .i64 y.1, fun x y => [(0, diceO (x.1.1, y.2))], fun x h => ⟨(0, x.1.2), fun h => ⟨Int.le_refl _, by show (0 : Int) < x.2.1; omega⟩, fun _ => rfl, Int.le_refl _, h.1.hi⟩⟩
def sRoll : DS := ⟨_, one pkIntsP, fun _ => True, fun _ => .ptr 100 0, fun x => [(100, diceO (x.1, 0))]⟩
def sLight : DS := ⟨_, one pkInts, fun _ => True, fun x => .bool (decide ((x.1.length : Int) ≤ 600)), nou⟩
def sBool : FSp := ⟨_, Sig.dice (one pkI) (fun _ => rfl), fun x => DOK x.1 ∧ 1 ≤ x.2.1 ∧ x.2.1 ≤ 1000, Bool × Int, fun x y => x.1.2 ≤ y.2 ∧ y.2 ≤ x.1.1.length, fun _ y => .bool y.1, fun x y => [(0, diceO (x.1.1, y.2))], fun x h => ⟨(true, x.1.2), Int.le_refl _, h.1.hi⟩⟩
def sPick : FSp := ⟨_, Sig.dice (one pkInts) (fun _ => rfl), fun x => DOK x.1 ∧ 1 ≤ x.2.1.length ∧ x.2.1.length ≤ 1000, Int × Int, fun x y => y.1 ∈ x.2.1 ∧ x.1.2 ≤ y.2 ∧ y.2 ≤ x.1.1.length, fun _ y => .int .i64 y.1, fun x y => [(0, diceO (x.1.1, y.2))], fun x h => ⟨(x.2.1.getD 0 0, x.1.2), by obtain ⟨h1, h2, h3⟩ := h; match h4 : x.2.1, h2 with | a :: l, _ => simp, Int.le_refl _, h.1.hi⟩⟩
def sWord : FSp := ⟨_, Sig.dice Sig.nil (fun _ => rfl), fun x => DOK x.1, ByteArray × Int, fun x y => y.1 ∈ wordsS ∧ x.1.2 ≤ y.2 ∧ y.2 ≤ x.1.1.length, fun _ y => .str y.1, fun x y => [(0, diceO (x.1.1, y.2))], fun x h => ⟨(⟨#[97]⟩, x.1.2), by show (⟨#[97]⟩ : ByteArray) ∈ wordsS; simp [wordsS], Int.le_refl _, h.hi⟩⟩
def sNameR : DS := ⟨_, one pkS, fun _ => True, fun x => .bool (nameB x.1), nou⟩
def sNameP : DS := ⟨_, one pkS, fun x => (bytesOf x.1).length ≤ 9223372036854775807, fun x => .bool (nameB x.1), nou⟩
def sInner : DS := ⟨_, one (pkK .u8), fun _ => True, fun x => .bool (okB x.1), nou⟩


set_option maxRecDepth 100000 in
theorem vc23 (L : List Int) (k n : Int) (hx : DOK (L, k) ∧ n ≤ 4611686018427387904) : sNext.vc (EV Try.prog [] noInv noInv) Try.f23 ((L, k), n, ()) := by
  have e : ((decide ((↑L.length : Int) ≤ k) = false → decide ((↑L.length : Int) ≤ k) = false) ∧ (decide ((↑L.length : Int) ≤ k) = false → decide ((↑L.length : Int) ≤ k) = false) ∧ ((decide ((↑L.length : Int) ≤ k) || decide (n < 1)) = true → ∃ (y : Int × Int), ((1 ≤ n → 0 ≤ y.fst ∧ y.fst < n) ∧ (n < 1 → y.fst = 0) ∧ k ≤ y.snd ∧ y.snd ≤ (↑L.length : Int)) ∧ 0 = y.fst ∧ L = L ∧ k = y.snd) ∧ ((decide ((↑L.length : Int) ≤ k) || decide (n < 1)) = false → i64R (k + 1) ∧ i64R (k + (1 : Int) - 1) ∧ (0 ≤ k + (1 : Int) - 1 ∧ k + (1 : Int) - 1 < (↑L.length : Int)) ∧ 0 < n ∧ (decide ((L.getD (k + (1 : Int) - 1).toNat 0).tmod n < 0) = true → i64R ((L.getD (k + (1 : Int) - 1).toNat 0).tmod n + n) ∧ ∃ (y : Int × Int), ((1 ≤ n → 0 ≤ y.fst ∧ y.fst < n) ∧ (n < 1 → y.fst = 0) ∧ k ≤ y.snd ∧ y.snd ≤ (↑L.length : Int)) ∧ (L.getD (k + (1 : Int) - 1).toNat 0).tmod n + n = y.fst ∧ L = L ∧ k + 1 = y.snd) ∧ (decide ((L.getD (k + (1 : Int) - 1).toNat 0).tmod n < 0) = false → ∃ (y : Int × Int), ((1 ≤ n → 0 ≤ y.fst ∧ y.fst < n) ∧ (n < 1 → y.fst = 0) ∧ k ≤ y.snd ∧ y.snd ≤ (↑L.length : Int)) ∧ (L.getD (k + (1 : Int) - 1).toNat 0).tmod n = y.fst ∧ L = L ∧ k + 1 = y.snd))) = sNext.vc (EV Try.prog [] noInv noInv) Try.f23 ((L, k), n, ()) := by kernel_rfl
  rw [← e]
  clear e
  obtain ⟨⟨h1, h2, h3⟩, h4⟩ := hx
  have h1 : 0 ≤ k := h1
  have h2 : k ≤ L.length := h2
  have h3 : L.length ≤ 600 := h3
  have key : 0 < n → ∀ x : Int, -n < x.tmod n ∧ x.tmod n < n := fun h x => ⟨Int.lt_tmod_of_pos x h, Int.tmod_lt_of_pos x h⟩
  refine ⟨fun h => h, fun h => h, fun h => ⟨(0, k), ⟨⟨fun _ => ⟨Int.le_refl _, by simp at h ⊢; omega⟩, fun _ => rfl, Int.le_refl _, h2⟩, rfl, rfl, rfl⟩⟩, fun h => ?_⟩
  have h5 : k < L.length ∧ 1 ≤ n := by simp at h; omega
  have h6 := key (by omega) (L.getD (k + 1 - 1).toNat 0)
  generalize (L.getD (k + 1 - 1).toNat 0).tmod n = x at *
  simp only [i64R]
  refine ⟨by omega, by omega, by omega, by omega, fun h => ⟨by simp at h; omega, (x + n, k + 1), ⟨⟨fun _ => ?_, fun _ => ?_, ?_, ?_⟩, by simp⟩⟩, fun h => ⟨(x, k + 1), ⟨⟨fun _ => ?_, fun _ => ?_, ?_, ?_⟩, by simp⟩⟩⟩
  all_goals (simp at h ⊢; omega)


set_option maxRecDepth 100000 in
theorem vc16 (L : List Int) (hx : True) : sRoll.vc (EV Try.prog [] noInv noInv) Try.f16 (L, ()) := by
  have e : (∃ (y : Unit), True ∧ L = L ∧ (0 : Int) = 0) = sRoll.vc (EV Try.prog [] noInv noInv) Try.f16 (L, ()) := by kernel_rfl
  rw [← e]
  clear e
  simp


set_option maxRecDepth 100000 in
theorem vc14 (L : List Int) (hx : True) : sLight.vc (EV Try.prog [] noInv noInv) Try.f14 (L, ()) := by
  have e : (∃ (y : Unit), True ∧ decide ((↑L.length : Int) ≤ 600) = decide ((↑L.length : Int) ≤ 600)) = sLight.vc (EV Try.prog [] noInv noInv) Try.f14 (L, ()) := by kernel_rfl
  rw [← e]
  clear e
  simp


set_option maxRecDepth 100000 in
theorem vc59 (L : List Int) (k n : Int) (hx : DOK (L, k) ∧ 1 ≤ n ∧ n ≤ 1000) : sBool.vc (EV Try.prog [(23, sNext.spec)] noInv noInv) Try.f59 ((L, k), n, ()) := by
  have e : ((DOK (L, k) ∧ n ≤ 4611686018427387904) ∧ (∀ (y : Int × Int), true = true) ∧ ∀ (y : Int × Int), (1 ≤ n → 0 ≤ y.fst ∧ y.fst < n) ∧ (n < 1 → y.fst = 0) ∧ k ≤ y.snd ∧ y.snd ≤ (↑L.length : Int) → i64R (n - 1) ∧ ∃ (y_1 : Bool × Int), (k ≤ y_1.snd ∧ y_1.snd ≤ (↑L.length : Int)) ∧ decide (y.fst = n - 1) = y_1.fst ∧ L = L ∧ y.snd = y_1.snd) = sBool.vc (EV Try.prog [(23, sNext.spec)] noInv noInv) Try.f59 ((L, k), n, ()) := by kernel_rfl
  rw [← e]
  clear e
  obtain ⟨h1, h2, h3⟩ := hx
  simp only [Prod.forall, Prod.exists, exists_const, implies_true, not_true_eq_false, not_false_eq_true, or_self, or_false, false_or, or_true, true_or, and_false, false_and, forall_const, true_and, and_true, i64R, imp_self, Int.reduceLE, Int.reduceLT, Int.reduceNeg, false_implies, true_implies, decide_eq_true_eq, decide_eq_false_iff_not, Bool.not_eq_true', Bool.not_eq_false', Bool.true_eq_false, Bool.false_eq_true, Bool.and_eq_true, Bool.or_eq_true, NilL_eq, Bool.and_eq_false_iff, Bool.or_eq_false_iff ]
  refine ⟨⟨h1, by omega⟩, fun a b hy => ⟨by omega, _, _, hy.2.2, rfl, rfl⟩⟩


set_option maxRecDepth 100000 in
theorem vc72 (L : List Int) (k : Int) (hx : DOK (L, k)) : sWord.vc (EV Try.prog [(23, sNext.spec)] noInv noInv) Try.f72 ((L, k), ()) := by
  have e : ((DOK (L, k) ∧ (6 : Int) ≤ 4611686018427387904) ∧ (∀ (y : Int × Int), true = true) ∧ ∀ (y : Int × Int), ((1 : Int) ≤ 6 → 0 ≤ y.fst ∧ y.fst < 6) ∧ ((6 : Int) < 1 → y.fst = 0) ∧ k ≤ y.snd ∧ y.snd ≤ (↑L.length : Int) → (0 ≤ y.fst ∧ y.fst < (↑({ data := ((97 : UInt8) :: NilL UInt8).toArray : ByteArray } :: { data := ((98 : UInt8) :: NilL UInt8).toArray : ByteArray } :: { data := ((99 : UInt8) :: NilL UInt8).toArray : ByteArray } :: { data := ((119 : UInt8) :: (101 : UInt8) :: (98 : UInt8) :: NilL UInt8).toArray : ByteArray } :: { data := ((100 : UInt8) :: (98 : UInt8) :: (45 : UInt8) :: (49 : UInt8) :: NilL UInt8).toArray : ByteArray } :: { data := ((88 : UInt8) :: (95 : UInt8) :: (57 : UInt8) :: NilL UInt8).toArray : ByteArray } :: NilL ByteArray).length : Int)) ∧ ∃ (y_1 : ByteArray × Int), (y_1.fst ∈ wordsS ∧ k ≤ y_1.snd ∧ y_1.snd ≤ (↑L.length : Int)) ∧ ({ data := ((97 : UInt8) :: NilL UInt8).toArray : ByteArray } :: { data := ((98 : UInt8) :: NilL UInt8).toArray : ByteArray } :: { data := ((99 : UInt8) :: NilL UInt8).toArray : ByteArray } :: { data := ((119 : UInt8) :: (101 : UInt8) :: (98 : UInt8) :: NilL UInt8).toArray : ByteArray } :: { data := ((100 : UInt8) :: (98 : UInt8) :: (45 : UInt8) :: (49 : UInt8) :: NilL UInt8).toArray : ByteArray } :: { data := ((88 : UInt8) :: (95 : UInt8) :: (57 : UInt8) :: NilL UInt8).toArray : ByteArray } :: NilL ByteArray).getD y.fst.toNat ByteArray.empty = y_1.fst ∧ L = L ∧ y.snd = y_1.snd) = sWord.vc (EV Try.prog [(23, sNext.spec)] noInv noInv) Try.f72 ((L, k), ()) := by kernel_rfl
  rw [← e]
  clear e
  have hw : ({ data := ((97 : UInt8) :: NilL UInt8).toArray : ByteArray } :: { data := ((98 : UInt8) :: NilL UInt8).toArray : ByteArray } :: { data := ((99 : UInt8) :: NilL UInt8).toArray : ByteArray } :: { data := ((119 : UInt8) :: (101 : UInt8) :: (98 : UInt8) :: NilL UInt8).toArray : ByteArray } :: { data := ((100 : UInt8) :: (98 : UInt8) :: (45 : UInt8) :: (49 : UInt8) :: NilL UInt8).toArray : ByteArray } :: { data := ((88 : UInt8) :: (95 : UInt8) :: (57 : UInt8) :: NilL UInt8).toArray : ByteArray } :: NilL ByteArray) = wordsS := rfl
  rw [hw]
  simp only [Prod.forall, Prod.exists, exists_const, implies_true, not_true_eq_false, not_false_eq_true, or_self, or_false, false_or, or_true, true_or, and_false, false_and, forall_const, true_and, and_true, i64R, imp_self, Int.reduceLE, Int.reduceLT, Int.reduceNeg, false_implies, true_implies, decide_eq_true_eq, decide_eq_false_iff_not, Bool.not_eq_true', Bool.not_eq_false', Bool.true_eq_false, Bool.false_eq_true, Bool.and_eq_true, Bool.or_eq_true, NilL_eq, Bool.and_eq_false_iff, Bool.or_eq_false_iff ]
  refine ⟨hx, fun a b hy => ?_⟩
  have hb := hy.1
  have hl : wordsS.length = 6 := rfl
  refine ⟨by rw [hl]; omega, _, _, ⟨?_, hy.2⟩, rfl, rfl⟩
  rw [List.getD_eq_getElem?_getD, List.getElem?_eq_getElem (by rw [hl]; omega)]
  exact List.getElem_mem _


set_option maxRecDepth 100000 in
theorem vc156 (c : Int) (hx : True) : sInner.vc (EV Try.prog [] noInv noInv) Try.f156 (c, ()) := by
  have e : ((decide (97 ≤ c) = true → decide (97 ≤ c) = true) ∧ (decide (97 ≤ c) = true → decide (97 ≤ c) = true) ∧ ((decide (97 ≤ c) && decide (c ≤ 122)) = false → (decide (97 ≤ c) && decide (c ≤ 122)) = false) ∧ ((decide (97 ≤ c) && decide (c ≤ 122)) = false → (decide (97 ≤ c) && decide (c ≤ 122)) = false) ∧ ((!(decide (97 ≤ c) && decide (c ≤ 122)) && decide (65 ≤ c)) = true → (!(decide (97 ≤ c) && decide (c ≤ 122)) && decide (65 ≤ c)) = true) ∧ ((decide (97 ≤ c) && decide (c ≤ 122)) = false → (decide (97 ≤ c) && decide (c ≤ 122)) = false) ∧ ((decide (97 ≤ c) && decide (c ≤ 122)) = false → decide (65 ≤ c) = true → (!(decide (97 ≤ c) && decide (c ≤ 122)) && decide (65 ≤ c)) = true) ∧ ((decide (97 ≤ c) && decide (c ≤ 122)) = false → (decide (97 ≤ c) && decide (c ≤ 122)) = false) ∧ ((decide (97 ≤ c) && decide (c ≤ 122) || decide (65 ≤ c) && decide (c ≤ 90)) = false → (decide (97 ≤ c) && decide (c ≤ 122) || decide (65 ≤ c) && decide (c ≤ 90)) = false) ∧ ((decide (97 ≤ c) && decide (c ≤ 122) || decide (65 ≤ c) && decide (c ≤ 90)) = false → (decide (97 ≤ c) && decide (c ≤ 122) || decide (65 ≤ c) && decide (c ≤ 90)) = false) ∧ ((!(decide (97 ≤ c) && decide (c ≤ 122) || decide (65 ≤ c) && decide (c ≤ 90)) && decide (48 ≤ c)) = true → (!(decide (97 ≤ c) && decide (c ≤ 122) || decide (65 ≤ c) && decide (c ≤ 90)) && decide (48 ≤ c)) = true) ∧ ((decide (97 ≤ c) && decide (c ≤ 122) || decide (65 ≤ c) && decide (c ≤ 90)) = false → (decide (97 ≤ c) && decide (c ≤ 122) || decide (65 ≤ c) && decide (c ≤ 90)) = false) ∧ ((decide (97 ≤ c) && decide (c ≤ 122) || decide (65 ≤ c) && decide (c ≤ 90)) = false → decide (48 ≤ c) = true → (!(decide (97 ≤ c) && decide (c ≤ 122) || decide (65 ≤ c) && decide (c ≤ 90)) && decide (48 ≤ c)) = true) ∧ ((decide (97 ≤ c) && decide (c ≤ 122) || decide (65 ≤ c) && decide (c ≤ 90)) = false → (decide (97 ≤ c) && decide (c ≤ 122) || decide (65 ≤ c) && decide (c ≤ 90)) = false) ∧ ((decide (97 ≤ c) && decide (c ≤ 122) || decide (65 ≤ c) && decide (c ≤ 90) || decide (48 ≤ c) && decide (c ≤ 57)) = false → (decide (97 ≤ c) && decide (c ≤ 122) || decide (65 ≤ c) && decide (c ≤ 90) || decide (48 ≤ c) && decide (c ≤ 57)) = false) ∧ ((decide (97 ≤ c) && decide (c ≤ 122) || decide (65 ≤ c) && decide (c ≤ 90) || decide (48 ≤ c) && decide (c ≤ 57)) = false → (decide (97 ≤ c) && decide (c ≤ 122) || decide (65 ≤ c) && decide (c ≤ 90) || decide (48 ≤ c) && decide (c ≤ 57)) = false) ∧ ((decide (97 ≤ c) && decide (c ≤ 122) || decide (65 ≤ c) && decide (c ≤ 90) || decide (48 ≤ c) && decide (c ≤ 57) || decide (c = 95)) = false → (decide (97 ≤ c) && decide (c ≤ 122) || decide (65 ≤ c) && decide (c ≤ 90) || decide (48 ≤ c) && decide (c ≤ 57) || decide (c = 95)) = false) ∧ ((decide (97 ≤ c) && decide (c ≤ 122) || decide (65 ≤ c) && decide (c ≤ 90) || decide (48 ≤ c) && decide (c ≤ 57) || decide (c = 95)) = false → (decide (97 ≤ c) && decide (c ≤ 122) || decide (65 ≤ c) && decide (c ≤ 90) || decide (48 ≤ c) && decide (c ≤ 57) || decide (c = 95)) = false) ∧ ∃ (y : Unit), True ∧ (decide (97 ≤ c) && decide (c ≤ 122) || decide (65 ≤ c) && decide (c ≤ 90) || decide (48 ≤ c) && decide (c ≤ 57) || decide (c = 95) || decide (c = 45)) = okB c) = sInner.vc (EV Try.prog [] noInv noInv) Try.f156 (c, ()) := by kernel_rfl
  rw [← e]
  clear e
  simp only [imp_self, true_and, and_true, exists_const, implies_true, gd1, gd2, gd3, gd4, gd5, gd6, NilL_eq ]
  rfl

def inv79 (s : ByteArray) : Inv where
  X := Int
  ok := fun i => 0 ≤ i ∧ i ≤ (bytesOf s).length ∧ ∀ j : Nat, (j : Int) < i → okB ((bytesOf s).getD j 0) = true
  sl := fun i => [(3, .int .i64 i)]
  hp := fun _ => []
  keep := []
  me := fun i => ((bytesOf s).length - i).toNat
set_option maxRecDepth 100000 in
theorem vc79 (s : ByteArray) (hx : True) : sNameR.vc (EV Try.prog [] (invs [(4, inv79 s)]) noInv) Try.f79 (s, ()) := by
  have e : ((decide ((↑s.size : Int) = 0) = false → decide ((↑s.size : Int) = 0) = false) ∧ (decide ((↑s.size : Int) = 0) = false → decide ((↑s.size : Int) = 0) = false) ∧ (decide ((↑s.size : Int) = 0) = false → decide ((↑s.size : Int) = 0) = false) ∧ ((decide ((↑s.size : Int) = 0) || decide (32 < (↑s.size : Int))) = false → (decide ((↑s.size : Int) = 0) || decide (32 < (↑s.size : Int))) = false) ∧ ((decide ((↑s.size : Int) = 0) || decide (32 < (↑s.size : Int))) = false → (0 : Int) ≤ 0 ∧ 0 < (↑s.size : Int)) ∧ ((decide ((↑s.size : Int) = 0) || decide (32 < (↑s.size : Int))) = false → (decide ((↑s.size : Int) = 0) || decide (32 < (↑s.size : Int))) = false) ∧ ((decide ((↑s.size : Int) = 0) || decide (32 < (↑s.size : Int))) = false → (decide ((↑s.size : Int) = 0) || decide (32 < (↑s.size : Int))) = false) ∧ ((decide ((↑s.size : Int) = 0) || decide (32 < (↑s.size : Int)) || decide ((bytesOf s).getD (Int.toNat 0) (0 : Int) = 45)) = true → ∃ (y : Unit), True ∧ false = nameB s) ∧ ((decide ((↑s.size : Int) = 0) || decide (32 < (↑s.size : Int)) || decide ((bytesOf s).getD (Int.toNat 0) (0 : Int) = 45)) = false → (∃ (x : Int), (0 ≤ x ∧ x ≤ (↑(bytesOf s).length : Int) ∧ ∀ (j : Nat), (↑j : Int) < x → okB ((bytesOf s).getD j 0) = true) ∧ 0 = x) ∧ ∀ (x : Int), (0 ≤ x ∧ x ≤ (↑(bytesOf s).length : Int) ∧ ∀ (j : Nat), (↑j : Int) < x → okB ((bytesOf s).getD j 0) = true) → (decide (x < (↑s.size : Int)) = true → (0 ≤ x ∧ x < (↑s.size : Int)) ∧ (decide (97 ≤ (bytesOf s).getD x.toNat 0) = true → decide (97 ≤ (bytesOf s).getD x.toNat 0) = true) ∧ (decide (97 ≤ (bytesOf s).getD x.toNat 0) = true → decide (97 ≤ (bytesOf s).getD x.toNat 0) = true) ∧ ((decide (97 ≤ (bytesOf s).getD x.toNat 0) && decide ((bytesOf s).getD x.toNat (0 : Int) ≤ 122)) = false → (decide (97 ≤ (bytesOf s).getD x.toNat 0) && decide ((bytesOf s).getD x.toNat (0 : Int) ≤ 122)) = false) ∧ ((decide (97 ≤ (bytesOf s).getD x.toNat 0) && decide ((bytesOf s).getD x.toNat (0 : Int) ≤ 122)) = false → (decide (97 ≤ (bytesOf s).getD x.toNat 0) && decide ((bytesOf s).getD x.toNat (0 : Int) ≤ 122)) = false) ∧ ((!(decide (97 ≤ (bytesOf s).getD x.toNat 0) && decide ((bytesOf s).getD x.toNat (0 : Int) ≤ 122)) && decide (65 ≤ (bytesOf s).getD x.toNat 0)) = true → (!(decide (97 ≤ (bytesOf s).getD x.toNat 0) && decide ((bytesOf s).getD x.toNat (0 : Int) ≤ 122)) && decide (65 ≤ (bytesOf s).getD x.toNat 0)) = true) ∧ ((decide (97 ≤ (bytesOf s).getD x.toNat 0) && decide ((bytesOf s).getD x.toNat (0 : Int) ≤ 122)) = false → (decide (97 ≤ (bytesOf s).getD x.toNat 0) && decide ((bytesOf s).getD x.toNat (0 : Int) ≤ 122)) = false) ∧ ((decide (97 ≤ (bytesOf s).getD x.toNat 0) && decide ((bytesOf s).getD x.toNat (0 : Int) ≤ 122)) = false → decide (65 ≤ (bytesOf s).getD x.toNat 0) = true → (!(decide (97 ≤ (bytesOf s).getD x.toNat 0) && decide ((bytesOf s).getD x.toNat (0 : Int) ≤ 122)) && decide (65 ≤ (bytesOf s).getD x.toNat 0)) = true) ∧ ((decide (97 ≤ (bytesOf s).getD x.toNat 0) && decide ((bytesOf s).getD x.toNat (0 : Int) ≤ 122)) = false → (decide (97 ≤ (bytesOf s).getD x.toNat 0) && decide ((bytesOf s).getD x.toNat (0 : Int) ≤ 122)) = false) ∧ ((decide (97 ≤ (bytesOf s).getD x.toNat 0) && decide ((bytesOf s).getD x.toNat (0 : Int) ≤ 122) || decide (65 ≤ (bytesOf s).getD x.toNat 0) && decide ((bytesOf s).getD x.toNat (0 : Int) ≤ 90)) = false → (decide (97 ≤ (bytesOf s).getD x.toNat 0) && decide ((bytesOf s).getD x.toNat (0 : Int) ≤ 122) || decide (65 ≤ (bytesOf s).getD x.toNat 0) && decide ((bytesOf s).getD x.toNat (0 : Int) ≤ 90)) = false) ∧ ((decide (97 ≤ (bytesOf s).getD x.toNat 0) && decide ((bytesOf s).getD x.toNat (0 : Int) ≤ 122) || decide (65 ≤ (bytesOf s).getD x.toNat 0) && decide ((bytesOf s).getD x.toNat (0 : Int) ≤ 90)) = false → (decide (97 ≤ (bytesOf s).getD x.toNat 0) && decide ((bytesOf s).getD x.toNat (0 : Int) ≤ 122) || decide (65 ≤ (bytesOf s).getD x.toNat 0) && decide ((bytesOf s).getD x.toNat (0 : Int) ≤ 90)) = false) ∧ ((!(decide (97 ≤ (bytesOf s).getD x.toNat 0) && decide ((bytesOf s).getD x.toNat (0 : Int) ≤ 122) || decide (65 ≤ (bytesOf s).getD x.toNat 0) && decide ((bytesOf s).getD x.toNat (0 : Int) ≤ 90)) && decide (48 ≤ (bytesOf s).getD x.toNat 0)) = true → (!(decide (97 ≤ (bytesOf s).getD x.toNat 0) && decide ((bytesOf s).getD x.toNat (0 : Int) ≤ 122) || decide (65 ≤ (bytesOf s).getD x.toNat 0) && decide ((bytesOf s).getD x.toNat (0 : Int) ≤ 90)) && decide (48 ≤ (bytesOf s).getD x.toNat 0)) = true) ∧ ((decide (97 ≤ (bytesOf s).getD x.toNat 0) && decide ((bytesOf s).getD x.toNat (0 : Int) ≤ 122) || decide (65 ≤ (bytesOf s).getD x.toNat 0) && decide ((bytesOf s).getD x.toNat (0 : Int) ≤ 90)) = false → (decide (97 ≤ (bytesOf s).getD x.toNat 0) && decide ((bytesOf s).getD x.toNat (0 : Int) ≤ 122) || decide (65 ≤ (bytesOf s).getD x.toNat 0) && decide ((bytesOf s).getD x.toNat (0 : Int) ≤ 90)) = false) ∧ ((decide (97 ≤ (bytesOf s).getD x.toNat 0) && decide ((bytesOf s).getD x.toNat (0 : Int) ≤ 122) || decide (65 ≤ (bytesOf s).getD x.toNat 0) && decide ((bytesOf s).getD x.toNat (0 : Int) ≤ 90)) = false → decide (48 ≤ (bytesOf s).getD x.toNat 0) = true → (!(decide (97 ≤ (bytesOf s).getD x.toNat 0) && decide ((bytesOf s).getD x.toNat (0 : Int) ≤ 122) || decide (65 ≤ (bytesOf s).getD x.toNat 0) && decide ((bytesOf s).getD x.toNat (0 : Int) ≤ 90)) && decide (48 ≤ (bytesOf s).getD x.toNat 0)) = true) ∧ ((decide (97 ≤ (bytesOf s).getD x.toNat 0) && decide ((bytesOf s).getD x.toNat (0 : Int) ≤ 122) || decide (65 ≤ (bytesOf s).getD x.toNat 0) && decide ((bytesOf s).getD x.toNat (0 : Int) ≤ 90)) = false → (decide (97 ≤ (bytesOf s).getD x.toNat 0) && decide ((bytesOf s).getD x.toNat (0 : Int) ≤ 122) || decide (65 ≤ (bytesOf s).getD x.toNat 0) && decide ((bytesOf s).getD x.toNat (0 : Int) ≤ 90)) = false) ∧ ((decide (97 ≤ (bytesOf s).getD x.toNat 0) && decide ((bytesOf s).getD x.toNat (0 : Int) ≤ 122) || decide (65 ≤ (bytesOf s).getD x.toNat 0) && decide ((bytesOf s).getD x.toNat (0 : Int) ≤ 90) || decide (48 ≤ (bytesOf s).getD x.toNat 0) && decide ((bytesOf s).getD x.toNat (0 : Int) ≤ 57)) = false → (decide (97 ≤ (bytesOf s).getD x.toNat 0) && decide ((bytesOf s).getD x.toNat (0 : Int) ≤ 122) || decide (65 ≤ (bytesOf s).getD x.toNat 0) && decide ((bytesOf s).getD x.toNat (0 : Int) ≤ 90) || decide (48 ≤ (bytesOf s).getD x.toNat 0) && decide ((bytesOf s).getD x.toNat (0 : Int) ≤ 57)) = false) ∧ ((decide (97 ≤ (bytesOf s).getD x.toNat 0) && decide ((bytesOf s).getD x.toNat (0 : Int) ≤ 122) || decide (65 ≤ (bytesOf s).getD x.toNat 0) && decide ((bytesOf s).getD x.toNat (0 : Int) ≤ 90) || decide (48 ≤ (bytesOf s).getD x.toNat 0) && decide ((bytesOf s).getD x.toNat (0 : Int) ≤ 57)) = false → (decide (97 ≤ (bytesOf s).getD x.toNat 0) && decide ((bytesOf s).getD x.toNat (0 : Int) ≤ 122) || decide (65 ≤ (bytesOf s).getD x.toNat 0) && decide ((bytesOf s).getD x.toNat (0 : Int) ≤ 90) || decide (48 ≤ (bytesOf s).getD x.toNat 0) && decide ((bytesOf s).getD x.toNat (0 : Int) ≤ 57)) = false) ∧ ((decide (97 ≤ (bytesOf s).getD x.toNat 0) && decide ((bytesOf s).getD x.toNat (0 : Int) ≤ 122) || decide (65 ≤ (bytesOf s).getD x.toNat 0) && decide ((bytesOf s).getD x.toNat (0 : Int) ≤ 90) || decide (48 ≤ (bytesOf s).getD x.toNat 0) && decide ((bytesOf s).getD x.toNat (0 : Int) ≤ 57) || decide ((bytesOf s).getD x.toNat (0 : Int) = 95)) = false → (decide (97 ≤ (bytesOf s).getD x.toNat 0) && decide ((bytesOf s).getD x.toNat (0 : Int) ≤ 122) || decide (65 ≤ (bytesOf s).getD x.toNat 0) && decide ((bytesOf s).getD x.toNat (0 : Int) ≤ 90) || decide (48 ≤ (bytesOf s).getD x.toNat 0) && decide ((bytesOf s).getD x.toNat (0 : Int) ≤ 57) || decide ((bytesOf s).getD x.toNat (0 : Int) = 95)) = false) ∧ ((decide (97 ≤ (bytesOf s).getD x.toNat 0) && decide ((bytesOf s).getD x.toNat (0 : Int) ≤ 122) || decide (65 ≤ (bytesOf s).getD x.toNat 0) && decide ((bytesOf s).getD x.toNat (0 : Int) ≤ 90) || decide (48 ≤ (bytesOf s).getD x.toNat 0) && decide ((bytesOf s).getD x.toNat (0 : Int) ≤ 57) || decide ((bytesOf s).getD x.toNat (0 : Int) = 95)) = false → (decide (97 ≤ (bytesOf s).getD x.toNat 0) && decide ((bytesOf s).getD x.toNat (0 : Int) ≤ 122) || decide (65 ≤ (bytesOf s).getD x.toNat 0) && decide ((bytesOf s).getD x.toNat (0 : Int) ≤ 90) || decide (48 ≤ (bytesOf s).getD x.toNat 0) && decide ((bytesOf s).getD x.toNat (0 : Int) ≤ 57) || decide ((bytesOf s).getD x.toNat (0 : Int) = 95)) = false) ∧ ((!(decide (97 ≤ (bytesOf s).getD x.toNat 0) && decide ((bytesOf s).getD x.toNat (0 : Int) ≤ 122) || decide (65 ≤ (bytesOf s).getD x.toNat 0) && decide ((bytesOf s).getD x.toNat (0 : Int) ≤ 90) || decide (48 ≤ (bytesOf s).getD x.toNat 0) && decide ((bytesOf s).getD x.toNat (0 : Int) ≤ 57) || decide ((bytesOf s).getD x.toNat (0 : Int) = 95) || decide ((bytesOf s).getD x.toNat (0 : Int) = 45))) = true → ∃ (y : Unit), True ∧ false = nameB s) ∧ ((!(decide (97 ≤ (bytesOf s).getD x.toNat 0) && decide ((bytesOf s).getD x.toNat (0 : Int) ≤ 122) || decide (65 ≤ (bytesOf s).getD x.toNat 0) && decide ((bytesOf s).getD x.toNat (0 : Int) ≤ 90) || decide (48 ≤ (bytesOf s).getD x.toNat 0) && decide ((bytesOf s).getD x.toNat (0 : Int) ≤ 57) || decide ((bytesOf s).getD x.toNat (0 : Int) = 95) || decide ((bytesOf s).getD x.toNat (0 : Int) = 45))) = false → i64R (x + 1) ∧ ∃ (x' : Int), (0 ≤ x' ∧ x' ≤ (↑(bytesOf s).length : Int) ∧ ∀ (j : Nat), (↑j : Int) < x' → okB ((bytesOf s).getD j 0) = true) ∧ ((↑(bytesOf s).length : Int) - x').toNat < ((↑(bytesOf s).length : Int) - x).toNat ∧ x + 1 = x')) ∧ (decide (x < (↑s.size : Int)) = false → ∃ (y : Unit), True ∧ true = nameB s))) = sNameR.vc (EV Try.prog [] (invs [(4, inv79 s)]) noInv) Try.f79 (s, ()) := by kernel_rfl
  rw [← e]
  clear e
  simp only [okB_fold]
  simp only [imp_self, true_and, and_true, exists_const, implies_true, gd1, gd2, gd3, gd4, gd5, gd6, NilL_eq ]
  simp only [size_bytes]
  simp only [Prod.forall, Prod.exists, exists_const, implies_true, not_true_eq_false, not_false_eq_true, or_self, or_false, false_or, or_true, true_or, and_false, false_and, forall_const, true_and, and_true, i64R, imp_self, Int.reduceLE, Int.reduceLT, Int.reduceNeg, false_implies, true_implies, decide_eq_true_eq, decide_eq_false_iff_not, Bool.not_eq_true', Bool.not_eq_false', Bool.true_eq_false, Bool.false_eq_true, Bool.and_eq_true, Bool.or_eq_true, NilL_eq, Bool.and_eq_false_iff, Bool.or_eq_false_iff ]
  have nb := nameB_iff (s := s)
  have e0 : (Int.toNat 0) = 0 := rfl
  rw [e0]
  refine ⟨fun h => by omega, fun h => ?_, fun h => ⟨⟨0, ⟨by omega, by omega, fun j hj => by omega⟩, rfl⟩, fun x hx => ⟨fun hlt => ⟨by omega, fun hno => ?_, fun hyes => ⟨by omega, x + 1, ⟨by omega, by omega, fun j hj => ?_⟩, by omega, rfl⟩⟩, fun hge => ?_⟩⟩⟩
  · grind
  · grind
  · by_cases e : (j : Int) < x
    · exact hx.2.2 j e
    · have : j = x.toNat := by omega
      rw [this]; exact hyes
  · symm; rw [nb]; refine ⟨by omega, by omega, h.2, fun j hj => hx.2.2 j (by omega)⟩

def inv152 (s : ByteArray) : Inv where
  X := Int
  ok := fun i => 0 ≤ i ∧ i ≤ (bytesOf s).length ∧ ∀ j : Nat, (j : Int) < i → okB ((bytesOf s).getD j 0) = true
  sl := fun i => [(8, .int .i64 i)]
  hp := fun _ => []
  keep := []
  me := fun i => ((bytesOf s).length - i).toNat
set_option maxRecDepth 100000 in
theorem vc152 (s : ByteArray) (hx : (bytesOf s).length ≤ 9223372036854775807) : sNameP.vc (EV Try.prog [(156, sInner.spec)] (invs [(2, inv152 s)]) noInv) Try.f152 (s, ()) := by
  have e : ((∃ (x : Int), (0 ≤ x ∧ x ≤ (↑(bytesOf s).length : Int) ∧ ∀ (j : Nat), (↑j : Int) < x → okB ((bytesOf s).getD j 0) = true) ∧ 0 = x) ∧ ∀ (x : Int), (0 ≤ x ∧ x ≤ (↑(bytesOf s).length : Int) ∧ ∀ (j : Nat), (↑j : Int) < x → okB ((bytesOf s).getD j 0) = true) → (decide (x < (↑(bytesOf s).length : Int)) = true → (0 ≤ x ∧ x < (↑(bytesOf s).length : Int)) ∧ True ∧ ((!okB ((bytesOf s).getD x.toNat 0)) = true → ∃ (y : Unit), True ∧ false = nameB s) ∧ ((!okB ((bytesOf s).getD x.toNat 0)) = false → i64R (x + 1) ∧ ∃ (x' : Int), (0 ≤ x' ∧ x' ≤ (↑(bytesOf s).length : Int) ∧ ∀ (j : Nat), (↑j : Int) < x' → okB ((bytesOf s).getD j 0) = true) ∧ ((↑(bytesOf s).length : Int) - x').toNat < ((↑(bytesOf s).length : Int) - x).toNat ∧ x + 1 = x')) ∧ (decide (x < (↑(bytesOf s).length : Int)) = false → ((!decide (s = { data := (NilL UInt8).toArray : ByteArray })) = true → (!decide (s = { data := (NilL UInt8).toArray : ByteArray })) = true) ∧ ((!decide (s = { data := (NilL UInt8).toArray : ByteArray })) = true → (!decide (s = { data := (NilL UInt8).toArray : ByteArray })) = true) ∧ ((!decide (s = { data := (NilL UInt8).toArray : ByteArray })) = true → (!decide (s = { data := (NilL UInt8).toArray : ByteArray })) = true) ∧ ((!decide (s = { data := (NilL UInt8).toArray : ByteArray }) && decide ((↑s.size : Int) ≤ 32)) = true → (!decide (s = { data := (NilL UInt8).toArray : ByteArray }) && decide ((↑s.size : Int) ≤ 32)) = true) ∧ ((!decide (s = { data := (NilL UInt8).toArray : ByteArray }) && decide ((↑s.size : Int) ≤ 32)) = true → (0 : Int) ≤ 0 ∧ 0 < (↑s.size : Int)) ∧ ((!decide (s = { data := (NilL UInt8).toArray : ByteArray }) && decide ((↑s.size : Int) ≤ 32)) = true → (!decide (s = { data := (NilL UInt8).toArray : ByteArray }) && decide ((↑s.size : Int) ≤ 32)) = true) ∧ ((!decide (s = { data := (NilL UInt8).toArray : ByteArray }) && decide ((↑s.size : Int) ≤ 32)) = true → (!decide (s = { data := (NilL UInt8).toArray : ByteArray }) && decide ((↑s.size : Int) ≤ 32)) = true) ∧ ∃ (y : Unit), True ∧ (!decide (s = { data := (NilL UInt8).toArray : ByteArray }) && decide ((↑s.size : Int) ≤ 32) && !decide ((bytesOf s).getD (Int.toNat 0) (0 : Int) = 45)) = nameB s)) = sNameP.vc (EV Try.prog [(156, sInner.spec)] (invs [(2, inv152 s)]) noInv) Try.f152 (s, ()) := by kernel_rfl
  rw [← e]
  clear e
  simp only [str_empty]
  simp only [imp_self, true_and, and_true, exists_const, implies_true, gd1, gd2, gd3, gd4, gd5, gd6, NilL_eq ]
  simp only [Prod.forall, Prod.exists, exists_const, implies_true, not_true_eq_false, not_false_eq_true, or_self, or_false, false_or, or_true, true_or, and_false, false_and, forall_const, true_and, and_true, i64R, imp_self, Int.reduceLE, Int.reduceLT, Int.reduceNeg, false_implies, true_implies, decide_eq_true_eq, decide_eq_false_iff_not, Bool.not_eq_true', Bool.not_eq_false', Bool.true_eq_false, Bool.false_eq_true, Bool.and_eq_true, Bool.or_eq_true, NilL_eq, Bool.and_eq_false_iff, Bool.or_eq_false_iff ]
  simp only [size_bytes]
  have nb := nameB_iff (s := s)
  have e0 : (Int.toNat 0) = 0 := rfl
  rw [e0]
  refine ⟨⟨0, ⟨by omega, by omega, fun j hj => by omega⟩, rfl⟩, fun x hx => ⟨fun hlt => ⟨by omega, fun hno => ?_, fun hyes => ⟨by omega, x + 1, ⟨by omega, by omega, fun j hj => ?_⟩, by omega, rfl⟩⟩, fun hge => ⟨fun h => by omega, ?_⟩⟩⟩
  · grind
  · by_cases e : (j : Int) < x
    · exact hx.2.2 j e
    · have : j = x.toNat := by omega
      rw [this]; exact hyes
  · rw [Bool.eq_iff_iff, nb]
    simp only [Bool.and_eq_true, Bool.not_eq_true', decide_eq_false_iff_not, decide_eq_true_eq]
    constructor
    · rintro ⟨⟨h1, h2⟩, h3⟩
      exact ⟨by omega, by omega, h3, fun j hj => hx.2.2 j (by omega)⟩
    · rintro ⟨h1, h2, h3, h4⟩
      exact ⟨⟨by omega, by omega⟩, h3⟩
end Go.Proofs.Ytemffnpliflkgaa
