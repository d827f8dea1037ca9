/-
  Lemmas and contracts on the way to the laws of this seat; each theorem states its own conditions, and there are no others.
-/
import Derived.Test.YtompifpamldjaaaPA
import Derived.Test.YtompifpamldjaaaM2

namespace Go.Proofs.Ytompifpamldjaaa
open Go
set_option linter.unusedVariables false
set_option linter.unusedSimpArgs false
set_option linter.unusedVariables false

/-- The slices of the path that a search builds. -/
def pth (s : St) (n : Nat) : List Int := match (cellsAt s 20130)[n]? with
  | some (.own id _) => rowI s id
  | _ => []
def subN (v : AV) : Nat := match v with
  | .sub _ _ _ n => n
  | _ => 0
def sSearch : FSp := ⟨_, Sig.flw (one pkI) (fun _ => rfl), fun x => FOK x.1.a x.1.l x.1.m ∧ 0 ≤ x.2.1 ∧ x.2.1 < x.1.a.length, List Int × List Int × Int, fun x y => Found x.1.a x.1.l x.1.m x.2.1 y.1 y.2.1 y.2.2, fun _ y => .tup [.agg [.own 101 0, .own 103 0], .int .i64 y.2.2], fun x y => [(0, flw0 x.1), (1, flw1 x.1), (2, flw2 x.1), (101, .rows 3 0 y.1), (103, .rows 3 0 y.2.1)], fun x h => by
  obtain ⟨N, D, e, hf⟩ := found_ex h.1 h.2.1 h.2.2
  exact ⟨(N, D, e), hf⟩⟩

def inv32a (A : List NSet) (L : List Int) (s : St) : Inv where
  X := Int
  ok := fun i => 0 ≤ i ∧ i ≤ L.length
  sl := fun i => [(30, .int .i64 i)]
  hp := fun i => [(20130, .cells 66 [.own 101 0, .own 103 0]), (101, .rows 3 0 (neg L.length i)), (103, .rows 3 0 (neg A.length 0))]
  keep := [0, 1, 2, 10000]
  me := fun i => (L.length - i).toNat
def inv32b (A : List NSet) (L : List Int) (s : St) : Inv where
  X := Int
  ok := fun i => 0 ≤ i ∧ i ≤ A.length
  sl := fun i => [(41, .int .i64 i)]
  hp := fun i => [(20130, .cells 66 [.own 101 0, .own 103 0]), (101, .rows 3 0 (neg L.length L.length)), (103, .rows 3 0 (neg A.length i))]
  keep := [0, 1, 2, 10000]
  me := fun i => (A.length - i).toNat
def inv32c (A : List NSet) (L : List Int) (M : List (List Int)) (d : Int) (s : St) : Inv where
  X := Nat × Nat × List Int × List Int × List Int
  ok := fun x => QOK A L M d x.2.2.2.1 x.2.2.2.2 x.1 x.2.1 x.2.2.1 ∧ left x.2.2.2.2 + x.2.1 ≤ 65
  sl := fun x => [(9, .sub 105 0 x.1 x.2.1)]
  hp := fun x => [(20130, .cells 66 [.own 101 0, .own 103 0]), (101, .rows 3 0 x.2.2.2.1), (103, .rows 3 0 x.2.2.2.2), (105, .rows 3 0 x.2.2.1)]
  keep := [0, 1, 2, 10000]
  me := fun x => left x.2.2.2.2 + x.2.1
  pre := [(false, 2)]
  pre2 := [(false, 2)]
def inv32d (A : List NSet) (L : List Int) (M : List (List Int)) (d : Int) (s : St) : Inv where
  X := Int × Nat × Nat × List Int × List Int × List Int
  ok := fun x => QI A L M d (slotI s 10) x.1 x.2.2.2.2.1 x.2.2.2.2.2 x.2.1 x.2.2.1 x.2.2.2.1 ∧ left x.2.2.2.2.2 + x.2.2.1 = left (pth s 1) + subN (s.t 9)
  sl := fun x => [(68, .int .i64 x.1), (9, .sub 105 0 x.2.1 x.2.2.1)]
  hp := fun x => [(20130, .cells 66 [.own 101 0, .own 103 0]), (101, .rows 3 0 x.2.2.2.2.1), (103, .rows 3 0 x.2.2.2.2.2), (105, .rows 3 0 x.2.2.2.1)]
  keep := [0, 1, 2, 10000]
  me := fun x => ((nodesAt A (slotI s 10).toNat).length - x.1).toNat
  pre := [(false, 2)]
  pre2 := [(false, 2)]
def inv32e (A : List NSet) (L : List Int) (M : List (List Int)) (d : Int) (s : St) : Inv where
  X := Int × Nat × Nat × List Int × List Int
  ok := fun x => QK A L M d (slotI s 10) (slotI s 68) (slotI s 12) x.1 (pth s 0) x.2.2.2.2 x.2.1 x.2.2.1 x.2.2.2.1 ∧ left x.2.2.2.2 + x.2.2.1 = left (pth s 1) + subN (s.t 9)
  sl := fun x => [(98, .int .i64 x.1), (9, .sub 105 0 x.2.1 x.2.2.1)]
  hp := fun x => [(20130, .cells 66 [.own 101 0, .own 103 0]), (101, .rows 3 0 (pth s 0)), (103, .rows 3 0 x.2.2.2.2), (105, .rows 3 0 x.2.2.2.1)]
  keep := [0, 1, 2, 10000]
  me := fun x => (A.length - x.1).toNat
  pre := [(false, 2)]
  pre2 := [(false, 2)]
set_option maxRecDepth 100000 in
theorem vc32 (A : List NSet) (L : List Int) (M : List (List Int)) (d : Int) (hx : FOK A L M ∧ 0 ≤ d ∧ d < A.length) : sSearch.vc (EVD Try.prog [] (invsS [(3, inv32a A L), (8, inv32b A L), (13, inv32c A L M d), (17, inv32d A L M d), (24, inv32e A L M d)]) noInv [22]) Try.f32 (⟨A, L, M⟩, d, ()) := by
  have e : (((0 : Int) ≤ (↑L.length : Int) ∧ (↑L.length : Int) ≤ (↑L.length : Int) ∧ (↑(8 : Nat) : Int) * (↑L.length : Int) ≤ (281474976710656 : Int) ∧ (↑L.length : Int) ≤ (1099511627776 : Int)) ∧ ((0 : Int) ≤ (↑A.length : Int) ∧ (↑A.length : Int) ≤ (↑A.length : Int) ∧ (↑(8 : Nat) : Int) * (↑A.length : Int) ≤ (281474976710656 : Int) ∧ (↑A.length : Int) ≤ (1099511627776 : Int)) ∧ (∃ (x : Int), ((0 : Int) ≤ x ∧ x ≤ (↑L.length : Int)) ∧ (0 : Int) = x ∧ List.replicate (↑L.length : Int).toNat (0 : Int) = neg (↑L.length : Int) x ∧ List.replicate (↑A.length : Int).toNat (0 : Int) = neg (↑A.length : Int) (0 : Int) ∧ A = A ∧ L = L ∧ M = M) ∧ ∀ (x : Int), (0 : Int) ≤ x ∧ x ≤ (↑L.length : Int) → (decide (x < (↑(List.replicate (↑L.length : Int).toNat (0 : Int)).length : Int)) = true → ((0 : Int) ≤ x ∧ x < (↑(neg (↑L.length : Int) x).length : Int)) ∧ i64R (x + (1 : Int)) ∧ ∃ (x' : Int), ((0 : Int) ≤ x' ∧ x' ≤ (↑L.length : Int)) ∧ ((↑L.length : Int) - x').toNat < ((↑L.length : Int) - x).toNat ∧ x + (1 : Int) = x' ∧ (neg (↑L.length : Int) x).set x.toNat (-1 : Int) = neg (↑L.length : Int) x' ∧ neg (↑A.length : Int) (0 : Int) = neg (↑A.length : Int) (0 : Int) ∧ A = A ∧ L = L ∧ M = M) ∧ (decide (x < (↑(List.replicate (↑L.length : Int).toNat (0 : Int)).length : Int)) = false → (∃ (x_1 : Int), ((0 : Int) ≤ x_1 ∧ x_1 ≤ (↑A.length : Int)) ∧ (0 : Int) = x_1 ∧ neg (↑L.length : Int) x = neg (↑L.length : Int) (↑L.length : Int) ∧ neg (↑A.length : Int) (0 : Int) = neg (↑A.length : Int) x_1 ∧ A = A ∧ L = L ∧ M = M) ∧ ∀ (x : Int), (0 : Int) ≤ x ∧ x ≤ (↑A.length : Int) → (decide (x < (↑(neg (↑A.length : Int) (0 : Int)).length : Int)) = true → ((0 : Int) ≤ x ∧ x < (↑(neg (↑A.length : Int) x).length : Int)) ∧ i64R (x + (1 : Int)) ∧ ∃ (x' : Int), ((0 : Int) ≤ x' ∧ x' ≤ (↑A.length : Int)) ∧ ((↑A.length : Int) - x').toNat < ((↑A.length : Int) - x).toNat ∧ x + (1 : Int) = x' ∧ neg (↑L.length : Int) (↑L.length : Int) = neg (↑L.length : Int) (↑L.length : Int) ∧ (neg (↑A.length : Int) x).set x.toNat (-1 : Int) = neg (↑A.length : Int) x' ∧ A = A ∧ L = L ∧ M = M) ∧ (decide (x < (↑(neg (↑A.length : Int) (0 : Int)).length : Int)) = false → (∃ (x_1 : Nat × Nat × List Int × List Int × List Int), (QOK A L M d x_1.2.2.2.1 x_1.2.2.2.2 x_1.1 x_1.2.1 x_1.2.2.1 ∧ left x_1.2.2.2.2 + x_1.2.1 ≤ (65 : Nat)) ∧ (0 : Nat) = x_1.1 ∧ (d :: NilL Int).length = x_1.2.1 ∧ neg (↑L.length : Int) (↑L.length : Int) = x_1.2.2.2.1 ∧ neg (↑A.length : Int) x = x_1.2.2.2.2 ∧ d :: NilL Int = x_1.2.2.1 ∧ A = A ∧ L = L ∧ M = M) ∧ ∀ (x : Nat × Nat × List Int × List Int × List Int), QOK A L M d x.2.2.2.1 x.2.2.2.2 x.1 x.2.1 x.2.2.1 ∧ left x.2.2.2.2 + x.2.1 ≤ (65 : Nat) → (decide ((0 : Int) < (↑x.2.1 : Int)) = true → ((0 : Int) ≤ (0 : Int) ∧ (0 : Int) < (↑x.2.1 : Int)) ∧ ((0 : Int) ≤ (1 : Int) ∧ (1 : Int) ≤ (↑x.2.1 : Int)) ∧ ((0 : Int) ≤ nth x.2.2.1 (x.1 + Int.toNat (0 : Int)) ∧ nth x.2.2.1 (x.1 + Int.toNat (0 : Int)) < (↑A.length : Int)) ∧ (∃ (x_1 : Int × Nat × Nat × List Int × List Int × List Int), (QI A L M d (nth x.2.2.1 (x.1 + Int.toNat (0 : Int))) x_1.1 x_1.2.2.2.2.1 x_1.2.2.2.2.2 x_1.2.1 x_1.2.2.1 x_1.2.2.2.1 ∧ left x_1.2.2.2.2.2 + x_1.2.2.1 = left x.2.2.2.2 + ((↑x.2.1 : Int) - (1 : Int)).toNat) ∧ (0 : Int) = x_1.1 ∧ x.1 + Int.toNat (1 : Int) = x_1.2.1 ∧ ((↑x.2.1 : Int) - (1 : Int)).toNat = x_1.2.2.1 ∧ x.2.2.2.1 = x_1.2.2.2.2.1 ∧ x.2.2.2.2 = x_1.2.2.2.2.2 ∧ x.2.2.1 = x_1.2.2.2.1 ∧ A = A ∧ L = L ∧ M = M) ∧ ∀ (x_1 : Int × Nat × Nat × List Int × List Int × List Int), QI A L M d (nth x.2.2.1 (x.1 + Int.toNat (0 : Int))) x_1.1 x_1.2.2.2.2.1 x_1.2.2.2.2.2 x_1.2.1 x_1.2.2.1 x_1.2.2.2.1 ∧ left x_1.2.2.2.2.2 + x_1.2.2.1 = left x.2.2.2.2 + ((↑x.2.1 : Int) - (1 : Int)).toNat → (decide (x_1.1 < (↑(A.getD (nth x.2.2.1 (x.1 + Int.toNat (0 : Int))).toNat { grp := (0 : Int), nodes := NilL Int : NSet }).nodes.length : Int)) = true → ((0 : Int) ≤ x_1.1 ∧ x_1.1 < (↑(A.getD (nth x.2.2.1 (x.1 + Int.toNat (0 : Int))).toNat { grp := (0 : Int), nodes := NilL Int : NSet }).nodes.length : Int)) ∧ ((0 : Int) ≤ nth (A.getD (nth x.2.2.1 (x.1 + Int.toNat (0 : Int))).toNat { grp := (0 : Int), nodes := NilL Int : NSet }).nodes x_1.1.toNat ∧ nth (A.getD (nth x.2.2.1 (x.1 + Int.toNat (0 : Int))).toNat { grp := (0 : Int), nodes := NilL Int : NSet }).nodes x_1.1.toNat < (↑x_1.2.2.2.2.1.length : Int)) ∧ (decide ((0 : Int) ≤ nth x_1.2.2.2.2.1 (nth (A.getD (nth x.2.2.1 (x.1 + Int.toNat (0 : Int))).toNat { grp := (0 : Int), nodes := NilL Int : NSet }).nodes x_1.1.toNat).toNat) = true → i64R (x_1.1 + (1 : Int)) ∧ ∃ (x' : Int × Nat × Nat × List Int × List Int × List Int), (QI A L M d (nth x.2.2.1 (x.1 + Int.toNat (0 : Int))) x'.1 x'.2.2.2.2.1 x'.2.2.2.2.2 x'.2.1 x'.2.2.1 x'.2.2.2.1 ∧ left x'.2.2.2.2.2 + x'.2.2.1 = left x.2.2.2.2 + ((↑x.2.1 : Int) - (1 : Int)).toNat) ∧ ((↑(nodesAt A (nth x.2.2.1 (x.1 + Int.toNat (0 : Int))).toNat).length : Int) - x'.1).toNat < ((↑(nodesAt A (nth x.2.2.1 (x.1 + Int.toNat (0 : Int))).toNat).length : Int) - x_1.1).toNat ∧ x_1.1 + (1 : Int) = x'.1 ∧ x_1.2.1 = x'.2.1 ∧ x_1.2.2.1 = x'.2.2.1 ∧ x_1.2.2.2.2.1 = x'.2.2.2.2.1 ∧ x_1.2.2.2.2.2 = x'.2.2.2.2.2 ∧ x_1.2.2.2.1 = x'.2.2.2.1 ∧ A = A ∧ L = L ∧ M = M) ∧ (decide ((0 : Int) ≤ nth x_1.2.2.2.2.1 (nth (A.getD (nth x.2.2.1 (x.1 + Int.toNat (0 : Int))).toNat { grp := (0 : Int), nodes := NilL Int : NSet }).nodes x_1.1.toNat).toNat) = false → ((0 : Int) ≤ nth (A.getD (nth x.2.2.1 (x.1 + Int.toNat (0 : Int))).toNat { grp := (0 : Int), nodes := NilL Int : NSet }).nodes x_1.1.toNat ∧ nth (A.getD (nth x.2.2.1 (x.1 + Int.toNat (0 : Int))).toNat { grp := (0 : Int), nodes := NilL Int : NSet }).nodes x_1.1.toNat < (↑x_1.2.2.2.2.1.length : Int)) ∧ ((0 : Int) ≤ nth (A.getD (nth x.2.2.1 (x.1 + Int.toNat (0 : Int))).toNat { grp := (0 : Int), nodes := NilL Int : NSet }).nodes x_1.1.toNat ∧ nth (A.getD (nth x.2.2.1 (x.1 + Int.toNat (0 : Int))).toNat { grp := (0 : Int), nodes := NilL Int : NSet }).nodes x_1.1.toNat < (↑L.length : Int)) ∧ (decide ((0 : Int) < nth L (nth (A.getD (nth x.2.2.1 (x.1 + Int.toNat (0 : Int))).toNat { grp := (0 : Int), nodes := NilL Int : NSet }).nodes x_1.1.toNat).toNat) = true → ∃ (y : List Int × List Int × Int), Found A L M d y.1 y.2.1 y.2.2 ∧ nth (A.getD (nth x.2.2.1 (x.1 + Int.toNat (0 : Int))).toNat { grp := (0 : Int), nodes := NilL Int : NSet }).nodes x_1.1.toNat = y.2.2 ∧ A = A ∧ L = L ∧ M = M ∧ x_1.2.2.2.2.1.set (nth (A.getD (nth x.2.2.1 (x.1 + Int.toNat (0 : Int))).toNat { grp := (0 : Int), nodes := NilL Int : NSet }).nodes x_1.1.toNat).toNat (nth x.2.2.1 (x.1 + Int.toNat (0 : Int))) = y.1 ∧ x_1.2.2.2.2.2 = y.2.1) ∧ (decide ((0 : Int) < nth L (nth (A.getD (nth x.2.2.1 (x.1 + Int.toNat (0 : Int))).toNat { grp := (0 : Int), nodes := NilL Int : NSet }).nodes x_1.1.toNat).toNat) = false → (∃ (x_2 : Int × Nat × Nat × List Int × List Int), (QK A L M d (nth x.2.2.1 (x.1 + Int.toNat (0 : Int))) x_1.1 (nth (A.getD (nth x.2.2.1 (x.1 + Int.toNat (0 : Int))).toNat { grp := (0 : Int), nodes := NilL Int : NSet }).nodes x_1.1.toNat) x_2.1 (x_1.2.2.2.2.1.set (nth (A.getD (nth x.2.2.1 (x.1 + Int.toNat (0 : Int))).toNat { grp := (0 : Int), nodes := NilL Int : NSet }).nodes x_1.1.toNat).toNat (nth x.2.2.1 (x.1 + Int.toNat (0 : Int)))) x_2.2.2.2.2 x_2.2.1 x_2.2.2.1 x_2.2.2.2.1 ∧ left x_2.2.2.2.2 + x_2.2.2.1 = left x_1.2.2.2.2.2 + x_1.2.2.1) ∧ (0 : Int) = x_2.1 ∧ x_1.2.1 = x_2.2.1 ∧ x_1.2.2.1 = x_2.2.2.1 ∧ x_1.2.2.2.2.1.set (nth (A.getD (nth x.2.2.1 (x.1 + Int.toNat (0 : Int))).toNat { grp := (0 : Int), nodes := NilL Int : NSet }).nodes x_1.1.toNat).toNat (nth x.2.2.1 (x.1 + Int.toNat (0 : Int))) = x_1.2.2.2.2.1.set (nth (A.getD (nth x.2.2.1 (x.1 + Int.toNat (0 : Int))).toNat { grp := (0 : Int), nodes := NilL Int : NSet }).nodes x_1.1.toNat).toNat (nth x.2.2.1 (x.1 + Int.toNat (0 : Int))) ∧ x_1.2.2.2.2.2 = x_2.2.2.2.2 ∧ x_1.2.2.2.1 = x_2.2.2.2.1 ∧ A = A ∧ L = L ∧ M = M) ∧ ∀ (x_2 : Int × Nat × Nat × List Int × List Int), QK A L M d (nth x.2.2.1 (x.1 + Int.toNat (0 : Int))) x_1.1 (nth (A.getD (nth x.2.2.1 (x.1 + Int.toNat (0 : Int))).toNat { grp := (0 : Int), nodes := NilL Int : NSet }).nodes x_1.1.toNat) x_2.1 (x_1.2.2.2.2.1.set (nth (A.getD (nth x.2.2.1 (x.1 + Int.toNat (0 : Int))).toNat { grp := (0 : Int), nodes := NilL Int : NSet }).nodes x_1.1.toNat).toNat (nth x.2.2.1 (x.1 + Int.toNat (0 : Int)))) x_2.2.2.2.2 x_2.2.1 x_2.2.2.1 x_2.2.2.2.1 ∧ left x_2.2.2.2.2 + x_2.2.2.1 = left x_1.2.2.2.2.2 + x_1.2.2.1 → (decide (x_2.1 < (↑M.length : Int)) = true → ((!decide (x_2.1 = d)) = true → (!decide (x_2.1 = d)) = true) ∧ ((!decide (x_2.1 = d)) = true → (!decide (x_2.1 = d)) = true) ∧ ((!decide (x_2.1 = d)) = true → (!decide (x_2.1 = d)) = true) ∧ ((!decide (x_2.1 = d)) = true → (0 : Int) ≤ x_2.1 ∧ x_2.1 < (↑x_2.2.2.2.2.length : Int)) ∧ ((!decide (x_2.1 = d)) = true → (!decide (x_2.1 = d)) = true) ∧ ((!decide (x_2.1 = d)) = true → (!decide (x_2.1 = d)) = true) ∧ ((!decide (x_2.1 = d)) = true → (!decide (x_2.1 = d)) = true) ∧ ((!decide (x_2.1 = d) && decide (nth x_2.2.2.2.2 x_2.1.toNat < (0 : Int))) = true → (!decide (x_2.1 = d) && decide (nth x_2.2.2.2.2 x_2.1.toNat < (0 : Int))) = true) ∧ ((!decide (x_2.1 = d) && decide (nth x_2.2.2.2.2 x_2.1.toNat < (0 : Int))) = true → (!decide (x_2.1 = d) && decide (nth x_2.2.2.2.2 x_2.1.toNat < (0 : Int))) = true) ∧ ((!decide (x_2.1 = d) && decide (nth x_2.2.2.2.2 x_2.1.toNat < (0 : Int))) = true → (!decide (x_2.1 = d) && decide (nth x_2.2.2.2.2 x_2.1.toNat < (0 : Int))) = true) ∧ ((!decide (x_2.1 = d) && decide (nth x_2.2.2.2.2 x_2.1.toNat < (0 : Int))) = true → (!decide (x_2.1 = d) && decide (nth x_2.2.2.2.2 x_2.1.toNat < (0 : Int))) = true) ∧ ((!decide (x_2.1 = d) && decide (nth x_2.2.2.2.2 x_2.1.toNat < (0 : Int))) = true → (!decide (x_2.1 = d) && decide (nth x_2.2.2.2.2 x_2.1.toNat < (0 : Int))) = true) ∧ ((!decide (x_2.1 = d) && decide (nth x_2.2.2.2.2 x_2.1.toNat < (0 : Int))) = true → (0 : Int) ≤ x_2.1 ∧ x_2.1 < (↑M.length : Int)) ∧ ((!decide (x_2.1 = d) && decide (nth x_2.2.2.2.2 x_2.1.toNat < (0 : Int))) = true → (!decide (x_2.1 = d) && decide (nth x_2.2.2.2.2 x_2.1.toNat < (0 : Int))) = true) ∧ x_2.1.toNat < M.length ∧ ((!decide (x_2.1 = d) && decide (nth x_2.2.2.2.2 x_2.1.toNat < (0 : Int))) = true → (!decide (x_2.1 = d) && decide (nth x_2.2.2.2.2 x_2.1.toNat < (0 : Int))) = true) ∧ ((!decide (x_2.1 = d) && decide (nth x_2.2.2.2.2 x_2.1.toNat < (0 : Int))) = true → (!decide (x_2.1 = d) && decide (nth x_2.2.2.2.2 x_2.1.toNat < (0 : Int))) = true) ∧ ((!decide (x_2.1 = d) && decide (nth x_2.2.2.2.2 x_2.1.toNat < (0 : Int))) = true → (0 : Int) ≤ nth (A.getD (nth x.2.2.1 (x.1 + Int.toNat (0 : Int))).toNat { grp := (0 : Int), nodes := NilL Int : NSet }).nodes x_1.1.toNat ∧ nth (A.getD (nth x.2.2.1 (x.1 + Int.toNat (0 : Int))).toNat { grp := (0 : Int), nodes := NilL Int : NSet }).nodes x_1.1.toNat < (↑(M.getD x_2.1.toNat (NilL Int)).length : Int)) ∧ ((!decide (x_2.1 = d) && decide (nth x_2.2.2.2.2 x_2.1.toNat < (0 : Int))) = true → (!decide (x_2.1 = d) && decide (nth x_2.2.2.2.2 x_2.1.toNat < (0 : Int))) = true) ∧ ((!decide (x_2.1 = d) && decide (nth x_2.2.2.2.2 x_2.1.toNat < (0 : Int))) = true → (!decide (x_2.1 = d) && decide (nth x_2.2.2.2.2 x_2.1.toNat < (0 : Int))) = true) ∧ ((!decide (x_2.1 = d) && decide (nth x_2.2.2.2.2 x_2.1.toNat < (0 : Int))) = true → (!decide (x_2.1 = d) && decide (nth x_2.2.2.2.2 x_2.1.toNat < (0 : Int))) = true) ∧ ((!decide (x_2.1 = d) && decide (nth x_2.2.2.2.2 x_2.1.toNat < (0 : Int)) && decide ((0 : Int) < nth (M.getD x_2.1.toNat (NilL Int)) (nth (A.getD (nth x.2.2.1 (x.1 + Int.toNat (0 : Int))).toNat { grp := (0 : Int), nodes := NilL Int : NSet }).nodes x_1.1.toNat).toNat)) = true → ((0 : Int) ≤ x_2.1 ∧ x_2.1 < (↑x_2.2.2.2.2.length : Int)) ∧ x_2.2.1 + x_2.2.2.1 = x_2.2.2.2.1.length ∧ (0 : Nat) < (x_2.1 :: NilL Int).length ∧ x_2.2.2.1 + (x_2.1 :: NilL Int).length ≤ (68719476736 : Nat) ∧ ∀ (y : Nat × List Int), List.drop y.1 y.2 = List.drop x_2.2.1 x_2.2.2.2.1 ++ x_2.1 :: NilL Int ∧ y.1 + (x_2.2.2.1 + (x_2.1 :: NilL Int).length) = y.2.length → i64R (x_2.1 + (1 : Int)) ∧ AV.irec true (0 : Nat) (M.getD x_2.1.toNat (NilL Int)) :: NilL AV = (AV.irec true (0 : Nat) (M.getD x_2.1.toNat (NilL Int)) :: NilL AV).set (0 : Nat) (AV.irec true (0 : Nat) (M.getD x_2.1.toNat (NilL Int))) ∧ ∃ (x' : Int × Nat × Nat × List Int × List Int), (QK A L M d (nth x.2.2.1 (x.1 + Int.toNat (0 : Int))) x_1.1 (nth (A.getD (nth x.2.2.1 (x.1 + Int.toNat (0 : Int))).toNat { grp := (0 : Int), nodes := NilL Int : NSet }).nodes x_1.1.toNat) x'.1 (x_1.2.2.2.2.1.set (nth (A.getD (nth x.2.2.1 (x.1 + Int.toNat (0 : Int))).toNat { grp := (0 : Int), nodes := NilL Int : NSet }).nodes x_1.1.toNat).toNat (nth x.2.2.1 (x.1 + Int.toNat (0 : Int)))) x'.2.2.2.2 x'.2.1 x'.2.2.1 x'.2.2.2.1 ∧ left x'.2.2.2.2 + x'.2.2.1 = left x_1.2.2.2.2.2 + x_1.2.2.1) ∧ ((↑A.length : Int) - x'.1).toNat < ((↑A.length : Int) - x_2.1).toNat ∧ x_2.1 + (1 : Int) = x'.1 ∧ y.1 = x'.2.1 ∧ x_2.2.2.1 + (x_2.1 :: NilL Int).length = x'.2.2.1 ∧ x_1.2.2.2.2.1.set (nth (A.getD (nth x.2.2.1 (x.1 + Int.toNat (0 : Int))).toNat { grp := (0 : Int), nodes := NilL Int : NSet }).nodes x_1.1.toNat).toNat (nth x.2.2.1 (x.1 + Int.toNat (0 : Int))) = x_1.2.2.2.2.1.set (nth (A.getD (nth x.2.2.1 (x.1 + Int.toNat (0 : Int))).toNat { grp := (0 : Int), nodes := NilL Int : NSet }).nodes x_1.1.toNat).toNat (nth x.2.2.1 (x.1 + Int.toNat (0 : Int))) ∧ x_2.2.2.2.2.set x_2.1.toNat (nth (A.getD (nth x.2.2.1 (x.1 + Int.toNat (0 : Int))).toNat { grp := (0 : Int), nodes := NilL Int : NSet }).nodes x_1.1.toNat) = x'.2.2.2.2 ∧ y.2 = x'.2.2.2.1 ∧ A = A ∧ L = L ∧ M.set x_2.1.toNat (M.getD x_2.1.toNat (NilL Int)) = M) ∧ ((!decide (x_2.1 = d) && decide (nth x_2.2.2.2.2 x_2.1.toNat < (0 : Int)) && decide ((0 : Int) < nth (M.getD x_2.1.toNat (NilL Int)) (nth (A.getD (nth x.2.2.1 (x.1 + Int.toNat (0 : Int))).toNat { grp := (0 : Int), nodes := NilL Int : NSet }).nodes x_1.1.toNat).toNat)) = false → i64R (x_2.1 + (1 : Int)) ∧ AV.irec true (0 : Nat) (M.getD x_2.1.toNat (NilL Int)) :: NilL AV = (AV.irec true (0 : Nat) (M.getD x_2.1.toNat (NilL Int)) :: NilL AV).set (0 : Nat) (AV.irec true (0 : Nat) (M.getD x_2.1.toNat (NilL Int))) ∧ ∃ (x' : Int × Nat × Nat × List Int × List Int), (QK A L M d (nth x.2.2.1 (x.1 + Int.toNat (0 : Int))) x_1.1 (nth (A.getD (nth x.2.2.1 (x.1 + Int.toNat (0 : Int))).toNat { grp := (0 : Int), nodes := NilL Int : NSet }).nodes x_1.1.toNat) x'.1 (x_1.2.2.2.2.1.set (nth (A.getD (nth x.2.2.1 (x.1 + Int.toNat (0 : Int))).toNat { grp := (0 : Int), nodes := NilL Int : NSet }).nodes x_1.1.toNat).toNat (nth x.2.2.1 (x.1 + Int.toNat (0 : Int)))) x'.2.2.2.2 x'.2.1 x'.2.2.1 x'.2.2.2.1 ∧ left x'.2.2.2.2 + x'.2.2.1 = left x_1.2.2.2.2.2 + x_1.2.2.1) ∧ ((↑A.length : Int) - x'.1).toNat < ((↑A.length : Int) - x_2.1).toNat ∧ x_2.1 + (1 : Int) = x'.1 ∧ x_2.2.1 = x'.2.1 ∧ x_2.2.2.1 = x'.2.2.1 ∧ x_1.2.2.2.2.1.set (nth (A.getD (nth x.2.2.1 (x.1 + Int.toNat (0 : Int))).toNat { grp := (0 : Int), nodes := NilL Int : NSet }).nodes x_1.1.toNat).toNat (nth x.2.2.1 (x.1 + Int.toNat (0 : Int))) = x_1.2.2.2.2.1.set (nth (A.getD (nth x.2.2.1 (x.1 + Int.toNat (0 : Int))).toNat { grp := (0 : Int), nodes := NilL Int : NSet }).nodes x_1.1.toNat).toNat (nth x.2.2.1 (x.1 + Int.toNat (0 : Int))) ∧ x_2.2.2.2.2 = x'.2.2.2.2 ∧ x_2.2.2.2.1 = x'.2.2.2.1 ∧ A = A ∧ L = L ∧ M.set x_2.1.toNat (M.getD x_2.1.toNat (NilL Int)) = M)) ∧ (decide (x_2.1 < (↑M.length : Int)) = false → i64R (x_1.1 + (1 : Int)) ∧ ∃ (x' : Int × Nat × Nat × List Int × List Int × List Int), (QI A L M d (nth x.2.2.1 (x.1 + Int.toNat (0 : Int))) x'.1 x'.2.2.2.2.1 x'.2.2.2.2.2 x'.2.1 x'.2.2.1 x'.2.2.2.1 ∧ left x'.2.2.2.2.2 + x'.2.2.1 = left x.2.2.2.2 + ((↑x.2.1 : Int) - (1 : Int)).toNat) ∧ ((↑(nodesAt A (nth x.2.2.1 (x.1 + Int.toNat (0 : Int))).toNat).length : Int) - x'.1).toNat < ((↑(nodesAt A (nth x.2.2.1 (x.1 + Int.toNat (0 : Int))).toNat).length : Int) - x_1.1).toNat ∧ x_1.1 + (1 : Int) = x'.1 ∧ x_2.2.1 = x'.2.1 ∧ x_2.2.2.1 = x'.2.2.1 ∧ x_1.2.2.2.2.1.set (nth (A.getD (nth x.2.2.1 (x.1 + Int.toNat (0 : Int))).toNat { grp := (0 : Int), nodes := NilL Int : NSet }).nodes x_1.1.toNat).toNat (nth x.2.2.1 (x.1 + Int.toNat (0 : Int))) = x'.2.2.2.2.1 ∧ x_2.2.2.2.2 = x'.2.2.2.2.2 ∧ x_2.2.2.2.1 = x'.2.2.2.1 ∧ A = A ∧ L = L ∧ M = M)))) ∧ (decide (x_1.1 < (↑(A.getD (nth x.2.2.1 (x.1 + Int.toNat (0 : Int))).toNat { grp := (0 : Int), nodes := NilL Int : NSet }).nodes.length : Int)) = false → ∃ (x' : Nat × Nat × List Int × List Int × List Int), (QOK A L M d x'.2.2.2.1 x'.2.2.2.2 x'.1 x'.2.1 x'.2.2.1 ∧ left x'.2.2.2.2 + x'.2.1 ≤ (65 : Nat)) ∧ left x'.2.2.2.2 + x'.2.1 < left x.2.2.2.2 + x.2.1 ∧ x_1.2.1 = x'.1 ∧ x_1.2.2.1 = x'.2.1 ∧ x_1.2.2.2.2.1 = x'.2.2.2.1 ∧ x_1.2.2.2.2.2 = x'.2.2.2.2 ∧ x_1.2.2.2.1 = x'.2.2.1 ∧ A = A ∧ L = L ∧ M = M)) ∧ (decide ((0 : Int) < (↑x.2.1 : Int)) = false → ∃ (y : List Int × List Int × Int), Found A L M d y.1 y.2.1 y.2.2 ∧ (-1 : Int) = y.2.2 ∧ A = A ∧ L = L ∧ M = M ∧ x.2.2.2.1 = y.1 ∧ x.2.2.2.2 = y.2.1)))) = sSearch.vc (EVD Try.prog [] (invsS [(3, inv32a A L), (8, inv32b A L), (13, inv32c A L M d), (17, inv32d A L M d), (24, inv32e A L M d)]) noInv [22]) Try.f32 (⟨A, L, M⟩, d, ()) := by kernel_rfl
  rw [← e]
  clear e
  simp only [imp_self, true_and, and_true, exists_const, implies_true, gd1, gd2, gd3, gd4, gd5, gd6 ]
  simp only [Prod.forall, Prod.exists, exists_const, implies_true, not_true_eq_false, not_false_eq_true, or_self, or_false, false_or, or_true, true_or, and_false, false_and, forall_const, true_and, and_true, i64R, imp_self, Int.reduceLE, Int.reduceLT, Int.reduceNeg, false_implies, true_implies, decide_eq_true_eq, decide_eq_false_iff_not, Bool.not_eq_true', Bool.not_eq_false', Bool.true_eq_false, Bool.false_eq_true, Bool.and_eq_true, Bool.or_eq_true, Bool.and_eq_false_iff, Bool.or_eq_false_iff ]
  simp only [NilL_eq]
  obtain ⟨hf, d0, d1⟩ := hx
  have hNS : ∀ z, (A.getD z { grp := 0, nodes := [] }).nodes = nodesAt A z := fun _ => rfl
  have hMR : ∀ z, M.getD z [] = rowAt M z := fun _ => rfl
  have hi0 : Int.toNat 0 = 0 := rfl
  have hi1 : Int.toNat 1 = 1 := rfl
  simp only [hNS, hMR, hi0, hi1, Nat.add_zero, List.length_replicate]
  have hla := hf.la
  have hll := hf.ll
  have hlm := hf.lm
  have hnl : (neg (A.length : Int) 0).length = A.length := by rw [neg_len ⟨Int.le_refl _, by omega⟩]; omega
  refine ⟨⟨by omega, by omega, by omega, by omega⟩, ⟨by omega, by omega, by omega, by omega⟩, ⟨0, ⟨by omega, by omega⟩, rfl, neg_zero, neg_zero⟩, fun i hi => ⟨fun hlt => ?_, fun hge => ?_⟩⟩
  · exact ⟨⟨hi.1, by rw [neg_len hi]; omega⟩, by omega, i + 1, by omega, by omega, rfl, neg_set ⟨hi.1, by omega⟩⟩
  · have e : i = L.length := by omega
    subst e
    rw [hnl]
    refine ⟨⟨0, ⟨by omega, by omega⟩, rfl, rfl, rfl⟩, fun k hk => ⟨fun hlt => ?_, fun hge => ?_⟩⟩
    · exact ⟨⟨hk.1, by rw [neg_len hk]; omega⟩, by omega, k + 1, by omega, by omega, rfl, neg_set ⟨hk.1, by omega⟩⟩
    · have e : k = A.length := by omega
      subst e
      refine ⟨⟨0, 1, [d], neg L.length L.length, neg A.length A.length, ⟨?_, ?_⟩, rfl, rfl, rfl, rfl, rfl⟩, fun lo n l N D hQ => ?_⟩
      · rw [neg_all, neg_all]; exact QOK.start d0 d1
      · have := left_le (neg (A.length : Int) A.length)
        rw [neg_len ⟨by omega, by omega⟩] at this
        omega
      obtain ⟨hQ, hb⟩ := hQ
      refine ⟨fun hn => ?_, fun hn => ⟨N, D, -1, hQ.fin (by omega), rfl, rfl, rfl⟩⟩
      have hn' : 0 < n := by omega
      have hpop := hQ.pop hn'
      have ip := hpop.i0
      have iq := hpop.i1
      have en : ((n : Int) - 1).toNat = n - 1 := by omega
      rw [en]
      generalize nth l lo = i at *
      refine ⟨by omega, by omega, ⟨ip, iq⟩, ⟨0, lo + 1, n - 1, l, N, D, ⟨hpop, rfl⟩, rfl, rfl, rfl, rfl, rfl, rfl⟩, fun t lo1 n1 l1 N1 D1 hI => ?_⟩
      obtain ⟨hI, hb1⟩ := hI
      have hlN := hI.s.ln
      have hlD := hI.s.ld
      have t0 := hI.t0
      refine ⟨fun ht => ?_, fun ht => ⟨lo1, n1, l1, N1, D1, ⟨hI.done ht, by omega⟩, by omega, rfl, rfl, rfl, rfl, rfl⟩⟩
      obtain ⟨x0, x1, xm⟩ := hI.at_ hf ht
      have xr : 0 ≤ nth (nodesAt A i.toNat) t.toNat ∧ nth (nodesAt A i.toNat) t.toNat < N1.length := ⟨x0, by omega⟩
      have hskip := hI.skip ht
      have hfind := hI.find hf ht
      have hopn := hI.opn hf ht
      have hnn : (nodesAt A i.toNat).length ≤ 8 := hf.len i.toNat (by omega)
      generalize hx : nth (nodesAt A i.toNat) t.toNat = x at *
      refine ⟨⟨t0, ht⟩, xr, fun h => ⟨by omega, t + 1, lo1, n1, l1, N1, D1, ⟨hskip h, hb1⟩, by omega, rfl, rfl, rfl, rfl, rfl, rfl⟩, fun h => ⟨xr, ⟨x0, x1⟩, fun hL => ⟨N1.set x.toNat i, D1, x, hfind h hL, rfl, rfl, rfl⟩, fun hL => ⟨⟨0, lo1, n1, l1, D1, ⟨hopn h hL, rfl⟩, rfl, rfl, rfl, rfl, rfl⟩, fun c lo2 n2 l2 D2 hK => ?_⟩⟩⟩
      obtain ⟨hK, hb2⟩ := hK
      have c0 := hK.c0
      have hlD2 := hK.s.ld
      have hln2 := hK.ln
      have hirec : ∀ v : AV, [v] = [v].set 0 v := fun _ => rfl
      refine ⟨fun hc => ?_, fun hc => ⟨by omega, t + 1, lo2, n2, l2, _, D2, ⟨hK.close (by omega), by omega⟩, by omega, rfl, rfl, rfl, rfl, rfl, rfl⟩⟩
      have hrow := hf.row c.toNat (by omega)
      refine ⟨fun _ => ⟨c0, by omega⟩, fun _ => ⟨c0, hc⟩, by omega, fun _ => ⟨x0, by omega⟩, fun hh => ⟨⟨c0, by omega⟩, hln2, by simp, by simp only [List.length_cons, List.length_nil]; omega, fun lo3 l3 h3 => ⟨by omega, hirec _, c + 1, lo3, n2 + 1, l3, D2.set c.toNat x, ⟨hK.take (by omega) hh.1.1 hh.1.2 hh.2 h3.1 h3.2, ?_⟩, by omega, rfl, rfl, rfl, rfl, rfl, row_self (by omega)⟩⟩, fun hh => ⟨by omega, hirec _, c + 1, lo2, n2, l2, D2, ⟨hK.skip (by omega) hh, hb2⟩, by omega, rfl, rfl, rfl, rfl, rfl, row_self (by omega)⟩⟩
      have := left_set (D := D2) (k := c.toNat) (v := x) (by omega) hh.1.2 x0
      omega
end Go.Proofs.Ytompifpamldjaaa
