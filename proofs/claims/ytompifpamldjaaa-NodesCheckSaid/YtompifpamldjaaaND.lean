/-
  Lemmas and contracts on the way to the laws of this seat; each theorem states its own conditions, and there are no others.
-/
import Derived.Test.YtompifpamldjaaaNC
import Derived.Test.YtompifpamldjaaaM7

namespace Go.Proofs.Ytompifpamldjaaa
open Go
set_option linter.unusedVariables false
set_option linter.unusedSimpArgs false
set_option linter.unusedVariables false

def cellN (s : St) (b n : Nat) : Nat := match (cellsAt s b)[n]? with
  | some (.own id _) => id
  | _ => 0
def deepM (s : St) (n : Nat) : List (List Int) := match s.h n with
  | some (.deep _ 6 _ l _) => l
  | some (.rows _ 6 l) => l
  | _ => []
noncomputable def sPlace : FSp := ⟨_, three (pkL 3) (pkLP 4) pkInts, fun x => Sml x.1 x.2.1 x.2.2.1, List Spt × List Int × Int, fun x y => PlaceR x.1 x.2.1 x.2.2.1 y, fun _ y => .tup [.own 101 5, .own 103 0, .int .i64 y.2.2], fun _ y => [(101, .rows 39 5 y.1), (103, .rows 3 0 y.2.1)], fun x _ => place_ex x.1 x.2.1 x.2.2.1⟩

def inv13a (C : List Chg) (A : List NSet) (cap : List Int) (s : St) : Inv where
  X := Int
  ok := fun i => 0 ≤ i ∧ i ≤ C.length
  sl := fun i => [(35, .int .i64 i)]
  hp := fun i => [(40040, .cells 64 [.irec true 4 A, .own 101 0, .own 103 6]), (101, .rows 3 0 cap), (103, .deep 22 6 [3] (List.replicate i.toNat (List.replicate cap.length 0)) none)]
  keep := []
  me := fun i => (C.length - i).toNat
def inv13b (C : List Chg) (A : List NSet) (cap : List Int) (s : St) : Inv where
  X := Int × List Int × List (List Int)
  ok := fun x => 0 ≤ x.1 ∧ x.1 ≤ C.length ∧ PV C A cap x.2.1 x.2.2 x.1 (ownAt C x.1.toNat)
  sl := fun x => [(52, .int .i64 x.1)]
  hp := fun x => [(40040, .cells 64 [.irec true 4 A, .own 101 0, .own 103 6]), (101, .rows 3 0 x.2.1), (103, .deep 22 6 [3] x.2.2 none)]
  keep := []
  me := fun x => (C.length - x.1).toNat
def inv13c (C : List Chg) (A : List NSet) (cap : List Int) (s : St) : Inv where
  X := Int × List Int × List (List Int)
  ok := fun x => 0 ≤ x.1 ∧ x.1 ≤ ownAt C (slotI s 52).toNat ∧ PV C A cap x.2.1 x.2.2 (slotI s 52) x.1
  sl := fun x => [(12, .int .i64 x.1)]
  hp := fun x => [(40040, .cells 64 [.irec true 4 A, .own 101 0, .own 103 6]), (101, .rows 3 0 x.2.1), (103, .deep 22 6 [3] x.2.2 none)]
  keep := []
  me := fun x => x.1.toNat
def inv13d (s : St) : Inv where
  X := Int
  ok := fun i => 0 ≤ i ∧ i ≤ (contI s (s.t 70)).length
  sl := fun i => [(72, .int .i64 i), (70, .own 107 0), (15, .own 109 0)]
  hp := fun i => [(107, .rows 3 0 (contI s (s.t 70))), (109, .rows 3 0 (reach' (contI s (s.t 70)) i.toNat))]
  keep := []
  me := fun i => ((contI s (s.t 70)).length - i).toNat
def inv13e (C : List Chg) (A : List NSet) (cap : List Int) (s : St) : Inv where
  X := Int
  ok := fun i => 0 ≤ i ∧ i ≤ C.length
  sl := fun i => [(96, .int .i64 i), (18, .own 111 5)]
  hp := fun i => [(40040, .cells 64 [.irec true 4 A, .own 101 0, .own 103 6]), (101, .rows 3 0 (rowI s (cellN s 40040 1))), (103, .rows 22 6 (deepM s (cellN s 40040 2))), (111, .rows 39 5 (allS C (deepM s (cellN s 40040 2)) cap.length i.toNat))]
  keep := []
  me := fun i => (C.length - i).toNat
  pre := [(true, cellN s 40040 2)]
def inv13f (C : List Chg) (A : List NSet) (cap : List Int) (s : St) : Inv where
  X := Int
  ok := fun t => 0 ≤ t ∧ t ≤ cap.length
  sl := fun t => [(109, .int .i64 t), (18, .own 111 5)]
  hp := fun t => [(40040, .cells 64 [.irec true 4 A, .own 101 0, .own 103 6]), (101, .rows 3 0 (rowI s (cellN s 40040 1))), (103, .rows 22 6 (deepM s (cellN s 40040 2))), (111, .rows 39 5 (allS C (deepM s (cellN s 40040 2)) cap.length (slotI s 96).toNat ++ spotsR (grpAt C (slotI s 96).toNat) (rowAt (deepM s (cellN s 40040 2)) (slotI s 96).toNat) t.toNat))]
  keep := [290030]
  me := fun t => (cap.length - t).toNat
set_option maxRecDepth 100000 in
theorem vc13 (C : List Chg) (A : List NSet) (cap : List Int) (hx : Sml C A cap) : sPlace.vc (EVD Try.prog [(18, sValid.spec), (31, sClone.spec), (32, sSearch.spec), (33, sPush.spec)] (invsS [(5, inv13a C A cap), (9, inv13b C A cap), (12, inv13c C A cap), (17, inv13d), (27, inv13e C A cap), (30, inv13f C A cap)]) noInv [22]) Try.f13 (C, A, cap, ()) := by
  have e : (Sml C A cap ∧ ((!vokB C A cap) = true → ∃ (y : List Spt × List Int × Int), PlaceR C A cap y ∧ (1 : Int) = y.2.2 ∧ NilL Spt = y.1 ∧ NilL Int = y.2.1) ∧ ((!vokB C A cap) = false → cap.length ≤ (1048576 : Nat) ∧ (∃ (x : Int), ((0 : Int) ≤ x ∧ x ≤ (↑C.length : Int)) ∧ (0 : Int) = x ∧ A = A ∧ cap = cap ∧ NilL (List Int) = List.replicate x.toNat (List.replicate cap.length (0 : Int))) ∧ ∀ (x : Int), (0 : Int) ≤ x ∧ x ≤ (↑C.length : Int) → (decide (x < (↑C.length : Int)) = true → ((0 : Int) ≤ (↑cap.length : Int) ∧ (↑cap.length : Int) ≤ (↑cap.length : Int) ∧ (↑(8 : Nat) : Int) * (↑cap.length : Int) ≤ (281474976710656 : Int) ∧ (↑cap.length : Int) ≤ (1099511627776 : Int)) ∧ AV.irec true (0 : Nat) (List.replicate (↑cap.length : Int).toNat (0 : Int)) :: NilL AV = (List.map nrm1 (AV.own (((6 : Nat) + (1 : Nat)) * (10000 : Nat) + ((0 : Nat) + (1 : Nat) + (1 : Nat) + (1 : Nat) + (1 : Nat) + (1 : Nat) + (1 : Nat) + (1 : Nat)) * (10 : Nat) + (1 : Nat)) (0 : Nat) :: NilL AV)).set (0 : Nat) (AV.irec true (0 : Nat) (List.replicate (↑cap.length : Int).toNat (0 : Int))) ∧ (List.replicate x.toNat (List.replicate cap.length (0 : Int))).length + (List.replicate (↑cap.length : Int).toNat (0 : Int) :: NilL (List Int)).length ≤ (68719476736 : Nat) ∧ i64R (x + (1 : Int)) ∧ ∃ (x' : Int), ((0 : Int) ≤ x' ∧ x' ≤ (↑C.length : Int)) ∧ ((↑C.length : Int) - x').toNat < ((↑C.length : Int) - x).toNat ∧ x + (1 : Int) = x' ∧ A = A ∧ cap = cap ∧ List.replicate x.toNat (List.replicate cap.length (0 : Int)) ++ List.replicate (↑cap.length : Int).toNat (0 : Int) :: NilL (List Int) = List.replicate x'.toNat (List.replicate cap.length (0 : Int))) ∧ (decide (x < (↑C.length : Int)) = false → (∃ (x_1 : Int × List Int × List (List Int)), ((0 : Int) ≤ x_1.1 ∧ x_1.1 ≤ (↑C.length : Int) ∧ PV C A cap x_1.2.1 x_1.2.2 x_1.1 (C.getD x_1.1.toNat { grp := (0 : Int), own := (0 : Int) : Chg }).own) ∧ (0 : Int) = x_1.1 ∧ A = A ∧ cap = x_1.2.1 ∧ List.replicate x.toNat (List.replicate cap.length (0 : Int)) = x_1.2.2) ∧ ∀ (x : Int × List Int × List (List Int)), (0 : Int) ≤ x.1 ∧ x.1 ≤ (↑C.length : Int) ∧ PV C A cap x.2.1 x.2.2 x.1 (C.getD x.1.toNat { grp := (0 : Int), own := (0 : Int) : Chg }).own → (decide (x.1 < (↑C.length : Int)) = true → ((0 : Int) ≤ x.1 ∧ x.1 < (↑C.length : Int)) ∧ (∃ (x_1 : Int × List Int × List (List Int)), ((0 : Int) ≤ x_1.1 ∧ x_1.1 ≤ (C.getD x.1.toNat { grp := (0 : Int), own := (0 : Int) : Chg }).own ∧ PV C A cap x_1.2.1 x_1.2.2 x.1 x_1.1) ∧ (C.getD x.1.toNat { grp := (0 : Int), own := (0 : Int) : Chg }).own = x_1.1 ∧ A = A ∧ x.2.1 = x_1.2.1 ∧ x.2.2 = x_1.2.2) ∧ ∀ (x_1 : Int × List Int × List (List Int)), (0 : Int) ≤ x_1.1 ∧ x_1.1 ≤ (C.getD x.1.toNat { grp := (0 : Int), own := (0 : Int) : Chg }).own ∧ PV C A cap x_1.2.1 x_1.2.2 x.1 x_1.1 → (decide ((0 : Int) < x_1.1) = true → (FOK A x_1.2.1 x_1.2.2 ∧ (0 : Int) ≤ x.1 ∧ x.1 < (↑A.length : Int)) ∧ (∀ (y : List Int × List Int × Int), true = true) ∧ ∀ (y : List Int × List Int × Int), Found A x_1.2.1 x_1.2.2 x.1 y.1 y.2.1 y.2.2 → (decide (y.2.2 < (0 : Int)) = true → (∃ (x : Int), ((0 : Int) ≤ x ∧ x ≤ (↑y.1.length : Int)) ∧ (0 : Int) = x ∧ y.1 = y.1 ∧ NilL Int = reach' y.1 x.toNat) ∧ ∀ (x : Int), (0 : Int) ≤ x ∧ x ≤ (↑y.1.length : Int) → (decide (x < (↑y.1.length : Int)) = true → ((0 : Int) ≤ x ∧ x < (↑y.1.length : Int)) ∧ (decide ((0 : Int) ≤ nth y.1 x.toNat) = true → (reach' y.1 x.toNat).length + (x :: NilL Int).length ≤ (68719476736 : Nat) ∧ i64R (x + (1 : Int)) ∧ ∃ (x' : Int), ((0 : Int) ≤ x' ∧ x' ≤ (↑y.1.length : Int)) ∧ ((↑y.1.length : Int) - x').toNat < ((↑y.1.length : Int) - x).toNat ∧ x + (1 : Int) = x' ∧ y.1 = y.1 ∧ reach' y.1 x.toNat ++ x :: NilL Int = reach' y.1 x'.toNat) ∧ (decide ((0 : Int) ≤ nth y.1 x.toNat) = false → i64R (x + (1 : Int)) ∧ ∃ (x' : Int), ((0 : Int) ≤ x' ∧ x' ≤ (↑y.1.length : Int)) ∧ ((↑y.1.length : Int) - x').toNat < ((↑y.1.length : Int) - x).toNat ∧ x + (1 : Int) = x' ∧ y.1 = y.1 ∧ reach' y.1 x.toNat = reach' y.1 x'.toNat)) ∧ (decide (x < (↑y.1.length : Int)) = false → ∃ (y_1 : List Spt × List Int × Int), PlaceR C A cap y_1 ∧ (20 : Int) = y_1.2.2 ∧ NilL Spt = y_1.1 ∧ reach' y.1 x.toNat = y_1.2.1)) ∧ (decide (y.2.2 < (0 : Int)) = false → PPre A x_1.2.1 x_1.2.2 y.1 y.2.1 x.1 y.2.2 x_1.1 ∧ (∀ (y : Int × List (List Int)), true = true) ∧ ∀ (y_1 : Int × List (List Int)), Pushed A x_1.2.1 x_1.2.2 x.1 y.2.2 x_1.1 y_1.1 y_1.2 → i64R (x_1.1 - y_1.1) ∧ ∃ (x' : Int × List Int × List (List Int)), ((0 : Int) ≤ x'.1 ∧ x'.1 ≤ (C.getD x.1.toNat { grp := (0 : Int), own := (0 : Int) : Chg }).own ∧ PV C A cap x'.2.1 x'.2.2 x.1 x'.1) ∧ x'.1.toNat < x_1.1.toNat ∧ x_1.1 - y_1.1 = x'.1 ∧ A = A ∧ x_1.2.1.set y.2.2.toNat (nth x_1.2.1 y.2.2.toNat - y_1.1) = x'.2.1 ∧ y_1.2 = x'.2.2)) ∧ (decide ((0 : Int) < x_1.1) = false → i64R (x.1 + (1 : Int)) ∧ ∃ (x' : Int × List Int × List (List Int)), ((0 : Int) ≤ x'.1 ∧ x'.1 ≤ (↑C.length : Int) ∧ PV C A cap x'.2.1 x'.2.2 x'.1 (C.getD x'.1.toNat { grp := (0 : Int), own := (0 : Int) : Chg }).own) ∧ ((↑C.length : Int) - x'.1).toNat < ((↑C.length : Int) - x.1).toNat ∧ x.1 + (1 : Int) = x'.1 ∧ A = A ∧ x_1.2.1 = x'.2.1 ∧ x_1.2.2 = x'.2.2)) ∧ (decide (x.1 < (↑C.length : Int)) = false → (∃ (x_1 : Int), ((0 : Int) ≤ x_1 ∧ x_1 ≤ (↑C.length : Int)) ∧ (0 : Int) = x_1 ∧ A = A ∧ x.2.1 = x.2.1 ∧ x.2.2 = x.2.2 ∧ NilL Spt = allS C x.2.2 cap.length x_1.toNat) ∧ ∀ (x_1 : Int), (0 : Int) ≤ x_1 ∧ x_1 ≤ (↑C.length : Int) → (decide (x_1 < (↑C.length : Int)) = true → ((0 : Int) ≤ x_1 ∧ x_1 < (↑C.length : Int)) ∧ ((0 : Int) ≤ x_1 ∧ x_1 < (↑x.2.2.length : Int)) ∧ (∃ (x_2 : Int), ((0 : Int) ≤ x_2 ∧ x_2 ≤ (↑cap.length : Int)) ∧ (0 : Int) = x_2 ∧ A = A ∧ x.2.1 = x.2.1 ∧ x.2.2 = x.2.2 ∧ allS C x.2.2 cap.length x_1.toNat = allS C x.2.2 cap.length x_1.toNat ++ spotsR (C.getD x_1.toNat { grp := (0 : Int), own := (0 : Int) : Chg }).grp (rowAt x.2.2 x_1.toNat) x_2.toNat ∧ (C.getD x_1.toNat { grp := (0 : Int), own := (0 : Int) : Chg }).grp = (C.getD x_1.toNat { grp := (0 : Int), own := (0 : Int) : Chg }).grp ∧ (C.getD x_1.toNat { grp := (0 : Int), own := (0 : Int) : Chg }).own = (C.getD x_1.toNat { grp := (0 : Int), own := (0 : Int) : Chg }).own) ∧ ∀ (x_2 : Int), (0 : Int) ≤ x_2 ∧ x_2 ≤ (↑cap.length : Int) → (decide (x_2 < (↑(x.2.2.getD x_1.toNat (NilL Int)).length : Int)) = true → ((0 : Int) ≤ x_2 ∧ x_2 < (↑(x.2.2.getD x_1.toNat (NilL Int)).length : Int)) ∧ (decide ((0 : Int) < nth (x.2.2.getD x_1.toNat (NilL Int)) x_2.toNat) = true → (allS C x.2.2 cap.length x_1.toNat ++ spotsR (C.getD x_1.toNat { grp := (0 : Int), own := (0 : Int) : Chg }).grp (rowAt x.2.2 x_1.toNat) x_2.toNat).length + ({ grp := (C.getD x_1.toNat { grp := (0 : Int), own := (0 : Int) : Chg }).grp, node := x_2, pages := nth (x.2.2.getD x_1.toNat (NilL Int)) x_2.toNat : Spt } :: NilL Spt).length ≤ (68719476736 : Nat) ∧ i64R (x_2 + (1 : Int)) ∧ ∃ (x' : Int), ((0 : Int) ≤ x' ∧ x' ≤ (↑cap.length : Int)) ∧ ((↑cap.length : Int) - x').toNat < ((↑cap.length : Int) - x_2).toNat ∧ x_2 + (1 : Int) = x' ∧ A = A ∧ x.2.1 = x.2.1 ∧ x.2.2 = x.2.2 ∧ allS C x.2.2 cap.length x_1.toNat ++ spotsR (C.getD x_1.toNat { grp := (0 : Int), own := (0 : Int) : Chg }).grp (rowAt x.2.2 x_1.toNat) x_2.toNat ++ { grp := (C.getD x_1.toNat { grp := (0 : Int), own := (0 : Int) : Chg }).grp, node := x_2, pages := nth (x.2.2.getD x_1.toNat (NilL Int)) x_2.toNat : Spt } :: NilL Spt = allS C x.2.2 cap.length x_1.toNat ++ spotsR (C.getD x_1.toNat { grp := (0 : Int), own := (0 : Int) : Chg }).grp (rowAt x.2.2 x_1.toNat) x'.toNat ∧ (C.getD x_1.toNat { grp := (0 : Int), own := (0 : Int) : Chg }).grp = (C.getD x_1.toNat { grp := (0 : Int), own := (0 : Int) : Chg }).grp ∧ (C.getD x_1.toNat { grp := (0 : Int), own := (0 : Int) : Chg }).own = (C.getD x_1.toNat { grp := (0 : Int), own := (0 : Int) : Chg }).own) ∧ (decide ((0 : Int) < nth (x.2.2.getD x_1.toNat (NilL Int)) x_2.toNat) = false → i64R (x_2 + (1 : Int)) ∧ ∃ (x' : Int), ((0 : Int) ≤ x' ∧ x' ≤ (↑cap.length : Int)) ∧ ((↑cap.length : Int) - x').toNat < ((↑cap.length : Int) - x_2).toNat ∧ x_2 + (1 : Int) = x' ∧ A = A ∧ x.2.1 = x.2.1 ∧ x.2.2 = x.2.2 ∧ allS C x.2.2 cap.length x_1.toNat ++ spotsR (C.getD x_1.toNat { grp := (0 : Int), own := (0 : Int) : Chg }).grp (rowAt x.2.2 x_1.toNat) x_2.toNat = allS C x.2.2 cap.length x_1.toNat ++ spotsR (C.getD x_1.toNat { grp := (0 : Int), own := (0 : Int) : Chg }).grp (rowAt x.2.2 x_1.toNat) x'.toNat ∧ (C.getD x_1.toNat { grp := (0 : Int), own := (0 : Int) : Chg }).grp = (C.getD x_1.toNat { grp := (0 : Int), own := (0 : Int) : Chg }).grp ∧ (C.getD x_1.toNat { grp := (0 : Int), own := (0 : Int) : Chg }).own = (C.getD x_1.toNat { grp := (0 : Int), own := (0 : Int) : Chg }).own)) ∧ (decide (x_2 < (↑(x.2.2.getD x_1.toNat (NilL Int)).length : Int)) = false → i64R (x_1 + (1 : Int)) ∧ ∃ (x' : Int), ((0 : Int) ≤ x' ∧ x' ≤ (↑C.length : Int)) ∧ ((↑C.length : Int) - x').toNat < ((↑C.length : Int) - x_1).toNat ∧ x_1 + (1 : Int) = x' ∧ A = A ∧ x.2.1 = x.2.1 ∧ x.2.2 = x.2.2 ∧ allS C x.2.2 cap.length x_1.toNat ++ spotsR (C.getD x_1.toNat { grp := (0 : Int), own := (0 : Int) : Chg }).grp (rowAt x.2.2 x_1.toNat) x_2.toNat = allS C x.2.2 cap.length x'.toNat)) ∧ (decide (x_1 < (↑C.length : Int)) = false → ∃ (y : List Spt × List Int × Int), PlaceR C A cap y ∧ (0 : Int) = y.2.2 ∧ allS C x.2.2 cap.length x_1.toNat = y.1 ∧ NilL Int = y.2.1))))) = sPlace.vc (EVD Try.prog [(18, sValid.spec), (31, sClone.spec), (32, sSearch.spec), (33, sPush.spec)] (invsS [(5, inv13a C A cap), (9, inv13b C A cap), (12, inv13c C A cap), (17, inv13d), (27, inv13e C A cap), (30, inv13f C A cap)]) noInv [22]) Try.f13 (C, A, cap, ()) := by kernel_rfl
  rw [← e]
  clear e
  simp only [imp_self, true_and, and_true, exists_const, implies_true, gd1, gd2, gd3, gd4, gd5, gd6 ]
  simp only [Prod.forall, Prod.exists, exists_const, implies_true, not_true_eq_false, not_false_eq_true, or_self, or_false, false_or, or_true, true_or, and_false, false_and, forall_const, true_and, and_true, i64R, imp_self, Int.reduceLE, Int.reduceLT, Int.reduceNeg, false_implies, true_implies, decide_eq_true_eq, decide_eq_false_iff_not, Bool.not_eq_true', Bool.not_eq_false', Bool.true_eq_false, Bool.false_eq_true, Bool.and_eq_true, Bool.or_eq_true, Bool.and_eq_false_iff, Bool.or_eq_false_iff ]
  simp only [NilL_eq]
  have hO : ∀ z, (C.getD z { grp := 0, own := 0 }).own = ownAt C z := fun _ => rfl
  have hG : ∀ z, (C.getD z { grp := 0, own := 0 }).grp = grpAt C z := fun _ => rfl
  have hMR : ∀ (X : List (List Int)) z, X.getD z [] = rowAt X z := fun _ _ => rfl
  simp only [hO, hG, hMR]
  refine ⟨hx, fun h => ⟨[], [], 1, .inl ⟨vokB_f.1 h, rfl⟩, rfl, rfl, rfl⟩, fun hv => ?_⟩
  rw [vokB_t] at hv
  have c8 := hv.c8
  have d64 := hv.d64
  have own : ∀ r, r < C.length → 0 ≤ ownAt C r ∧ ownAt C r ≤ 16777216 := fun r hr => by have := (hv.chg r hr).2.2; omega
  refine ⟨by omega, ⟨0, ⟨by omega, by omega⟩, rfl, rfl⟩, fun i hi => ⟨fun hlt => ?_, fun hge => ?_⟩⟩
  · refine ⟨⟨by omega, by omega, by omega, by omega⟩, rfl, by simp; omega, by omega, i + 1, by omega, by omega, rfl, ?_⟩
    rw [show (i + 1).toNat = i.toNat + 1 by omega, List.replicate_succ']; rfl
  · refine ⟨⟨0, cap, List.replicate C.length (List.replicate cap.length 0), ⟨by omega, by omega, PV.start hv⟩, rfl, rfl, by rw [show i.toNat = C.length by omega]⟩, fun a L M hP => ?_⟩
    obtain ⟨a0, a1, hP⟩ := hP
    refine ⟨fun hlt => ⟨⟨a0, hlt⟩, ⟨ownAt C a.toNat, L, M, ⟨(own _ (by omega)).1, Int.le_refl _, hP⟩, rfl, rfl, rfl⟩, fun k L1 M1 hK => ?_⟩, fun hge => ?_⟩
    · obtain ⟨k0, kb, hK⟩ := hK
      have hla := hv.la
      have ob := own a.toNat (by omega)
      refine ⟨fun hk => ⟨⟨hK.f.ok, a0, by omega⟩, fun N D e hF => ⟨fun he => ?_, fun he => ?_⟩⟩, fun hk => ⟨by omega, a + 1, L1, M1, ⟨by omega, by omega, hK.next (by omega) a0⟩, by omega, rfl, rfl, rfl⟩⟩
      · have hFull : Full A L1 M1 a N D := by
          rcases hF.e with ⟨_, e2⟩ | ⟨e1, _⟩
          · exact e2
          · omega
        have hnl := hF.s.ln
        have hll := hK.ll
        have hrl : ∀ j : Nat, (reach' N j).length ≤ j := fun j => by
          induction j with
          | zero => simp [reach']
          | succ j ih => rw [reach', List.length_append]; split <;> simp <;> omega
        refine ⟨⟨0, ⟨by omega, by omega⟩, rfl, rfl⟩, fun j hj => ⟨fun hjl => ⟨⟨hj.1, hjl⟩, fun hN => ⟨?_, by omega, j + 1, by omega, by omega, rfl, ?_⟩, fun hN => ⟨by omega, j + 1, by omega, by omega, rfl, ?_⟩⟩, fun hjg => ⟨[], reach' N L1.length, 20, .inr (.inr ⟨hv, rfl, hK.refuse hv hk kb hF.s hFull, rfl⟩), rfl, rfl, by rw [show j.toNat = L1.length by omega]⟩⟩⟩
        · have := hrl j.toNat
          simp only [List.length_cons, List.length_nil]; omega
        · rw [show (j + 1).toNat = j.toNat + 1 by omega, reach', if_pos hN, show ((j.toNat : Nat) : Int) = j by omega]
        · rw [show (j + 1).toNat = j.toNat + 1 by omega, reach', if_neg hN, List.append_nil]
      · have hE : 0 ≤ e ∧ e < L1.length := by
          rcases hF.e with ⟨e1, _⟩ | ⟨e1, e2, _⟩
          · omega
          · exact ⟨e1, e2⟩
        refine ⟨hK.pre hv a0 hlt hk kb hF hE.1, fun c M' hp => ?_⟩
        have c0 := hp.c0
        have ck := hp.ck
        exact ⟨by omega, k - c, _, M', ⟨by omega, by omega, hK.push hv hE.1 hE.2 hp⟩, by omega, rfl, rfl, rfl⟩
    · have ea : a = C.length := by omega
      have hpl := hP.plc ea
      have hsr : ∀ (g : Int) (r : List Int) (j : Nat), (spotsR g r j).length ≤ j := fun g r j => by
        induction j with
        | zero => simp [spotsR]
        | succ j ih => rw [spotsR, List.length_append]; split <;> simp <;> omega
      have hal : ∀ j : Nat, (allS C M cap.length j).length ≤ 8 * j := fun j => by
        induction j with
        | zero => simp [allS]
        | succ j ih => rw [allS, List.length_append]; have := hsr (grpAt C j) (rowAt M j) cap.length; omega
      have hlm := hpl.lm
      refine ⟨⟨0, ⟨by omega, by omega⟩, rfl, rfl⟩, fun r hr => ⟨fun hlt => ?_, fun hge2 => ⟨allS C M cap.length C.length, [], 0, .inr (.inl ⟨hv, ⟨M, hpl, rfl⟩, rfl, rfl⟩), rfl, by rw [show r.toNat = C.length by omega], rfl⟩⟩⟩
      have hrl := hpl.row r.toNat (by omega)
      refine ⟨⟨hr.1, hlt⟩, ⟨hr.1, by omega⟩, ⟨0, ⟨by omega, by omega⟩, rfl, (List.append_nil _).symm⟩, fun j hj => ⟨fun hjl => ⟨⟨hj.1, hjl⟩, fun hp => ⟨?_, by omega, j + 1, by omega, by omega, rfl, ?_⟩, fun hp => ⟨by omega, j + 1, by omega, by omega, rfl, ?_⟩⟩, fun hjg => ⟨by omega, r + 1, by omega, by omega, rfl, ?_⟩⟩⟩
      · have h1 := hal r.toNat
        have h2 := hsr (grpAt C r.toNat) (rowAt M r.toNat) j.toNat
        simp only [List.length_append, List.length_cons, List.length_nil]; omega
      · rw [show (j + 1).toNat = j.toNat + 1 by omega, spotsR, if_pos hp, show ((j.toNat : Nat) : Int) = j by omega, List.append_assoc]
      · rw [show (j + 1).toNat = j.toNat + 1 by omega, spotsR, if_neg hp, List.append_nil]
      · rw [show (r + 1).toNat = r.toNat + 1 by omega, allS, show j.toNat = cap.length by omega]
end Go.Proofs.Ytompifpamldjaaa
