/-
  Lemmas and contracts on the way to the laws of this seat; each theorem states its own conditions, and there are no others.
-/
import Derived.Test.YtgaeomkjpcpogaaVE

namespace Go.Proofs.Ytgaeomkjpcpogaa
open Go
set_option linter.unusedVariables false
set_option linter.unusedSimpArgs false
set_option linter.unusedVariables false

def exS : Stp := ⟨12, 0, 0, 0⟩
def fkS (n : Int) : Stp := ⟨9, 0, n - 1, 0⟩
def zS : Stp := ⟨0, 0, 0, 0⟩
/-- Programs with one step, the first i of them. -/
def P1 (n i : Int) : List (List Stp) := List.replicate i.toNat [exS] ++ List.replicate (n - i).toNat []
/-- Steps that fork, the first k of them. -/
def forks (n m k : Int) : List Stp := List.replicate k.toNat (fkS n) ++ List.replicate (m - k).toNat zS
def P2 (n m i : Int) : List (List Stp) := if i = 0 then P1 n n else forks n m m :: List.replicate (n - 1).toNat [exS]
def rowsG (s : St) (v : AV) : List (List Stp) := match v with
  | .own id _ => (match s.h id with
    | some (.deep _ 4 _ l _) => l
    | _ => [])
  | _ => []
theorem P1_zero {n : Int} : List.replicate n.toNat [] = P1 n 0 := by simp [P1]
theorem P1_len {n i : Int} (h : 0 ≤ i ∧ i ≤ n) : (P1 n i).length = n.toNat := by simp [P1]; omega
theorem P1_all {n : Int} : P1 n n = List.replicate n.toNat [exS] := by simp [P1]
theorem set_mid {α : Type} (a b : α) (i j : Nat) : (List.replicate i a ++ List.replicate (j + 1) b).set i a = List.replicate (i + 1) a ++ List.replicate j b := by
  rw [List.set_append_right _ _ (by simp), List.length_replicate, Nat.sub_self, List.replicate_succ, List.set_cons_zero]
  rw [List.replicate_succ', List.append_assoc]; rfl
theorem P1_set {n i : Int} (h : 0 ≤ i ∧ i < n) : (P1 n i).set i.toNat [exS] = P1 n (i + 1) := by
  have e1 : (i + 1).toNat = i.toNat + 1 := by omega
  have e2 : (n - i).toNat = (n - (i + 1)).toNat + 1 := by omega
  rw [P1, P1, e1, e2, set_mid]
theorem forks_zero {n m : Int} : List.replicate m.toNat zS = forks n m 0 := by simp [forks]
theorem forks_len {n m k : Int} (h : 0 ≤ k ∧ k ≤ m) : (forks n m k).length = m.toNat := by simp [forks]; omega
theorem forks_set {n m k : Int} (h : 0 ≤ k ∧ k < m) : (forks n m k).set k.toNat (fkS n) = forks n m (k + 1) := by
  have e1 : (k + 1).toNat = k.toNat + 1 := by omega
  have e2 : (m - k).toNat = (m - (k + 1)).toNat + 1 := by omega
  rw [forks, forks, e1, e2, set_mid]
theorem forks_all {n m : Int} : forks n m m = List.replicate m.toNat (fkS n) := by simp [forks]
theorem P2_set {n m : Int} (h : 1 ≤ n) (l : List Stp) : (P2 n m 0).set 0 l = l :: List.replicate (n - 1).toNat [exS] := by
  have e : n.toNat = (n - 1).toNat + 1 := by omega
  rw [P2, if_pos rfl, P1_all, e, List.replicate_succ, List.set_cons_zero]
theorem ok_exit {n : Int} : okPrg n [exS] := ⟨by simp, by simp, fun j hj => by
  have : j = 0 := by simpa using hj
  subst this
  exact ⟨by decide, by show okNone exS = true; decide⟩⟩
theorem ok_forks {n m : Int} (h : 1 ≤ n) (h1 : 1 ≤ m) (h2 : m ≤ 64) : okPrg n (forks n m m) := by
  rw [forks_all]
  refine ⟨by simp; omega, by simp; omega, fun j hj => ?_⟩
  have hj' : j < m.toNat := by simpa using hj
  have e : st (List.replicate m.toNat (fkS n)) j = fkS n := by simp [st, List.getD_eq_getElem?_getD, hj']
  rw [e]
  refine ⟨by show inb 9 1 12 = true; decide, ?_⟩
  show okFork (fkS n) n = true
  simp [okFork, fkS, inb]
  omega
theorem no_forks {n m : Int} (h0 : 0 ≤ m) (h : ¬ (1 ≤ m ∧ m ≤ 64)) : ¬ okPrg n (forks n m m) := fun hk => by
  have h1 := hk.1
  have h2 := hk.2.1
  rw [forks_len ⟨h0, Int.le_refl _⟩] at h1 h2
  omega
theorem P2_valid {n m i : Int} (hn : 0 ≤ n) (hm : 0 ≤ m) (hi : (0 ≤ i ∧ i ≤ 1) ∧ (i = 1 → 1 ≤ n)) (hx : ¬ i < n ∨ ¬ i < 1) : (P2 n m i).length = n.toNat ∧ (ValidP (P2 n m i) ↔ n ≤ 32 ∧ (n = 0 ∨ 1 ≤ m ∧ m ≤ 64)) := by
  by_cases e : i = 0
  · have e2 : n = 0 := by omega
    subst e e2
    refine ⟨by simp [P2, P1], ?_⟩
    have : P2 0 m 0 = [] := by simp [P2, P1]
    rw [this]
    exact ⟨fun _ => ⟨by omega, .inl rfl⟩, fun _ => ⟨by simp, fun k hk => absurd hk (by simp)⟩⟩
  · have e1 : i = 1 := by omega
    subst e1
    have hn1 := hi.2 rfl
    have ep : P2 n m 1 = forks n m m :: List.replicate (n - 1).toNat [exS] := by rw [P2, if_neg (by omega)]
    rw [ep]
    have el : (forks n m m :: List.replicate (n - 1).toNat [exS]).length = n.toNat := by simp; omega
    refine ⟨el, ?_⟩
    have ec : ((forks n m m :: List.replicate (n - 1).toNat [exS]).length : Int) = n := by rw [el]; omega
    constructor
    · rintro ⟨h1, h2⟩
      have := h2 0 (by rw [el]; omega)
      rw [ec] at this
      refine ⟨by omega, .inr ?_⟩
      exact Decidable.byContradiction fun h => no_forks hm h this
    · rintro ⟨h1, h2⟩
      refine ⟨by omega, fun k hk => ?_⟩
      rw [ec]
      cases k with
      | zero => exact ok_forks hn1 (by omega) (by omega)
      | succ k =>
        have hk' : k < (n - 1).toNat := by rw [el] at hk; omega
        have : pr (forks n m m :: List.replicate (n - 1).toNat [exS]) (k + 1) = [exS] := by
          show (List.replicate (n - 1).toNat [exS]).getD k _ = _
          rw [List.getD_eq_getElem?_getD, List.getElem?_replicate, if_pos hk']; rfl
        rw [this]; exact ok_exit
def sLaw3 : DS := ⟨_, two pkI pkI, fun _ => True, fun _ => .bool true, nou⟩

def inv3a (s : St) : Inv where
  X := Int
  ok := fun i => 0 ≤ i ∧ i ≤ slotI s 0
  sl := fun i => [(6, .int .i64 i), (5, .own 101 4)]
  hp := fun i => [(101, .deep 31 4 [28] (P1 (slotI s 0) i) none)]
  keep := []
  me := fun i => (slotI s 0 - i).toNat
def inv3b (s : St) : Inv where
  X := Int
  ok := fun i => (0 ≤ i ∧ i ≤ 1) ∧ (i = 1 → 1 ≤ slotI s 0)
  sl := fun i => [(7, .int .i64 i), (5, .own 101 4)]
  hp := fun i => [(101, .deep 31 4 [28] (P2 (slotI s 0) (slotI s 1) i) none)]
  keep := []
  me := fun i => (1 - i).toNat
def inv3c (s : St) : Inv where
  X := Int
  ok := fun k => 0 ≤ k ∧ k ≤ slotI s 1
  sl := fun k => [(8, .int .i64 k), (5, .own 101 4)]
  hp := fun k => [(101, .deep 31 4 [28] (forks (slotI s 0) (slotI s 1) k :: List.replicate (slotI s 0 - 1).toNat [exS]) none)]
  keep := []
  me := fun k => (slotI s 1 - k).toNat
  pre2 := [(false, 101)]
set_option maxRecDepth 100000 in
theorem vc3 (a b : Int) (hx : True) : sLaw3.vc (EVD Try.prog [(8, sRoll.spec), (9, sNext.spec), (10, sValid.spec), (11, sStart.spec), (12, sSane.spec)] (invsS [(4, inv3a), (8, inv3b), (12, inv3c)]) noInv [31]) Try.f3 (a, b, ()) := by
  have e : (True ∧ (DOK (a :: NilL Int, (0 : Int)) ∧ (35 : Int) ≤ (4611686018427387904 : Int)) ∧ (∀ (y : Int × Int), true = true) ∧ ∀ (y : Int × Int), ((1 : Int) ≤ (35 : Int) → (0 : Int) ≤ y.1 ∧ y.1 < (35 : Int)) ∧ ((35 : Int) < (1 : Int) → y.1 = (0 : Int)) ∧ (0 : Int) ≤ y.2 ∧ y.2 ≤ (↑(a :: NilL Int).length : Int) → True ∧ (DOK (b :: NilL Int, (0 : Int)) ∧ (67 : Int) ≤ (4611686018427387904 : Int)) ∧ (∀ (y : Int × Int), true = true) ∧ ∀ (y_1 : Int × Int), ((1 : Int) ≤ (67 : Int) → (0 : Int) ≤ y_1.1 ∧ y_1.1 < (67 : Int)) ∧ ((67 : Int) < (1 : Int) → y_1.1 = (0 : Int)) ∧ (0 : Int) ≤ y_1.2 ∧ y_1.2 ≤ (↑(b :: NilL Int).length : Int) → ((0 : Int) ≤ y.1 ∧ y.1 ≤ y.1 ∧ (↑(24 : Nat) : Int) * y.1 ≤ (281474976710656 : Int) ∧ y.1 ≤ (1099511627776 : Int)) ∧ (∃ (x : Int), ((0 : Int) ≤ x ∧ x ≤ y.1) ∧ (0 : Int) = x ∧ List.replicate y.1.toNat (NilL Stp) = P1 y.1 x) ∧ ∀ (x : Int), (0 : Int) ≤ x ∧ x ≤ y.1 → (decide (x < y.1) = true → ((0 : Int) ≤ x ∧ x < (↑(P1 y.1 x).length : Int)) ∧ AV.irec true (3 : Nat) ({ k := (12 : Int), n := (0 : Int), a := (0 : Int), t := (0 : Int) : Stp } :: NilL Stp) :: NilL AV = (AV.irec true (3 : Nat) ((P1 y.1 x).getD x.toNat (NilL Stp)) :: NilL AV).set ((0 : Nat) + (0 : Nat)) (AV.irec true (3 : Nat) ({ k := (12 : Int), n := (0 : Int), a := (0 : Int), t := (0 : Int) : Stp } :: NilL Stp)) ∧ i64R (x + (1 : Int)) ∧ ∃ (x' : Int), ((0 : Int) ≤ x' ∧ x' ≤ y.1) ∧ (y.1 - x').toNat < (y.1 - x).toNat ∧ x + (1 : Int) = x' ∧ (P1 y.1 x).set x.toNat ({ k := (12 : Int), n := (0 : Int), a := (0 : Int), t := (0 : Int) : Stp } :: NilL Stp) = P1 y.1 x') ∧ (decide (x < y.1) = false → (∃ (x_1 : Int), (((0 : Int) ≤ x_1 ∧ x_1 ≤ (1 : Int)) ∧ (x_1 = (1 : Int) → (1 : Int) ≤ y.1)) ∧ (0 : Int) = x_1 ∧ P1 y.1 x = P2 y.1 y_1.1 x_1) ∧ ∀ (x : Int), ((0 : Int) ≤ x ∧ x ≤ (1 : Int)) ∧ (x = (1 : Int) → (1 : Int) ≤ y.1) → (decide (x < y.1) = true → decide (x < y.1) = true) ∧ (decide (x < y.1) = true → decide (x < y.1) = true) ∧ ((decide (x < y.1) && decide (x < (1 : Int))) = true → ((0 : Int) ≤ y_1.1 ∧ y_1.1 ≤ y_1.1 ∧ (↑(32 : Nat) : Int) * y_1.1 ≤ (281474976710656 : Int) ∧ y_1.1 ≤ (1099511627776 : Int)) ∧ ((0 : Int) ≤ x ∧ x < (↑(P2 y.1 y_1.1 x).length : Int)) ∧ AV.irec true (3 : Nat) (List.replicate y_1.1.toNat { k := (0 : Int), n := (0 : Int), a := (0 : Int), t := (0 : Int) : Stp }) :: NilL AV = (AV.irec true (3 : Nat) ((P2 y.1 y_1.1 x).getD x.toNat (NilL Stp)) :: NilL AV).set ((0 : Nat) + (0 : Nat)) (AV.irec true (3 : Nat) (List.replicate y_1.1.toNat { k := (0 : Int), n := (0 : Int), a := (0 : Int), t := (0 : Int) : Stp })) ∧ (∃ (x_1 : Int), ((0 : Int) ≤ x_1 ∧ x_1 ≤ y_1.1) ∧ (0 : Int) = x_1 ∧ (P2 y.1 y_1.1 x).set x.toNat (List.replicate y_1.1.toNat { k := (0 : Int), n := (0 : Int), a := (0 : Int), t := (0 : Int) : Stp }) = forks y.1 y_1.1 x_1 :: List.replicate (y.1 - (1 : Int)).toNat (exS :: NilL Stp)) ∧ ∀ (x_1 : Int), (0 : Int) ≤ x_1 ∧ x_1 ≤ y_1.1 → (decide (x_1 < y_1.1) = true → ((0 : Int) ≤ x ∧ x < (↑(forks y.1 y_1.1 x_1 :: List.replicate (y.1 - (1 : Int)).toNat (exS :: NilL Stp)).length : Int)) ∧ i64R (y.1 - (1 : Int)) ∧ ((0 : Int) ≤ x_1 ∧ x_1 < (↑((forks y.1 y_1.1 x_1 :: List.replicate (y.1 - (1 : Int)).toNat (exS :: NilL Stp)).getD x.toNat (NilL Stp)).length : Int)) ∧ i64R (x_1 + (1 : Int)) ∧ AV.irec true (3 : Nat) (((forks y.1 y_1.1 x_1 :: List.replicate (y.1 - (1 : Int)).toNat (exS :: NilL Stp)).getD x.toNat (NilL Stp)).set x_1.toNat { k := (9 : Int), n := (0 : Int), a := y.1 - (1 : Int), t := (0 : Int) : Stp }) :: NilL AV = (AV.irec true (3 : Nat) ((forks y.1 y_1.1 x_1 :: List.replicate (y.1 - (1 : Int)).toNat (exS :: NilL Stp)).getD x.toNat (NilL Stp)) :: NilL AV).set ((0 : Nat) + (0 : Nat)) (AV.irec true (3 : Nat) (((forks y.1 y_1.1 x_1 :: List.replicate (y.1 - (1 : Int)).toNat (exS :: NilL Stp)).getD x.toNat (NilL Stp)).set x_1.toNat { k := (9 : Int), n := (0 : Int), a := y.1 - (1 : Int), t := (0 : Int) : Stp })) ∧ ∃ (x' : Int), ((0 : Int) ≤ x' ∧ x' ≤ y_1.1) ∧ (y_1.1 - x').toNat < (y_1.1 - x_1).toNat ∧ x_1 + (1 : Int) = x' ∧ (forks y.1 y_1.1 x_1 :: List.replicate (y.1 - (1 : Int)).toNat (exS :: NilL Stp)).set x.toNat (((forks y.1 y_1.1 x_1 :: List.replicate (y.1 - (1 : Int)).toNat (exS :: NilL Stp)).getD x.toNat (NilL Stp)).set x_1.toNat { k := (9 : Int), n := (0 : Int), a := y.1 - (1 : Int), t := (0 : Int) : Stp }) = forks y.1 y_1.1 x' :: List.replicate (y.1 - (1 : Int)).toNat (exS :: NilL Stp)) ∧ (decide (x_1 < y_1.1) = false → i64R (x + (1 : Int)) ∧ ∃ (x' : Int), (((0 : Int) ≤ x' ∧ x' ≤ (1 : Int)) ∧ (x' = (1 : Int) → (1 : Int) ≤ y.1)) ∧ ((1 : Int) - x').toNat < ((1 : Int) - x).toNat ∧ x + (1 : Int) = x' ∧ forks y.1 y_1.1 x_1 :: List.replicate (y.1 - (1 : Int)).toNat (exS :: NilL Stp) = P2 y.1 y_1.1 x')) ∧ ((decide (x < y.1) && decide (x < (1 : Int))) = false → (decide (y.1 ≤ (32 : Int)) = true → decide (y.1 ≤ (32 : Int)) = true) ∧ (decide (y.1 ≤ (32 : Int)) = true → decide (y.1 ≤ (32 : Int)) = true) ∧ ((decide (y.1 ≤ (32 : Int)) && !decide (y.1 = (0 : Int))) = true → (decide (y.1 ≤ (32 : Int)) && !decide (y.1 = (0 : Int))) = true) ∧ ((decide (y.1 ≤ (32 : Int)) && !decide (y.1 = (0 : Int))) = true → (decide (y.1 ≤ (32 : Int)) && !decide (y.1 = (0 : Int))) = true) ∧ ((decide (y.1 ≤ (32 : Int)) && !decide (y.1 = (0 : Int)) && decide ((1 : Int) ≤ y_1.1)) = true → (decide (y.1 ≤ (32 : Int)) && !decide (y.1 = (0 : Int)) && decide ((1 : Int) ≤ y_1.1)) = true) ∧ ((decide (y.1 ≤ (32 : Int)) && !decide (y.1 = (0 : Int))) = true → (decide (y.1 ≤ (32 : Int)) && !decide (y.1 = (0 : Int))) = true) ∧ ((decide (y.1 ≤ (32 : Int)) && !decide (y.1 = (0 : Int))) = true → decide ((1 : Int) ≤ y_1.1) = true → (decide (y.1 ≤ (32 : Int)) && !decide (y.1 = (0 : Int)) && decide ((1 : Int) ≤ y_1.1)) = true) ∧ (decide (y.1 ≤ (32 : Int)) = true → decide (y.1 ≤ (32 : Int)) = true) ∧ (decide (y.1 ≤ (32 : Int)) = true → decide (y.1 = (0 : Int)) = false → (decide (y.1 ≤ (32 : Int)) && !decide (y.1 = (0 : Int))) = true) ∧ (decide (y.1 ≤ (32 : Int)) = true → decide (y.1 ≤ (32 : Int)) = true) ∧ True ∧ ((validB (P2 y.1 y_1.1 x) != (decide (y.1 ≤ (32 : Int)) && (decide (y.1 = (0 : Int)) || decide ((1 : Int) ≤ y_1.1) && decide (y_1.1 ≤ (64 : Int))))) = true → ∃ (y : Unit), True ∧ false = true) ∧ ((validB (P2 y.1 y_1.1 x) != (decide (y.1 ≤ (32 : Int)) && (decide (y.1 = (0 : Int)) || decide ((1 : Int) ≤ y_1.1) && decide (y_1.1 ≤ (64 : Int))))) = false → i64R (y.1 - (1 : Int)) ∧ True ∧ ((!(decide (y.1 ≤ (32 : Int)) && (decide (y.1 = (0 : Int)) || decide ((1 : Int) ≤ y_1.1) && decide (y_1.1 ≤ (64 : Int))))) = true → (decide (startE (P2 y.1 y_1.1 x) (1 : Int) (y.1 - (1 : Int)) = (1 : Int)) = true → True) ∧ (decide (startE (P2 y.1 y_1.1 x) (1 : Int) (y.1 - (1 : Int)) = (1 : Int)) = true → decide (startE (P2 y.1 y_1.1 x) (1 : Int) (y.1 - (1 : Int)) = (1 : Int)) = true) ∧ ∃ (y_2 : Unit), True ∧ (decide (startE (P2 y.1 y_1.1 x) (1 : Int) (y.1 - (1 : Int)) = (1 : Int)) && true) = true) ∧ ((!(decide (y.1 ≤ (32 : Int)) && (decide (y.1 = (0 : Int)) || decide ((1 : Int) ≤ y_1.1) && decide (y_1.1 ≤ (64 : Int))))) = false → (decide (y.1 = (0 : Int)) = true → (decide (startE (P2 y.1 y_1.1 x) (1 : Int) (y.1 - (1 : Int)) = (4 : Int)) = true → True) ∧ (decide (startE (P2 y.1 y_1.1 x) (1 : Int) (y.1 - (1 : Int)) = (4 : Int)) = true → decide (startE (P2 y.1 y_1.1 x) (1 : Int) (y.1 - (1 : Int)) = (4 : Int)) = true) ∧ ∃ (y_2 : Unit), True ∧ (decide (startE (P2 y.1 y_1.1 x) (1 : Int) (y.1 - (1 : Int)) = (4 : Int)) && true) = true) ∧ (decide (y.1 = (0 : Int)) = false → (decide (startE (P2 y.1 y_1.1 x) (1 : Int) (y.1 - (1 : Int)) = (0 : Int)) = true → True) ∧ (decide (startE (P2 y.1 y_1.1 x) (1 : Int) (y.1 - (1 : Int)) = (0 : Int)) = true → decide (startE (P2 y.1 y_1.1 x) (1 : Int) (y.1 - (1 : Int)) = (0 : Int)) = true) ∧ ∃ (y_2 : Unit), True ∧ (decide (startE (P2 y.1 y_1.1 x) (1 : Int) (y.1 - (1 : Int)) = (0 : Int)) && true) = true)))))) = sLaw3.vc (EVD Try.prog [(8, sRoll.spec), (9, sNext.spec), (10, sValid.spec), (11, sStart.spec), (12, sSane.spec)] (invsS [(4, inv3a), (8, inv3b), (12, inv3c)]) noInv [31]) Try.f3 (a, b, ()) := by kernel_rfl
  rw [← e]
  clear e
  simp only [imp_self, true_and, and_true, exists_const, implies_true, gd1, gd2, gd3, gd4, gd5, gd6 ]
  simp only [Prod.forall, Prod.exists, exists_const, implies_true, not_true_eq_false, not_false_eq_true, or_self, or_false, false_or, or_true, true_or, and_false, false_and, forall_const, true_and, and_true, i64R, imp_self, Int.reduceLE, Int.reduceLT, Int.reduceNeg, false_implies, true_implies, decide_eq_true_eq, decide_eq_false_iff_not, Bool.not_eq_true', Bool.not_eq_false', Bool.true_eq_false, Bool.false_eq_true, Bool.and_eq_true, Bool.or_eq_true, Bool.and_eq_false_iff, Bool.or_eq_false_iff ]
  simp only [NilL_eq]
  refine ⟨⟨by omega, by simp, by simp⟩, fun n j1 h1 => ⟨⟨by omega, by simp, by simp⟩, fun m j2 h2 => ⟨by omega, ⟨0, by omega, rfl, P1_zero⟩, fun i hi => ⟨fun hlt => ?_, fun hge => ?_⟩⟩⟩⟩
  · have := P1_len hi
    exact ⟨by omega, rfl, by omega, i + 1, by omega, by omega, rfl, P1_set ⟨hi.1, hlt⟩⟩
  have ei : i = n := by omega
  subst ei
  refine ⟨⟨0, ⟨by omega, fun h => by omega⟩, rfl, by rw [P2, if_pos rfl]⟩, fun x hx => ⟨fun hlt => ?_, fun hge => ?_⟩⟩
  · have ex : x = 0 := by omega
    subst ex
    have hl : (P2 i m 0).length = i.toNat := by rw [P2, if_pos rfl, P1_len ⟨by omega, by omega⟩]
    have e0 : Int.toNat 0 = 0 := rfl
    refine ⟨by omega, by omega, rfl, ⟨0, by omega, rfl, ?_⟩, fun k hk => ⟨fun hkl => ?_, fun hkg => ?_⟩⟩
    · rw [e0, P2_set (by omega)]
      congr 1
      exact forks_zero
    · have := forks_len (n := i) hk
      refine ⟨by first | (simp; done) | (simp; omega), by omega, ?_, by omega, rfl, k + 1, by omega, by omega, rfl, ?_⟩
      · show 0 ≤ k ∧ k < ((forks i m k).length : Int)
        omega
      · show (forks i m k).set k.toNat (fkS i) :: _ = _
        rw [forks_set ⟨hk.1, hkl⟩]
    · have ek : k = m := by omega
      subst ek
      exact ⟨by omega, 1, ⟨by omega, fun _ => by omega⟩, by omega, rfl, by rw [P2, if_neg (by omega)]⟩
  · obtain ⟨pl, pv⟩ := P2_valid (m := m) (by omega) (by omega) hx hge
    have hb : validB (P2 i m x) = (decide (i ≤ 32) && (decide (i = 0) || decide (1 ≤ m) && decide (m ≤ 64))) := by
      rw [Bool.eq_iff_iff, validB_iff, pv]
      simp
    refine ⟨fun h1 h2 => ⟨h1, h2⟩, fun h => ?_, fun _ => ⟨by omega, fun h => ?_, fun h => ⟨fun h0 => ?_, fun h0 => ?_⟩⟩⟩
    · rw [hb] at h; simp at h
    · have : ¬ validB (P2 i m x) = true := by rw [validB_iff, pv]; omega
      rw [startE, if_neg this]
    · have : validB (P2 i m x) = true := by rw [validB_iff, pv]; omega
      rw [startE, if_pos this, if_neg (by omega)]
    · have : validB (P2 i m x) = true := by rw [validB_iff, pv]; omega
      rw [startE, if_pos this, if_pos (by omega), if_pos (by omega)]
end Go.Proofs.Ytgaeomkjpcpogaa
