/-
  Lemmas and contracts on the way to the laws of this seat; each theorem states its own conditions, and there are no others.
-/
import Derived.Test.YtemffnpliflkgaaQP
import Derived.Test.YtemffnpliflkgaaVD

namespace Go.Proofs.Ytemffnpliflkgaa
open Go
set_option linter.unusedVariables false
set_option linter.unusedSimpArgs false
set_option linter.unusedVariables false

def sWithin : DS := ⟨_, three pkI pkI pkI, fun _ => True, fun x => .bool (decide (x.2.1 ≤ x.1) && decide (x.1 ≤ x.2.2.1)), nou⟩
def sLimited : DS := ⟨_, one pkPool, fun _ => True, fun x => .bool (!decide (x.1.q = 4611686018427387904)), nou⟩
def sRates : DS := ⟨_, one pkPool, fun _ => True, fun x => .bool (ratesI x.1.q x.1.bu), nou⟩
def sSum : DS := ⟨_, two pkI pkInts, fun x => Small x.1 x.2.1, fun x => .int .i64 (x.1 + x.2.1.sum), nou⟩
def sHeld : DS := ⟨_, one pkPool, fun x => Small x.1.le x.1.l, fun x => .int .i64 (x.1.le + x.1.l.sum), nou⟩
def sCount : DS := ⟨_, one pkPool, fun x => -1152921504606846976 ≤ x.1.th ∧ x.1.th ≤ 1152921504606846976, fun x => .bool (countB x.1), nou⟩
def sHeldB : DS := ⟨_, one pkPool, fun x => ratesI x.1.q x.1.bu = true ∧ x.1.l.length ≤ 1048576, fun x => .bool (heldB x.1), nou⟩
def sGoodB : DS := ⟨_, one pkPool, fun x => Tame x.1, fun x => .bool (goodB x.1), nou⟩
def useI (p : Pool) (c : Int) : Int := if goodB p = false then 1 else if c < 0 ∨ (p.l.length : Int) ≤ c then 3 else 0
def sUse : DS := ⟨_, two pkPool pkI, fun x => Tame x.1, fun x => .int .i64 (useI x.1 x.2.1), nou⟩
def roomI (p : Pool) (c : Int) : Int := if useI p c ≠ 0 then 0 else if p.q = 4611686018427387904 then 1099511627776 else p.le + p.l.getD c.toNat 0
def sRoom : DS := ⟨_, two pkPool pkI, fun x => Tame x.1, fun x => .int .i64 (roomI x.1 x.2.1), nou⟩
def sClone : DS := ⟨_, one pkInts, fun x => x.1.length ≤ 1048576, fun _ => .own 101 0, fun x => [(101, .rows 3 0 x.1)]⟩
def sCopied : DS := ⟨_, one pkPool, fun x => x.1.l.length ≤ 1048576, fun x => ret x.1, fun x => row x.1⟩
theorem sum_bound {m : Int} (hm : 0 ≤ m) : ∀ {l : List Int}, (∀ x ∈ l, x ≤ m) → l.sum ≤ m * l.length
  | [], _ => by simp
  | a :: l, h => by
    have h1 := sum_bound hm (l := l) fun x hx => h x (by simp [hx])
    have h2 := h a (by simp)
    rw [List.sum_cons, List.length_cons]
    have e : m * ((l.length + 1 : Nat) : Int) = m * l.length + m := by
      rw [Int.natCast_add, Int.mul_add]; simp
    omega
theorem most_rng {p : Pool} (h : ratesI p.q p.bu = true) : 0 ≤ mostI p ∧ mostI p ≤ 2000000 := by
  unfold mostI
  rcases ratesI_iff.1 h with ⟨h1, h2⟩ | ⟨h1, h2⟩
  · rw [if_pos h1]; omega
  · rw [if_neg h1]; omega
theorem small_of {p : Pool} (h : ratesI p.q p.bu = true) (hl : p.l.length ≤ 1048576) (hc : (p.le :: p.l).all (cellB (mostI p)) = true) : Small p.le p.l := by
  obtain ⟨m0, m1⟩ := most_rng h
  simp only [List.all_eq_true, List.mem_cons, forall_eq_or_imp, cellB, Bool.and_eq_true, decide_eq_true_eq] at hc
  obtain ⟨⟨c0, c1⟩, c2⟩ := hc
  refine ⟨c0, fun x hx => (c2 x hx).1, ?_, by omega⟩
  have h3 := sum_bound (m := 2000000) (by omega) (l := p.l) fun x hx => by have := (c2 x hx).2; omega
  omega
theorem all_cells {m : Int} {L : List Int} : L.all (cellB m) = true ↔ ∀ i, i < L.length → cellB m (L.getD i 0) = true := by
  rw [List.all_eq_true]
  constructor
  · intro h i hi
    rw [List.getD_eq_getElem?_getD, List.getElem?_eq_getElem hi, Option.getD_some]
    exact h _ (List.getElem_mem hi)
  · intro h x hx
    obtain ⟨i, hi, rfl⟩ := List.getElem_of_mem hx
    have := h i hi
    rwa [List.getD_eq_getElem?_getD, List.getElem?_eq_getElem hi, Option.getD_some] at this
theorem held_end {p : Pool} (h : ∀ j, j < p.l.length + 1 → cellB (mostI p) ((p.le :: p.l).getD j 0) = true) : heldB p = decide (p.le + p.l.sum ≤ mostI p) := by
  have h2 : (p.le :: p.l).all (cellB (mostI p)) = true := all_cells.2 fun i hi => h i (by simpa using hi)
  rw [heldB, h2, Bool.true_and]
theorem held_bad {p : Pool} {i : Nat} (hi : i < p.l.length + 1) (h : ¬ cellB (mostI p) ((p.le :: p.l).getD i 0) = true) : false = heldB p := by
  cases e : heldB p
  · rfl
  · rw [heldB, Bool.and_eq_true] at e
    exact absurd (all_cells.1 e.1 i (by simpa using hi)) h
theorem good_split {p : Pool} (h1 : 1 ≤ p.g ∧ p.g ≤ 2147483647) (h2 : ratesI p.q p.bu = true) (h3 : 1 ≤ p.s ∧ p.s ≤ 1000000) (h4 : 1 ≤ (p.l.length : Int) ∧ (p.l.length : Int) ≤ 16) (h5 : cellB (mostI p) p.le = true) (h6 : ∀ j, j < p.l.length → cellB (mostI p) (p.l.getD j 0) = true) : goodB p = (decide (p.le + p.l.sum ≤ mostI p) && countB p) := by
  have h7 : heldB p = decide (p.le + p.l.sum ≤ mostI p) := held_end fun j hj => by
    cases j with
    | zero => exact h5
    | succ j => exact h6 j (by omega)
  rw [goodB, h7]
  simp only [h1.1, h1.2, h2, h3.1, h3.2, h4.1, h4.2, decide_true, Bool.true_and]
theorem good_no {p : Pool} (h : Good p → False) : false = goodB p := by
  cases e : goodB p
  · rfl
  · exact absurd (goodB_iff.1 e) h
theorem good_rates {p : Pool} (h : Good p) : (p.q = 4611686018427387904 → p.bu = 0) ∧ (¬ p.q = 4611686018427387904 → 1 ≤ p.q ∧ p.q ≤ 1000000 ∧ 0 ≤ p.bu ∧ p.bu ≤ p.q) := by
  rcases h.rates with ⟨a, b⟩ | ⟨a, b⟩
  · exact ⟨fun _ => b, fun c => absurd a c⟩
  · exact ⟨fun c => absurd c a, fun _ => b⟩
theorem good_cells {p : Pool} (h : Good p) : (0 ≤ p.le ∧ p.le ≤ mostI p) ∧ (∀ j, j < p.l.length → 0 ≤ p.l.getD j 0 ∧ p.l.getD j 0 ≤ mostI p) ∧ p.le + p.l.sum ≤ mostI p := by
  have h2 := goodB_iff.2 h
  simp only [goodB, Bool.and_eq_true] at h2
  obtain ⟨a, b, c⟩ := heldB_iff.1 h2.1.2
  refine ⟨a, fun j hj => b _ ?_, c⟩
  rw [List.getD_eq_getElem?_getD, List.getElem?_eq_getElem hj, Option.getD_some]
  exact List.getElem_mem hj


set_option maxRecDepth 100000 in
theorem vc147 (n a b : Int) (hx : True) : sWithin.vc (EV Try.prog [] noInv noInv) Try.f147 (n, a, b, ()) := by
  have e : ((decide (a ≤ n) = true → decide (a ≤ n) = true) ∧ (decide (a ≤ n) = true → decide (a ≤ n) = true) ∧ (decide (a ≤ n) = true → decide (a ≤ n) = true) ∧ ∃ (y : Unit), True ∧ (decide (a ≤ n) && decide (n ≤ b)) = (decide (a ≤ n) && decide (n ≤ b))) = sWithin.vc (EV Try.prog [] noInv noInv) Try.f147 (n, a, b, ()) := by kernel_rfl
  rw [← e]
  clear e
  simp


set_option maxRecDepth 100000 in
theorem vc119 (n a b : Int) (hx : True) : sWithin.vc (EV Try.prog [] noInv noInv) Try.f119 (n, a, b, ()) := by
  have e : ((decide (a ≤ n) = true → decide (a ≤ n) = true) ∧ (decide (a ≤ n) = true → decide (a ≤ n) = true) ∧ (decide (a ≤ n) = true → decide (a ≤ n) = true) ∧ ∃ (y : Unit), True ∧ (decide (a ≤ n) && decide (n ≤ b)) = (decide (a ≤ n) && decide (n ≤ b))) = sWithin.vc (EV Try.prog [] noInv noInv) Try.f119 (n, a, b, ()) := by kernel_rfl
  rw [← e]
  clear e
  simp


set_option maxRecDepth 100000 in
theorem vc140 (p : Pool) (hx : True) : sLimited.vc (EV Try.prog [] noInv noInv) Try.f140 (p, ()) := by
  have e : (∃ (y : Unit), True ∧ (!decide (p.q = 4611686018427387904)) = !decide (p.q = 4611686018427387904)) = sLimited.vc (EV Try.prog [] noInv noInv) Try.f140 (p, ()) := by kernel_rfl
  rw [← e]
  clear e
  simp


set_option maxRecDepth 100000 in
theorem vc57 (p : Pool) (hx : True) : sLimited.vc (EV Try.prog [] noInv noInv) Try.f57 (p, ()) := by
  have e : (∃ (y : Unit), True ∧ (!decide (p.q = 4611686018427387904)) = !decide (p.q = 4611686018427387904)) = sLimited.vc (EV Try.prog [] noInv noInv) Try.f57 (p, ()) := by kernel_rfl
  rw [← e]
  clear e
  simp

def inv153 (n : Int) (l : List Int) : Inv where
  X := Nat
  ok := fun i => i ≤ l.length
  sl := fun i => [(9, .int .i64 (i : Int)), (0, .int .i64 (n + (l.take i).sum))]
  hp := fun _ => []
  keep := []
  me := fun i => l.length - i
set_option maxRecDepth 100000 in
theorem vc153 (n : Int) (l : List Int) (hx : Small n l) : sSum.vc (EV Try.prog [] (invs [(2, inv153 n l)]) noInv) Try.f153 (n, l, ()) := by
  have e : ((∃ (x : Nat), x ≤ l.length ∧ 0 = (↑x : Int) ∧ n = n + (List.take x l).sum) ∧ ∀ (x : Nat), x ≤ l.length → (decide ((↑x : Int) < (↑l.length : Int)) = true → (0 ≤ (↑x : Int) ∧ (↑x : Int) < (↑l.length : Int)) ∧ i64R (n + (List.take x l).sum + l.getD (↑x : Int).toNat 0) ∧ i64R ((↑x : Int) + 1) ∧ ∃ (x' : Nat), x' ≤ l.length ∧ l.length - x' < l.length - x ∧ (↑x : Int) + 1 = (↑x' : Int) ∧ n + (List.take x l).sum + l.getD (↑x : Int).toNat 0 = n + (List.take x' l).sum) ∧ (decide ((↑x : Int) < (↑l.length : Int)) = false → ∃ (y : Unit), True ∧ n + (List.take x l).sum = n + l.sum)) = sSum.vc (EV Try.prog [] (invs [(2, inv153 n l)]) noInv) Try.f153 (n, l, ()) := by kernel_rfl
  rw [← e]
  clear e
  obtain ⟨h1, h2, h3, h4⟩ := hx
  refine ⟨⟨0, by omega, rfl, by simp⟩, fun i hi => ⟨fun hlt => ?_, fun hge => ⟨(), trivial, ?_⟩⟩⟩
  · simp only [decide_eq_true_eq] at hlt
    have hi' : i < l.length := by omega
    have hs := sum_take_succ l i hi'
    have hb := sum_take_le h2 (i + 1)
    have hb0 := sum_take_nonneg h2 i
    have hx0 := get_nonneg h2 i
    simp only [Int.toNat_natCast, i64R]
    refine ⟨by omega, by omega, by omega, i + 1, by omega, by omega, by omega, by omega⟩
  · simp only [decide_eq_false_iff_not] at hge
    rw [List.take_of_length_le (by omega)]


set_option maxRecDepth 100000 in
theorem vc144 (p : Pool) (hx : Small p.le p.l) : sHeld.vc (EV Try.prog [(153, sSum.spec)] noInv noInv) Try.f144 (p, ()) := by
  have e : (Small p.le p.l ∧ ∃ (y : Unit), True ∧ p.le + p.l.sum = p.le + p.l.sum) = sHeld.vc (EV Try.prog [(153, sSum.spec)] noInv noInv) Try.f144 (p, ()) := by kernel_rfl
  rw [← e]
  clear e
  exact ⟨hx, (), trivial, rfl⟩


set_option maxRecDepth 100000 in
theorem vc125 (l : List Int) (hx : l.length ≤ 1048576) : sClone.vc (EV Try.prog [] noInv noInv) Try.f125 (l, ()) := by
  have e : (∀ (y : Bool), (y = true → l = NilL Int) → (y = true → ∃ (y : Unit), True ∧ NilL Int = l) ∧ (y = false → (NilL Int).length + l.length ≤ (68719476736 : Nat) ∧ ∃ (y : Unit), True ∧ NilL Int ++ l = l)) = sClone.vc (EV Try.prog [] noInv noInv) Try.f125 (l, ()) := by kernel_rfl
  rw [← e]
  clear e
  simp only [NilL_eq]
  intro y hy
  refine ⟨fun h => ⟨(), trivial, (hy h).symm⟩, fun _ => ⟨by simp; omega, (), trivial, rfl⟩⟩


set_option maxRecDepth 100000 in
theorem vc139 (p : Pool) (hx : p.l.length ≤ 1048576) : sCopied.vc (EV Try.prog [(125, sClone.spec)] noInv noInv) Try.f139 (p, ()) := by
  have e : (p.l.length ≤ (1048576 : Nat) ∧ ∃ (y : Unit), True ∧ p.g = p.g ∧ p.q = p.q ∧ p.bu = p.bu ∧ p.s = p.s ∧ p.le = p.le ∧ p.sp = p.sp ∧ p.pe = p.pe ∧ p.th = p.th ∧ p.em = p.em ∧ p.l = p.l) = sCopied.vc (EV Try.prog [(125, sClone.spec)] noInv noInv) Try.f139 (p, ()) := by kernel_rfl
  rw [← e]
  clear e
  simp [hx]

def inv60 (p : Pool) : Inv where
  X := Nat
  ok := fun i => i ≤ p.l.length
  sl := fun i => [(4, .int .i64 (i : Int)), (3, .int .i64 (p.le + (p.l.take i).sum))]
  hp := fun _ => []
  keep := [10000]
  me := fun i => p.l.length - i
set_option maxRecDepth 100000 in
theorem vc60 (p : Pool) (hx : Small p.le p.l) : sHeld.vc (EV Try.prog [] (invs [(3, inv60 p)]) noInv) Try.f60 (p, ()) := by
  have e : ((∃ (x : Nat), x ≤ p.l.length ∧ 0 = (↑x : Int) ∧ p.le = p.le + (List.take x p.l).sum ∧ p.g = p.g ∧ p.q = p.q ∧ p.bu = p.bu ∧ p.s = p.s ∧ p.le = p.le ∧ p.l = p.l ∧ p.sp = p.sp ∧ p.pe = p.pe ∧ p.th = p.th ∧ p.em = p.em) ∧ ∀ (x : Nat), x ≤ p.l.length → (decide ((↑x : Int) < (↑p.l.length : Int)) = true → (0 ≤ (↑x : Int) ∧ (↑x : Int) < (↑p.l.length : Int)) ∧ i64R (p.le + (List.take x p.l).sum + p.l.getD (↑x : Int).toNat 0) ∧ i64R ((↑x : Int) + 1) ∧ ∃ (x' : Nat), x' ≤ p.l.length ∧ p.l.length - x' < p.l.length - x ∧ (↑x : Int) + 1 = (↑x' : Int) ∧ p.le + (List.take x p.l).sum + p.l.getD (↑x : Int).toNat 0 = p.le + (List.take x' p.l).sum ∧ p.g = p.g ∧ p.q = p.q ∧ p.bu = p.bu ∧ p.s = p.s ∧ p.le = p.le ∧ p.l = p.l ∧ p.sp = p.sp ∧ p.pe = p.pe ∧ p.th = p.th ∧ p.em = p.em) ∧ (decide ((↑x : Int) < (↑p.l.length : Int)) = false → ∃ (y : Unit), True ∧ p.le + (List.take x p.l).sum = p.le + p.l.sum)) = sHeld.vc (EV Try.prog [] (invs [(3, inv60 p)]) noInv) Try.f60 (p, ()) := by kernel_rfl
  rw [← e]
  clear e
  obtain ⟨h1, h2, h3, h4⟩ := hx
  simp only [and_true, i64R]
  refine ⟨⟨0, by omega, rfl, by simp⟩, fun i hi => ⟨fun hlt => ?_, fun hge => ⟨(), trivial, ?_⟩⟩⟩
  · simp only [decide_eq_true_eq] at hlt
    have hi' : i < p.l.length := by omega
    have hs := sum_take_succ p.l i hi'
    have hb := sum_take_le h2 (i + 1)
    have hb0 := sum_take_nonneg h2 i
    have hx0 := get_nonneg h2 i
    simp only [Int.toNat_natCast]
    refine ⟨by omega, by omega, by omega, i + 1, by omega, by omega, by omega, by omega⟩
  · simp only [decide_eq_false_iff_not] at hge
    rw [List.take_of_length_le (by omega)]


set_option maxRecDepth 100000 in
theorem vc118 (p : Pool) (hx : p.l.length ≤ 1048576) : sCopied.vc (EV Try.prog [] noInv noInv) Try.f118 (p, ()) := by
  have e : (p.l.length ≤ (68719476736 : Nat) ∧ ∃ (y : Unit), True ∧ p.g = p.g ∧ p.q = p.q ∧ p.bu = p.bu ∧ p.s = p.s ∧ p.le = p.le ∧ p.sp = p.sp ∧ p.pe = p.pe ∧ p.th = p.th ∧ p.em = p.em ∧ p.l = p.l) = sCopied.vc (EV Try.prog [] noInv noInv) Try.f118 (p, ()) := by kernel_rfl
  rw [← e]
  clear e
  simp; omega


set_option maxRecDepth 100000 in
theorem vc148 (p : Pool) (hx : True) : sRates.vc (EV Try.prog [(147, sWithin.spec), (140, sLimited.spec)] noInv noInv) Try.f148 (p, ()) := by
  have e : (True ∧ ((!!decide (p.q = 4611686018427387904)) = true → ∃ (y : Unit), True ∧ decide (p.bu = 0) = ratesI p.q p.bu) ∧ ((!!decide (p.q = 4611686018427387904)) = false → True ∧ ((decide (1 ≤ p.q) && decide (p.q ≤ 1000000)) = true → (decide (1 ≤ p.q) && decide (p.q ≤ 1000000)) = true) ∧ ((decide (1 ≤ p.q) && decide (p.q ≤ 1000000)) = true → (decide (1 ≤ p.q) && decide (p.q ≤ 1000000)) = true) ∧ ((decide (1 ≤ p.q) && decide (p.q ≤ 1000000)) = true → (decide (1 ≤ p.q) && decide (p.q ≤ 1000000)) = true) ∧ ((decide (1 ≤ p.q) && decide (p.q ≤ 1000000)) = true → (decide (1 ≤ p.q) && decide (p.q ≤ 1000000)) = true) ∧ ((decide (1 ≤ p.q) && decide (p.q ≤ 1000000)) = true → True) ∧ ((decide (1 ≤ p.q) && decide (p.q ≤ 1000000)) = true → (decide (1 ≤ p.q) && decide (p.q ≤ 1000000)) = true) ∧ ∃ (y : Unit), True ∧ (decide (1 ≤ p.q) && decide (p.q ≤ 1000000) && (decide (0 ≤ p.bu) && decide (p.bu ≤ p.q))) = ratesI p.q p.bu)) = sRates.vc (EV Try.prog [(147, sWithin.spec), (140, sLimited.spec)] noInv noInv) Try.f148 (p, ()) := by kernel_rfl
  rw [← e]
  clear e
  simp only [imp_self, true_and, and_true, exists_const, implies_true, gd1, gd2, gd3, gd4, gd5, gd6, NilL_eq ]
  simp only [Prod.forall, Prod.exists, exists_const, implies_true, not_true_eq_false, not_false_eq_true, or_self, or_false, false_or, or_true, true_or, and_false, false_and, forall_const, true_and, and_true, i64R, imp_self, Int.reduceLE, Int.reduceLT, Int.reduceNeg, false_implies, true_implies, decide_eq_true_eq, decide_eq_false_iff_not, Bool.not_eq_true', Bool.not_eq_false', Bool.true_eq_false, Bool.false_eq_true, Bool.and_eq_true, Bool.or_eq_true, NilL_eq, Bool.and_eq_false_iff, Bool.or_eq_false_iff ]
  unfold ratesI
  exact ⟨fun h => by rw [if_pos h], fun h => by rw [if_neg h]⟩


set_option maxRecDepth 100000 in
theorem vc150 (p : Pool) (hx : -1152921504606846976 ≤ p.th ∧ p.th ≤ 1152921504606846976) : sCount.vc (EV Try.prog [(147, sWithin.spec)] noInv noInv) Try.f150 (p, ()) := by
  have e : (((!p.em) = true → i64R (p.th + 1) ∧ True ∧ ((decide (0 ≤ p.sp) && decide (p.sp ≤ 1099511627776)) = true → (decide (0 ≤ p.sp) && decide (p.sp ≤ 1099511627776)) = true) ∧ ((decide (0 ≤ p.sp) && decide (p.sp ≤ 1099511627776)) = true → (decide (0 ≤ p.sp) && decide (p.sp ≤ 1099511627776)) = true) ∧ ((decide (0 ≤ p.sp) && decide (p.sp ≤ 1099511627776)) = true → True) ∧ ((decide (0 ≤ p.sp) && decide (p.sp ≤ 1099511627776)) = true → (decide (0 ≤ p.sp) && decide (p.sp ≤ 1099511627776)) = true) ∧ ((decide (0 ≤ p.sp) && decide (p.sp ≤ 1099511627776) && (decide (0 ≤ p.pe) && decide (p.pe ≤ 1099511627776))) = true → (decide (0 ≤ p.sp) && decide (p.sp ≤ 1099511627776) && (decide (0 ≤ p.pe) && decide (p.pe ≤ 1099511627776))) = true) ∧ ((decide (0 ≤ p.sp) && decide (p.sp ≤ 1099511627776) && (decide (0 ≤ p.pe) && decide (p.pe ≤ 1099511627776))) = true → (decide (0 ≤ p.sp) && decide (p.sp ≤ 1099511627776) && (decide (0 ≤ p.pe) && decide (p.pe ≤ 1099511627776))) = true) ∧ ((decide (0 ≤ p.sp) && decide (p.sp ≤ 1099511627776) && (decide (0 ≤ p.pe) && decide (p.pe ≤ 1099511627776))) = true → True) ∧ ((decide (0 ≤ p.sp) && decide (p.sp ≤ 1099511627776) && (decide (0 ≤ p.pe) && decide (p.pe ≤ 1099511627776))) = true → (decide (0 ≤ p.sp) && decide (p.sp ≤ 1099511627776) && (decide (0 ≤ p.pe) && decide (p.pe ≤ 1099511627776))) = true) ∧ ((decide (0 ≤ p.sp) && decide (p.sp ≤ 1099511627776) && (decide (0 ≤ p.pe) && decide (p.pe ≤ 1099511627776)) && (decide (0 ≤ p.th) && decide (p.th ≤ 1099511627776))) = true → (decide (0 ≤ p.sp) && decide (p.sp ≤ 1099511627776) && (decide (0 ≤ p.pe) && decide (p.pe ≤ 1099511627776)) && (decide (0 ≤ p.th) && decide (p.th ≤ 1099511627776))) = true) ∧ ((decide (0 ≤ p.sp) && decide (p.sp ≤ 1099511627776) && (decide (0 ≤ p.pe) && decide (p.pe ≤ 1099511627776)) && (decide (0 ≤ p.th) && decide (p.th ≤ 1099511627776))) = true → (decide (0 ≤ p.sp) && decide (p.sp ≤ 1099511627776) && (decide (0 ≤ p.pe) && decide (p.pe ≤ 1099511627776)) && (decide (0 ≤ p.th) && decide (p.th ≤ 1099511627776))) = true) ∧ ((decide (0 ≤ p.sp) && decide (p.sp ≤ 1099511627776) && (decide (0 ≤ p.pe) && decide (p.pe ≤ 1099511627776)) && (decide (0 ≤ p.th) && decide (p.th ≤ 1099511627776))) = true → (decide (0 ≤ p.sp) && decide (p.sp ≤ 1099511627776) && (decide (0 ≤ p.pe) && decide (p.pe ≤ 1099511627776)) && (decide (0 ≤ p.th) && decide (p.th ≤ 1099511627776))) = true) ∧ ((decide (0 ≤ p.sp) && decide (p.sp ≤ 1099511627776) && (decide (0 ≤ p.pe) && decide (p.pe ≤ 1099511627776)) && (decide (0 ≤ p.th) && decide (p.th ≤ 1099511627776))) = true → (decide (0 ≤ p.sp) && decide (p.sp ≤ 1099511627776) && (decide (0 ≤ p.pe) && decide (p.pe ≤ 1099511627776)) && (decide (0 ≤ p.th) && decide (p.th ≤ 1099511627776))) = true) ∧ ∃ (y : Unit), True ∧ (decide (0 ≤ p.sp) && decide (p.sp ≤ 1099511627776) && (decide (0 ≤ p.pe) && decide (p.pe ≤ 1099511627776)) && (decide (0 ≤ p.th) && decide (p.th ≤ 1099511627776)) && decide (p.th + 1 ≤ p.pe)) = countB p) ∧ ((!p.em) = false → True ∧ ((decide (0 ≤ p.sp) && decide (p.sp ≤ 1099511627776)) = true → (decide (0 ≤ p.sp) && decide (p.sp ≤ 1099511627776)) = true) ∧ ((decide (0 ≤ p.sp) && decide (p.sp ≤ 1099511627776)) = true → (decide (0 ≤ p.sp) && decide (p.sp ≤ 1099511627776)) = true) ∧ ((decide (0 ≤ p.sp) && decide (p.sp ≤ 1099511627776)) = true → True) ∧ ((decide (0 ≤ p.sp) && decide (p.sp ≤ 1099511627776)) = true → (decide (0 ≤ p.sp) && decide (p.sp ≤ 1099511627776)) = true) ∧ ((decide (0 ≤ p.sp) && decide (p.sp ≤ 1099511627776) && (decide (0 ≤ p.pe) && decide (p.pe ≤ 1099511627776))) = true → (decide (0 ≤ p.sp) && decide (p.sp ≤ 1099511627776) && (decide (0 ≤ p.pe) && decide (p.pe ≤ 1099511627776))) = true) ∧ ((decide (0 ≤ p.sp) && decide (p.sp ≤ 1099511627776) && (decide (0 ≤ p.pe) && decide (p.pe ≤ 1099511627776))) = true → (decide (0 ≤ p.sp) && decide (p.sp ≤ 1099511627776) && (decide (0 ≤ p.pe) && decide (p.pe ≤ 1099511627776))) = true) ∧ ((decide (0 ≤ p.sp) && decide (p.sp ≤ 1099511627776) && (decide (0 ≤ p.pe) && decide (p.pe ≤ 1099511627776))) = true → True) ∧ ((decide (0 ≤ p.sp) && decide (p.sp ≤ 1099511627776) && (decide (0 ≤ p.pe) && decide (p.pe ≤ 1099511627776))) = true → (decide (0 ≤ p.sp) && decide (p.sp ≤ 1099511627776) && (decide (0 ≤ p.pe) && decide (p.pe ≤ 1099511627776))) = true) ∧ ((decide (0 ≤ p.sp) && decide (p.sp ≤ 1099511627776) && (decide (0 ≤ p.pe) && decide (p.pe ≤ 1099511627776)) && (decide (0 ≤ p.th) && decide (p.th ≤ 1099511627776))) = true → (decide (0 ≤ p.sp) && decide (p.sp ≤ 1099511627776) && (decide (0 ≤ p.pe) && decide (p.pe ≤ 1099511627776)) && (decide (0 ≤ p.th) && decide (p.th ≤ 1099511627776))) = true) ∧ ((decide (0 ≤ p.sp) && decide (p.sp ≤ 1099511627776) && (decide (0 ≤ p.pe) && decide (p.pe ≤ 1099511627776)) && (decide (0 ≤ p.th) && decide (p.th ≤ 1099511627776))) = true → (decide (0 ≤ p.sp) && decide (p.sp ≤ 1099511627776) && (decide (0 ≤ p.pe) && decide (p.pe ≤ 1099511627776)) && (decide (0 ≤ p.th) && decide (p.th ≤ 1099511627776))) = true) ∧ ((decide (0 ≤ p.sp) && decide (p.sp ≤ 1099511627776) && (decide (0 ≤ p.pe) && decide (p.pe ≤ 1099511627776)) && (decide (0 ≤ p.th) && decide (p.th ≤ 1099511627776))) = true → (decide (0 ≤ p.sp) && decide (p.sp ≤ 1099511627776) && (decide (0 ≤ p.pe) && decide (p.pe ≤ 1099511627776)) && (decide (0 ≤ p.th) && decide (p.th ≤ 1099511627776))) = true) ∧ ((decide (0 ≤ p.sp) && decide (p.sp ≤ 1099511627776) && (decide (0 ≤ p.pe) && decide (p.pe ≤ 1099511627776)) && (decide (0 ≤ p.th) && decide (p.th ≤ 1099511627776))) = true → (decide (0 ≤ p.sp) && decide (p.sp ≤ 1099511627776) && (decide (0 ≤ p.pe) && decide (p.pe ≤ 1099511627776)) && (decide (0 ≤ p.th) && decide (p.th ≤ 1099511627776))) = true) ∧ ∃ (y : Unit), True ∧ (decide (0 ≤ p.sp) && decide (p.sp ≤ 1099511627776) && (decide (0 ≤ p.pe) && decide (p.pe ≤ 1099511627776)) && (decide (0 ≤ p.th) && decide (p.th ≤ 1099511627776)) && decide (p.th ≤ p.pe)) = countB p)) = sCount.vc (EV Try.prog [(147, sWithin.spec)] noInv noInv) Try.f150 (p, ()) := by kernel_rfl
  rw [← e]
  clear e
  simp only [imp_self, true_and, and_true, exists_const, implies_true, gd1, gd2, gd3, gd4, gd5, gd6, NilL_eq ]
  simp only [Prod.forall, Prod.exists, exists_const, implies_true, not_true_eq_false, not_false_eq_true, or_self, or_false, false_or, or_true, true_or, and_false, false_and, forall_const, true_and, and_true, i64R, imp_self, Int.reduceLE, Int.reduceLT, Int.reduceNeg, false_implies, true_implies, decide_eq_true_eq, decide_eq_false_iff_not, Bool.not_eq_true', Bool.not_eq_false', Bool.true_eq_false, Bool.false_eq_true, Bool.and_eq_true, Bool.or_eq_true, NilL_eq, Bool.and_eq_false_iff, Bool.or_eq_false_iff ]
  refine ⟨fun h => ⟨by omega, ?_⟩, fun h => ?_⟩
  · rw [countB, h, Bool.eq_iff_iff]
    simp only [Bool.and_eq_true, decide_eq_true_eq, Bool.false_eq_true, if_false]
    omega
  · rw [countB, h]; rfl

def inv149 (p : Pool) : Inv where
  X := Nat
  ok := fun i => i ≤ p.l.length + 1 ∧ ∀ j, j < i → cellB (mostI p) ((p.le :: p.l).getD j 0) = true
  sl := fun i => [(18, .own 101 0), (20, .int .i64 (i : Int))]
  hp := fun _ => [(101, .rows 3 0 (p.le :: p.l))]
  keep := [10000]
  me := fun i => p.l.length + 1 - i
set_option maxRecDepth 100000 in
theorem vc149 (p : Pool) (hx : ratesI p.q p.bu = true ∧ p.l.length ≤ 1048576) : sHeldB.vc (EV Try.prog [(147, sWithin.spec), (140, sLimited.spec), (144, sHeld.spec)] (invs [(5, inv149 p)]) noInv) Try.f149 (p, ()) := by
  have e : (True ∧ ((!decide (p.q = 4611686018427387904)) = true → i64R (p.q + p.bu) ∧ (p.le :: NilL Int).length + p.l.length ≤ (68719476736 : Nat) ∧ (∃ (x : Nat), (x ≤ p.l.length + (1 : Nat) ∧ ∀ (j : Nat), j < x → cellB (mostI p) ((p.le :: p.l).getD j 0) = true) ∧ 0 = (↑x : Int) ∧ p.le :: NilL Int ++ p.l = p.le :: p.l ∧ p.g = p.g ∧ p.q = p.q ∧ p.bu = p.bu ∧ p.s = p.s ∧ p.le = p.le ∧ p.l = p.l ∧ p.sp = p.sp ∧ p.pe = p.pe ∧ p.th = p.th ∧ p.em = p.em) ∧ ∀ (x : Nat), (x ≤ p.l.length + (1 : Nat) ∧ ∀ (j : Nat), j < x → cellB (mostI p) ((p.le :: p.l).getD j 0) = true) → (decide ((↑x : Int) < (↑(p.le :: NilL Int ++ p.l).length : Int)) = true → (0 ≤ (↑x : Int) ∧ (↑x : Int) < (↑(p.le :: p.l).length : Int)) ∧ True ∧ ((!(decide (0 ≤ (p.le :: p.l).getD (↑x : Int).toNat 0) && decide ((p.le :: p.l).getD (↑x : Int).toNat 0 ≤ p.q + p.bu))) = true → ∃ (y : Unit), True ∧ false = heldB p) ∧ ((!(decide (0 ≤ (p.le :: p.l).getD (↑x : Int).toNat 0) && decide ((p.le :: p.l).getD (↑x : Int).toNat 0 ≤ p.q + p.bu))) = false → i64R ((↑x : Int) + 1) ∧ ∃ (x' : Nat), (x' ≤ p.l.length + (1 : Nat) ∧ ∀ (j : Nat), j < x' → cellB (mostI p) ((p.le :: p.l).getD j 0) = true) ∧ p.l.length + (1 : Nat) - x' < p.l.length + (1 : Nat) - x ∧ (↑x : Int) + 1 = (↑x' : Int) ∧ p.le :: p.l = p.le :: p.l ∧ p.g = p.g ∧ p.q = p.q ∧ p.bu = p.bu ∧ p.s = p.s ∧ p.le = p.le ∧ p.l = p.l ∧ p.sp = p.sp ∧ p.pe = p.pe ∧ p.th = p.th ∧ p.em = p.em)) ∧ (decide ((↑x : Int) < (↑(p.le :: NilL Int ++ p.l).length : Int)) = false → Small p.le p.l ∧ ∃ (y : Unit), True ∧ decide (p.le + p.l.sum ≤ p.q + p.bu) = heldB p)) ∧ ((!decide (p.q = 4611686018427387904)) = false → (p.le :: NilL Int).length + p.l.length ≤ (68719476736 : Nat) ∧ (∃ (x : Nat), (x ≤ p.l.length + (1 : Nat) ∧ ∀ (j : Nat), j < x → cellB (mostI p) ((p.le :: p.l).getD j 0) = true) ∧ 0 = (↑x : Int) ∧ p.le :: NilL Int ++ p.l = p.le :: p.l ∧ p.g = p.g ∧ p.q = p.q ∧ p.bu = p.bu ∧ p.s = p.s ∧ p.le = p.le ∧ p.l = p.l ∧ p.sp = p.sp ∧ p.pe = p.pe ∧ p.th = p.th ∧ p.em = p.em) ∧ ∀ (x : Nat), (x ≤ p.l.length + (1 : Nat) ∧ ∀ (j : Nat), j < x → cellB (mostI p) ((p.le :: p.l).getD j 0) = true) → (decide ((↑x : Int) < (↑(p.le :: NilL Int ++ p.l).length : Int)) = true → (0 ≤ (↑x : Int) ∧ (↑x : Int) < (↑(p.le :: p.l).length : Int)) ∧ True ∧ ((!(decide (0 ≤ (p.le :: p.l).getD (↑x : Int).toNat 0) && decide ((p.le :: p.l).getD (↑x : Int).toNat (0 : Int) ≤ 0))) = true → ∃ (y : Unit), True ∧ false = heldB p) ∧ ((!(decide (0 ≤ (p.le :: p.l).getD (↑x : Int).toNat 0) && decide ((p.le :: p.l).getD (↑x : Int).toNat (0 : Int) ≤ 0))) = false → i64R ((↑x : Int) + 1) ∧ ∃ (x' : Nat), (x' ≤ p.l.length + (1 : Nat) ∧ ∀ (j : Nat), j < x' → cellB (mostI p) ((p.le :: p.l).getD j 0) = true) ∧ p.l.length + (1 : Nat) - x' < p.l.length + (1 : Nat) - x ∧ (↑x : Int) + 1 = (↑x' : Int) ∧ p.le :: p.l = p.le :: p.l ∧ p.g = p.g ∧ p.q = p.q ∧ p.bu = p.bu ∧ p.s = p.s ∧ p.le = p.le ∧ p.l = p.l ∧ p.sp = p.sp ∧ p.pe = p.pe ∧ p.th = p.th ∧ p.em = p.em)) ∧ (decide ((↑x : Int) < (↑(p.le :: NilL Int ++ p.l).length : Int)) = false → Small p.le p.l ∧ ∃ (y : Unit), True ∧ decide (p.le + p.l.sum ≤ 0) = heldB p))) = sHeldB.vc (EV Try.prog [(147, sWithin.spec), (140, sLimited.spec), (144, sHeld.spec)] (invs [(5, inv149 p)]) noInv) Try.f149 (p, ()) := by kernel_rfl
  rw [← e]
  clear e
  simp only [imp_self, true_and, and_true, exists_const, implies_true, gd1, gd2, gd3, gd4, gd5, gd6, NilL_eq ]
  simp only [Prod.forall, Prod.exists, exists_const, implies_true, not_true_eq_false, not_false_eq_true, or_self, or_false, false_or, or_true, true_or, and_false, false_and, forall_const, true_and, and_true, i64R, imp_self, Int.reduceLE, Int.reduceLT, Int.reduceNeg, false_implies, true_implies, decide_eq_true_eq, decide_eq_false_iff_not, Bool.not_eq_true', Bool.not_eq_false', Bool.true_eq_false, Bool.false_eq_true, Bool.and_eq_true, Bool.or_eq_true, NilL_eq, Bool.and_eq_false_iff, Bool.or_eq_false_iff ]
  obtain ⟨hr, hl⟩ := hx
  have hr2 := ratesI_iff.1 hr
  have hs : (∀ j, j < p.l.length + 1 → cellB (mostI p) ((p.le :: p.l).getD j 0) = true) → Small p.le p.l := fun h => small_of hr hl (all_cells.2 fun i hi => h i (by simpa using hi))
  simp only [List.length_append, List.length_cons, List.length_nil, Int.toNat_natCast]
  by_cases hq : p.q = 4611686018427387904
  · have em : mostI p = 0 := by rw [mostI, if_pos hq]
    refine ⟨fun h => absurd hq h, fun _ => ⟨by omega, ⟨0, ⟨by omega, fun j hj => by omega⟩, rfl, rfl⟩, fun x hi => ⟨fun h0 => ?_, fun h0 => ?_⟩⟩⟩
    · have hlt := of_decide_eq_true h0
      refine ⟨by omega, fun hb => held_bad (i := x) (by omega) ?_, fun hb => ⟨by omega, x + 1, ⟨by omega, fun j hj => ?_⟩, by omega, by omega⟩⟩
      · rw [em]; simp only [cellB, Bool.and_eq_true, decide_eq_true_eq]; omega
      · by_cases e : j = x
        · subst e; rw [em]; simp only [cellB, Bool.and_eq_true, decide_eq_true_eq]; exact hb
        · exact hi.2 j (by omega)
    · have hge := of_decide_eq_false h0
      have hc : ∀ j, j < p.l.length + 1 → cellB (mostI p) ((p.le :: p.l).getD j 0) = true := fun j hj => hi.2 j (by omega)
      exact ⟨hs hc, by rw [held_end hc, em]⟩
  · have em : mostI p = p.q + p.bu := by rw [mostI, if_neg hq]
    refine ⟨fun _ => ⟨by omega, by omega, ⟨0, ⟨by omega, fun j hj => by omega⟩, rfl, rfl⟩, fun x hi => ⟨fun h0 => ?_, fun h0 => ?_⟩⟩, fun h => absurd h hq⟩
    · have hlt := of_decide_eq_true h0
      refine ⟨by omega, fun hb => held_bad (i := x) (by omega) ?_, fun hb => ⟨by omega, x + 1, ⟨by omega, fun j hj => ?_⟩, by omega, by omega⟩⟩
      · rw [em]; simp only [cellB, Bool.and_eq_true, decide_eq_true_eq]; omega
      · by_cases e : j = x
        · subst e; rw [em]; simp only [cellB, Bool.and_eq_true, decide_eq_true_eq]; exact hb
        · exact hi.2 j (by omega)
    · have hge := of_decide_eq_false h0
      have hc : ∀ j, j < p.l.length + 1 → cellB (mostI p) ((p.le :: p.l).getD j 0) = true := fun j hj => hi.2 j (by omega)
      exact ⟨hs hc, by rw [held_end hc, em]⟩


set_option maxRecDepth 100000 in
theorem vc121 (p : Pool) (hx : Tame p) : sGoodB.vc (EV Try.prog [(147, sWithin.spec), (148, sRates.spec), (149, sHeldB.spec), (150, sCount.spec)] noInv noInv) Try.f121 (p, ()) := by
  have e : (True ∧ ((decide (1 ≤ p.g) && decide (p.g ≤ 2147483647)) = true → (decide (1 ≤ p.g) && decide (p.g ≤ 2147483647)) = true) ∧ ((decide (1 ≤ p.g) && decide (p.g ≤ 2147483647)) = true → True) ∧ ((decide (1 ≤ p.g) && decide (p.g ≤ 2147483647)) = true → (decide (1 ≤ p.g) && decide (p.g ≤ 2147483647)) = true) ∧ ((decide (1 ≤ p.g) && decide (p.g ≤ 2147483647) && ratesI p.q p.bu) = true → (decide (1 ≤ p.g) && decide (p.g ≤ 2147483647) && ratesI p.q p.bu) = true) ∧ ((decide (1 ≤ p.g) && decide (p.g ≤ 2147483647) && ratesI p.q p.bu) = true → (decide (1 ≤ p.g) && decide (p.g ≤ 2147483647) && ratesI p.q p.bu) = true) ∧ ((decide (1 ≤ p.g) && decide (p.g ≤ 2147483647) && ratesI p.q p.bu) = true → True) ∧ ((decide (1 ≤ p.g) && decide (p.g ≤ 2147483647) && ratesI p.q p.bu) = true → (decide (1 ≤ p.g) && decide (p.g ≤ 2147483647) && ratesI p.q p.bu) = true) ∧ ((decide (1 ≤ p.g) && decide (p.g ≤ 2147483647) && ratesI p.q p.bu && (decide (1 ≤ p.s) && decide (p.s ≤ 1000000))) = true → (decide (1 ≤ p.g) && decide (p.g ≤ 2147483647) && ratesI p.q p.bu && (decide (1 ≤ p.s) && decide (p.s ≤ 1000000))) = true) ∧ ((decide (1 ≤ p.g) && decide (p.g ≤ 2147483647) && ratesI p.q p.bu && (decide (1 ≤ p.s) && decide (p.s ≤ 1000000))) = true → (decide (1 ≤ p.g) && decide (p.g ≤ 2147483647) && ratesI p.q p.bu && (decide (1 ≤ p.s) && decide (p.s ≤ 1000000))) = true) ∧ ((decide (1 ≤ p.g) && decide (p.g ≤ 2147483647) && ratesI p.q p.bu && (decide (1 ≤ p.s) && decide (p.s ≤ 1000000))) = true → (decide (1 ≤ p.g) && decide (p.g ≤ 2147483647) && ratesI p.q p.bu && (decide (1 ≤ p.s) && decide (p.s ≤ 1000000))) = true) ∧ ((decide (1 ≤ p.g) && decide (p.g ≤ 2147483647) && ratesI p.q p.bu && (decide (1 ≤ p.s) && decide (p.s ≤ 1000000))) = true → True) ∧ ((decide (1 ≤ p.g) && decide (p.g ≤ 2147483647) && ratesI p.q p.bu && (decide (1 ≤ p.s) && decide (p.s ≤ 1000000))) = true → (decide (1 ≤ p.g) && decide (p.g ≤ 2147483647) && ratesI p.q p.bu && (decide (1 ≤ p.s) && decide (p.s ≤ 1000000))) = true) ∧ ((decide (1 ≤ p.g) && decide (p.g ≤ 2147483647) && ratesI p.q p.bu && (decide (1 ≤ p.s) && decide (p.s ≤ 1000000)) && (decide (1 ≤ (↑p.l.length : Int)) && decide ((↑p.l.length : Int) ≤ 16))) = true → (decide (1 ≤ p.g) && decide (p.g ≤ 2147483647) && ratesI p.q p.bu && (decide (1 ≤ p.s) && decide (p.s ≤ 1000000)) && (decide (1 ≤ (↑p.l.length : Int)) && decide ((↑p.l.length : Int) ≤ 16))) = true) ∧ ((decide (1 ≤ p.g) && decide (p.g ≤ 2147483647) && ratesI p.q p.bu && (decide (1 ≤ p.s) && decide (p.s ≤ 1000000)) && (decide (1 ≤ (↑p.l.length : Int)) && decide ((↑p.l.length : Int) ≤ 16))) = true → ratesI p.q p.bu = true ∧ p.l.length ≤ (1048576 : Nat)) ∧ ((decide (1 ≤ p.g) && decide (p.g ≤ 2147483647) && ratesI p.q p.bu && (decide (1 ≤ p.s) && decide (p.s ≤ 1000000)) && (decide (1 ≤ (↑p.l.length : Int)) && decide ((↑p.l.length : Int) ≤ 16))) = true → (decide (1 ≤ p.g) && decide (p.g ≤ 2147483647) && ratesI p.q p.bu && (decide (1 ≤ p.s) && decide (p.s ≤ 1000000)) && (decide (1 ≤ (↑p.l.length : Int)) && decide ((↑p.l.length : Int) ≤ 16))) = true) ∧ ((decide (1 ≤ p.g) && decide (p.g ≤ 2147483647) && ratesI p.q p.bu && (decide (1 ≤ p.s) && decide (p.s ≤ 1000000)) && (decide (1 ≤ (↑p.l.length : Int)) && decide ((↑p.l.length : Int) ≤ 16)) && heldB p) = true → (decide (1 ≤ p.g) && decide (p.g ≤ 2147483647) && ratesI p.q p.bu && (decide (1 ≤ p.s) && decide (p.s ≤ 1000000)) && (decide (1 ≤ (↑p.l.length : Int)) && decide ((↑p.l.length : Int) ≤ 16)) && heldB p) = true) ∧ ((decide (1 ≤ p.g) && decide (p.g ≤ 2147483647) && ratesI p.q p.bu && (decide (1 ≤ p.s) && decide (p.s ≤ 1000000)) && (decide (1 ≤ (↑p.l.length : Int)) && decide ((↑p.l.length : Int) ≤ 16)) && heldB p) = true → (-1152921504606846976) ≤ p.th ∧ p.th ≤ 1152921504606846976) ∧ ((decide (1 ≤ p.g) && decide (p.g ≤ 2147483647) && ratesI p.q p.bu && (decide (1 ≤ p.s) && decide (p.s ≤ 1000000)) && (decide (1 ≤ (↑p.l.length : Int)) && decide ((↑p.l.length : Int) ≤ 16)) && heldB p) = true → (decide (1 ≤ p.g) && decide (p.g ≤ 2147483647) && ratesI p.q p.bu && (decide (1 ≤ p.s) && decide (p.s ≤ 1000000)) && (decide (1 ≤ (↑p.l.length : Int)) && decide ((↑p.l.length : Int) ≤ 16)) && heldB p) = true) ∧ ∃ (y : Unit), True ∧ (decide (1 ≤ p.g) && decide (p.g ≤ 2147483647) && ratesI p.q p.bu && (decide (1 ≤ p.s) && decide (p.s ≤ 1000000)) && (decide (1 ≤ (↑p.l.length : Int)) && decide ((↑p.l.length : Int) ≤ 16)) && heldB p && countB p) = goodB p) = sGoodB.vc (EV Try.prog [(147, sWithin.spec), (148, sRates.spec), (149, sHeldB.spec), (150, sCount.spec)] noInv noInv) Try.f121 (p, ()) := by kernel_rfl
  rw [← e]
  clear e
  simp only [imp_self, true_and, and_true, exists_const, implies_true, gd1, gd2, gd3, gd4, gd5, gd6, NilL_eq ]
  simp only [Prod.forall, Prod.exists, exists_const, implies_true, not_true_eq_false, not_false_eq_true, or_self, or_false, false_or, or_true, true_or, and_false, false_and, forall_const, true_and, and_true, i64R, imp_self, Int.reduceLE, Int.reduceLT, Int.reduceNeg, false_implies, true_implies, decide_eq_true_eq, decide_eq_false_iff_not, Bool.not_eq_true', Bool.not_eq_false', Bool.true_eq_false, Bool.false_eq_true, Bool.and_eq_true, Bool.or_eq_true, NilL_eq, Bool.and_eq_false_iff, Bool.or_eq_false_iff ]
  have := hx.th
  have := hx.th0
  exact ⟨fun h => ⟨h.1.1.2, by omega⟩, fun _ => by omega, rfl⟩

def inv116 (p : Pool) : Inv where
  X := Nat
  ok := fun i => i ≤ p.l.length ∧ ∀ j, j < i → cellB (mostI p) (p.l.getD j 0) = true
  sl := fun i => [(5, .int .i64 (i : Int))]
  hp := fun _ => []
  keep := [10000]
  me := fun i => p.l.length - i
set_option maxRecDepth 100000 in
theorem vc116 (p : Pool) (hx : Tame p) : sGoodB.vc (EV Try.prog [(119, sWithin.spec), (57, sLimited.spec), (60, sHeld.spec)] (invs [(10, inv116 p)]) noInv) Try.f116 (p, ()) := by
  have e : (True ∧ ((!decide (p.q = 4611686018427387904)) = true → True ∧ ((!(decide (1 ≤ p.q) && decide (p.q ≤ 1000000))) = true → ∃ (y : Unit), True ∧ false = goodB p) ∧ ((!(decide (1 ≤ p.q) && decide (p.q ≤ 1000000))) = false → i64R (p.q + p.bu) ∧ True ∧ ((!(decide (1 ≤ p.g) && decide (p.g ≤ 2147483647))) = false → (!(decide (1 ≤ p.g) && decide (p.g ≤ 2147483647))) = false) ∧ ((!(decide (1 ≤ p.g) && decide (p.g ≤ 2147483647))) = false → (!(decide (1 ≤ p.g) && decide (p.g ≤ 2147483647))) = false) ∧ ((!(decide (1 ≤ p.g) && decide (p.g ≤ 2147483647))) = false → (!(decide (1 ≤ p.g) && decide (p.g ≤ 2147483647))) = false) ∧ ((!(decide (1 ≤ p.g) && decide (p.g ≤ 2147483647))) = false → True) ∧ ((!(decide (1 ≤ p.g) && decide (p.g ≤ 2147483647))) = false → (!(decide (1 ≤ p.g) && decide (p.g ≤ 2147483647))) = false) ∧ ((!(decide (1 ≤ p.g) && decide (p.g ≤ 2147483647))) = false → (!(decide (1 ≤ p.g) && decide (p.g ≤ 2147483647))) = false) ∧ ((!(decide (1 ≤ p.g) && decide (p.g ≤ 2147483647)) || !(decide (0 ≤ p.bu) && decide (p.bu ≤ p.q))) = false → (!(decide (1 ≤ p.g) && decide (p.g ≤ 2147483647)) || !(decide (0 ≤ p.bu) && decide (p.bu ≤ p.q))) = false) ∧ ((!(decide (1 ≤ p.g) && decide (p.g ≤ 2147483647)) || !(decide (0 ≤ p.bu) && decide (p.bu ≤ p.q))) = false → (!(decide (1 ≤ p.g) && decide (p.g ≤ 2147483647)) || !(decide (0 ≤ p.bu) && decide (p.bu ≤ p.q))) = false) ∧ ((!(decide (1 ≤ p.g) && decide (p.g ≤ 2147483647)) || !(decide (0 ≤ p.bu) && decide (p.bu ≤ p.q))) = false → True) ∧ ((!(decide (1 ≤ p.g) && decide (p.g ≤ 2147483647)) || !(decide (0 ≤ p.bu) && decide (p.bu ≤ p.q))) = false → (!(decide (1 ≤ p.g) && decide (p.g ≤ 2147483647)) || !(decide (0 ≤ p.bu) && decide (p.bu ≤ p.q))) = false) ∧ ((!(decide (1 ≤ p.g) && decide (p.g ≤ 2147483647)) || !(decide (0 ≤ p.bu) && decide (p.bu ≤ p.q))) = false → (!(decide (1 ≤ p.g) && decide (p.g ≤ 2147483647)) || !(decide (0 ≤ p.bu) && decide (p.bu ≤ p.q))) = false) ∧ ((!(decide (1 ≤ p.g) && decide (p.g ≤ 2147483647)) || !(decide (0 ≤ p.bu) && decide (p.bu ≤ p.q)) || !(decide (1 ≤ p.s) && decide (p.s ≤ 1000000))) = false → (!(decide (1 ≤ p.g) && decide (p.g ≤ 2147483647)) || !(decide (0 ≤ p.bu) && decide (p.bu ≤ p.q)) || !(decide (1 ≤ p.s) && decide (p.s ≤ 1000000))) = false) ∧ ((!(decide (1 ≤ p.g) && decide (p.g ≤ 2147483647)) || !(decide (0 ≤ p.bu) && decide (p.bu ≤ p.q)) || !(decide (1 ≤ p.s) && decide (p.s ≤ 1000000))) = false → (!(decide (1 ≤ p.g) && decide (p.g ≤ 2147483647)) || !(decide (0 ≤ p.bu) && decide (p.bu ≤ p.q)) || !(decide (1 ≤ p.s) && decide (p.s ≤ 1000000))) = false) ∧ ((!(decide (1 ≤ p.g) && decide (p.g ≤ 2147483647)) || !(decide (0 ≤ p.bu) && decide (p.bu ≤ p.q)) || !(decide (1 ≤ p.s) && decide (p.s ≤ 1000000))) = false → (!(decide (1 ≤ p.g) && decide (p.g ≤ 2147483647)) || !(decide (0 ≤ p.bu) && decide (p.bu ≤ p.q)) || !(decide (1 ≤ p.s) && decide (p.s ≤ 1000000))) = false) ∧ ((!(decide (1 ≤ p.g) && decide (p.g ≤ 2147483647)) || !(decide (0 ≤ p.bu) && decide (p.bu ≤ p.q)) || !(decide (1 ≤ p.s) && decide (p.s ≤ 1000000))) = false → True) ∧ ((!(decide (1 ≤ p.g) && decide (p.g ≤ 2147483647)) || !(decide (0 ≤ p.bu) && decide (p.bu ≤ p.q)) || !(decide (1 ≤ p.s) && decide (p.s ≤ 1000000))) = false → (!(decide (1 ≤ p.g) && decide (p.g ≤ 2147483647)) || !(decide (0 ≤ p.bu) && decide (p.bu ≤ p.q)) || !(decide (1 ≤ p.s) && decide (p.s ≤ 1000000))) = false) ∧ ((!(decide (1 ≤ p.g) && decide (p.g ≤ 2147483647)) || !(decide (0 ≤ p.bu) && decide (p.bu ≤ p.q)) || !(decide (1 ≤ p.s) && decide (p.s ≤ 1000000))) = false → (!(decide (1 ≤ p.g) && decide (p.g ≤ 2147483647)) || !(decide (0 ≤ p.bu) && decide (p.bu ≤ p.q)) || !(decide (1 ≤ p.s) && decide (p.s ≤ 1000000))) = false) ∧ ((!(decide (1 ≤ p.g) && decide (p.g ≤ 2147483647)) || !(decide (0 ≤ p.bu) && decide (p.bu ≤ p.q)) || !(decide (1 ≤ p.s) && decide (p.s ≤ 1000000)) || !(decide (1 ≤ (↑p.l.length : Int)) && decide ((↑p.l.length : Int) ≤ 16))) = false → (!(decide (1 ≤ p.g) && decide (p.g ≤ 2147483647)) || !(decide (0 ≤ p.bu) && decide (p.bu ≤ p.q)) || !(decide (1 ≤ p.s) && decide (p.s ≤ 1000000)) || !(decide (1 ≤ (↑p.l.length : Int)) && decide ((↑p.l.length : Int) ≤ 16))) = false) ∧ ((!(decide (1 ≤ p.g) && decide (p.g ≤ 2147483647)) || !(decide (0 ≤ p.bu) && decide (p.bu ≤ p.q)) || !(decide (1 ≤ p.s) && decide (p.s ≤ 1000000)) || !(decide (1 ≤ (↑p.l.length : Int)) && decide ((↑p.l.length : Int) ≤ 16))) = false → (!(decide (1 ≤ p.g) && decide (p.g ≤ 2147483647)) || !(decide (0 ≤ p.bu) && decide (p.bu ≤ p.q)) || !(decide (1 ≤ p.s) && decide (p.s ≤ 1000000)) || !(decide (1 ≤ (↑p.l.length : Int)) && decide ((↑p.l.length : Int) ≤ 16))) = false) ∧ ((!(decide (1 ≤ p.g) && decide (p.g ≤ 2147483647)) || !(decide (0 ≤ p.bu) && decide (p.bu ≤ p.q)) || !(decide (1 ≤ p.s) && decide (p.s ≤ 1000000)) || !(decide (1 ≤ (↑p.l.length : Int)) && decide ((↑p.l.length : Int) ≤ 16))) = false → (!(decide (1 ≤ p.g) && decide (p.g ≤ 2147483647)) || !(decide (0 ≤ p.bu) && decide (p.bu ≤ p.q)) || !(decide (1 ≤ p.s) && decide (p.s ≤ 1000000)) || !(decide (1 ≤ (↑p.l.length : Int)) && decide ((↑p.l.length : Int) ≤ 16))) = false) ∧ ((!(decide (1 ≤ p.g) && decide (p.g ≤ 2147483647)) || !(decide (0 ≤ p.bu) && decide (p.bu ≤ p.q)) || !(decide (1 ≤ p.s) && decide (p.s ≤ 1000000)) || !(decide (1 ≤ (↑p.l.length : Int)) && decide ((↑p.l.length : Int) ≤ 16))) = false → True) ∧ ((!(decide (1 ≤ p.g) && decide (p.g ≤ 2147483647)) || !(decide (0 ≤ p.bu) && decide (p.bu ≤ p.q)) || !(decide (1 ≤ p.s) && decide (p.s ≤ 1000000)) || !(decide (1 ≤ (↑p.l.length : Int)) && decide ((↑p.l.length : Int) ≤ 16))) = false → (!(decide (1 ≤ p.g) && decide (p.g ≤ 2147483647)) || !(decide (0 ≤ p.bu) && decide (p.bu ≤ p.q)) || !(decide (1 ≤ p.s) && decide (p.s ≤ 1000000)) || !(decide (1 ≤ (↑p.l.length : Int)) && decide ((↑p.l.length : Int) ≤ 16))) = false) ∧ ((!(decide (1 ≤ p.g) && decide (p.g ≤ 2147483647)) || !(decide (0 ≤ p.bu) && decide (p.bu ≤ p.q)) || !(decide (1 ≤ p.s) && decide (p.s ≤ 1000000)) || !(decide (1 ≤ (↑p.l.length : Int)) && decide ((↑p.l.length : Int) ≤ 16))) = false → (!(decide (1 ≤ p.g) && decide (p.g ≤ 2147483647)) || !(decide (0 ≤ p.bu) && decide (p.bu ≤ p.q)) || !(decide (1 ≤ p.s) && decide (p.s ≤ 1000000)) || !(decide (1 ≤ (↑p.l.length : Int)) && decide ((↑p.l.length : Int) ≤ 16))) = false) ∧ ((!(decide (1 ≤ p.g) && decide (p.g ≤ 2147483647)) || !(decide (0 ≤ p.bu) && decide (p.bu ≤ p.q)) || !(decide (1 ≤ p.s) && decide (p.s ≤ 1000000)) || !(decide (1 ≤ (↑p.l.length : Int)) && decide ((↑p.l.length : Int) ≤ 16)) || !(decide (0 ≤ p.le) && decide (p.le ≤ p.q + p.bu))) = true → ∃ (y : Unit), True ∧ false = goodB p) ∧ ((!(decide (1 ≤ p.g) && decide (p.g ≤ 2147483647)) || !(decide (0 ≤ p.bu) && decide (p.bu ≤ p.q)) || !(decide (1 ≤ p.s) && decide (p.s ≤ 1000000)) || !(decide (1 ≤ (↑p.l.length : Int)) && decide ((↑p.l.length : Int) ≤ 16)) || !(decide (0 ≤ p.le) && decide (p.le ≤ p.q + p.bu))) = false → (∃ (x : Nat), (x ≤ p.l.length ∧ ∀ (j : Nat), j < x → cellB (mostI p) (p.l.getD j 0) = true) ∧ 0 = (↑x : Int) ∧ p.g = p.g ∧ p.q = p.q ∧ p.bu = p.bu ∧ p.s = p.s ∧ p.le = p.le ∧ p.l = p.l ∧ p.sp = p.sp ∧ p.pe = p.pe ∧ p.th = p.th ∧ p.em = p.em) ∧ ∀ (x : Nat), (x ≤ p.l.length ∧ ∀ (j : Nat), j < x → cellB (mostI p) (p.l.getD j 0) = true) → (decide ((↑x : Int) < (↑p.l.length : Int)) = true → (0 ≤ (↑x : Int) ∧ (↑x : Int) < (↑p.l.length : Int)) ∧ True ∧ ((!(decide (0 ≤ p.l.getD (↑x : Int).toNat 0) && decide (p.l.getD (↑x : Int).toNat 0 ≤ p.q + p.bu))) = true → ∃ (y : Unit), True ∧ false = goodB p) ∧ ((!(decide (0 ≤ p.l.getD (↑x : Int).toNat 0) && decide (p.l.getD (↑x : Int).toNat 0 ≤ p.q + p.bu))) = false → i64R ((↑x : Int) + 1) ∧ ∃ (x' : Nat), (x' ≤ p.l.length ∧ ∀ (j : Nat), j < x' → cellB (mostI p) (p.l.getD j 0) = true) ∧ p.l.length - x' < p.l.length - x ∧ (↑x : Int) + 1 = (↑x' : Int) ∧ p.g = p.g ∧ p.q = p.q ∧ p.bu = p.bu ∧ p.s = p.s ∧ p.le = p.le ∧ p.l = p.l ∧ p.sp = p.sp ∧ p.pe = p.pe ∧ p.th = p.th ∧ p.em = p.em)) ∧ (decide ((↑x : Int) < (↑p.l.length : Int)) = false → ((!p.em) = true → i64R (p.pe - 1) ∧ Small p.le p.l ∧ (decide (p.le + p.l.sum ≤ p.q + p.bu) = true → decide (p.le + p.l.sum ≤ p.q + p.bu) = true) ∧ (decide (p.le + p.l.sum ≤ p.q + p.bu) = true → decide (p.le + p.l.sum ≤ p.q + p.bu) = true) ∧ (decide (p.le + p.l.sum ≤ p.q + p.bu) = true → True) ∧ (decide (p.le + p.l.sum ≤ p.q + p.bu) = true → decide (p.le + p.l.sum ≤ p.q + p.bu) = true) ∧ ((decide (p.le + p.l.sum ≤ p.q + p.bu) && (decide (0 ≤ p.sp) && decide (p.sp ≤ 1099511627776))) = true → (decide (p.le + p.l.sum ≤ p.q + p.bu) && (decide (0 ≤ p.sp) && decide (p.sp ≤ 1099511627776))) = true) ∧ ((decide (p.le + p.l.sum ≤ p.q + p.bu) && (decide (0 ≤ p.sp) && decide (p.sp ≤ 1099511627776))) = true → (decide (p.le + p.l.sum ≤ p.q + p.bu) && (decide (0 ≤ p.sp) && decide (p.sp ≤ 1099511627776))) = true) ∧ ((decide (p.le + p.l.sum ≤ p.q + p.bu) && (decide (0 ≤ p.sp) && decide (p.sp ≤ 1099511627776))) = true → True) ∧ ((decide (p.le + p.l.sum ≤ p.q + p.bu) && (decide (0 ≤ p.sp) && decide (p.sp ≤ 1099511627776))) = true → (decide (p.le + p.l.sum ≤ p.q + p.bu) && (decide (0 ≤ p.sp) && decide (p.sp ≤ 1099511627776))) = true) ∧ ((decide (p.le + p.l.sum ≤ p.q + p.bu) && (decide (0 ≤ p.sp) && decide (p.sp ≤ 1099511627776)) && (decide (0 ≤ p.pe) && decide (p.pe ≤ 1099511627776))) = true → (decide (p.le + p.l.sum ≤ p.q + p.bu) && (decide (0 ≤ p.sp) && decide (p.sp ≤ 1099511627776)) && (decide (0 ≤ p.pe) && decide (p.pe ≤ 1099511627776))) = true) ∧ ((decide (p.le + p.l.sum ≤ p.q + p.bu) && (decide (0 ≤ p.sp) && decide (p.sp ≤ 1099511627776)) && (decide (0 ≤ p.pe) && decide (p.pe ≤ 1099511627776))) = true → (decide (p.le + p.l.sum ≤ p.q + p.bu) && (decide (0 ≤ p.sp) && decide (p.sp ≤ 1099511627776)) && (decide (0 ≤ p.pe) && decide (p.pe ≤ 1099511627776))) = true) ∧ ((decide (p.le + p.l.sum ≤ p.q + p.bu) && (decide (0 ≤ p.sp) && decide (p.sp ≤ 1099511627776)) && (decide (0 ≤ p.pe) && decide (p.pe ≤ 1099511627776))) = true → (decide (p.le + p.l.sum ≤ p.q + p.bu) && (decide (0 ≤ p.sp) && decide (p.sp ≤ 1099511627776)) && (decide (0 ≤ p.pe) && decide (p.pe ≤ 1099511627776))) = true) ∧ ((decide (p.le + p.l.sum ≤ p.q + p.bu) && (decide (0 ≤ p.sp) && decide (p.sp ≤ 1099511627776)) && (decide (0 ≤ p.pe) && decide (p.pe ≤ 1099511627776))) = true → True) ∧ ((decide (p.le + p.l.sum ≤ p.q + p.bu) && (decide (0 ≤ p.sp) && decide (p.sp ≤ 1099511627776)) && (decide (0 ≤ p.pe) && decide (p.pe ≤ 1099511627776))) = true → (decide (p.le + p.l.sum ≤ p.q + p.bu) && (decide (0 ≤ p.sp) && decide (p.sp ≤ 1099511627776)) && (decide (0 ≤ p.pe) && decide (p.pe ≤ 1099511627776))) = true) ∧ ∃ (y : Unit), True ∧ (decide (p.le + p.l.sum ≤ p.q + p.bu) && (decide (0 ≤ p.sp) && decide (p.sp ≤ 1099511627776)) && (decide (0 ≤ p.pe) && decide (p.pe ≤ 1099511627776)) && (decide (0 ≤ p.th) && decide (p.th ≤ p.pe - 1))) = goodB p) ∧ ((!p.em) = false → Small p.le p.l ∧ (decide (p.le + p.l.sum ≤ p.q + p.bu) = true → decide (p.le + p.l.sum ≤ p.q + p.bu) = true) ∧ (decide (p.le + p.l.sum ≤ p.q + p.bu) = true → decide (p.le + p.l.sum ≤ p.q + p.bu) = true) ∧ (decide (p.le + p.l.sum ≤ p.q + p.bu) = true → True) ∧ (decide (p.le + p.l.sum ≤ p.q + p.bu) = true → decide (p.le + p.l.sum ≤ p.q + p.bu) = true) ∧ ((decide (p.le + p.l.sum ≤ p.q + p.bu) && (decide (0 ≤ p.sp) && decide (p.sp ≤ 1099511627776))) = true → (decide (p.le + p.l.sum ≤ p.q + p.bu) && (decide (0 ≤ p.sp) && decide (p.sp ≤ 1099511627776))) = true) ∧ ((decide (p.le + p.l.sum ≤ p.q + p.bu) && (decide (0 ≤ p.sp) && decide (p.sp ≤ 1099511627776))) = true → (decide (p.le + p.l.sum ≤ p.q + p.bu) && (decide (0 ≤ p.sp) && decide (p.sp ≤ 1099511627776))) = true) ∧ ((decide (p.le + p.l.sum ≤ p.q + p.bu) && (decide (0 ≤ p.sp) && decide (p.sp ≤ 1099511627776))) = true → True) ∧ ((decide (p.le + p.l.sum ≤ p.q + p.bu) && (decide (0 ≤ p.sp) && decide (p.sp ≤ 1099511627776))) = true → (decide (p.le + p.l.sum ≤ p.q + p.bu) && (decide (0 ≤ p.sp) && decide (p.sp ≤ 1099511627776))) = true) ∧ ((decide (p.le + p.l.sum ≤ p.q + p.bu) && (decide (0 ≤ p.sp) && decide (p.sp ≤ 1099511627776)) && (decide (0 ≤ p.pe) && decide (p.pe ≤ 1099511627776))) = true → (decide (p.le + p.l.sum ≤ p.q + p.bu) && (decide (0 ≤ p.sp) && decide (p.sp ≤ 1099511627776)) && (decide (0 ≤ p.pe) && decide (p.pe ≤ 1099511627776))) = true) ∧ ((decide (p.le + p.l.sum ≤ p.q + p.bu) && (decide (0 ≤ p.sp) && decide (p.sp ≤ 1099511627776)) && (decide (0 ≤ p.pe) && decide (p.pe ≤ 1099511627776))) = true → (decide (p.le + p.l.sum ≤ p.q + p.bu) && (decide (0 ≤ p.sp) && decide (p.sp ≤ 1099511627776)) && (decide (0 ≤ p.pe) && decide (p.pe ≤ 1099511627776))) = true) ∧ ((decide (p.le + p.l.sum ≤ p.q + p.bu) && (decide (0 ≤ p.sp) && decide (p.sp ≤ 1099511627776)) && (decide (0 ≤ p.pe) && decide (p.pe ≤ 1099511627776))) = true → (decide (p.le + p.l.sum ≤ p.q + p.bu) && (decide (0 ≤ p.sp) && decide (p.sp ≤ 1099511627776)) && (decide (0 ≤ p.pe) && decide (p.pe ≤ 1099511627776))) = true) ∧ ((decide (p.le + p.l.sum ≤ p.q + p.bu) && (decide (0 ≤ p.sp) && decide (p.sp ≤ 1099511627776)) && (decide (0 ≤ p.pe) && decide (p.pe ≤ 1099511627776))) = true → True) ∧ ((decide (p.le + p.l.sum ≤ p.q + p.bu) && (decide (0 ≤ p.sp) && decide (p.sp ≤ 1099511627776)) && (decide (0 ≤ p.pe) && decide (p.pe ≤ 1099511627776))) = true → (decide (p.le + p.l.sum ≤ p.q + p.bu) && (decide (0 ≤ p.sp) && decide (p.sp ≤ 1099511627776)) && (decide (0 ≤ p.pe) && decide (p.pe ≤ 1099511627776))) = true) ∧ ∃ (y : Unit), True ∧ (decide (p.le + p.l.sum ≤ p.q + p.bu) && (decide (0 ≤ p.sp) && decide (p.sp ≤ 1099511627776)) && (decide (0 ≤ p.pe) && decide (p.pe ≤ 1099511627776)) && (decide (0 ≤ p.th) && decide (p.th ≤ p.pe))) = goodB p))))) ∧ ((!decide (p.q = 4611686018427387904)) = false → True ∧ ((!(decide (1 ≤ p.g) && decide (p.g ≤ 2147483647))) = false → (!(decide (1 ≤ p.g) && decide (p.g ≤ 2147483647))) = false) ∧ ((!(decide (1 ≤ p.g) && decide (p.g ≤ 2147483647))) = false → (!(decide (1 ≤ p.g) && decide (p.g ≤ 2147483647))) = false) ∧ ((!(decide (1 ≤ p.g) && decide (p.g ≤ 2147483647))) = false → (!(decide (1 ≤ p.g) && decide (p.g ≤ 2147483647))) = false) ∧ ((!(decide (1 ≤ p.g) && decide (p.g ≤ 2147483647))) = false → True) ∧ ((!(decide (1 ≤ p.g) && decide (p.g ≤ 2147483647))) = false → (!(decide (1 ≤ p.g) && decide (p.g ≤ 2147483647))) = false) ∧ ((!(decide (1 ≤ p.g) && decide (p.g ≤ 2147483647))) = false → (!(decide (1 ≤ p.g) && decide (p.g ≤ 2147483647))) = false) ∧ ((!(decide (1 ≤ p.g) && decide (p.g ≤ 2147483647)) || !(decide (0 ≤ p.bu) && decide (p.bu ≤ 0))) = false → (!(decide (1 ≤ p.g) && decide (p.g ≤ 2147483647)) || !(decide (0 ≤ p.bu) && decide (p.bu ≤ 0))) = false) ∧ ((!(decide (1 ≤ p.g) && decide (p.g ≤ 2147483647)) || !(decide (0 ≤ p.bu) && decide (p.bu ≤ 0))) = false → (!(decide (1 ≤ p.g) && decide (p.g ≤ 2147483647)) || !(decide (0 ≤ p.bu) && decide (p.bu ≤ 0))) = false) ∧ ((!(decide (1 ≤ p.g) && decide (p.g ≤ 2147483647)) || !(decide (0 ≤ p.bu) && decide (p.bu ≤ 0))) = false → True) ∧ ((!(decide (1 ≤ p.g) && decide (p.g ≤ 2147483647)) || !(decide (0 ≤ p.bu) && decide (p.bu ≤ 0))) = false → (!(decide (1 ≤ p.g) && decide (p.g ≤ 2147483647)) || !(decide (0 ≤ p.bu) && decide (p.bu ≤ 0))) = false) ∧ ((!(decide (1 ≤ p.g) && decide (p.g ≤ 2147483647)) || !(decide (0 ≤ p.bu) && decide (p.bu ≤ 0))) = false → (!(decide (1 ≤ p.g) && decide (p.g ≤ 2147483647)) || !(decide (0 ≤ p.bu) && decide (p.bu ≤ 0))) = false) ∧ ((!(decide (1 ≤ p.g) && decide (p.g ≤ 2147483647)) || !(decide (0 ≤ p.bu) && decide (p.bu ≤ 0)) || !(decide (1 ≤ p.s) && decide (p.s ≤ 1000000))) = false → (!(decide (1 ≤ p.g) && decide (p.g ≤ 2147483647)) || !(decide (0 ≤ p.bu) && decide (p.bu ≤ 0)) || !(decide (1 ≤ p.s) && decide (p.s ≤ 1000000))) = false) ∧ ((!(decide (1 ≤ p.g) && decide (p.g ≤ 2147483647)) || !(decide (0 ≤ p.bu) && decide (p.bu ≤ 0)) || !(decide (1 ≤ p.s) && decide (p.s ≤ 1000000))) = false → (!(decide (1 ≤ p.g) && decide (p.g ≤ 2147483647)) || !(decide (0 ≤ p.bu) && decide (p.bu ≤ 0)) || !(decide (1 ≤ p.s) && decide (p.s ≤ 1000000))) = false) ∧ ((!(decide (1 ≤ p.g) && decide (p.g ≤ 2147483647)) || !(decide (0 ≤ p.bu) && decide (p.bu ≤ 0)) || !(decide (1 ≤ p.s) && decide (p.s ≤ 1000000))) = false → (!(decide (1 ≤ p.g) && decide (p.g ≤ 2147483647)) || !(decide (0 ≤ p.bu) && decide (p.bu ≤ 0)) || !(decide (1 ≤ p.s) && decide (p.s ≤ 1000000))) = false) ∧ ((!(decide (1 ≤ p.g) && decide (p.g ≤ 2147483647)) || !(decide (0 ≤ p.bu) && decide (p.bu ≤ 0)) || !(decide (1 ≤ p.s) && decide (p.s ≤ 1000000))) = false → True) ∧ ((!(decide (1 ≤ p.g) && decide (p.g ≤ 2147483647)) || !(decide (0 ≤ p.bu) && decide (p.bu ≤ 0)) || !(decide (1 ≤ p.s) && decide (p.s ≤ 1000000))) = false → (!(decide (1 ≤ p.g) && decide (p.g ≤ 2147483647)) || !(decide (0 ≤ p.bu) && decide (p.bu ≤ 0)) || !(decide (1 ≤ p.s) && decide (p.s ≤ 1000000))) = false) ∧ ((!(decide (1 ≤ p.g) && decide (p.g ≤ 2147483647)) || !(decide (0 ≤ p.bu) && decide (p.bu ≤ 0)) || !(decide (1 ≤ p.s) && decide (p.s ≤ 1000000))) = false → (!(decide (1 ≤ p.g) && decide (p.g ≤ 2147483647)) || !(decide (0 ≤ p.bu) && decide (p.bu ≤ 0)) || !(decide (1 ≤ p.s) && decide (p.s ≤ 1000000))) = false) ∧ ((!(decide (1 ≤ p.g) && decide (p.g ≤ 2147483647)) || !(decide (0 ≤ p.bu) && decide (p.bu ≤ 0)) || !(decide (1 ≤ p.s) && decide (p.s ≤ 1000000)) || !(decide (1 ≤ (↑p.l.length : Int)) && decide ((↑p.l.length : Int) ≤ 16))) = false → (!(decide (1 ≤ p.g) && decide (p.g ≤ 2147483647)) || !(decide (0 ≤ p.bu) && decide (p.bu ≤ 0)) || !(decide (1 ≤ p.s) && decide (p.s ≤ 1000000)) || !(decide (1 ≤ (↑p.l.length : Int)) && decide ((↑p.l.length : Int) ≤ 16))) = false) ∧ ((!(decide (1 ≤ p.g) && decide (p.g ≤ 2147483647)) || !(decide (0 ≤ p.bu) && decide (p.bu ≤ 0)) || !(decide (1 ≤ p.s) && decide (p.s ≤ 1000000)) || !(decide (1 ≤ (↑p.l.length : Int)) && decide ((↑p.l.length : Int) ≤ 16))) = false → (!(decide (1 ≤ p.g) && decide (p.g ≤ 2147483647)) || !(decide (0 ≤ p.bu) && decide (p.bu ≤ 0)) || !(decide (1 ≤ p.s) && decide (p.s ≤ 1000000)) || !(decide (1 ≤ (↑p.l.length : Int)) && decide ((↑p.l.length : Int) ≤ 16))) = false) ∧ ((!(decide (1 ≤ p.g) && decide (p.g ≤ 2147483647)) || !(decide (0 ≤ p.bu) && decide (p.bu ≤ 0)) || !(decide (1 ≤ p.s) && decide (p.s ≤ 1000000)) || !(decide (1 ≤ (↑p.l.length : Int)) && decide ((↑p.l.length : Int) ≤ 16))) = false → (!(decide (1 ≤ p.g) && decide (p.g ≤ 2147483647)) || !(decide (0 ≤ p.bu) && decide (p.bu ≤ 0)) || !(decide (1 ≤ p.s) && decide (p.s ≤ 1000000)) || !(decide (1 ≤ (↑p.l.length : Int)) && decide ((↑p.l.length : Int) ≤ 16))) = false) ∧ ((!(decide (1 ≤ p.g) && decide (p.g ≤ 2147483647)) || !(decide (0 ≤ p.bu) && decide (p.bu ≤ 0)) || !(decide (1 ≤ p.s) && decide (p.s ≤ 1000000)) || !(decide (1 ≤ (↑p.l.length : Int)) && decide ((↑p.l.length : Int) ≤ 16))) = false → True) ∧ ((!(decide (1 ≤ p.g) && decide (p.g ≤ 2147483647)) || !(decide (0 ≤ p.bu) && decide (p.bu ≤ 0)) || !(decide (1 ≤ p.s) && decide (p.s ≤ 1000000)) || !(decide (1 ≤ (↑p.l.length : Int)) && decide ((↑p.l.length : Int) ≤ 16))) = false → (!(decide (1 ≤ p.g) && decide (p.g ≤ 2147483647)) || !(decide (0 ≤ p.bu) && decide (p.bu ≤ 0)) || !(decide (1 ≤ p.s) && decide (p.s ≤ 1000000)) || !(decide (1 ≤ (↑p.l.length : Int)) && decide ((↑p.l.length : Int) ≤ 16))) = false) ∧ ((!(decide (1 ≤ p.g) && decide (p.g ≤ 2147483647)) || !(decide (0 ≤ p.bu) && decide (p.bu ≤ 0)) || !(decide (1 ≤ p.s) && decide (p.s ≤ 1000000)) || !(decide (1 ≤ (↑p.l.length : Int)) && decide ((↑p.l.length : Int) ≤ 16))) = false → (!(decide (1 ≤ p.g) && decide (p.g ≤ 2147483647)) || !(decide (0 ≤ p.bu) && decide (p.bu ≤ 0)) || !(decide (1 ≤ p.s) && decide (p.s ≤ 1000000)) || !(decide (1 ≤ (↑p.l.length : Int)) && decide ((↑p.l.length : Int) ≤ 16))) = false) ∧ ((!(decide (1 ≤ p.g) && decide (p.g ≤ 2147483647)) || !(decide (0 ≤ p.bu) && decide (p.bu ≤ 0)) || !(decide (1 ≤ p.s) && decide (p.s ≤ 1000000)) || !(decide (1 ≤ (↑p.l.length : Int)) && decide ((↑p.l.length : Int) ≤ 16)) || !(decide (0 ≤ p.le) && decide (p.le ≤ 0))) = true → ∃ (y : Unit), True ∧ false = goodB p) ∧ ((!(decide (1 ≤ p.g) && decide (p.g ≤ 2147483647)) || !(decide (0 ≤ p.bu) && decide (p.bu ≤ 0)) || !(decide (1 ≤ p.s) && decide (p.s ≤ 1000000)) || !(decide (1 ≤ (↑p.l.length : Int)) && decide ((↑p.l.length : Int) ≤ 16)) || !(decide (0 ≤ p.le) && decide (p.le ≤ 0))) = false → (∃ (x : Nat), (x ≤ p.l.length ∧ ∀ (j : Nat), j < x → cellB (mostI p) (p.l.getD j 0) = true) ∧ 0 = (↑x : Int) ∧ p.g = p.g ∧ p.q = p.q ∧ p.bu = p.bu ∧ p.s = p.s ∧ p.le = p.le ∧ p.l = p.l ∧ p.sp = p.sp ∧ p.pe = p.pe ∧ p.th = p.th ∧ p.em = p.em) ∧ ∀ (x : Nat), (x ≤ p.l.length ∧ ∀ (j : Nat), j < x → cellB (mostI p) (p.l.getD j 0) = true) → (decide ((↑x : Int) < (↑p.l.length : Int)) = true → (0 ≤ (↑x : Int) ∧ (↑x : Int) < (↑p.l.length : Int)) ∧ True ∧ ((!(decide (0 ≤ p.l.getD (↑x : Int).toNat 0) && decide (p.l.getD (↑x : Int).toNat (0 : Int) ≤ 0))) = true → ∃ (y : Unit), True ∧ false = goodB p) ∧ ((!(decide (0 ≤ p.l.getD (↑x : Int).toNat 0) && decide (p.l.getD (↑x : Int).toNat (0 : Int) ≤ 0))) = false → i64R ((↑x : Int) + 1) ∧ ∃ (x' : Nat), (x' ≤ p.l.length ∧ ∀ (j : Nat), j < x' → cellB (mostI p) (p.l.getD j 0) = true) ∧ p.l.length - x' < p.l.length - x ∧ (↑x : Int) + 1 = (↑x' : Int) ∧ p.g = p.g ∧ p.q = p.q ∧ p.bu = p.bu ∧ p.s = p.s ∧ p.le = p.le ∧ p.l = p.l ∧ p.sp = p.sp ∧ p.pe = p.pe ∧ p.th = p.th ∧ p.em = p.em)) ∧ (decide ((↑x : Int) < (↑p.l.length : Int)) = false → ((!p.em) = true → i64R (p.pe - 1) ∧ Small p.le p.l ∧ (decide (p.le + p.l.sum ≤ 0) = true → decide (p.le + p.l.sum ≤ 0) = true) ∧ (decide (p.le + p.l.sum ≤ 0) = true → decide (p.le + p.l.sum ≤ 0) = true) ∧ (decide (p.le + p.l.sum ≤ 0) = true → True) ∧ (decide (p.le + p.l.sum ≤ 0) = true → decide (p.le + p.l.sum ≤ 0) = true) ∧ ((decide (p.le + p.l.sum ≤ 0) && (decide (0 ≤ p.sp) && decide (p.sp ≤ 1099511627776))) = true → (decide (p.le + p.l.sum ≤ 0) && (decide (0 ≤ p.sp) && decide (p.sp ≤ 1099511627776))) = true) ∧ ((decide (p.le + p.l.sum ≤ 0) && (decide (0 ≤ p.sp) && decide (p.sp ≤ 1099511627776))) = true → (decide (p.le + p.l.sum ≤ 0) && (decide (0 ≤ p.sp) && decide (p.sp ≤ 1099511627776))) = true) ∧ ((decide (p.le + p.l.sum ≤ 0) && (decide (0 ≤ p.sp) && decide (p.sp ≤ 1099511627776))) = true → True) ∧ ((decide (p.le + p.l.sum ≤ 0) && (decide (0 ≤ p.sp) && decide (p.sp ≤ 1099511627776))) = true → (decide (p.le + p.l.sum ≤ 0) && (decide (0 ≤ p.sp) && decide (p.sp ≤ 1099511627776))) = true) ∧ ((decide (p.le + p.l.sum ≤ 0) && (decide (0 ≤ p.sp) && decide (p.sp ≤ 1099511627776)) && (decide (0 ≤ p.pe) && decide (p.pe ≤ 1099511627776))) = true → (decide (p.le + p.l.sum ≤ 0) && (decide (0 ≤ p.sp) && decide (p.sp ≤ 1099511627776)) && (decide (0 ≤ p.pe) && decide (p.pe ≤ 1099511627776))) = true) ∧ ((decide (p.le + p.l.sum ≤ 0) && (decide (0 ≤ p.sp) && decide (p.sp ≤ 1099511627776)) && (decide (0 ≤ p.pe) && decide (p.pe ≤ 1099511627776))) = true → (decide (p.le + p.l.sum ≤ 0) && (decide (0 ≤ p.sp) && decide (p.sp ≤ 1099511627776)) && (decide (0 ≤ p.pe) && decide (p.pe ≤ 1099511627776))) = true) ∧ ((decide (p.le + p.l.sum ≤ 0) && (decide (0 ≤ p.sp) && decide (p.sp ≤ 1099511627776)) && (decide (0 ≤ p.pe) && decide (p.pe ≤ 1099511627776))) = true → (decide (p.le + p.l.sum ≤ 0) && (decide (0 ≤ p.sp) && decide (p.sp ≤ 1099511627776)) && (decide (0 ≤ p.pe) && decide (p.pe ≤ 1099511627776))) = true) ∧ ((decide (p.le + p.l.sum ≤ 0) && (decide (0 ≤ p.sp) && decide (p.sp ≤ 1099511627776)) && (decide (0 ≤ p.pe) && decide (p.pe ≤ 1099511627776))) = true → True) ∧ ((decide (p.le + p.l.sum ≤ 0) && (decide (0 ≤ p.sp) && decide (p.sp ≤ 1099511627776)) && (decide (0 ≤ p.pe) && decide (p.pe ≤ 1099511627776))) = true → (decide (p.le + p.l.sum ≤ 0) && (decide (0 ≤ p.sp) && decide (p.sp ≤ 1099511627776)) && (decide (0 ≤ p.pe) && decide (p.pe ≤ 1099511627776))) = true) ∧ ∃ (y : Unit), True ∧ (decide (p.le + p.l.sum ≤ 0) && (decide (0 ≤ p.sp) && decide (p.sp ≤ 1099511627776)) && (decide (0 ≤ p.pe) && decide (p.pe ≤ 1099511627776)) && (decide (0 ≤ p.th) && decide (p.th ≤ p.pe - 1))) = goodB p) ∧ ((!p.em) = false → Small p.le p.l ∧ (decide (p.le + p.l.sum ≤ 0) = true → decide (p.le + p.l.sum ≤ 0) = true) ∧ (decide (p.le + p.l.sum ≤ 0) = true → decide (p.le + p.l.sum ≤ 0) = true) ∧ (decide (p.le + p.l.sum ≤ 0) = true → True) ∧ (decide (p.le + p.l.sum ≤ 0) = true → decide (p.le + p.l.sum ≤ 0) = true) ∧ ((decide (p.le + p.l.sum ≤ 0) && (decide (0 ≤ p.sp) && decide (p.sp ≤ 1099511627776))) = true → (decide (p.le + p.l.sum ≤ 0) && (decide (0 ≤ p.sp) && decide (p.sp ≤ 1099511627776))) = true) ∧ ((decide (p.le + p.l.sum ≤ 0) && (decide (0 ≤ p.sp) && decide (p.sp ≤ 1099511627776))) = true → (decide (p.le + p.l.sum ≤ 0) && (decide (0 ≤ p.sp) && decide (p.sp ≤ 1099511627776))) = true) ∧ ((decide (p.le + p.l.sum ≤ 0) && (decide (0 ≤ p.sp) && decide (p.sp ≤ 1099511627776))) = true → True) ∧ ((decide (p.le + p.l.sum ≤ 0) && (decide (0 ≤ p.sp) && decide (p.sp ≤ 1099511627776))) = true → (decide (p.le + p.l.sum ≤ 0) && (decide (0 ≤ p.sp) && decide (p.sp ≤ 1099511627776))) = true) ∧ ((decide (p.le + p.l.sum ≤ 0) && (decide (0 ≤ p.sp) && decide (p.sp ≤ 1099511627776)) && (decide (0 ≤ p.pe) && decide (p.pe ≤ 1099511627776))) = true → (decide (p.le + p.l.sum ≤ 0) && (decide (0 ≤ p.sp) && decide (p.sp ≤ 1099511627776)) && (decide (0 ≤ p.pe) && decide (p.pe ≤ 1099511627776))) = true) ∧ ((decide (p.le + p.l.sum ≤ 0) && (decide (0 ≤ p.sp) && decide (p.sp ≤ 1099511627776)) && (decide (0 ≤ p.pe) && decide (p.pe ≤ 1099511627776))) = true → (decide (p.le + p.l.sum ≤ 0) && (decide (0 ≤ p.sp) && decide (p.sp ≤ 1099511627776)) && (decide (0 ≤ p.pe) && decide (p.pe ≤ 1099511627776))) = true) ∧ ((decide (p.le + p.l.sum ≤ 0) && (decide (0 ≤ p.sp) && decide (p.sp ≤ 1099511627776)) && (decide (0 ≤ p.pe) && decide (p.pe ≤ 1099511627776))) = true → (decide (p.le + p.l.sum ≤ 0) && (decide (0 ≤ p.sp) && decide (p.sp ≤ 1099511627776)) && (decide (0 ≤ p.pe) && decide (p.pe ≤ 1099511627776))) = true) ∧ ((decide (p.le + p.l.sum ≤ 0) && (decide (0 ≤ p.sp) && decide (p.sp ≤ 1099511627776)) && (decide (0 ≤ p.pe) && decide (p.pe ≤ 1099511627776))) = true → True) ∧ ((decide (p.le + p.l.sum ≤ 0) && (decide (0 ≤ p.sp) && decide (p.sp ≤ 1099511627776)) && (decide (0 ≤ p.pe) && decide (p.pe ≤ 1099511627776))) = true → (decide (p.le + p.l.sum ≤ 0) && (decide (0 ≤ p.sp) && decide (p.sp ≤ 1099511627776)) && (decide (0 ≤ p.pe) && decide (p.pe ≤ 1099511627776))) = true) ∧ ∃ (y : Unit), True ∧ (decide (p.le + p.l.sum ≤ 0) && (decide (0 ≤ p.sp) && decide (p.sp ≤ 1099511627776)) && (decide (0 ≤ p.pe) && decide (p.pe ≤ 1099511627776)) && (decide (0 ≤ p.th) && decide (p.th ≤ p.pe))) = goodB p))))) = sGoodB.vc (EV Try.prog [(119, sWithin.spec), (57, sLimited.spec), (60, sHeld.spec)] (invs [(10, inv116 p)]) noInv) Try.f116 (p, ()) := by kernel_rfl
  rw [← e]
  clear e
  simp only [imp_self, true_and, and_true, exists_const, implies_true, gd1, gd2, gd3, gd4, gd5, gd6, NilL_eq ]
  simp only [Prod.forall, Prod.exists, exists_const, implies_true, not_true_eq_false, not_false_eq_true, or_self, or_false, false_or, or_true, true_or, and_false, false_and, forall_const, true_and, and_true, i64R, imp_self, Int.reduceLE, Int.reduceLT, Int.reduceNeg, false_implies, true_implies, decide_eq_true_eq, decide_eq_false_iff_not, Bool.not_eq_true', Bool.not_eq_false', Bool.true_eq_false, Bool.false_eq_true, Bool.and_eq_true, Bool.or_eq_true, NilL_eq, Bool.and_eq_false_iff, Bool.or_eq_false_iff ]
  obtain ⟨t1, t2, t3, t4, t6, t7, t5⟩ := hx
  simp only [Int.toNat_natCast]
  have loop : ∀ m : Int, mostI p = m → (1 ≤ p.g ∧ p.g ≤ 2147483647) → ratesI p.q p.bu = true → (1 ≤ p.s ∧ p.s ≤ 1000000) → (1 ≤ (p.l.length : Int) ∧ (p.l.length : Int) ≤ 16) → (0 ≤ p.le ∧ p.le ≤ m) → ∀ x : Nat, (x ≤ p.l.length ∧ ∀ j, j < x → cellB m (p.l.getD j 0) = true) → ¬ (x : Int) < p.l.length → Small p.le p.l ∧ goodB p = (decide (p.le + p.l.sum ≤ m) && countB p) := fun m em h1 h2 h3 h4 h5 x hi hge => by
    subst em
    have h6 : ∀ j, j < p.l.length → cellB (mostI p) (p.l.getD j 0) = true := fun j hj => hi.2 j (by omega)
    have h7 : cellB (mostI p) p.le = true := by simp only [cellB, Bool.and_eq_true, decide_eq_true_eq]; exact h5
    refine ⟨small_of h2 t5 ?_, good_split h1 h2 h3 h4 h7 h6⟩
    rw [all_cells]
    intro i hi
    cases i with
    | zero => exact h7
    | succ i => exact h6 i (by simpa using hi)
  have next : ∀ (m : Int) (x : Nat), (x ≤ p.l.length ∧ ∀ j, j < x → cellB m (p.l.getD j 0) = true) → (x : Int) < p.l.length → 0 ≤ p.l.getD x 0 ∧ p.l.getD x 0 ≤ m → (-9223372036854775808 ≤ (x : Int) + 1 ∧ (x : Int) + 1 ≤ 9223372036854775807) ∧ ∃ x', (x' ≤ p.l.length ∧ ∀ j, j < x' → cellB m (p.l.getD j 0) = true) ∧ p.l.length - x' < p.l.length - x ∧ (x : Int) + 1 = x' := fun m x hi hlt hb => by
    refine ⟨by omega, x + 1, ⟨by omega, fun j hj => ?_⟩, by omega, by omega⟩
    by_cases e : j = x
    · subst e; simp only [cellB, Bool.and_eq_true, decide_eq_true_eq]; exact hb
    · exact hi.2 j (by omega)
  have fin : ∀ m : Int, (p.em = false → (decide (p.le + p.l.sum ≤ m) && (decide (0 ≤ p.sp) && decide (p.sp ≤ 1099511627776)) && (decide (0 ≤ p.pe) && decide (p.pe ≤ 1099511627776)) && (decide (0 ≤ p.th) && decide (p.th ≤ p.pe - 1))) = (decide (p.le + p.l.sum ≤ m) && countB p)) ∧ (p.em = true → (decide (p.le + p.l.sum ≤ m) && (decide (0 ≤ p.sp) && decide (p.sp ≤ 1099511627776)) && (decide (0 ≤ p.pe) && decide (p.pe ≤ 1099511627776)) && (decide (0 ≤ p.th) && decide (p.th ≤ p.pe))) = (decide (p.le + p.l.sum ≤ m) && countB p)) := fun m => by
    refine ⟨fun h => ?_, fun h => ?_⟩
    · rw [countB, h, Bool.eq_iff_iff]
      simp only [Bool.and_eq_true, decide_eq_true_eq, Bool.false_eq_true, if_false]
      omega
    · rw [countB, h, Bool.eq_iff_iff]
      simp only [Bool.and_eq_true, decide_eq_true_eq, if_true]
      omega
  by_cases hq : p.q = 4611686018427387904
  · have em : mostI p = 0 := by rw [mostI, if_pos hq]
    rw [em]
    refine ⟨fun h => absurd hq h, fun _ => ⟨fun h => good_no fun g => ?_, fun h => ⟨⟨0, ⟨by omega, fun j hj => by omega⟩, rfl⟩, fun x hi => ⟨fun hlt => ⟨by omega, fun hb => good_no fun g => ?_, fun hb => next 0 x hi hlt hb⟩, fun hge => ?_⟩⟩⟩⟩
    · obtain ⟨c1, c2, c3⟩ := good_cells g
      have c4 := (good_rates g).1 hq
      have := g.g0; have := g.g1; have := g.s0; have := g.s1; have := g.n0; have := g.n1
      rw [em] at c1
      omega
    · obtain ⟨c1, c2, c3⟩ := good_cells g
      have := c2 x (by omega)
      rw [em] at this
      omega
    · have hr : ratesI p.q p.bu = true := ratesI_iff.2 (.inl ⟨hq, by omega⟩)
      obtain ⟨k1, k2⟩ := loop 0 em h.1.1.1.1 hr h.1.1.2 h.1.2 h.2 x hi hge
      rw [k2]
      exact ⟨fun he => ⟨by omega, k1, (fin 0).1 he⟩, fun he => ⟨k1, (fin 0).2 he⟩⟩
  · have em : mostI p = p.q + p.bu := by rw [mostI, if_neg hq]
    rw [em]
    refine ⟨fun _ => ⟨fun h => good_no fun g => ?_, fun hqr => ⟨by omega, fun h => good_no fun g => ?_, fun h => ⟨⟨0, ⟨by omega, fun j hj => by omega⟩, rfl⟩, fun x hi => ⟨fun hlt => ⟨by omega, fun hb => good_no fun g => ?_, fun hb => next _ x hi hlt hb⟩, fun hge => ?_⟩⟩⟩⟩, fun h => absurd h hq⟩
    · have c4 := (good_rates g).2 hq
      omega
    · obtain ⟨c1, c2, c3⟩ := good_cells g
      have c4 := (good_rates g).2 hq
      have := g.g0; have := g.g1; have := g.s0; have := g.s1; have := g.n0; have := g.n1
      rw [em] at c1
      omega
    · obtain ⟨c1, c2, c3⟩ := good_cells g
      have := c2 x (by omega)
      rw [em] at this
      omega
    · have hr : ratesI p.q p.bu = true := ratesI_iff.2 (.inr ⟨hq, by omega⟩)
      obtain ⟨k1, k2⟩ := loop _ em h.1.1.1.1 hr h.1.1.2 h.1.2 h.2 x hi hge
      rw [k2]
      exact ⟨fun he => ⟨by omega, k1, (fin _).1 he⟩, fun he => ⟨k1, (fin _).2 he⟩⟩


set_option maxRecDepth 100000 in
theorem vc138 (p : Pool) (c : Int) (hx : Tame p) : sUse.vc (EV Try.prog [(121, sGoodB.spec)] noInv noInv) Try.f138 (p, c, ()) := by
  have e : (Tame p ∧ ((!goodB p) = true → ∃ (y : Unit), True ∧ 1 = useI p c) ∧ ((!goodB p) = false → (decide (c < 0) = false → decide (c < 0) = false) ∧ (decide (c < 0) = false → decide (c < 0) = false) ∧ (decide (c < 0) = false → decide (c < 0) = false) ∧ (decide (c < 0) = false → decide (c < 0) = false) ∧ (decide (c < 0) = false → decide (c < 0) = false) ∧ ((decide (c < 0) || decide ((↑p.l.length : Int) ≤ c)) = true → ∃ (y : Unit), True ∧ 3 = useI p c) ∧ ((decide (c < 0) || decide ((↑p.l.length : Int) ≤ c)) = false → ∃ (y : Unit), True ∧ 0 = useI p c))) = sUse.vc (EV Try.prog [(121, sGoodB.spec)] noInv noInv) Try.f138 (p, c, ()) := by kernel_rfl
  rw [← e]
  clear e
  simp only [imp_self, true_and, and_true, exists_const, implies_true, gd1, gd2, gd3, gd4, gd5, gd6, NilL_eq ]
  simp only [Prod.forall, Prod.exists, exists_const, implies_true, not_true_eq_false, not_false_eq_true, or_self, or_false, false_or, or_true, true_or, and_false, false_and, forall_const, true_and, and_true, i64R, imp_self, Int.reduceLE, Int.reduceLT, Int.reduceNeg, false_implies, true_implies, decide_eq_true_eq, decide_eq_false_iff_not, Bool.not_eq_true', Bool.not_eq_false', Bool.true_eq_false, Bool.false_eq_true, Bool.and_eq_true, Bool.or_eq_true, NilL_eq, Bool.and_eq_false_iff, Bool.or_eq_false_iff ]
  refine ⟨hx, fun h => by rw [useI, if_pos h], fun h => ⟨fun h2 => by rw [useI, if_neg (by rw [h]; simp), if_pos h2], fun h2 => by rw [useI, if_neg (by rw [h]; simp), if_neg (by omega)]⟩⟩


set_option maxRecDepth 100000 in
theorem vc142 (p : Pool) (c : Int) (hx : Tame p) : sUse.vc (EV Try.prog [(116, sGoodB.spec), (119, sWithin.spec)] noInv noInv) Try.f142 (p, c, ()) := by
  have e : (Tame p ∧ ((!goodB p) = true → ∃ (y : Unit), True ∧ 1 = useI p c) ∧ ((!goodB p) = false → i64R ((↑p.l.length : Int) - 1) ∧ True ∧ ((!(decide (0 ≤ c) && decide (c ≤ (↑p.l.length : Int) - 1))) = true → ∃ (y : Unit), True ∧ 3 = useI p c) ∧ ((!(decide (0 ≤ c) && decide (c ≤ (↑p.l.length : Int) - 1))) = false → ∃ (y : Unit), True ∧ 0 = useI p c))) = sUse.vc (EV Try.prog [(116, sGoodB.spec), (119, sWithin.spec)] noInv noInv) Try.f142 (p, c, ()) := by kernel_rfl
  rw [← e]
  clear e
  simp only [imp_self, true_and, and_true, exists_const, implies_true, gd1, gd2, gd3, gd4, gd5, gd6, NilL_eq ]
  simp only [Prod.forall, Prod.exists, exists_const, implies_true, not_true_eq_false, not_false_eq_true, or_self, or_false, false_or, or_true, true_or, and_false, false_and, forall_const, true_and, and_true, i64R, imp_self, Int.reduceLE, Int.reduceLT, Int.reduceNeg, false_implies, true_implies, decide_eq_true_eq, decide_eq_false_iff_not, Bool.not_eq_true', Bool.not_eq_false', Bool.true_eq_false, Bool.false_eq_true, Bool.and_eq_true, Bool.or_eq_true, NilL_eq, Bool.and_eq_false_iff, Bool.or_eq_false_iff ]
  have hl := hx.len
  refine ⟨hx, fun h => by rw [useI, if_pos h], fun h => ⟨by omega, fun h2 => by rw [useI, if_neg (by rw [h]; simp), if_pos (by omega)], fun h2 => by rw [useI, if_neg (by rw [h]; simp), if_neg (by omega)]⟩⟩


set_option maxRecDepth 100000 in
theorem vc137 (p : Pool) (c : Int) (hx : Tame p) : sRoom.vc (EV Try.prog [(121, sGoodB.spec), (140, sLimited.spec)] noInv noInv) Try.f137 (p, c, ()) := by
  have e : (Tame p ∧ ((!goodB p) = false → (!goodB p) = false) ∧ ((!goodB p) = false → (!goodB p) = false) ∧ ((!goodB p || decide (c < 0)) = false → (!goodB p || decide (c < 0)) = false) ∧ ((!goodB p || decide (c < 0)) = false → (!goodB p || decide (c < 0)) = false) ∧ ((!goodB p || decide (c < 0)) = false → (!goodB p || decide (c < 0)) = false) ∧ ((!goodB p || decide (c < 0)) = false → (!goodB p || decide (c < 0)) = false) ∧ ((!goodB p || decide (c < 0)) = false → (!goodB p || decide (c < 0)) = false) ∧ ((!goodB p || decide (c < 0) || decide ((↑p.l.length : Int) ≤ c)) = true → ∃ (y : Unit), True ∧ 0 = roomI p c) ∧ ((!goodB p || decide (c < 0) || decide ((↑p.l.length : Int) ≤ c)) = false → True ∧ ((!!decide (p.q = 4611686018427387904)) = true → ∃ (y : Unit), True ∧ 1099511627776 = roomI p c) ∧ ((!!decide (p.q = 4611686018427387904)) = false → (0 ≤ c ∧ c < (↑p.l.length : Int)) ∧ i64R (p.le + p.l.getD c.toNat 0) ∧ ∃ (y : Unit), True ∧ p.le + p.l.getD c.toNat 0 = roomI p c))) = sRoom.vc (EV Try.prog [(121, sGoodB.spec), (140, sLimited.spec)] noInv noInv) Try.f137 (p, c, ()) := by kernel_rfl
  rw [← e]
  clear e
  simp only [imp_self, true_and, and_true, exists_const, implies_true, gd1, gd2, gd3, gd4, gd5, gd6, NilL_eq ]
  simp only [Prod.forall, Prod.exists, exists_const, implies_true, not_true_eq_false, not_false_eq_true, or_self, or_false, false_or, or_true, true_or, and_false, false_and, forall_const, true_and, and_true, i64R, imp_self, Int.reduceLE, Int.reduceLT, Int.reduceNeg, false_implies, true_implies, decide_eq_true_eq, decide_eq_false_iff_not, Bool.not_eq_true', Bool.not_eq_false', Bool.true_eq_false, Bool.false_eq_true, Bool.and_eq_true, Bool.or_eq_true, NilL_eq, Bool.and_eq_false_iff, Bool.or_eq_false_iff ]
  have bad : (goodB p = false ∨ c < 0) ∨ (p.l.length : Int) ≤ c → 0 = roomI p c := fun h => by
    rw [roomI, if_pos]
    unfold useI
    by_cases e : goodB p = false
    · rw [if_pos e]; omega
    · rw [if_neg e, if_pos (by rcases h with (h | h) | h <;> first | exact absurd h e | omega)]; omega
  have ok : ∀ h1 : goodB p = true, ¬ c < 0 → ¬ (p.l.length : Int) ≤ c → roomI p c = if p.q = 4611686018427387904 then 1099511627776 else p.le + p.l.getD c.toNat 0 := fun h1 h2 h3 => by
    rw [roomI, if_neg]
    rw [useI, if_neg (by rw [h1]; simp), if_neg (by omega)]; omega
  refine ⟨hx, bad, fun h => ⟨fun h2 => by rw [ok h.1.1 h.1.2 h.2, if_pos h2], fun h2 => ?_⟩⟩
  have hr := (goodB_iff.1 h.1.1).room (c := c) (by omega) (by omega)
  exact ⟨by omega, by omega, by rw [ok h.1.1 h.1.2 h.2, if_neg h2]⟩


set_option maxRecDepth 100000 in
theorem vc62 (p : Pool) (c : Int) (hx : Tame p) : sRoom.vc (EV Try.prog [(116, sGoodB.spec), (57, sLimited.spec), (119, sWithin.spec)] noInv noInv) Try.f62 (p, c, ()) := by
  have e : (Tame p ∧ ((!goodB p) = false → (!goodB p) = false) ∧ ((!goodB p) = false → (!goodB p) = false) ∧ ((!goodB p) = false → (!goodB p) = false) ∧ ((!goodB p) = false → i64R ((↑p.l.length : Int) - 1)) ∧ ((!goodB p) = false → (!goodB p) = false) ∧ ((!goodB p) = false → (!goodB p) = false) ∧ ((!goodB p) = false → True) ∧ ((!goodB p) = false → (!goodB p) = false) ∧ ((!goodB p) = false → (!goodB p) = false) ∧ ((!goodB p || !(decide (0 ≤ c) && decide (c ≤ (↑p.l.length : Int) - 1))) = true → ∃ (y : Unit), True ∧ 0 = roomI p c) ∧ ((!goodB p || !(decide (0 ≤ c) && decide (c ≤ (↑p.l.length : Int) - 1))) = false → True ∧ ((!!decide (p.q = 4611686018427387904)) = true → ∃ (y : Unit), True ∧ 1099511627776 = roomI p c) ∧ ((!!decide (p.q = 4611686018427387904)) = false → (0 ≤ c ∧ c < (↑p.l.length : Int)) ∧ i64R (p.le + p.l.getD c.toNat 0) ∧ ∃ (y : Unit), True ∧ p.le + p.l.getD c.toNat 0 = roomI p c))) = sRoom.vc (EV Try.prog [(116, sGoodB.spec), (57, sLimited.spec), (119, sWithin.spec)] noInv noInv) Try.f62 (p, c, ()) := by kernel_rfl
  rw [← e]
  clear e
  simp only [imp_self, true_and, and_true, exists_const, implies_true, gd1, gd2, gd3, gd4, gd5, gd6, NilL_eq ]
  simp only [Prod.forall, Prod.exists, exists_const, implies_true, not_true_eq_false, not_false_eq_true, or_self, or_false, false_or, or_true, true_or, and_false, false_and, forall_const, true_and, and_true, i64R, imp_self, Int.reduceLE, Int.reduceLT, Int.reduceNeg, false_implies, true_implies, decide_eq_true_eq, decide_eq_false_iff_not, Bool.not_eq_true', Bool.not_eq_false', Bool.true_eq_false, Bool.false_eq_true, Bool.and_eq_true, Bool.or_eq_true, NilL_eq, Bool.and_eq_false_iff, Bool.or_eq_false_iff ]
  have hl := hx.len
  have bad : goodB p = false ∨ ¬ 0 ≤ c ∨ ¬ c ≤ (p.l.length : Int) - 1 → 0 = roomI p c := fun h => by
    rw [roomI, if_pos]
    unfold useI
    by_cases e : goodB p = false
    · rw [if_pos e]; omega
    · rw [if_neg e, if_pos (by rcases h with h | h | h <;> first | exact absurd h e | omega)]; omega
  have ok : ∀ h1 : goodB p = true, ¬ c < 0 → ¬ (p.l.length : Int) ≤ c → roomI p c = if p.q = 4611686018427387904 then 1099511627776 else p.le + p.l.getD c.toNat 0 := fun h1 h2 h3 => by
    rw [roomI, if_neg]
    rw [useI, if_neg (by rw [h1]; simp), if_neg (by omega)]; omega
  refine ⟨hx, fun _ => by omega, bad, fun h => ⟨fun h2 => by rw [ok h.1 (by omega) (by omega), if_pos h2], fun h2 => ?_⟩⟩
  have hr := (goodB_iff.1 h.1).room (c := c) (by omega) (by omega)
  exact ⟨by omega, by omega, by rw [ok h.1 (by omega) (by omega), if_neg h2]⟩
end Go.Proofs.Ytemffnpliflkgaa
