/-
  Lemmas and contracts on the way to the laws of this seat; each theorem states its own conditions, and there are no others.
-/
import Derived.Test.YtemffnpliflkgaaRQ1
namespace Go.Proofs.Ytemffnpliflkgaa
open Go
set_option linter.unusedVariables false
set_option linter.unusedSimpArgs false
set_option linter.unusedVariables false
set_option linter.unusedSimpArgs false
set_option linter.unusedVariables false

def sWithin : DS := ⟨_, three pkI pkI pkI, fun _ => True, fun x => .bool (decide (x.2.1 ≤ x.1) && decide (x.1 ≤ x.2.2.1)), nou⟩
def sLimited : DS := ⟨_, one pkPool, fun _ => True, fun x => .bool (!decide (x.1.q = 4611686018427387904)), nou⟩
def sRates : DS := ⟨_, one pkPool, fun _ => True, fun x => .bool (ratesI x.1.q x.1.bu), nou⟩
def sSum : DS := ⟨_, two pkI pkInts, fun x => Small x.1 x.2.1, fun x => .int .i64 (x.1 + x.2.1.sum), nou⟩
def sHeld : DS := ⟨_, one pkPool, fun x => Small x.1.le x.1.l, fun x => .int .i64 (x.1.le + x.1.l.sum), nou⟩
def sCount : DS := ⟨_, one pkPool, fun x => -1152921504606846976 ≤ x.1.th ∧ x.1.th ≤ 1152921504606846976, fun x => .bool (countB x.1), nou⟩
def sHeldB : DS := ⟨_, one pkPool, fun x => ratesI x.1.q x.1.bu = true ∧ x.1.l.length ≤ 1048576, fun x => .bool (heldB x.1), nou⟩
def sGoodB : DS := ⟨_, one pkPool, fun x => Tame x.1, fun x => .bool (goodB x.1), nou⟩
def useI (p : Pool) (c : Int) : Int := if goodB p = false then 1 else if c < 0 ∨ (p.l.length : Int) ≤ c then 3 else 0
def sUse : DS := ⟨_, two pkPool pkI, fun x => Tame x.1, fun x => .int .i64 (useI x.1 x.2.1), nou⟩
def roomI (p : Pool) (c : Int) : Int := if useI p c ≠ 0 then 0 else if p.q = 4611686018427387904 then 1099511627776 else p.le + p.l.getD c.toNat 0
def sRoom : DS := ⟨_, two pkPool pkI, fun x => Tame x.1, fun x => .int .i64 (roomI x.1 x.2.1), nou⟩
def sClone : DS := ⟨_, one pkInts, fun x => x.1.length ≤ 1048576, fun _ => .own 101 0, fun x => [(101, .rows 3 0 x.1)]⟩
def sCopied : DS := ⟨_, one pkPool, fun x => x.1.l.length ≤ 1048576, fun x => ret x.1, fun x => row x.1⟩
theorem sum_bound {m : Int} (hm : 0 ≤ m) : ∀ {l : List Int}, (∀ x ∈ l, x ≤ m) → l.sum ≤ m * l.length
  | [], _ => by simp
  | a :: l, h => by
    have h1 := sum_bound hm (l := l) fun x hx => h x (by simp [hx])
    have h2 := h a (by simp)
    rw [List.sum_cons, List.length_cons]
    have e : m * ((l.length + 1 : Nat) : Int) = m * l.length + m := by
      rw [Int.natCast_add, Int.mul_add]; simp
    omega
theorem most_rng {p : Pool} (h : ratesI p.q p.bu = true) : 0 ≤ mostI p ∧ mostI p ≤ 2000000 := by
  unfold mostI
  rcases ratesI_iff.1 h with ⟨h1, h2⟩ | ⟨h1, h2⟩
  · rw [if_pos h1]; omega
  · rw [if_neg h1]; omega
theorem small_of {p : Pool} (h : ratesI p.q p.bu = true) (hl : p.l.length ≤ 1048576) (hc : (p.le :: p.l).all (cellB (mostI p)) = true) : Small p.le p.l := by
  obtain ⟨m0, m1⟩ := most_rng h
  simp only [List.all_eq_true, List.mem_cons, forall_eq_or_imp, cellB, Bool.and_eq_true, decide_eq_true_eq] at hc
  obtain ⟨⟨c0, c1⟩, c2⟩ := hc
  refine ⟨c0, fun x hx => (c2 x hx).1, ?_, by omega⟩
  have h3 := sum_bound (m := 2000000) (by omega) (l := p.l) fun x hx => by have := (c2 x hx).2; omega
  omega
theorem all_cells {m : Int} {L : List Int} : L.all (cellB m) = true ↔ ∀ i, i < L.length → cellB m (L.getD i 0) = true := by
  rw [List.all_eq_true]
  constructor
  · intro h i hi
    rw [List.getD_eq_getElem?_getD, List.getElem?_eq_getElem hi, Option.getD_some]
    exact h _ (List.getElem_mem hi)
  · intro h x hx
    obtain ⟨i, hi, rfl⟩ := List.getElem_of_mem hx
    have := h i hi
    rwa [List.getD_eq_getElem?_getD, List.getElem?_eq_getElem hi, Option.getD_some] at this
theorem held_end {p : Pool} (h : ∀ j, j < p.l.length + 1 → cellB (mostI p) ((p.le :: p.l).getD j 0) = true) : heldB p = decide (p.le + p.l.sum ≤ mostI p) := by
  have h2 : (p.le :: p.l).all (cellB (mostI p)) = true := all_cells.2 fun i hi => h i (by simpa using hi)
  rw [heldB, h2, Bool.true_and]
theorem held_bad {p : Pool} {i : Nat} (hi : i < p.l.length + 1) (h : ¬ cellB (mostI p) ((p.le :: p.l).getD i 0) = true) : false = heldB p := by
  cases e : heldB p
  · rfl
  · rw [heldB, Bool.and_eq_true] at e
    exact absurd (all_cells.1 e.1 i (by simpa using hi)) h
theorem good_split {p : Pool} (h1 : 1 ≤ p.g ∧ p.g ≤ 2147483647) (h2 : ratesI p.q p.bu = true) (h3 : 1 ≤ p.s ∧ p.s ≤ 1000000) (h4 : 1 ≤ (p.l.length : Int) ∧ (p.l.length : Int) ≤ 16) (h5 : cellB (mostI p) p.le = true) (h6 : ∀ j, j < p.l.length → cellB (mostI p) (p.l.getD j 0) = true) : goodB p = (decide (p.le + p.l.sum ≤ mostI p) && countB p) := by
  have h7 : heldB p = decide (p.le + p.l.sum ≤ mostI p) := held_end fun j hj => by
    cases j with
    | zero => exact h5
    | succ j => exact h6 j (by omega)
  rw [goodB, h7]
  simp only [h1.1, h1.2, h2, h3.1, h3.2, h4.1, h4.2, decide_true, Bool.true_and]
theorem good_no {p : Pool} (h : Good p → False) : false = goodB p := by
  cases e : goodB p
  · rfl
  · exact absurd (goodB_iff.1 e) h
theorem good_rates {p : Pool} (h : Good p) : (p.q = 4611686018427387904 → p.bu = 0) ∧ (¬ p.q = 4611686018427387904 → 1 ≤ p.q ∧ p.q ≤ 1000000 ∧ 0 ≤ p.bu ∧ p.bu ≤ p.q) := by
  rcases h.rates with ⟨a, b⟩ | ⟨a, b⟩
  · exact ⟨fun _ => b, fun c => absurd a c⟩
  · exact ⟨fun c => absurd c a, fun _ => b⟩
theorem good_cells {p : Pool} (h : Good p) : (0 ≤ p.le ∧ p.le ≤ mostI p) ∧ (∀ j, j < p.l.length → 0 ≤ p.l.getD j 0 ∧ p.l.getD j 0 ≤ mostI p) ∧ p.le + p.l.sum ≤ mostI p := by
  have h2 := goodB_iff.2 h
  simp only [goodB, Bool.and_eq_true] at h2
  obtain ⟨a, b, c⟩ := heldB_iff.1 h2.1.2
  refine ⟨a, fun j hj => b _ ?_, c⟩
  rw [List.getD_eq_getElem?_getD, List.getElem?_eq_getElem hj, Option.getD_some]
  exact List.getElem_mem hj


set_option maxRecDepth 100000 in
theorem vc147 (n a b : Int) (hx : True) : sWithin.vc (EV Try.prog [] noInv noInv) Try.f147 (n, a, b, ()) := by
  have e : ((decide (a ≤ n) = true → decide (a ≤ n) = true) ∧ (decide (a ≤ n) = true → decide (a ≤ n) = true) ∧ (decide (a ≤ n) = true → decide (a ≤ n) = true) ∧ ∃ (y : Unit), True ∧ (decide (a ≤ n) && decide (n ≤ b)) = (decide (a ≤ n) && decide (n ≤ b))) = sWithin.vc (EV Try.prog [] noInv noInv) Try.f147 (n, a, b, ()) := by kernel_rfl
  rw [← e]
  clear e
  simp


set_option maxRecDepth 100000 in
theorem vc119 (n a b : Int) (hx : True) : sWithin.vc (EV Try.prog [] noInv noInv) Try.f119 (n, a, b, ()) := by
  have e : ((decide (a ≤ n) = true → decide (a ≤ n) = true) ∧ (decide (a ≤ n) = true → decide (a ≤ n) = true) ∧ (decide (a ≤ n) = true → decide (a ≤ n) = true) ∧ ∃ (y : Unit), True ∧ (decide (a ≤ n) && decide (n ≤ b)) = (decide (a ≤ n) && decide (n ≤ b))) = sWithin.vc (EV Try.prog [] noInv noInv) Try.f119 (n, a, b, ()) := by kernel_rfl
  rw [← e]
  clear e
  simp


set_option maxRecDepth 100000 in
theorem vc140 (p : Pool) (hx : True) : sLimited.vc (EV Try.prog [] noInv noInv) Try.f140 (p, ()) := by
  have e : (∃ (y : Unit), True ∧ (!decide (p.q = 4611686018427387904)) = !decide (p.q = 4611686018427387904)) = sLimited.vc (EV Try.prog [] noInv noInv) Try.f140 (p, ()) := by kernel_rfl
  rw [← e]
  clear e
  simp


set_option maxRecDepth 100000 in
theorem vc57 (p : Pool) (hx : True) : sLimited.vc (EV Try.prog [] noInv noInv) Try.f57 (p, ()) := by
  have e : (∃ (y : Unit), True ∧ (!decide (p.q = 4611686018427387904)) = !decide (p.q = 4611686018427387904)) = sLimited.vc (EV Try.prog [] noInv noInv) Try.f57 (p, ()) := by kernel_rfl
  rw [← e]
  clear e
  simp

def inv153 (n : Int) (l : List Int) : Inv where
  X := Nat
  ok := fun i => i ≤ l.length
  sl := fun i => [(9, .int .i64 (i : Int)), (0, .int .i64 (n + (l.take i).sum))]
  hp := fun _ => []
  keep := []
  me := fun i => l.length - i
set_option maxRecDepth 100000 in
theorem vc153 (n : Int) (l : List Int) (hx : Small n l) : sSum.vc (EV Try.prog [] (invs [(2, inv153 n l)]) noInv) Try.f153 (n, l, ()) := by
  have e : ((∃ (x : Nat), x ≤ l.length ∧ 0 = (↑x : Int) ∧ n = n + (List.take x l).sum) ∧ ∀ (x : Nat), x ≤ l.length → (decide ((↑x : Int) < (↑l.length : Int)) = true → (0 ≤ (↑x : Int) ∧ (↑x : Int) < (↑l.length : Int)) ∧ i64R (n + (List.take x l).sum + l.getD (↑x : Int).toNat 0) ∧ i64R ((↑x : Int) + 1) ∧ ∃ (x' : Nat), x' ≤ l.length ∧ l.length - x' < l.length - x ∧ (↑x : Int) + 1 = (↑x' : Int) ∧ n + (List.take x l).sum + l.getD (↑x : Int).toNat 0 = n + (List.take x' l).sum) ∧ (decide ((↑x : Int) < (↑l.length : Int)) = false → ∃ (y : Unit), True ∧ n + (List.take x l).sum = n + l.sum)) = sSum.vc (EV Try.prog [] (invs [(2, inv153 n l)]) noInv) Try.f153 (n, l, ()) := by kernel_rfl
  rw [← e]
  clear e
  obtain ⟨h1, h2, h3, h4⟩ := hx
  refine ⟨⟨0, by omega, rfl, by simp⟩, fun i hi => ⟨fun hlt => ?_, fun hge => ⟨(), trivial, ?_⟩⟩⟩
  · simp only [decide_eq_true_eq] at hlt
    have hi' : i < l.length := by omega
    have hs := sum_take_succ l i hi'
    have hb := sum_take_le h2 (i + 1)
    have hb0 := sum_take_nonneg h2 i
    have hx0 := get_nonneg h2 i
    simp only [Int.toNat_natCast, i64R]
    refine ⟨by omega, by omega, by omega, i + 1, by omega, by omega, by omega, by omega⟩
  · simp only [decide_eq_false_iff_not] at hge
    rw [List.take_of_length_le (by omega)]


set_option maxRecDepth 100000 in
theorem vc144 (p : Pool) (hx : Small p.le p.l) : sHeld.vc (EV Try.prog [(153, sSum.spec)] noInv noInv) Try.f144 (p, ()) := by
  have e : (Small p.le p.l ∧ ∃ (y : Unit), True ∧ p.le + p.l.sum = p.le + p.l.sum) = sHeld.vc (EV Try.prog [(153, sSum.spec)] noInv noInv) Try.f144 (p, ()) := by kernel_rfl
  rw [← e]
  clear e
  exact ⟨hx, (), trivial, rfl⟩


set_option maxRecDepth 100000 in
theorem vc125 (l : List Int) (hx : l.length ≤ 1048576) : sClone.vc (EV Try.prog [] noInv noInv) Try.f125 (l, ()) := by
  have e : (∀ (y : Bool), (y = true → l = NilL Int) → (y = true → ∃ (y : Unit), True ∧ NilL Int = l) ∧ (y = false → (NilL Int).length + l.length ≤ (68719476736 : Nat) ∧ ∃ (y : Unit), True ∧ NilL Int ++ l = l)) = sClone.vc (EV Try.prog [] noInv noInv) Try.f125 (l, ()) := by kernel_rfl
  rw [← e]
  clear e
  simp only [NilL_eq]
  intro y hy
  refine ⟨fun h => ⟨(), trivial, (hy h).symm⟩, fun _ => ⟨by simp; omega, (), trivial, rfl⟩⟩


set_option maxRecDepth 100000 in
theorem vc139 (p : Pool) (hx : p.l.length ≤ 1048576) : sCopied.vc (EV Try.prog [(125, sClone.spec)] noInv noInv) Try.f139 (p, ()) := by
  have e : (p.l.length ≤ (1048576 : Nat) ∧ ∃ (y : Unit), True ∧ p.g = p.g ∧ p.q = p.q ∧ p.bu = p.bu ∧ p.s = p.s ∧ p.le = p.le ∧ p.sp = p.sp ∧ p.pe = p.pe ∧ p.th = p.th ∧ p.em = p.em ∧ p.l = p.l) = sCopied.vc (EV Try.prog [(125, sClone.spec)] noInv noInv) Try.f139 (p, ()) := by kernel_rfl
  rw [← e]
  clear e
  simp [hx]

def inv60 (p : Pool) : Inv where
  X := Nat
  ok := fun i => i ≤ p.l.length
  sl := fun i => [(4, .int .i64 (i : Int)), (3, .int .i64 (p.le + (p.l.take i).sum))]
  hp := fun _ => []
  keep := [10000]
  me := fun i => p.l.length - i
set_option maxRecDepth 100000 in
theorem vc60 (p : Pool) (hx : Small p.le p.l) : sHeld.vc (EV Try.prog [] (invs [(3, inv60 p)]) noInv) Try.f60 (p, ()) := by
  have e : ((∃ (x : Nat), x ≤ p.l.length ∧ 0 = (↑x : Int) ∧ p.le = p.le + (List.take x p.l).sum ∧ p.g = p.g ∧ p.q = p.q ∧ p.bu = p.bu ∧ p.s = p.s ∧ p.le = p.le ∧ p.l = p.l ∧ p.sp = p.sp ∧ p.pe = p.pe ∧ p.th = p.th ∧ p.em = p.em) ∧ ∀ (x : Nat), x ≤ p.l.length → (decide ((↑x : Int) < (↑p.l.length : Int)) = true → (0 ≤ (↑x : Int) ∧ (↑x : Int) < (↑p.l.length : Int)) ∧ i64R (p.le + (List.take x p.l).sum + p.l.getD (↑x : Int).toNat 0) ∧ i64R ((↑x : Int) + 1) ∧ ∃ (x' : Nat), x' ≤ p.l.length ∧ p.l.length - x' < p.l.length - x ∧ (↑x : Int) + 1 = (↑x' : Int) ∧ p.le + (List.take x p.l).sum + p.l.getD (↑x : Int).toNat 0 = p.le + (List.take x' p.l).sum ∧ p.g = p.g ∧ p.q = p.q ∧ p.bu = p.bu ∧ p.s = p.s ∧ p.le = p.le ∧ p.l = p.l ∧ p.sp = p.sp ∧ p.pe = p.pe ∧ p.th = p.th ∧ p.em = p.em) ∧ (decide ((↑x : Int) < (↑p.l.length : Int)) = false → ∃ (y : Unit), True ∧ p.le + (List.take x p.l).sum = p.le + p.l.sum)) = sHeld.vc (EV Try.prog [] (invs [(3, inv60 p)]) noInv) Try.f60 (p, ()) := by kernel_rfl
  rw [← e]
  clear e
  obtain ⟨h1, h2, h3, h4⟩ := hx
  simp only [and_true, i64R]
  refine ⟨⟨0, by omega, rfl, by simp⟩, fun i hi => ⟨fun hlt => ?_, fun hge => ⟨(), trivial, ?_⟩⟩⟩
  · simp only [decide_eq_true_eq] at hlt
    have hi' : i < p.l.length := by omega
    have hs := sum_take_succ p.l i hi'
    have hb := sum_take_le h2 (i + 1)
    have hb0 := sum_take_nonneg h2 i
    have hx0 := get_nonneg h2 i
    simp only [Int.toNat_natCast]
    refine ⟨by omega, by omega, by omega, i + 1, by omega, by omega, by omega, by omega⟩
  · simp only [decide_eq_false_iff_not] at hge
    rw [List.take_of_length_le (by omega)]


set_option maxRecDepth 100000 in
theorem vc118 (p : Pool) (hx : p.l.length ≤ 1048576) : sCopied.vc (EV Try.prog [] noInv noInv) Try.f118 (p, ()) := by
  have e : (p.l.length ≤ (68719476736 : Nat) ∧ ∃ (y : Unit), True ∧ p.g = p.g ∧ p.q = p.q ∧ p.bu = p.bu ∧ p.s = p.s ∧ p.le = p.le ∧ p.sp = p.sp ∧ p.pe = p.pe ∧ p.th = p.th ∧ p.em = p.em ∧ p.l = p.l) = sCopied.vc (EV Try.prog [] noInv noInv) Try.f118 (p, ()) := by kernel_rfl
  rw [← e]
  clear e
  simp; omega


set_option maxRecDepth 100000 in
theorem vc148 (p : Pool) (hx : True) : sRates.vc (EV Try.prog [(147, sWithin.spec), (140, sLimited.spec)] noInv noInv) Try.f148 (p, ()) := by
  have e : (True ∧ ((!!decide (p.q = 4611686018427387904)) = true → ∃ (y : Unit), True ∧ decide (p.bu = 0) = ratesI p.q p.bu) ∧ ((!!decide (p.q = 4611686018427387904)) = false → True ∧ ((decide (1 ≤ p.q) && decide (p.q ≤ 1000000)) = true → (decide (1 ≤ p.q) && decide (p.q ≤ 1000000)) = true) ∧ ((decide (1 ≤ p.q) && decide (p.q ≤ 1000000)) = true → (decide (1 ≤ p.q) && decide (p.q ≤ 1000000)) = true) ∧ ((decide (1 ≤ p.q) && decide (p.q ≤ 1000000)) = true → (decide (1 ≤ p.q) && decide (p.q ≤ 1000000)) = true) ∧ ((decide (1 ≤ p.q) && decide (p.q ≤ 1000000)) = true → (decide (1 ≤ p.q) && decide (p.q ≤ 1000000)) = true) ∧ ((decide (1 ≤ p.q) && decide (p.q ≤ 1000000)) = true → True) ∧ ((decide (1 ≤ p.q) && decide (p.q ≤ 1000000)) = true → (decide (1 ≤ p.q) && decide (p.q ≤ 1000000)) = true) ∧ ∃ (y : Unit), True ∧ (decide (1 ≤ p.q) && decide (p.q ≤ 1000000) && (decide (0 ≤ p.bu) && decide (p.bu ≤ p.q))) = ratesI p.q p.bu)) = sRates.vc (EV Try.prog [(147, sWithin.spec), (140, sLimited.spec)] noInv noInv) Try.f148 (p, ()) := by kernel_rfl
  rw [← e]
  clear e
  simp only [imp_self, true_and, and_true, exists_const, implies_true, gd1, gd2, gd3, gd4, gd5, gd6, NilL_eq ]
  simp only [Prod.forall, Prod.exists, exists_const, implies_true, not_true_eq_false, not_false_eq_true, or_self, or_false, false_or, or_true, true_or, and_false, false_and, forall_const, true_and, and_true, i64R, imp_self, Int.reduceLE, Int.reduceLT, Int.reduceNeg, false_implies, true_implies, decide_eq_true_eq, decide_eq_false_iff_not, Bool.not_eq_true', Bool.not_eq_false', Bool.true_eq_false, Bool.false_eq_true, Bool.and_eq_true, Bool.or_eq_true, NilL_eq, Bool.and_eq_false_iff, Bool.or_eq_false_iff ]
  unfold ratesI
  exact ⟨fun h => by rw [if_pos h], fun h => by rw [if_neg h]⟩


set_option maxRecDepth 100000 in
theorem vc150 (p : Pool) (hx : -1152921504606846976 ≤ p.th ∧ p.th ≤ 1152921504606846976) : sCount.vc (EV Try.prog [(147, sWithin.spec)] noInv noInv) Try.f150 (p, ()) := by
  have e : (((!p.em) = true → i64R (p.th + 1) ∧ True ∧ ((decide (0 ≤ p.sp) && decide (p.sp ≤ 1099511627776)) = true → (decide (0 ≤ p.sp) && decide (p.sp ≤ 1099511627776)) = true) ∧ ((decide (0 ≤ p.sp) && decide (p.sp ≤ 1099511627776)) = true → (decide (0 ≤ p.sp) && decide (p.sp ≤ 1099511627776)) = true) ∧ ((decide (0 ≤ p.sp) && decide (p.sp ≤ 1099511627776)) = true → True) ∧ ((decide (0 ≤ p.sp) && decide (p.sp ≤ 1099511627776)) = true → (decide (0 ≤ p.sp) && decide (p.sp ≤ 1099511627776)) = true) ∧ ((decide (0 ≤ p.sp) && decide (p.sp ≤ 1099511627776) && (decide (0 ≤ p.pe) && decide (p.pe ≤ 1099511627776))) = true → (decide (0 ≤ p.sp) && decide (p.sp ≤ 1099511627776) && (decide (0 ≤ p.pe) && decide (p.pe ≤ 1099511627776))) = true) ∧ ((decide (0 ≤ p.sp) && decide (p.sp ≤ 1099511627776) && (decide (0 ≤ p.pe) && decide (p.pe ≤ 1099511627776))) = true → (decide (0 ≤ p.sp) && decide (p.sp ≤ 1099511627776) && (decide (0 ≤ p.pe) && decide (p.pe ≤ 1099511627776))) = true) ∧ ((decide (0 ≤ p.sp) && decide (p.sp ≤ 1099511627776) && (decide (0 ≤ p.pe) && decide (p.pe ≤ 1099511627776))) = true → True) ∧ ((decide (0 ≤ p.sp) && decide (p.sp ≤ 1099511627776) && (decide (0 ≤ p.pe) && decide (p.pe ≤ 1099511627776))) = true → (decide (0 ≤ p.sp) && decide (p.sp ≤ 1099511627776) && (decide (0 ≤ p.pe) && decide (p.pe ≤ 1099511627776))) = true) ∧ ((decide (0 ≤ p.sp) && decide (p.sp ≤ 1099511627776) && (decide (0 ≤ p.pe) && decide (p.pe ≤ 1099511627776)) && (decide (0 ≤ p.th) && decide (p.th ≤ 1099511627776))) = true → (decide (0 ≤ p.sp) && decide (p.sp ≤ 1099511627776) && (decide (0 ≤ p.pe) && decide (p.pe ≤ 1099511627776)) && (decide (0 ≤ p.th) && decide (p.th ≤ 1099511627776))) = true) ∧ ((decide (0 ≤ p.sp) && decide (p.sp ≤ 1099511627776) && (decide (0 ≤ p.pe) && decide (p.pe ≤ 1099511627776)) && (decide (0 ≤ p.th) && decide (p.th ≤ 1099511627776))) = true → (decide (0 ≤ p.sp) && decide (p.sp ≤ 1099511627776) && (decide (0 ≤ p.pe) && decide (p.pe ≤ 1099511627776)) && (decide (0 ≤ p.th) && decide (p.th ≤ 1099511627776))) = true) ∧ ((decide (0 ≤ p.sp) && decide (p.sp ≤ 1099511627776) && (decide (0 ≤ p.pe) && decide (p.pe ≤ 1099511627776)) && (decide (0 ≤ p.th) && decide (p.th ≤ 1099511627776))) = true → (decide (0 ≤ p.sp) && decide (p.sp ≤ 1099511627776) && (decide (0 ≤ p.pe) && decide (p.pe ≤ 1099511627776)) && (decide (0 ≤ p.th) && decide (p.th ≤ 1099511627776))) = true) ∧ ((decide (0 ≤ p.sp) && decide (p.sp ≤ 1099511627776) && (decide (0 ≤ p.pe) && decide (p.pe ≤ 1099511627776)) && (decide (0 ≤ p.th) && decide (p.th ≤ 1099511627776))) = true → (decide (0 ≤ p.sp) && decide (p.sp ≤ 1099511627776) && (decide (0 ≤ p.pe) && decide (p.pe ≤ 1099511627776)) && (decide (0 ≤ p.th) && decide (p.th ≤ 1099511627776))) = true) ∧ ∃ (y : Unit), True ∧ (decide (0 ≤ p.sp) && decide (p.sp ≤ 1099511627776) && (decide (0 ≤ p.pe) && decide (p.pe ≤ 1099511627776)) && (decide (0 ≤ p.th) && decide (p.th ≤ 1099511627776)) && decide (p.th + 1 ≤ p.pe)) = countB p) ∧ ((!p.em) = false → True ∧ ((decide (0 ≤ p.sp) && decide (p.sp ≤ 1099511627776)) = true → (decide (0 ≤ p.sp) && decide (p.sp ≤ 1099511627776)) = true) ∧ ((decide (0 ≤ p.sp) && decide (p.sp ≤ 1099511627776)) = true → (decide (0 ≤ p.sp) && decide (p.sp ≤ 1099511627776)) = true) ∧ ((decide (0 ≤ p.sp) && decide (p.sp ≤ 1099511627776)) = true → True) ∧ ((decide (0 ≤ p.sp) && decide (p.sp ≤ 1099511627776)) = true → (decide (0 ≤ p.sp) && decide (p.sp ≤ 1099511627776)) = true) ∧ ((decide (0 ≤ p.sp) && decide (p.sp ≤ 1099511627776) && (decide (0 ≤ p.pe) && decide (p.pe ≤ 1099511627776))) = true → (decide (0 ≤ p.sp) && decide (p.sp ≤ 1099511627776) && (decide (0 ≤ p.pe) && decide (p.pe ≤ 1099511627776))) = true) ∧ ((decide (0 ≤ p.sp) && decide (p.sp ≤ 1099511627776) && (decide (0 ≤ p.pe) && decide (p.pe ≤ 1099511627776))) = true → (decide (0 ≤ p.sp) && decide (p.sp ≤ 1099511627776) && (decide (0 ≤ p.pe) && decide (p.pe ≤ 1099511627776))) = true) ∧ ((decide (0 ≤ p.sp) && decide (p.sp ≤ 1099511627776) && (decide (0 ≤ p.pe) && decide (p.pe ≤ 1099511627776))) = true → True) ∧ ((decide (0 ≤ p.sp) && decide (p.sp ≤ 1099511627776) && (decide (0 ≤ p.pe) && decide (p.pe ≤ 1099511627776))) = true → (decide (0 ≤ p.sp) && decide (p.sp ≤ 1099511627776) && (decide (0 ≤ p.pe) && decide (p.pe ≤ 1099511627776))) = true) ∧ ((decide (0 ≤ p.sp) && decide (p.sp ≤ 1099511627776) && (decide (0 ≤ p.pe) && decide (p.pe ≤ 1099511627776)) && (decide (0 ≤ p.th) && decide (p.th ≤ 1099511627776))) = true → (decide (0 ≤ p.sp) && decide (p.sp ≤ 1099511627776) && (decide (0 ≤ p.pe) && decide (p.pe ≤ 1099511627776)) && (decide (0 ≤ p.th) && decide (p.th ≤ 1099511627776))) = true) ∧ ((decide (0 ≤ p.sp) && decide (p.sp ≤ 1099511627776) && (decide (0 ≤ p.pe) && decide (p.pe ≤ 1099511627776)) && (decide (0 ≤ p.th) && decide (p.th ≤ 1099511627776))) = true → (decide (0 ≤ p.sp) && decide (p.sp ≤ 1099511627776) && (decide (0 ≤ p.pe) && decide (p.pe ≤ 1099511627776)) && (decide (0 ≤ p.th) && decide (p.th ≤ 1099511627776))) = true) ∧ ((decide (0 ≤ p.sp) && decide (p.sp ≤ 1099511627776) && (decide (0 ≤ p.pe) && decide (p.pe ≤ 1099511627776)) && (decide (0 ≤ p.th) && decide (p.th ≤ 1099511627776))) = true → (decide (0 ≤ p.sp) && decide (p.sp ≤ 1099511627776) && (decide (0 ≤ p.pe) && decide (p.pe ≤ 1099511627776)) && (decide (0 ≤ p.th) && decide (p.th ≤ 1099511627776))) = true) ∧ ((decide (0 ≤ p.sp) && decide (p.sp ≤ 1099511627776) && (decide (0 ≤ p.pe) && decide (p.pe ≤ 1099511627776)) && (decide (0 ≤ p.th) && decide (p.th ≤ 1099511627776))) = true → (decide (0 ≤ p.sp) && decide (p.sp ≤ 1099511627776) && (decide (0 ≤ p.pe) && decide (p.pe ≤ 1099511627776)) && (decide (0 ≤ p.th) && decide (p.th ≤ 1099511627776))) = true) ∧ ∃ (y : Unit), True ∧ (decide (0 ≤ p.sp) && decide (p.sp ≤ 1099511627776) && (decide (0 ≤ p.pe) && decide (p.pe ≤ 1099511627776)) && (decide (0 ≤ p.th) && decide (p.th ≤ 1099511627776)) && decide (p.th ≤ p.pe)) = countB p)) = sCount.vc (EV Try.prog [(147, sWithin.spec)] noInv noInv) Try.f150 (p, ()) := by kernel_rfl
  rw [← e]
  clear e
  simp only [imp_self, true_and, and_true, exists_const, implies_true, gd1, gd2, gd3, gd4, gd5, gd6, NilL_eq ]
  simp only [Prod.forall, Prod.exists, exists_const, implies_true, not_true_eq_false, not_false_eq_true, or_self, or_false, false_or, or_true, true_or, and_false, false_and, forall_const, true_and, and_true, i64R, imp_self, Int.reduceLE, Int.reduceLT, Int.reduceNeg, false_implies, true_implies, decide_eq_true_eq, decide_eq_false_iff_not, Bool.not_eq_true', Bool.not_eq_false', Bool.true_eq_false, Bool.false_eq_true, Bool.and_eq_true, Bool.or_eq_true, NilL_eq, Bool.and_eq_false_iff, Bool.or_eq_false_iff ]
  refine ⟨fun h => ⟨by omega, ?_⟩, fun h => ?_⟩
  · rw [countB, h, Bool.eq_iff_iff]
    simp only [Bool.and_eq_true, decide_eq_true_eq, Bool.false_eq_true, if_false]
    omega
  · rw [countB, h]; rfl

def inv149 (p : Pool) : Inv where
  X := Nat
  ok := fun i => i ≤ p.l.length + 1 ∧ ∀ j, j < i → cellB (mostI p) ((p.le :: p.l).getD j 0) = true
  sl := fun i => [(18, .own 101 0), (20, .int .i64 (i : Int))]
  hp := fun _ => [(101, .rows 3 0 (p.le :: p.l))]
  keep := [10000]
  me := fun i => p.l.length + 1 - i
set_option maxRecDepth 100000 in
theorem vc149 (p : Pool) (hx : ratesI p.q p.bu = true ∧ p.l.length ≤ 1048576) : sHeldB.vc (EV Try.prog [(147, sWithin.spec), (140, sLimited.spec), (144, sHeld.spec)] (invs [(5, inv149 p)]) noInv) Try.f149 (p, ()) := by
  have e : (True ∧ ((!decide (p.q = 4611686018427387904)) = true → i64R (p.q + p.bu) ∧ (p.le :: NilL Int).length + p.l.length ≤ (68719476736 : Nat) ∧ (∃ (x : Nat), (x ≤ p.l.length + (1 : Nat) ∧ ∀ (j : Nat), j < x → cellB (mostI p) ((p.le :: p.l).getD j 0) = true) ∧ 0 = (↑x : Int) ∧ p.le :: NilL Int ++ p.l = p.le :: p.l ∧ p.g = p.g ∧ p.q = p.q ∧ p.bu = p.bu ∧ p.s = p.s ∧ p.le = p.le ∧ p.l = p.l ∧ p.sp = p.sp ∧ p.pe = p.pe ∧ p.th = p.th ∧ p.em = p.em) ∧ ∀ (x : Nat), (x ≤ p.l.length + (1 : Nat) ∧ ∀ (j : Nat), j < x → cellB (mostI p) ((p.le :: p.l).getD j 0) = true) → (decide ((↑x : Int) < (↑(p.le :: NilL Int ++ p.l).length : Int)) = true → (0 ≤ (↑x : Int) ∧ (↑x : Int) < (↑(p.le :: p.l).length : Int)) ∧ True ∧ ((!(decide (0 ≤ (p.le :: p.l).getD (↑x : Int).toNat 0) && decide ((p.le :: p.l).getD (↑x : Int).toNat 0 ≤ p.q + p.bu))) = true → ∃ (y : Unit), True ∧ false = heldB p) ∧ ((!(decide (0 ≤ (p.le :: p.l).getD (↑x : Int).toNat 0) && decide ((p.le :: p.l).getD (↑x : Int).toNat 0 ≤ p.q + p.bu))) = false → i64R ((↑x : Int) + 1) ∧ ∃ (x' : Nat), (x' ≤ p.l.length + (1 : Nat) ∧ ∀ (j : Nat), j < x' → cellB (mostI p) ((p.le :: p.l).getD j 0) = true) ∧ p.l.length + (1 : Nat) - x' < p.l.length + (1 : Nat) - x ∧ (↑x : Int) + 1 = (↑x' : Int) ∧ p.le :: p.l = p.le :: p.l ∧ p.g = p.g ∧ p.q = p.q ∧ p.bu = p.bu ∧ p.s = p.s ∧ p.le = p.le ∧ p.l = p.l ∧ p.sp = p.sp ∧ p.pe = p.pe ∧ p.th = p.th ∧ p.em = p.em)) ∧ (decide ((↑x : Int) < (↑(p.le :: NilL Int ++ p.l).length : Int)) = false → Small p.le p.l ∧ ∃ (y : Unit), True ∧ decide (p.le + p.l.sum ≤ p.q + p.bu) = heldB p)) ∧ ((!decide (p.q = 4611686018427387904)) = false → (p.le :: NilL Int).length + p.l.length ≤ (68719476736 : Nat) ∧ (∃ (x : Nat), (x ≤ p.l.length + (1 : Nat) ∧ ∀ (j : Nat), j < x → cellB (mostI p) ((p.le :: p.l).getD j 0) = true) ∧ 0 = (↑x : Int) ∧ p.le :: NilL Int ++ p.l = p.le :: p.l ∧ p.g = p.g ∧ p.q = p.q ∧ p.bu = p.bu ∧ p.s = p.s ∧ p.le = p.le ∧ p.l = p.l ∧ p.sp = p.sp ∧ p.pe = p.pe ∧ p.th = p.th ∧ p.em = p.em) ∧ ∀ (x : Nat), (x ≤ p.l.length + (1 : Nat) ∧ ∀ (j : Nat), j < x → cellB (mostI p) ((p.le :: p.l).getD j 0) = true) → (decide ((↑x : Int) < (↑(p.le :: NilL Int ++ p.l).length : Int)) = true → (0 ≤ (↑x : Int) ∧ (↑x : Int) < (↑(p.le :: p.l).length : Int)) ∧ True ∧ ((!(decide (0 ≤ (p.le :: p.l).getD (↑x : Int).toNat 0) && decide ((p.le :: p.l).getD (↑x : Int).toNat (0 : Int) ≤ 0))) = true → ∃ (y : Unit), True ∧ false = heldB p) ∧ ((!(decide (0 ≤ (p.le :: p.l).getD (↑x : Int).toNat 0) && decide ((p.le :: p.l).getD (↑x : Int).toNat (0 : Int) ≤ 0))) = false → i64R ((↑x : Int) + 1) ∧ ∃ (x' : Nat), (x' ≤ p.l.length + (1 : Nat) ∧ ∀ (j : Nat), j < x' → cellB (mostI p) ((p.le :: p.l).getD j 0) = true) ∧ p.l.length + (1 : Nat) - x' < p.l.length + (1 : Nat) - x ∧ (↑x : Int) + 1 = (↑x' : Int) ∧ p.le :: p.l = p.le :: p.l ∧ p.g = p.g ∧ p.q = p.q ∧ p.bu = p.bu ∧ p.s = p.s ∧ p.le = p.le ∧ p.l = p.l ∧ p.sp = p.sp ∧ p.pe = p.pe ∧ p.th = p.th ∧ p.em = p.em)) ∧ (decide ((↑x : Int) < (↑(p.le :: NilL Int ++ p.l).length : Int)) = false → Small p.le p.l ∧ ∃ (y : Unit), True ∧ decide (p.le + p.l.sum ≤ 0) = heldB p))) = sHeldB.vc (EV Try.prog [(147, sWithin.spec), (140, sLimited.spec), (144, sHeld.spec)] (invs [(5, inv149 p)]) noInv) Try.f149 (p, ()) := by kernel_rfl
  rw [← e]
  clear e
  simp only [imp_self, true_and, and_true, exists_const, implies_true, gd1, gd2, gd3, gd4, gd5, gd6, NilL_eq ]
  simp only [Prod.forall, Prod.exists, exists_const, implies_true, not_true_eq_false, not_false_eq_true, or_self, or_false, false_or, or_true, true_or, and_false, false_and, forall_const, true_and, and_true, i64R, imp_self, Int.reduceLE, Int.reduceLT, Int.reduceNeg, false_implies, true_implies, decide_eq_true_eq, decide_eq_false_iff_not, Bool.not_eq_true', Bool.not_eq_false', Bool.true_eq_false, Bool.false_eq_true, Bool.and_eq_true, Bool.or_eq_true, NilL_eq, Bool.and_eq_false_iff, Bool.or_eq_false_iff ]
  obtain ⟨hr, hl⟩ := hx
  have hr2 := ratesI_iff.1 hr
  have hs : (∀ j, j < p.l.length + 1 → cellB (mostI p) ((p.le :: p.l).getD j 0) = true) → Small p.le p.l := fun h => small_of hr hl (all_cells.2 fun i hi => h i (by simpa using hi))
  simp only [List.length_append, List.length_cons, List.length_nil, Int.toNat_natCast]
  by_cases hq : p.q = 4611686018427387904
  · have em : mostI p = 0 := by rw [mostI, if_pos hq]
    refine ⟨fun h => absurd hq h, fun _ => ⟨by omega, ⟨0, ⟨by omega, fun j hj => by omega⟩, rfl, rfl⟩, fun x hi => ⟨fun h0 => ?_, fun h0 => ?_⟩⟩⟩
    · have hlt := of_decide_eq_true h0
      refine ⟨by omega, fun hb => held_bad (i := x) (by omega) ?_, fun hb => ⟨by omega, x + 1, ⟨by omega, fun j hj => ?_⟩, by omega, by omega⟩⟩
      · rw [em]; simp only [cellB, Bool.and_eq_true, decide_eq_true_eq]; omega
      · by_cases e : j = x
        · subst e; rw [em]; simp only [cellB, Bool.and_eq_true, decide_eq_true_eq]; exact hb
        · exact hi.2 j (by omega)
    · have hge := of_decide_eq_false h0
      have hc : ∀ j, j < p.l.length + 1 → cellB (mostI p) ((p.le :: p.l).getD j 0) = true := fun j hj => hi.2 j (by omega)
      exact ⟨hs hc, by rw [held_end hc, em]⟩
  · have em : mostI p = p.q + p.bu := by rw [mostI, if_neg hq]
    refine ⟨fun _ => ⟨by omega, by omega, ⟨0, ⟨by omega, fun j hj => by omega⟩, rfl, rfl⟩, fun x hi => ⟨fun h0 => ?_, fun h0 => ?_⟩⟩, fun h => absurd h hq⟩
    · have hlt := of_decide_eq_true h0
      refine ⟨by omega, fun hb => held_bad (i := x) (by omega) ?_, fun hb => ⟨by omega, x + 1, ⟨by omega, fun j hj => ?_⟩, by omega, by omega⟩⟩
      · rw [em]; simp only [cellB, Bool.and_eq_true, decide_eq_true_eq]; omega
      · by_cases e : j = x
        · subst e; rw [em]; simp only [cellB, Bool.and_eq_true, decide_eq_true_eq]; exact hb
        · exact hi.2 j (by omega)
    · have hge := of_decide_eq_false h0
      have hc : ∀ j, j < p.l.length + 1 → cellB (mostI p) ((p.le :: p.l).getD j 0) = true := fun j hj => hi.2 j (by omega)
      exact ⟨hs hc, by rw [held_end hc, em]⟩


set_option maxRecDepth 100000 in
theorem vc121 (p : Pool) (hx : Tame p) : sGoodB.vc (EV Try.prog [(147, sWithin.spec), (148, sRates.spec), (149, sHeldB.spec), (150, sCount.spec)] noInv noInv) Try.f121 (p, ()) := by
  have e : (True ∧ ((decide (1 ≤ p.g) && decide (p.g ≤ 2147483647)) = true → (decide (1 ≤ p.g) && decide (p.g ≤ 2147483647)) = true) ∧ ((decide (1 ≤ p.g) && decide (p.g ≤ 2147483647)) = true → True) ∧ ((decide (1 ≤ p.g) && decide (p.g ≤ 2147483647)) = true → (decide (1 ≤ p.g) && decide (p.g ≤ 2147483647)) = true) ∧ ((decide (1 ≤ p.g) && decide (p.g ≤ 2147483647) && ratesI p.q p.bu) = true → (decide (1 ≤ p.g) && decide (p.g ≤ 2147483647) && ratesI p.q p.bu) = true) ∧ ((decide (1 ≤ p.g) && decide (p.g ≤ 2147483647) && ratesI p.q p.bu) = true → (decide (1 ≤ p.g) && decide (p.g ≤ 2147483647) && ratesI p.q p.bu) = true) ∧ ((decide (1 ≤ p.g) && decide (p.g ≤ 2147483647) && ratesI p.q p.bu) = true → True) ∧ ((decide (1 ≤ p.g) && decide (p.g ≤ 2147483647) && ratesI p.q p.bu) = true → (decide (1 ≤ p.g) && decide (p.g ≤ 2147483647) && ratesI p.q p.bu) = true) ∧ ((decide (1 ≤ p.g) && decide (p.g ≤ 2147483647) && ratesI p.q p.bu && (decide (1 ≤ p.s) && decide (p.s ≤ 1000000))) = true → (decide (1 ≤ p.g) && decide (p.g ≤ 2147483647) && ratesI p.q p.bu && (decide (1 ≤ p.s) && decide (p.s ≤ 1000000))) = true) ∧ ((decide (1 ≤ p.g) && decide (p.g ≤ 2147483647) && ratesI p.q p.bu && (decide (1 ≤ p.s) && decide (p.s ≤ 1000000))) = true → (decide (1 ≤ p.g) && decide (p.g ≤ 2147483647) && ratesI p.q p.bu && (decide (1 ≤ p.s) && decide (p.s ≤ 1000000))) = true) ∧ ((decide (1 ≤ p.g) && decide (p.g ≤ 2147483647) && ratesI p.q p.bu && (decide (1 ≤ p.s) && decide (p.s ≤ 1000000))) = true → (decide (1 ≤ p.g) && decide (p.g ≤ 2147483647) && ratesI p.q p.bu && (decide (1 ≤ p.s) && decide (p.s ≤ 1000000))) = true) ∧ ((decide (1 ≤ p.g) && decide (p.g ≤ 2147483647) && ratesI p.q p.bu && (decide (1 ≤ p.s) && decide (p.s ≤ 1000000))) = true → True) ∧ ((decide (1 ≤ p.g) && decide (p.g ≤ 2147483647) && ratesI p.q p.bu && (decide (1 ≤ p.s) && decide (p.s ≤ 1000000))) = true → (decide (1 ≤ p.g) && decide (p.g ≤ 2147483647) && ratesI p.q p.bu && (decide (1 ≤ p.s) && decide (p.s ≤ 1000000))) = true) ∧ ((decide (1 ≤ p.g) && decide (p.g ≤ 2147483647) && ratesI p.q p.bu && (decide (1 ≤ p.s) && decide (p.s ≤ 1000000)) && (decide (1 ≤ (↑p.l.length : Int)) && decide ((↑p.l.length : Int) ≤ 16))) = true → (decide (1 ≤ p.g) && decide (p.g ≤ 2147483647) && ratesI p.q p.bu && (decide (1 ≤ p.s) && decide (p.s ≤ 1000000)) && (decide (1 ≤ (↑p.l.length : Int)) && decide ((↑p.l.length : Int) ≤ 16))) = true) ∧ ((decide (1 ≤ p.g) && decide (p.g ≤ 2147483647) && ratesI p.q p.bu && (decide (1 ≤ p.s) && decide (p.s ≤ 1000000)) && (decide (1 ≤ (↑p.l.length : Int)) && decide ((↑p.l.length : Int) ≤ 16))) = true → ratesI p.q p.bu = true ∧ p.l.length ≤ (1048576 : Nat)) ∧ ((decide (1 ≤ p.g) && decide (p.g ≤ 2147483647) && ratesI p.q p.bu && (decide (1 ≤ p.s) && decide (p.s ≤ 1000000)) && (decide (1 ≤ (↑p.l.length : Int)) && decide ((↑p.l.length : Int) ≤ 16))) = true → (decide (1 ≤ p.g) && decide (p.g ≤ 2147483647) && ratesI p.q p.bu && (decide (1 ≤ p.s) && decide (p.s ≤ 1000000)) && (decide (1 ≤ (↑p.l.length : Int)) && decide ((↑p.l.length : Int) ≤ 16))) = true) ∧ ((decide (1 ≤ p.g) && decide (p.g ≤ 2147483647) && ratesI p.q p.bu && (decide (1 ≤ p.s) && decide (p.s ≤ 1000000)) && (decide (1 ≤ (↑p.l.length : Int)) && decide ((↑p.l.length : Int) ≤ 16)) && heldB p) = true → (decide (1 ≤ p.g) && decide (p.g ≤ 2147483647) && ratesI p.q p.bu && (decide (1 ≤ p.s) && decide (p.s ≤ 1000000)) && (decide (1 ≤ (↑p.l.length : Int)) && decide ((↑p.l.length : Int) ≤ 16)) && heldB p) = true) ∧ ((decide (1 ≤ p.g) && decide (p.g ≤ 2147483647) && ratesI p.q p.bu && (decide (1 ≤ p.s) && decide (p.s ≤ 1000000)) && (decide (1 ≤ (↑p.l.length : Int)) && decide ((↑p.l.length : Int) ≤ 16)) && heldB p) = true → (-1152921504606846976) ≤ p.th ∧ p.th ≤ 1152921504606846976) ∧ ((decide (1 ≤ p.g) && decide (p.g ≤ 2147483647) && ratesI p.q p.bu && (decide (1 ≤ p.s) && decide (p.s ≤ 1000000)) && (decide (1 ≤ (↑p.l.length : Int)) && decide ((↑p.l.length : Int) ≤ 16)) && heldB p) = true → (decide (1 ≤ p.g) && decide (p.g ≤ 2147483647) && ratesI p.q p.bu && (decide (1 ≤ p.s) && decide (p.s ≤ 1000000)) && (decide (1 ≤ (↑p.l.length : Int)) && decide ((↑p.l.length : Int) ≤ 16)) && heldB p) = true) ∧ ∃ (y : Unit), True ∧ (decide (1 ≤ p.g) && decide (p.g ≤ 2147483647) && ratesI p.q p.bu && (decide (1 ≤ p.s) && decide (p.s ≤ 1000000)) && (decide (1 ≤ (↑p.l.length : Int)) && decide ((↑p.l.length : Int) ≤ 16)) && heldB p && countB p) = goodB p) = sGoodB.vc (EV Try.prog [(147, sWithin.spec), (148, sRates.spec), (149, sHeldB.spec), (150, sCount.spec)] noInv noInv) Try.f121 (p, ()) := by kernel_rfl
  rw [← e]
  clear e
  simp only [imp_self, true_and, and_true, exists_const, implies_true, gd1, gd2, gd3, gd4, gd5, gd6, NilL_eq ]
  simp only [Prod.forall, Prod.exists, exists_const, implies_true, not_true_eq_false, not_false_eq_true, or_self, or_false, false_or, or_true, true_or, and_false, false_and, forall_const, true_and, and_true, i64R, imp_self, Int.reduceLE, Int.reduceLT, Int.reduceNeg, false_implies, true_implies, decide_eq_true_eq, decide_eq_false_iff_not, Bool.not_eq_true', Bool.not_eq_false', Bool.true_eq_false, Bool.false_eq_true, Bool.and_eq_true, Bool.or_eq_true, NilL_eq, Bool.and_eq_false_iff, Bool.or_eq_false_iff ]
  have := hx.th
  have := hx.th0
  exact ⟨fun h => ⟨h.1.1.2, by omega⟩, fun _ => by omega, rfl⟩

def inv116 (p : Pool) : Inv where
  X := Nat
  ok := fun i => i ≤ p.l.length ∧ ∀ j, j < i → cellB (mostI p) (p.l.getD j 0) = true
  sl := fun i => [(5, .int .i64 (i : Int))]
  hp := fun _ => []
  keep := [10000]
  me := fun i => p.l.length - i
set_option maxRecDepth 100000 in
theorem vc116 (p : Pool) (hx : Tame p) : sGoodB.vc (EV Try.prog [(119, sWithin.spec), (57, sLimited.spec), (60, sHeld.spec)] (invs [(10, inv116 p)]) noInv) Try.f116 (p, ()) := by
  have e : (True ∧ ((!decide (p.q = 4611686018427387904)) = true → True ∧ ((!(decide (1 ≤ p.q) && decide (p.q ≤ 1000000))) = true → ∃ (y : Unit), True ∧ false = goodB p) ∧ ((!(decide (1 ≤ p.q) && decide (p.q ≤ 1000000))) = false → i64R (p.q + p.bu) ∧ True ∧ ((!(decide (1 ≤ p.g) && decide (p.g ≤ 2147483647))) = false → (!(decide (1 ≤ p.g) && decide (p.g ≤ 2147483647))) = false) ∧ ((!(decide (1 ≤ p.g) && decide (p.g ≤ 2147483647))) = false → (!(decide (1 ≤ p.g) && decide (p.g ≤ 2147483647))) = false) ∧ ((!(decide (1 ≤ p.g) && decide (p.g ≤ 2147483647))) = false → (!(decide (1 ≤ p.g) && decide (p.g ≤ 2147483647))) = false) ∧ ((!(decide (1 ≤ p.g) && decide (p.g ≤ 2147483647))) = false → True) ∧ ((!(decide (1 ≤ p.g) && decide (p.g ≤ 2147483647))) = false → (!(decide (1 ≤ p.g) && decide (p.g ≤ 2147483647))) = false) ∧ ((!(decide (1 ≤ p.g) && decide (p.g ≤ 2147483647))) = false → (!(decide (1 ≤ p.g) && decide (p.g ≤ 2147483647))) = false) ∧ ((!(decide (1 ≤ p.g) && decide (p.g ≤ 2147483647)) || !(decide (0 ≤ p.bu) && decide (p.bu ≤ p.q))) = false → (!(decide (1 ≤ p.g) && decide (p.g ≤ 2147483647)) || !(decide (0 ≤ p.bu) && decide (p.bu ≤ p.q))) = false) ∧ ((!(decide (1 ≤ p.g) && decide (p.g ≤ 2147483647)) || !(decide (0 ≤ p.bu) && decide (p.bu ≤ p.q))) = false → (!(decide (1 ≤ p.g) && decide (p.g ≤ 2147483647)) || !(decide (0 ≤ p.bu) && decide (p.bu ≤ p.q))) = false) ∧ ((!(decide (1 ≤ p.g) && decide (p.g ≤ 2147483647)) || !(decide (0 ≤ p.bu) && decide (p.bu ≤ p.q))) = false → True) ∧ ((!(decide (1 ≤ p.g) && decide (p.g ≤ 2147483647)) || !(decide (0 ≤ p.bu) && decide (p.bu ≤ p.q))) = false → (!(decide (1 ≤ p.g) && decide (p.g ≤ 2147483647)) || !(decide (0 ≤ p.bu) && decide (p.bu ≤ p.q))) = false) ∧ ((!(decide (1 ≤ p.g) && decide (p.g ≤ 2147483647)) || !(decide (0 ≤ p.bu) && decide (p.bu ≤ p.q))) = false → (!(decide (1 ≤ p.g) && decide (p.g ≤ 2147483647)) || !(decide (0 ≤ p.bu) && decide (p.bu ≤ p.q))) = false) ∧ ((!(decide (1 ≤ p.g) && decide (p.g ≤ 2147483647)) || !(decide (0 ≤ p.bu) && decide (p.bu ≤ p.q)) || !(decide (1 ≤ p.s) && decide (p.s ≤ 1000000))) = false → (!(decide (1 ≤ p.g) && decide (p.g ≤ 2147483647)) || !(decide (0 ≤ p.bu) && decide (p.bu ≤ p.q)) || !(decide (1 ≤ p.s) && decide (p.s ≤ 1000000))) = false) ∧ ((!(decide (1 ≤ p.g) && decide (p.g ≤ 2147483647)) || !(decide (0 ≤ p.bu) && decide (p.bu ≤ p.q)) || !(decide (1 ≤ p.s) && decide (p.s ≤ 1000000))) = false → (!(decide (1 ≤ p.g) && decide (p.g ≤ 2147483647)) || !(decide (0 ≤ p.bu) && decide (p.bu ≤ p.q)) || !(decide (1 ≤ p.s) && decide (p.s ≤ 1000000))) = false) ∧ ((!(decide (1 ≤ p.g) && decide (p.g ≤ 2147483647)) || !(decide (0 ≤ p.bu) && decide (p.bu ≤ p.q)) || !(decide (1 ≤ p.s) && decide (p.s ≤ 1000000))) = false → (!(decide (1 ≤ p.g) && decide (p.g ≤ 2147483647)) || !(decide (0 ≤ p.bu) && decide (p.bu ≤ p.q)) || !(decide (1 ≤ p.s) && decide (p.s ≤ 1000000))) = false) ∧ ((!(decide (1 ≤ p.g) && decide (p.g ≤ 2147483647)) || !(decide (0 ≤ p.bu) && decide (p.bu ≤ p.q)) || !(decide (1 ≤ p.s) && decide (p.s ≤ 1000000))) = false → True) ∧ ((!(decide (1 ≤ p.g) && decide (p.g ≤ 2147483647)) || !(decide (0 ≤ p.bu) && decide (p.bu ≤ p.q)) || !(decide (1 ≤ p.s) && decide (p.s ≤ 1000000))) = false → (!(decide (1 ≤ p.g) && decide (p.g ≤ 2147483647)) || !(decide (0 ≤ p.bu) && decide (p.bu ≤ p.q)) || !(decide (1 ≤ p.s) && decide (p.s ≤ 1000000))) = false) ∧ ((!(decide (1 ≤ p.g) && decide (p.g ≤ 2147483647)) || !(decide (0 ≤ p.bu) && decide (p.bu ≤ p.q)) || !(decide (1 ≤ p.s) && decide (p.s ≤ 1000000))) = false → (!(decide (1 ≤ p.g) && decide (p.g ≤ 2147483647)) || !(decide (0 ≤ p.bu) && decide (p.bu ≤ p.q)) || !(decide (1 ≤ p.s) && decide (p.s ≤ 1000000))) = false) ∧ ((!(decide (1 ≤ p.g) && decide (p.g ≤ 2147483647)) || !(decide (0 ≤ p.bu) && decide (p.bu ≤ p.q)) || !(decide (1 ≤ p.s) && decide (p.s ≤ 1000000)) || !(decide (1 ≤ (↑p.l.length : Int)) && decide ((↑p.l.length : Int) ≤ 16))) = false → (!(decide (1 ≤ p.g) && decide (p.g ≤ 2147483647)) || !(decide (0 ≤ p.bu) && decide (p.bu ≤ p.q)) || !(decide (1 ≤ p.s) && decide (p.s ≤ 1000000)) || !(decide (1 ≤ (↑p.l.length : Int)) && decide ((↑p.l.length : Int) ≤ 16))) = false) ∧ ((!(decide (1 ≤ p.g) && decide (p.g ≤ 2147483647)) || !(decide (0 ≤ p.bu) && decide (p.bu ≤ p.q)) || !(decide (1 ≤ p.s) && decide (p.s ≤ 1000000)) || !(decide (1 ≤ (↑p.l.length : Int)) && decide ((↑p.l.length : Int) ≤ 16))) = false → (!(decide (1 ≤ p.g) && decide (p.g ≤ 2147483647)) || !(decide (0 ≤ p.bu) && decide (p.bu ≤ p.q)) || !(decide (1 ≤ p.s) && decide (p.s ≤ 1000000)) || !(decide (1 ≤ (↑p.l.length : Int)) && decide ((↑p.l.length : Int) ≤ 16))) = false) ∧ ((!(decide (1 ≤ p.g) && decide (p.g ≤ 2147483647)) || !(decide (0 ≤ p.bu) && decide (p.bu ≤ p.q)) || !(decide (1 ≤ p.s) && decide (p.s ≤ 1000000)) || !(decide (1 ≤ (↑p.l.length : Int)) && decide ((↑p.l.length : Int) ≤ 16))) = false → (!(decide (1 ≤ p.g) && decide (p.g ≤ 2147483647)) || !(decide (0 ≤ p.bu) && decide (p.bu ≤ p.q)) || !(decide (1 ≤ p.s) && decide (p.s ≤ 1000000)) || !(decide (1 ≤ (↑p.l.length : Int)) && decide ((↑p.l.length : Int) ≤ 16))) = false) ∧ ((!(decide (1 ≤ p.g) && decide (p.g ≤ 2147483647)) || !(decide (0 ≤ p.bu) && decide (p.bu ≤ p.q)) || !(decide (1 ≤ p.s) && decide (p.s ≤ 1000000)) || !(decide (1 ≤ (↑p.l.length : Int)) && decide ((↑p.l.length : Int) ≤ 16))) = false → True) ∧ ((!(decide (1 ≤ p.g) && decide (p.g ≤ 2147483647)) || !(decide (0 ≤ p.bu) && decide (p.bu ≤ p.q)) || !(decide (1 ≤ p.s) && decide (p.s ≤ 1000000)) || !(decide (1 ≤ (↑p.l.length : Int)) && decide ((↑p.l.length : Int) ≤ 16))) = false → (!(decide (1 ≤ p.g) && decide (p.g ≤ 2147483647)) || !(decide (0 ≤ p.bu) && decide (p.bu ≤ p.q)) || !(decide (1 ≤ p.s) && decide (p.s ≤ 1000000)) || !(decide (1 ≤ (↑p.l.length : Int)) && decide ((↑p.l.length : Int) ≤ 16))) = false) ∧ ((!(decide (1 ≤ p.g) && decide (p.g ≤ 2147483647)) || !(decide (0 ≤ p.bu) && decide (p.bu ≤ p.q)) || !(decide (1 ≤ p.s) && decide (p.s ≤ 1000000)) || !(decide (1 ≤ (↑p.l.length : Int)) && decide ((↑p.l.length : Int) ≤ 16))) = false → (!(decide (1 ≤ p.g) && decide (p.g ≤ 2147483647)) || !(decide (0 ≤ p.bu) && decide (p.bu ≤ p.q)) || !(decide (1 ≤ p.s) && decide (p.s ≤ 1000000)) || !(decide (1 ≤ (↑p.l.length : Int)) && decide ((↑p.l.length : Int) ≤ 16))) = false) ∧ ((!(decide (1 ≤ p.g) && decide (p.g ≤ 2147483647)) || !(decide (0 ≤ p.bu) && decide (p.bu ≤ p.q)) || !(decide (1 ≤ p.s) && decide (p.s ≤ 1000000)) || !(decide (1 ≤ (↑p.l.length : Int)) && decide ((↑p.l.length : Int) ≤ 16)) || !(decide (0 ≤ p.le) && decide (p.le ≤ p.q + p.bu))) = true → ∃ (y : Unit), True ∧ false = goodB p) ∧ ((!(decide (1 ≤ p.g) && decide (p.g ≤ 2147483647)) || !(decide (0 ≤ p.bu) && decide (p.bu ≤ p.q)) || !(decide (1 ≤ p.s) && decide (p.s ≤ 1000000)) || !(decide (1 ≤ (↑p.l.length : Int)) && decide ((↑p.l.length : Int) ≤ 16)) || !(decide (0 ≤ p.le) && decide (p.le ≤ p.q + p.bu))) = false → (∃ (x : Nat), (x ≤ p.l.length ∧ ∀ (j : Nat), j < x → cellB (mostI p) (p.l.getD j 0) = true) ∧ 0 = (↑x : Int) ∧ p.g = p.g ∧ p.q = p.q ∧ p.bu = p.bu ∧ p.s = p.s ∧ p.le = p.le ∧ p.l = p.l ∧ p.sp = p.sp ∧ p.pe = p.pe ∧ p.th = p.th ∧ p.em = p.em) ∧ ∀ (x : Nat), (x ≤ p.l.length ∧ ∀ (j : Nat), j < x → cellB (mostI p) (p.l.getD j 0) = true) → (decide ((↑x : Int) < (↑p.l.length : Int)) = true → (0 ≤ (↑x : Int) ∧ (↑x : Int) < (↑p.l.length : Int)) ∧ True ∧ ((!(decide (0 ≤ p.l.getD (↑x : Int).toNat 0) && decide (p.l.getD (↑x : Int).toNat 0 ≤ p.q + p.bu))) = true → ∃ (y : Unit), True ∧ false = goodB p) ∧ ((!(decide (0 ≤ p.l.getD (↑x : Int).toNat 0) && decide (p.l.getD (↑x : Int).toNat 0 ≤ p.q + p.bu))) = false → i64R ((↑x : Int) + 1) ∧ ∃ (x' : Nat), (x' ≤ p.l.length ∧ ∀ (j : Nat), j < x' → cellB (mostI p) (p.l.getD j 0) = true) ∧ p.l.length - x' < p.l.length - x ∧ (↑x : Int) + 1 = (↑x' : Int) ∧ p.g = p.g ∧ p.q = p.q ∧ p.bu = p.bu ∧ p.s = p.s ∧ p.le = p.le ∧ p.l = p.l ∧ p.sp = p.sp ∧ p.pe = p.pe ∧ p.th = p.th ∧ p.em = p.em)) ∧ (decide ((↑x : Int) < (↑p.l.length : Int)) = false → ((!p.em) = true → i64R (p.pe - 1) ∧ Small p.le p.l ∧ (decide (p.le + p.l.sum ≤ p.q + p.bu) = true → decide (p.le + p.l.sum ≤ p.q + p.bu) = true) ∧ (decide (p.le + p.l.sum ≤ p.q + p.bu) = true → decide (p.le + p.l.sum ≤ p.q + p.bu) = true) ∧ (decide (p.le + p.l.sum ≤ p.q + p.bu) = true → True) ∧ (decide (p.le + p.l.sum ≤ p.q + p.bu) = true → decide (p.le + p.l.sum ≤ p.q + p.bu) = true) ∧ ((decide (p.le + p.l.sum ≤ p.q + p.bu) && (decide (0 ≤ p.sp) && decide (p.sp ≤ 1099511627776))) = true → (decide (p.le + p.l.sum ≤ p.q + p.bu) && (decide (0 ≤ p.sp) && decide (p.sp ≤ 1099511627776))) = true) ∧ ((decide (p.le + p.l.sum ≤ p.q + p.bu) && (decide (0 ≤ p.sp) && decide (p.sp ≤ 1099511627776))) = true → (decide (p.le + p.l.sum ≤ p.q + p.bu) && (decide (0 ≤ p.sp) && decide (p.sp ≤ 1099511627776))) = true) ∧ ((decide (p.le + p.l.sum ≤ p.q + p.bu) && (decide (0 ≤ p.sp) && decide (p.sp ≤ 1099511627776))) = true → True) ∧ ((decide (p.le + p.l.sum ≤ p.q + p.bu) && (decide (0 ≤ p.sp) && decide (p.sp ≤ 1099511627776))) = true → (decide (p.le + p.l.sum ≤ p.q + p.bu) && (decide (0 ≤ p.sp) && decide (p.sp ≤ 1099511627776))) = true) ∧ ((decide (p.le + p.l.sum ≤ p.q + p.bu) && (decide (0 ≤ p.sp) && decide (p.sp ≤ 1099511627776)) && (decide (0 ≤ p.pe) && decide (p.pe ≤ 1099511627776))) = true → (decide (p.le + p.l.sum ≤ p.q + p.bu) && (decide (0 ≤ p.sp) && decide (p.sp ≤ 1099511627776)) && (decide (0 ≤ p.pe) && decide (p.pe ≤ 1099511627776))) = true) ∧ ((decide (p.le + p.l.sum ≤ p.q + p.bu) && (decide (0 ≤ p.sp) && decide (p.sp ≤ 1099511627776)) && (decide (0 ≤ p.pe) && decide (p.pe ≤ 1099511627776))) = true → (decide (p.le + p.l.sum ≤ p.q + p.bu) && (decide (0 ≤ p.sp) && decide (p.sp ≤ 1099511627776)) && (decide (0 ≤ p.pe) && decide (p.pe ≤ 1099511627776))) = true) ∧ ((decide (p.le + p.l.sum ≤ p.q + p.bu) && (decide (0 ≤ p.sp) && decide (p.sp ≤ 1099511627776)) && (decide (0 ≤ p.pe) && decide (p.pe ≤ 1099511627776))) = true → (decide (p.le + p.l.sum ≤ p.q + p.bu) && (decide (0 ≤ p.sp) && decide (p.sp ≤ 1099511627776)) && (decide (0 ≤ p.pe) && decide (p.pe ≤ 1099511627776))) = true) ∧ ((decide (p.le + p.l.sum ≤ p.q + p.bu) && (decide (0 ≤ p.sp) && decide (p.sp ≤ 1099511627776)) && (decide (0 ≤ p.pe) && decide (p.pe ≤ 1099511627776))) = true → True) ∧ ((decide (p.le + p.l.sum ≤ p.q + p.bu) && (decide (0 ≤ p.sp) && decide (p.sp ≤ 1099511627776)) && (decide (0 ≤ p.pe) && decide (p.pe ≤ 1099511627776))) = true → (decide (p.le + p.l.sum ≤ p.q + p.bu) && (decide (0 ≤ p.sp) && decide (p.sp ≤ 1099511627776)) && (decide (0 ≤ p.pe) && decide (p.pe ≤ 1099511627776))) = true) ∧ ∃ (y : Unit), True ∧ (decide (p.le + p.l.sum ≤ p.q + p.bu) && (decide (0 ≤ p.sp) && decide (p.sp ≤ 1099511627776)) && (decide (0 ≤ p.pe) && decide (p.pe ≤ 1099511627776)) && (decide (0 ≤ p.th) && decide (p.th ≤ p.pe - 1))) = goodB p) ∧ ((!p.em) = false → Small p.le p.l ∧ (decide (p.le + p.l.sum ≤ p.q + p.bu) = true → decide (p.le + p.l.sum ≤ p.q + p.bu) = true) ∧ (decide (p.le + p.l.sum ≤ p.q + p.bu) = true → decide (p.le + p.l.sum ≤ p.q + p.bu) = true) ∧ (decide (p.le + p.l.sum ≤ p.q + p.bu) = true → True) ∧ (decide (p.le + p.l.sum ≤ p.q + p.bu) = true → decide (p.le + p.l.sum ≤ p.q + p.bu) = true) ∧ ((decide (p.le + p.l.sum ≤ p.q + p.bu) && (decide (0 ≤ p.sp) && decide (p.sp ≤ 1099511627776))) = true → (decide (p.le + p.l.sum ≤ p.q + p.bu) && (decide (0 ≤ p.sp) && decide (p.sp ≤ 1099511627776))) = true) ∧ ((decide (p.le + p.l.sum ≤ p.q + p.bu) && (decide (0 ≤ p.sp) && decide (p.sp ≤ 1099511627776))) = true → (decide (p.le + p.l.sum ≤ p.q + p.bu) && (decide (0 ≤ p.sp) && decide (p.sp ≤ 1099511627776))) = true) ∧ ((decide (p.le + p.l.sum ≤ p.q + p.bu) && (decide (0 ≤ p.sp) && decide (p.sp ≤ 1099511627776))) = true → True) ∧ ((decide (p.le + p.l.sum ≤ p.q + p.bu) && (decide (0 ≤ p.sp) && decide (p.sp ≤ 1099511627776))) = true → (decide (p.le + p.l.sum ≤ p.q + p.bu) && (decide (0 ≤ p.sp) && decide (p.sp ≤ 1099511627776))) = true) ∧ ((decide (p.le + p.l.sum ≤ p.q + p.bu) && (decide (0 ≤ p.sp) && decide (p.sp ≤ 1099511627776)) && (decide (0 ≤ p.pe) && decide (p.pe ≤ 1099511627776))) = true → (decide (p.le + p.l.sum ≤ p.q + p.bu) && (decide (0 ≤ p.sp) && decide (p.sp ≤ 1099511627776)) && (decide (0 ≤ p.pe) && decide (p.pe ≤ 1099511627776))) = true) ∧ ((decide (p.le + p.l.sum ≤ p.q + p.bu) && (decide (0 ≤ p.sp) && decide (p.sp ≤ 1099511627776)) && (decide (0 ≤ p.pe) && decide (p.pe ≤ 1099511627776))) = true → (decide (p.le + p.l.sum ≤ p.q + p.bu) && (decide (0 ≤ p.sp) && decide (p.sp ≤ 1099511627776)) && (decide (0 ≤ p.pe) && decide (p.pe ≤ 1099511627776))) = true) ∧ ((decide (p.le + p.l.sum ≤ p.q + p.bu) && (decide (0 ≤ p.sp) && decide (p.sp ≤ 1099511627776)) && (decide (0 ≤ p.pe) && decide (p.pe ≤ 1099511627776))) = true → (decide (p.le + p.l.sum ≤ p.q + p.bu) && (decide (0 ≤ p.sp) && decide (p.sp ≤ 1099511627776)) && (decide (0 ≤ p.pe) && decide (p.pe ≤ 1099511627776))) = true) ∧ ((decide (p.le + p.l.sum ≤ p.q + p.bu) && (decide (0 ≤ p.sp) && decide (p.sp ≤ 1099511627776)) && (decide (0 ≤ p.pe) && decide (p.pe ≤ 1099511627776))) = true → True) ∧ ((decide (p.le + p.l.sum ≤ p.q + p.bu) && (decide (0 ≤ p.sp) && decide (p.sp ≤ 1099511627776)) && (decide (0 ≤ p.pe) && decide (p.pe ≤ 1099511627776))) = true → (decide (p.le + p.l.sum ≤ p.q + p.bu) && (decide (0 ≤ p.sp) && decide (p.sp ≤ 1099511627776)) && (decide (0 ≤ p.pe) && decide (p.pe ≤ 1099511627776))) = true) ∧ ∃ (y : Unit), True ∧ (decide (p.le + p.l.sum ≤ p.q + p.bu) && (decide (0 ≤ p.sp) && decide (p.sp ≤ 1099511627776)) && (decide (0 ≤ p.pe) && decide (p.pe ≤ 1099511627776)) && (decide (0 ≤ p.th) && decide (p.th ≤ p.pe))) = goodB p))))) ∧ ((!decide (p.q = 4611686018427387904)) = false → True ∧ ((!(decide (1 ≤ p.g) && decide (p.g ≤ 2147483647))) = false → (!(decide (1 ≤ p.g) && decide (p.g ≤ 2147483647))) = false) ∧ ((!(decide (1 ≤ p.g) && decide (p.g ≤ 2147483647))) = false → (!(decide (1 ≤ p.g) && decide (p.g ≤ 2147483647))) = false) ∧ ((!(decide (1 ≤ p.g) && decide (p.g ≤ 2147483647))) = false → (!(decide (1 ≤ p.g) && decide (p.g ≤ 2147483647))) = false) ∧ ((!(decide (1 ≤ p.g) && decide (p.g ≤ 2147483647))) = false → True) ∧ ((!(decide (1 ≤ p.g) && decide (p.g ≤ 2147483647))) = false → (!(decide (1 ≤ p.g) && decide (p.g ≤ 2147483647))) = false) ∧ ((!(decide (1 ≤ p.g) && decide (p.g ≤ 2147483647))) = false → (!(decide (1 ≤ p.g) && decide (p.g ≤ 2147483647))) = false) ∧ ((!(decide (1 ≤ p.g) && decide (p.g ≤ 2147483647)) || !(decide (0 ≤ p.bu) && decide (p.bu ≤ 0))) = false → (!(decide (1 ≤ p.g) && decide (p.g ≤ 2147483647)) || !(decide (0 ≤ p.bu) && decide (p.bu ≤ 0))) = false) ∧ ((!(decide (1 ≤ p.g) && decide (p.g ≤ 2147483647)) || !(decide (0 ≤ p.bu) && decide (p.bu ≤ 0))) = false → (!(decide (1 ≤ p.g) && decide (p.g ≤ 2147483647)) || !(decide (0 ≤ p.bu) && decide (p.bu ≤ 0))) = false) ∧ ((!(decide (1 ≤ p.g) && decide (p.g ≤ 2147483647)) || !(decide (0 ≤ p.bu) && decide (p.bu ≤ 0))) = false → True) ∧ ((!(decide (1 ≤ p.g) && decide (p.g ≤ 2147483647)) || !(decide (0 ≤ p.bu) && decide (p.bu ≤ 0))) = false → (!(decide (1 ≤ p.g) && decide (p.g ≤ 2147483647)) || !(decide (0 ≤ p.bu) && decide (p.bu ≤ 0))) = false) ∧ ((!(decide (1 ≤ p.g) && decide (p.g ≤ 2147483647)) || !(decide (0 ≤ p.bu) && decide (p.bu ≤ 0))) = false → (!(decide (1 ≤ p.g) && decide (p.g ≤ 2147483647)) || !(decide (0 ≤ p.bu) && decide (p.bu ≤ 0))) = false) ∧ ((!(decide (1 ≤ p.g) && decide (p.g ≤ 2147483647)) || !(decide (0 ≤ p.bu) && decide (p.bu ≤ 0)) || !(decide (1 ≤ p.s) && decide (p.s ≤ 1000000))) = false → (!(decide (1 ≤ p.g) && decide (p.g ≤ 2147483647)) || !(decide (0 ≤ p.bu) && decide (p.bu ≤ 0)) || !(decide (1 ≤ p.s) && decide (p.s ≤ 1000000))) = false) ∧ ((!(decide (1 ≤ p.g) && decide (p.g ≤ 2147483647)) || !(decide (0 ≤ p.bu) && decide (p.bu ≤ 0)) || !(decide (1 ≤ p.s) && decide (p.s ≤ 1000000))) = false → (!(decide (1 ≤ p.g) && decide (p.g ≤ 2147483647)) || !(decide (0 ≤ p.bu) && decide (p.bu ≤ 0)) || !(decide (1 ≤ p.s) && decide (p.s ≤ 1000000))) = false) ∧ ((!(decide (1 ≤ p.g) && decide (p.g ≤ 2147483647)) || !(decide (0 ≤ p.bu) && decide (p.bu ≤ 0)) || !(decide (1 ≤ p.s) && decide (p.s ≤ 1000000))) = false → (!(decide (1 ≤ p.g) && decide (p.g ≤ 2147483647)) || !(decide (0 ≤ p.bu) && decide (p.bu ≤ 0)) || !(decide (1 ≤ p.s) && decide (p.s ≤ 1000000))) = false) ∧ ((!(decide (1 ≤ p.g) && decide (p.g ≤ 2147483647)) || !(decide (0 ≤ p.bu) && decide (p.bu ≤ 0)) || !(decide (1 ≤ p.s) && decide (p.s ≤ 1000000))) = false → True) ∧ ((!(decide (1 ≤ p.g) && decide (p.g ≤ 2147483647)) || !(decide (0 ≤ p.bu) && decide (p.bu ≤ 0)) || !(decide (1 ≤ p.s) && decide (p.s ≤ 1000000))) = false → (!(decide (1 ≤ p.g) && decide (p.g ≤ 2147483647)) || !(decide (0 ≤ p.bu) && decide (p.bu ≤ 0)) || !(decide (1 ≤ p.s) && decide (p.s ≤ 1000000))) = false) ∧ ((!(decide (1 ≤ p.g) && decide (p.g ≤ 2147483647)) || !(decide (0 ≤ p.bu) && decide (p.bu ≤ 0)) || !(decide (1 ≤ p.s) && decide (p.s ≤ 1000000))) = false → (!(decide (1 ≤ p.g) && decide (p.g ≤ 2147483647)) || !(decide (0 ≤ p.bu) && decide (p.bu ≤ 0)) || !(decide (1 ≤ p.s) && decide (p.s ≤ 1000000))) = false) ∧ ((!(decide (1 ≤ p.g) && decide (p.g ≤ 2147483647)) || !(decide (0 ≤ p.bu) && decide (p.bu ≤ 0)) || !(decide (1 ≤ p.s) && decide (p.s ≤ 1000000)) || !(decide (1 ≤ (↑p.l.length : Int)) && decide ((↑p.l.length : Int) ≤ 16))) = false → (!(decide (1 ≤ p.g) && decide (p.g ≤ 2147483647)) || !(decide (0 ≤ p.bu) && decide (p.bu ≤ 0)) || !(decide (1 ≤ p.s) && decide (p.s ≤ 1000000)) || !(decide (1 ≤ (↑p.l.length : Int)) && decide ((↑p.l.length : Int) ≤ 16))) = false) ∧ ((!(decide (1 ≤ p.g) && decide (p.g ≤ 2147483647)) || !(decide (0 ≤ p.bu) && decide (p.bu ≤ 0)) || !(decide (1 ≤ p.s) && decide (p.s ≤ 1000000)) || !(decide (1 ≤ (↑p.l.length : Int)) && decide ((↑p.l.length : Int) ≤ 16))) = false → (!(decide (1 ≤ p.g) && decide (p.g ≤ 2147483647)) || !(decide (0 ≤ p.bu) && decide (p.bu ≤ 0)) || !(decide (1 ≤ p.s) && decide (p.s ≤ 1000000)) || !(decide (1 ≤ (↑p.l.length : Int)) && decide ((↑p.l.length : Int) ≤ 16))) = false) ∧ ((!(decide (1 ≤ p.g) && decide (p.g ≤ 2147483647)) || !(decide (0 ≤ p.bu) && decide (p.bu ≤ 0)) || !(decide (1 ≤ p.s) && decide (p.s ≤ 1000000)) || !(decide (1 ≤ (↑p.l.length : Int)) && decide ((↑p.l.length : Int) ≤ 16))) = false → (!(decide (1 ≤ p.g) && decide (p.g ≤ 2147483647)) || !(decide (0 ≤ p.bu) && decide (p.bu ≤ 0)) || !(decide (1 ≤ p.s) && decide (p.s ≤ 1000000)) || !(decide (1 ≤ (↑p.l.length : Int)) && decide ((↑p.l.length : Int) ≤ 16))) = false) ∧ ((!(decide (1 ≤ p.g) && decide (p.g ≤ 2147483647)) || !(decide (0 ≤ p.bu) && decide (p.bu ≤ 0)) || !(decide (1 ≤ p.s) && decide (p.s ≤ 1000000)) || !(decide (1 ≤ (↑p.l.length : Int)) && decide ((↑p.l.length : Int) ≤ 16))) = false → True) ∧ ((!(decide (1 ≤ p.g) && decide (p.g ≤ 2147483647)) || !(decide (0 ≤ p.bu) && decide (p.bu ≤ 0)) || !(decide (1 ≤ p.s) && decide (p.s ≤ 1000000)) || !(decide (1 ≤ (↑p.l.length : Int)) && decide ((↑p.l.length : Int) ≤ 16))) = false → (!(decide (1 ≤ p.g) && decide (p.g ≤ 2147483647)) || !(decide (0 ≤ p.bu) && decide (p.bu ≤ 0)) || !(decide (1 ≤ p.s) && decide (p.s ≤ 1000000)) || !(decide (1 ≤ (↑p.l.length : Int)) && decide ((↑p.l.length : Int) ≤ 16))) = false) ∧ ((!(decide (1 ≤ p.g) && decide (p.g ≤ 2147483647)) || !(decide (0 ≤ p.bu) && decide (p.bu ≤ 0)) || !(decide (1 ≤ p.s) && decide (p.s ≤ 1000000)) || !(decide (1 ≤ (↑p.l.length : Int)) && decide ((↑p.l.length : Int) ≤ 16))) = false → (!(decide (1 ≤ p.g) && decide (p.g ≤ 2147483647)) || !(decide (0 ≤ p.bu) && decide (p.bu ≤ 0)) || !(decide (1 ≤ p.s) && decide (p.s ≤ 1000000)) || !(decide (1 ≤ (↑p.l.length : Int)) && decide ((↑p.l.length : Int) ≤ 16))) = false) ∧ ((!(decide (1 ≤ p.g) && decide (p.g ≤ 2147483647)) || !(decide (0 ≤ p.bu) && decide (p.bu ≤ 0)) || !(decide (1 ≤ p.s) && decide (p.s ≤ 1000000)) || !(decide (1 ≤ (↑p.l.length : Int)) && decide ((↑p.l.length : Int) ≤ 16)) || !(decide (0 ≤ p.le) && decide (p.le ≤ 0))) = true → ∃ (y : Unit), True ∧ false = goodB p) ∧ ((!(decide (1 ≤ p.g) && decide (p.g ≤ 2147483647)) || !(decide (0 ≤ p.bu) && decide (p.bu ≤ 0)) || !(decide (1 ≤ p.s) && decide (p.s ≤ 1000000)) || !(decide (1 ≤ (↑p.l.length : Int)) && decide ((↑p.l.length : Int) ≤ 16)) || !(decide (0 ≤ p.le) && decide (p.le ≤ 0))) = false → (∃ (x : Nat), (x ≤ p.l.length ∧ ∀ (j : Nat), j < x → cellB (mostI p) (p.l.getD j 0) = true) ∧ 0 = (↑x : Int) ∧ p.g = p.g ∧ p.q = p.q ∧ p.bu = p.bu ∧ p.s = p.s ∧ p.le = p.le ∧ p.l = p.l ∧ p.sp = p.sp ∧ p.pe = p.pe ∧ p.th = p.th ∧ p.em = p.em) ∧ ∀ (x : Nat), (x ≤ p.l.length ∧ ∀ (j : Nat), j < x → cellB (mostI p) (p.l.getD j 0) = true) → (decide ((↑x : Int) < (↑p.l.length : Int)) = true → (0 ≤ (↑x : Int) ∧ (↑x : Int) < (↑p.l.length : Int)) ∧ True ∧ ((!(decide (0 ≤ p.l.getD (↑x : Int).toNat 0) && decide (p.l.getD (↑x : Int).toNat (0 : Int) ≤ 0))) = true → ∃ (y : Unit), True ∧ false = goodB p) ∧ ((!(decide (0 ≤ p.l.getD (↑x : Int).toNat 0) && decide (p.l.getD (↑x : Int).toNat (0 : Int) ≤ 0))) = false → i64R ((↑x : Int) + 1) ∧ ∃ (x' : Nat), (x' ≤ p.l.length ∧ ∀ (j : Nat), j < x' → cellB (mostI p) (p.l.getD j 0) = true) ∧ p.l.length - x' < p.l.length - x ∧ (↑x : Int) + 1 = (↑x' : Int) ∧ p.g = p.g ∧ p.q = p.q ∧ p.bu = p.bu ∧ p.s = p.s ∧ p.le = p.le ∧ p.l = p.l ∧ p.sp = p.sp ∧ p.pe = p.pe ∧ p.th = p.th ∧ p.em = p.em)) ∧ (decide ((↑x : Int) < (↑p.l.length : Int)) = false → ((!p.em) = true → i64R (p.pe - 1) ∧ Small p.le p.l ∧ (decide (p.le + p.l.sum ≤ 0) = true → decide (p.le + p.l.sum ≤ 0) = true) ∧ (decide (p.le + p.l.sum ≤ 0) = true → decide (p.le + p.l.sum ≤ 0) = true) ∧ (decide (p.le + p.l.sum ≤ 0) = true → True) ∧ (decide (p.le + p.l.sum ≤ 0) = true → decide (p.le + p.l.sum ≤ 0) = true) ∧ ((decide (p.le + p.l.sum ≤ 0) && (decide (0 ≤ p.sp) && decide (p.sp ≤ 1099511627776))) = true → (decide (p.le + p.l.sum ≤ 0) && (decide (0 ≤ p.sp) && decide (p.sp ≤ 1099511627776))) = true) ∧ ((decide (p.le + p.l.sum ≤ 0) && (decide (0 ≤ p.sp) && decide (p.sp ≤ 1099511627776))) = true → (decide (p.le + p.l.sum ≤ 0) && (decide (0 ≤ p.sp) && decide (p.sp ≤ 1099511627776))) = true) ∧ ((decide (p.le + p.l.sum ≤ 0) && (decide (0 ≤ p.sp) && decide (p.sp ≤ 1099511627776))) = true → True) ∧ ((decide (p.le + p.l.sum ≤ 0) && (decide (0 ≤ p.sp) && decide (p.sp ≤ 1099511627776))) = true → (decide (p.le + p.l.sum ≤ 0) && (decide (0 ≤ p.sp) && decide (p.sp ≤ 1099511627776))) = true) ∧ ((decide (p.le + p.l.sum ≤ 0) && (decide (0 ≤ p.sp) && decide (p.sp ≤ 1099511627776)) && (decide (0 ≤ p.pe) && decide (p.pe ≤ 1099511627776))) = true → (decide (p.le + p.l.sum ≤ 0) && (decide (0 ≤ p.sp) && decide (p.sp ≤ 1099511627776)) && (decide (0 ≤ p.pe) && decide (p.pe ≤ 1099511627776))) = true) ∧ ((decide (p.le + p.l.sum ≤ 0) && (decide (0 ≤ p.sp) && decide (p.sp ≤ 1099511627776)) && (decide (0 ≤ p.pe) && decide (p.pe ≤ 1099511627776))) = true → (decide (p.le + p.l.sum ≤ 0) && (decide (0 ≤ p.sp) && decide (p.sp ≤ 1099511627776)) && (decide (0 ≤ p.pe) && decide (p.pe ≤ 1099511627776))) = true) ∧ ((decide (p.le + p.l.sum ≤ 0) && (decide (0 ≤ p.sp) && decide (p.sp ≤ 1099511627776)) && (decide (0 ≤ p.pe) && decide (p.pe ≤ 1099511627776))) = true → (decide (p.le + p.l.sum ≤ 0) && (decide (0 ≤ p.sp) && decide (p.sp ≤ 1099511627776)) && (decide (0 ≤ p.pe) && decide (p.pe ≤ 1099511627776))) = true) ∧ ((decide (p.le + p.l.sum ≤ 0) && (decide (0 ≤ p.sp) && decide (p.sp ≤ 1099511627776)) && (decide (0 ≤ p.pe) && decide (p.pe ≤ 1099511627776))) = true → True) ∧ ((decide (p.le + p.l.sum ≤ 0) && (decide (0 ≤ p.sp) && decide (p.sp ≤ 1099511627776)) && (decide (0 ≤ p.pe) && decide (p.pe ≤ 1099511627776))) = true → (decide (p.le + p.l.sum ≤ 0) && (decide (0 ≤ p.sp) && decide (p.sp ≤ 1099511627776)) && (decide (0 ≤ p.pe) && decide (p.pe ≤ 1099511627776))) = true) ∧ ∃ (y : Unit), True ∧ (decide (p.le + p.l.sum ≤ 0) && (decide (0 ≤ p.sp) && decide (p.sp ≤ 1099511627776)) && (decide (0 ≤ p.pe) && decide (p.pe ≤ 1099511627776)) && (decide (0 ≤ p.th) && decide (p.th ≤ p.pe - 1))) = goodB p) ∧ ((!p.em) = false → Small p.le p.l ∧ (decide (p.le + p.l.sum ≤ 0) = true → decide (p.le + p.l.sum ≤ 0) = true) ∧ (decide (p.le + p.l.sum ≤ 0) = true → decide (p.le + p.l.sum ≤ 0) = true) ∧ (decide (p.le + p.l.sum ≤ 0) = true → True) ∧ (decide (p.le + p.l.sum ≤ 0) = true → decide (p.le + p.l.sum ≤ 0) = true) ∧ ((decide (p.le + p.l.sum ≤ 0) && (decide (0 ≤ p.sp) && decide (p.sp ≤ 1099511627776))) = true → (decide (p.le + p.l.sum ≤ 0) && (decide (0 ≤ p.sp) && decide (p.sp ≤ 1099511627776))) = true) ∧ ((decide (p.le + p.l.sum ≤ 0) && (decide (0 ≤ p.sp) && decide (p.sp ≤ 1099511627776))) = true → (decide (p.le + p.l.sum ≤ 0) && (decide (0 ≤ p.sp) && decide (p.sp ≤ 1099511627776))) = true) ∧ ((decide (p.le + p.l.sum ≤ 0) && (decide (0 ≤ p.sp) && decide (p.sp ≤ 1099511627776))) = true → True) ∧ ((decide (p.le + p.l.sum ≤ 0) && (decide (0 ≤ p.sp) && decide (p.sp ≤ 1099511627776))) = true → (decide (p.le + p.l.sum ≤ 0) && (decide (0 ≤ p.sp) && decide (p.sp ≤ 1099511627776))) = true) ∧ ((decide (p.le + p.l.sum ≤ 0) && (decide (0 ≤ p.sp) && decide (p.sp ≤ 1099511627776)) && (decide (0 ≤ p.pe) && decide (p.pe ≤ 1099511627776))) = true → (decide (p.le + p.l.sum ≤ 0) && (decide (0 ≤ p.sp) && decide (p.sp ≤ 1099511627776)) && (decide (0 ≤ p.pe) && decide (p.pe ≤ 1099511627776))) = true) ∧ ((decide (p.le + p.l.sum ≤ 0) && (decide (0 ≤ p.sp) && decide (p.sp ≤ 1099511627776)) && (decide (0 ≤ p.pe) && decide (p.pe ≤ 1099511627776))) = true → (decide (p.le + p.l.sum ≤ 0) && (decide (0 ≤ p.sp) && decide (p.sp ≤ 1099511627776)) && (decide (0 ≤ p.pe) && decide (p.pe ≤ 1099511627776))) = true) ∧ ((decide (p.le + p.l.sum ≤ 0) && (decide (0 ≤ p.sp) && decide (p.sp ≤ 1099511627776)) && (decide (0 ≤ p.pe) && decide (p.pe ≤ 1099511627776))) = true → (decide (p.le + p.l.sum ≤ 0) && (decide (0 ≤ p.sp) && decide (p.sp ≤ 1099511627776)) && (decide (0 ≤ p.pe) && decide (p.pe ≤ 1099511627776))) = true) ∧ ((decide (p.le + p.l.sum ≤ 0) && (decide (0 ≤ p.sp) && decide (p.sp ≤ 1099511627776)) && (decide (0 ≤ p.pe) && decide (p.pe ≤ 1099511627776))) = true → True) ∧ ((decide (p.le + p.l.sum ≤ 0) && (decide (0 ≤ p.sp) && decide (p.sp ≤ 1099511627776)) && (decide (0 ≤ p.pe) && decide (p.pe ≤ 1099511627776))) = true → (decide (p.le + p.l.sum ≤ 0) && (decide (0 ≤ p.sp) && decide (p.sp ≤ 1099511627776)) && (decide (0 ≤ p.pe) && decide (p.pe ≤ 1099511627776))) = true) ∧ ∃ (y : Unit), True ∧ (decide (p.le + p.l.sum ≤ 0) && (decide (0 ≤ p.sp) && decide (p.sp ≤ 1099511627776)) && (decide (0 ≤ p.pe) && decide (p.pe ≤ 1099511627776)) && (decide (0 ≤ p.th) && decide (p.th ≤ p.pe))) = goodB p))))) = sGoodB.vc (EV Try.prog [(119, sWithin.spec), (57, sLimited.spec), (60, sHeld.spec)] (invs [(10, inv116 p)]) noInv) Try.f116 (p, ()) := by kernel_rfl
  rw [← e]
  clear e
  simp only [imp_self, true_and, and_true, exists_const, implies_true, gd1, gd2, gd3, gd4, gd5, gd6, NilL_eq ]
  simp only [Prod.forall, Prod.exists, exists_const, implies_true, not_true_eq_false, not_false_eq_true, or_self, or_false, false_or, or_true, true_or, and_false, false_and, forall_const, true_and, and_true, i64R, imp_self, Int.reduceLE, Int.reduceLT, Int.reduceNeg, false_implies, true_implies, decide_eq_true_eq, decide_eq_false_iff_not, Bool.not_eq_true', Bool.not_eq_false', Bool.true_eq_false, Bool.false_eq_true, Bool.and_eq_true, Bool.or_eq_true, NilL_eq, Bool.and_eq_false_iff, Bool.or_eq_false_iff ]
  obtain ⟨t1, t2, t3, t4, t6, t7, t5⟩ := hx
  simp only [Int.toNat_natCast]
  have loop : ∀ m : Int, mostI p = m → (1 ≤ p.g ∧ p.g ≤ 2147483647) → ratesI p.q p.bu = true → (1 ≤ p.s ∧ p.s ≤ 1000000) → (1 ≤ (p.l.length : Int) ∧ (p.l.length : Int) ≤ 16) → (0 ≤ p.le ∧ p.le ≤ m) → ∀ x : Nat, (x ≤ p.l.length ∧ ∀ j, j < x → cellB m (p.l.getD j 0) = true) → ¬ (x : Int) < p.l.length → Small p.le p.l ∧ goodB p = (decide (p.le + p.l.sum ≤ m) && countB p) := fun m em h1 h2 h3 h4 h5 x hi hge => by
    subst em
    have h6 : ∀ j, j < p.l.length → cellB (mostI p) (p.l.getD j 0) = true := fun j hj => hi.2 j (by omega)
    have h7 : cellB (mostI p) p.le = true := by simp only [cellB, Bool.and_eq_true, decide_eq_true_eq]; exact h5
    refine ⟨small_of h2 t5 ?_, good_split h1 h2 h3 h4 h7 h6⟩
    rw [all_cells]
    intro i hi
    cases i with
    | zero => exact h7
    | succ i => exact h6 i (by simpa using hi)
  have next : ∀ (m : Int) (x : Nat), (x ≤ p.l.length ∧ ∀ j, j < x → cellB m (p.l.getD j 0) = true) → (x : Int) < p.l.length → 0 ≤ p.l.getD x 0 ∧ p.l.getD x 0 ≤ m → (-9223372036854775808 ≤ (x : Int) + 1 ∧ (x : Int) + 1 ≤ 9223372036854775807) ∧ ∃ x', (x' ≤ p.l.length ∧ ∀ j, j < x' → cellB m (p.l.getD j 0) = true) ∧ p.l.length - x' < p.l.length - x ∧ (x : Int) + 1 = x' := fun m x hi hlt hb => by
    refine ⟨by omega, x + 1, ⟨by omega, fun j hj => ?_⟩, by omega, by omega⟩
    by_cases e : j = x
    · subst e; simp only [cellB, Bool.and_eq_true, decide_eq_true_eq]; exact hb
    · exact hi.2 j (by omega)
  have fin : ∀ m : Int, (p.em = false → (decide (p.le + p.l.sum ≤ m) && (decide (0 ≤ p.sp) && decide (p.sp ≤ 1099511627776)) && (decide (0 ≤ p.pe) && decide (p.pe ≤ 1099511627776)) && (decide (0 ≤ p.th) && decide (p.th ≤ p.pe - 1))) = (decide (p.le + p.l.sum ≤ m) && countB p)) ∧ (p.em = true → (decide (p.le + p.l.sum ≤ m) && (decide (0 ≤ p.sp) && decide (p.sp ≤ 1099511627776)) && (decide (0 ≤ p.pe) && decide (p.pe ≤ 1099511627776)) && (decide (0 ≤ p.th) && decide (p.th ≤ p.pe))) = (decide (p.le + p.l.sum ≤ m) && countB p)) := fun m => by
    refine ⟨fun h => ?_, fun h => ?_⟩
    · rw [countB, h, Bool.eq_iff_iff]
      simp only [Bool.and_eq_true, decide_eq_true_eq, Bool.false_eq_true, if_false]
      omega
    · rw [countB, h, Bool.eq_iff_iff]
      simp only [Bool.and_eq_true, decide_eq_true_eq, if_true]
      omega
  by_cases hq : p.q = 4611686018427387904
  · have em : mostI p = 0 := by rw [mostI, if_pos hq]
    rw [em]
    refine ⟨fun h => absurd hq h, fun _ => ⟨fun h => good_no fun g => ?_, fun h => ⟨⟨0, ⟨by omega, fun j hj => by omega⟩, rfl⟩, fun x hi => ⟨fun hlt => ⟨by omega, fun hb => good_no fun g => ?_, fun hb => next 0 x hi hlt hb⟩, fun hge => ?_⟩⟩⟩⟩
    · obtain ⟨c1, c2, c3⟩ := good_cells g
      have c4 := (good_rates g).1 hq
      have := g.g0; have := g.g1; have := g.s0; have := g.s1; have := g.n0; have := g.n1
      rw [em] at c1
      omega
    · obtain ⟨c1, c2, c3⟩ := good_cells g
      have := c2 x (by omega)
      rw [em] at this
      omega
    · have hr : ratesI p.q p.bu = true := ratesI_iff.2 (.inl ⟨hq, by omega⟩)
      obtain ⟨k1, k2⟩ := loop 0 em h.1.1.1.1 hr h.1.1.2 h.1.2 h.2 x hi hge
      rw [k2]
      exact ⟨fun he => ⟨by omega, k1, (fin 0).1 he⟩, fun he => ⟨k1, (fin 0).2 he⟩⟩
  · have em : mostI p = p.q + p.bu := by rw [mostI, if_neg hq]
    rw [em]
    refine ⟨fun _ => ⟨fun h => good_no fun g => ?_, fun hqr => ⟨by omega, fun h => good_no fun g => ?_, fun h => ⟨⟨0, ⟨by omega, fun j hj => by omega⟩, rfl⟩, fun x hi => ⟨fun hlt => ⟨by omega, fun hb => good_no fun g => ?_, fun hb => next _ x hi hlt hb⟩, fun hge => ?_⟩⟩⟩⟩, fun h => absurd h hq⟩
    · have c4 := (good_rates g).2 hq
      omega
    · obtain ⟨c1, c2, c3⟩ := good_cells g
      have c4 := (good_rates g).2 hq
      have := g.g0; have := g.g1; have := g.s0; have := g.s1; have := g.n0; have := g.n1
      rw [em] at c1
      omega
    · obtain ⟨c1, c2, c3⟩ := good_cells g
      have := c2 x (by omega)
      rw [em] at this
      omega
    · have hr : ratesI p.q p.bu = true := ratesI_iff.2 (.inr ⟨hq, by omega⟩)
      obtain ⟨k1, k2⟩ := loop _ em h.1.1.1.1 hr h.1.1.2 h.1.2 h.2 x hi hge
      rw [k2]
      exact ⟨fun he => ⟨by omega, k1, (fin _).1 he⟩, fun he => ⟨k1, (fin _).2 he⟩⟩


set_option maxRecDepth 100000 in
theorem vc138 (p : Pool) (c : Int) (hx : Tame p) : sUse.vc (EV Try.prog [(121, sGoodB.spec)] noInv noInv) Try.f138 (p, c, ()) := by
  have e : (Tame p ∧ ((!goodB p) = true → ∃ (y : Unit), True ∧ 1 = useI p c) ∧ ((!goodB p) = false → (decide (c < 0) = false → decide (c < 0) = false) ∧ (decide (c < 0) = false → decide (c < 0) = false) ∧ (decide (c < 0) = false → decide (c < 0) = false) ∧ (decide (c < 0) = false → decide (c < 0) = false) ∧ (decide (c < 0) = false → decide (c < 0) = false) ∧ ((decide (c < 0) || decide ((↑p.l.length : Int) ≤ c)) = true → ∃ (y : Unit), True ∧ 3 = useI p c) ∧ ((decide (c < 0) || decide ((↑p.l.length : Int) ≤ c)) = false → ∃ (y : Unit), True ∧ 0 = useI p c))) = sUse.vc (EV Try.prog [(121, sGoodB.spec)] noInv noInv) Try.f138 (p, c, ()) := by kernel_rfl
  rw [← e]
  clear e
  simp only [imp_self, true_and, and_true, exists_const, implies_true, gd1, gd2, gd3, gd4, gd5, gd6, NilL_eq ]
  simp only [Prod.forall, Prod.exists, exists_const, implies_true, not_true_eq_false, not_false_eq_true, or_self, or_false, false_or, or_true, true_or, and_false, false_and, forall_const, true_and, and_true, i64R, imp_self, Int.reduceLE, Int.reduceLT, Int.reduceNeg, false_implies, true_implies, decide_eq_true_eq, decide_eq_false_iff_not, Bool.not_eq_true', Bool.not_eq_false', Bool.true_eq_false, Bool.false_eq_true, Bool.and_eq_true, Bool.or_eq_true, NilL_eq, Bool.and_eq_false_iff, Bool.or_eq_false_iff ]
  refine ⟨hx, fun h => by rw [useI, if_pos h], fun h => ⟨fun h2 => by rw [useI, if_neg (by rw [h]; simp), if_pos h2], fun h2 => by rw [useI, if_neg (by rw [h]; simp), if_neg (by omega)]⟩⟩


set_option maxRecDepth 100000 in
theorem vc142 (p : Pool) (c : Int) (hx : Tame p) : sUse.vc (EV Try.prog [(116, sGoodB.spec), (119, sWithin.spec)] noInv noInv) Try.f142 (p, c, ()) := by
  have e : (Tame p ∧ ((!goodB p) = true → ∃ (y : Unit), True ∧ 1 = useI p c) ∧ ((!goodB p) = false → i64R ((↑p.l.length : Int) - 1) ∧ True ∧ ((!(decide (0 ≤ c) && decide (c ≤ (↑p.l.length : Int) - 1))) = true → ∃ (y : Unit), True ∧ 3 = useI p c) ∧ ((!(decide (0 ≤ c) && decide (c ≤ (↑p.l.length : Int) - 1))) = false → ∃ (y : Unit), True ∧ 0 = useI p c))) = sUse.vc (EV Try.prog [(116, sGoodB.spec), (119, sWithin.spec)] noInv noInv) Try.f142 (p, c, ()) := by kernel_rfl
  rw [← e]
  clear e
  simp only [imp_self, true_and, and_true, exists_const, implies_true, gd1, gd2, gd3, gd4, gd5, gd6, NilL_eq ]
  simp only [Prod.forall, Prod.exists, exists_const, implies_true, not_true_eq_false, not_false_eq_true, or_self, or_false, false_or, or_true, true_or, and_false, false_and, forall_const, true_and, and_true, i64R, imp_self, Int.reduceLE, Int.reduceLT, Int.reduceNeg, false_implies, true_implies, decide_eq_true_eq, decide_eq_false_iff_not, Bool.not_eq_true', Bool.not_eq_false', Bool.true_eq_false, Bool.false_eq_true, Bool.and_eq_true, Bool.or_eq_true, NilL_eq, Bool.and_eq_false_iff, Bool.or_eq_false_iff ]
  have hl := hx.len
  refine ⟨hx, fun h => by rw [useI, if_pos h], fun h => ⟨by omega, fun h2 => by rw [useI, if_neg (by rw [h]; simp), if_pos (by omega)], fun h2 => by rw [useI, if_neg (by rw [h]; simp), if_neg (by omega)]⟩⟩


set_option maxRecDepth 100000 in
theorem vc137 (p : Pool) (c : Int) (hx : Tame p) : sRoom.vc (EV Try.prog [(121, sGoodB.spec), (140, sLimited.spec)] noInv noInv) Try.f137 (p, c, ()) := by
  have e : (Tame p ∧ ((!goodB p) = false → (!goodB p) = false) ∧ ((!goodB p) = false → (!goodB p) = false) ∧ ((!goodB p || decide (c < 0)) = false → (!goodB p || decide (c < 0)) = false) ∧ ((!goodB p || decide (c < 0)) = false → (!goodB p || decide (c < 0)) = false) ∧ ((!goodB p || decide (c < 0)) = false → (!goodB p || decide (c < 0)) = false) ∧ ((!goodB p || decide (c < 0)) = false → (!goodB p || decide (c < 0)) = false) ∧ ((!goodB p || decide (c < 0)) = false → (!goodB p || decide (c < 0)) = false) ∧ ((!goodB p || decide (c < 0) || decide ((↑p.l.length : Int) ≤ c)) = true → ∃ (y : Unit), True ∧ 0 = roomI p c) ∧ ((!goodB p || decide (c < 0) || decide ((↑p.l.length : Int) ≤ c)) = false → True ∧ ((!!decide (p.q = 4611686018427387904)) = true → ∃ (y : Unit), True ∧ 1099511627776 = roomI p c) ∧ ((!!decide (p.q = 4611686018427387904)) = false → (0 ≤ c ∧ c < (↑p.l.length : Int)) ∧ i64R (p.le + p.l.getD c.toNat 0) ∧ ∃ (y : Unit), True ∧ p.le + p.l.getD c.toNat 0 = roomI p c))) = sRoom.vc (EV Try.prog [(121, sGoodB.spec), (140, sLimited.spec)] noInv noInv) Try.f137 (p, c, ()) := by kernel_rfl
  rw [← e]
  clear e
  simp only [imp_self, true_and, and_true, exists_const, implies_true, gd1, gd2, gd3, gd4, gd5, gd6, NilL_eq ]
  simp only [Prod.forall, Prod.exists, exists_const, implies_true, not_true_eq_false, not_false_eq_true, or_self, or_false, false_or, or_true, true_or, and_false, false_and, forall_const, true_and, and_true, i64R, imp_self, Int.reduceLE, Int.reduceLT, Int.reduceNeg, false_implies, true_implies, decide_eq_true_eq, decide_eq_false_iff_not, Bool.not_eq_true', Bool.not_eq_false', Bool.true_eq_false, Bool.false_eq_true, Bool.and_eq_true, Bool.or_eq_true, NilL_eq, Bool.and_eq_false_iff, Bool.or_eq_false_iff ]
  have bad : (goodB p = false ∨ c < 0) ∨ (p.l.length : Int) ≤ c → 0 = roomI p c := fun h => by
    rw [roomI, if_pos]
    unfold useI
    by_cases e : goodB p = false
    · rw [if_pos e]; omega
    · rw [if_neg e, if_pos (by rcases h with (h | h) | h <;> first | exact absurd h e | omega)]; omega
  have ok : ∀ h1 : goodB p = true, ¬ c < 0 → ¬ (p.l.length : Int) ≤ c → roomI p c = if p.q = 4611686018427387904 then 1099511627776 else p.le + p.l.getD c.toNat 0 := fun h1 h2 h3 => by
    rw [roomI, if_neg]
    rw [useI, if_neg (by rw [h1]; simp), if_neg (by omega)]; omega
  refine ⟨hx, bad, fun h => ⟨fun h2 => by rw [ok h.1.1 h.1.2 h.2, if_pos h2], fun h2 => ?_⟩⟩
  have hr := (goodB_iff.1 h.1.1).room (c := c) (by omega) (by omega)
  exact ⟨by omega, by omega, by rw [ok h.1.1 h.1.2 h.2, if_neg h2]⟩


set_option maxRecDepth 100000 in
theorem vc62 (p : Pool) (c : Int) (hx : Tame p) : sRoom.vc (EV Try.prog [(116, sGoodB.spec), (57, sLimited.spec), (119, sWithin.spec)] noInv noInv) Try.f62 (p, c, ()) := by
  have e : (Tame p ∧ ((!goodB p) = false → (!goodB p) = false) ∧ ((!goodB p) = false → (!goodB p) = false) ∧ ((!goodB p) = false → (!goodB p) = false) ∧ ((!goodB p) = false → i64R ((↑p.l.length : Int) - 1)) ∧ ((!goodB p) = false → (!goodB p) = false) ∧ ((!goodB p) = false → (!goodB p) = false) ∧ ((!goodB p) = false → True) ∧ ((!goodB p) = false → (!goodB p) = false) ∧ ((!goodB p) = false → (!goodB p) = false) ∧ ((!goodB p || !(decide (0 ≤ c) && decide (c ≤ (↑p.l.length : Int) - 1))) = true → ∃ (y : Unit), True ∧ 0 = roomI p c) ∧ ((!goodB p || !(decide (0 ≤ c) && decide (c ≤ (↑p.l.length : Int) - 1))) = false → True ∧ ((!!decide (p.q = 4611686018427387904)) = true → ∃ (y : Unit), True ∧ 1099511627776 = roomI p c) ∧ ((!!decide (p.q = 4611686018427387904)) = false → (0 ≤ c ∧ c < (↑p.l.length : Int)) ∧ i64R (p.le + p.l.getD c.toNat 0) ∧ ∃ (y : Unit), True ∧ p.le + p.l.getD c.toNat 0 = roomI p c))) = sRoom.vc (EV Try.prog [(116, sGoodB.spec), (57, sLimited.spec), (119, sWithin.spec)] noInv noInv) Try.f62 (p, c, ()) := by kernel_rfl
  rw [← e]
  clear e
  simp only [imp_self, true_and, and_true, exists_const, implies_true, gd1, gd2, gd3, gd4, gd5, gd6, NilL_eq ]
  simp only [Prod.forall, Prod.exists, exists_const, implies_true, not_true_eq_false, not_false_eq_true, or_self, or_false, false_or, or_true, true_or, and_false, false_and, forall_const, true_and, and_true, i64R, imp_self, Int.reduceLE, Int.reduceLT, Int.reduceNeg, false_implies, true_implies, decide_eq_true_eq, decide_eq_false_iff_not, Bool.not_eq_true', Bool.not_eq_false', Bool.true_eq_false, Bool.false_eq_true, Bool.and_eq_true, Bool.or_eq_true, NilL_eq, Bool.and_eq_false_iff, Bool.or_eq_false_iff ]
  have hl := hx.len
  have bad : goodB p = false ∨ ¬ 0 ≤ c ∨ ¬ c ≤ (p.l.length : Int) - 1 → 0 = roomI p c := fun h => by
    rw [roomI, if_pos]
    unfold useI
    by_cases e : goodB p = false
    · rw [if_pos e]; omega
    · rw [if_neg e, if_pos (by rcases h with h | h | h <;> first | exact absurd h e | omega)]; omega
  have ok : ∀ h1 : goodB p = true, ¬ c < 0 → ¬ (p.l.length : Int) ≤ c → roomI p c = if p.q = 4611686018427387904 then 1099511627776 else p.le + p.l.getD c.toNat 0 := fun h1 h2 h3 => by
    rw [roomI, if_neg]
    rw [useI, if_neg (by rw [h1]; simp), if_neg (by omega)]; omega
  refine ⟨hx, fun _ => by omega, bad, fun h => ⟨fun h2 => by rw [ok h.1 (by omega) (by omega), if_pos h2], fun h2 => ?_⟩⟩
  have hr := (goodB_iff.1 h.1).room (c := c) (by omega) (by omega)
  exact ⟨by omega, by omega, by rw [ok h.1 (by omega) (by omega), if_neg h2]⟩
end Go.Proofs.Ytemffnpliflkgaa
namespace Go.Proofs.Ytemffnpliflkgaa
open Go
set_option linter.unusedVariables false

def zeroP : Pool := ⟨0, 0, 0, 0, 0, [], 0, 0, 0, false⟩
def refillP (p : Pool) : Pool := { p with le := if p.q = 4611686018427387904 then p.le else p.le + min p.q (p.q + p.bu - (p.le + p.l.sum)), pe := p.pe + 1, sp := 0, em := false }
def tookP (p : Pool) (c : Nat) : Pool := { p with le := p.le - min p.s p.le, l := p.l.set c (p.l.getD c 0 + min p.s p.le) }
def takeR (p : Pool) (c : Nat) : Pool × Int := if p.q ≠ 4611686018427387904 ∧ p.le = 0 then (zeroP, 11) else (tookP p c, 0)
def returnP (p : Pool) (c : Nat) : Pool := { p with le := p.le + p.l.getD c 0, l := p.l.set c 0 }
def usedP (p : Pool) (c : Nat) : Pool := { p with l := p.l.set c (p.l.getD c 0 - 1), sp := min (p.sp + 1) 1099511627776 }
def dryP (p : Pool) : Pool := if p.em then p else { p with em := true, th := p.th + 1 }
def spendR (p : Pool) (c : Nat) : Pool × Int :=
  if p.q = 4611686018427387904 then ({ p with sp := min (p.sp + 1) 1099511627776 }, 0)
  else if p.l.getD c 0 = 0 then (if p.le = 0 then (dryP p, 11) else (usedP (tookP p c) c, 0))
  else (usedP p c, 0)
def newP (g q bu s : Int) (c : Nat) : Pool := ⟨g, q, bu, s, if q = 4611686018427387904 then 0 else q, List.replicate c 0, 0, 1, 0, false⟩
/-- What a change leaves. -/
structure Changed (p : Pool) (nq nb : Int) (y : Pool) : Prop where
  g : y.g = p.g
  q : y.q = nq
  bu : y.bu = nb
  s : y.s = p.s
  sp : y.sp = p.sp
  pe : y.pe = p.pe
  th : y.th = p.th
  em : y.em = p.em
  len : y.l.length = p.l.length
  le0 : 0 ≤ y.le
  l0 : ∀ x ∈ y.l, 0 ≤ x
  held : y.le + y.l.sum = min (p.le + p.l.sum) (if nq = 4611686018427387904 then 0 else nq + nb)
def RatesI (q bu : Int) : Prop := (q = 4611686018427387904 ∧ bu = 0) ∨ (q ≠ 4611686018427387904 ∧ 1 ≤ q ∧ q ≤ 1000000 ∧ 0 ≤ bu ∧ bu ≤ q)
structure Half where
  i : Int
  over : Int
  le : Int
  l : List Int
/-- Behind some rounds of a change: i is the next cell (that of Left comes first). -/
structure HalfOK (p : Pool) (top : Int) (m : Int) (h : Half) : Prop where
  lo : -1 ≤ h.i
  hi : h.i ≤ top
  o0 : 0 ≤ h.over
  le0 : 0 ≤ h.le
  l0 : ∀ x ∈ h.l, 0 ≤ x
  len : h.l.length = p.l.length
  sum : h.le + h.l.sum - h.over = m
  room : h.over ≤ (if h.i = h.l.length then h.le else 0) + (h.l.take (h.i + 1).toNat).sum
  up : h.le + h.l.sum ≤ 2000000
def chP (p : Pool) (q bu : Int) (h : Half) : Pool := { p with q := q, bu := bu, le := h.le, l := h.l }
def over0 (p : Pool) (q bu : Int) : Int := if q = 4611686018427387904 then p.le + p.l.sum else max (p.le + p.l.sum - q - bu) 0
theorem ch_feas (p : Pool) (q bu : Int) (h : Good p) (hr : RatesI q bu) : ∃ y, Changed p q bu y := by
  obtain ⟨m, hm, h0, h1, h2, h3⟩ := h.most
  have hs := sum_nonneg h1
  refine ⟨{ p with q := q, bu := bu, le := min (p.le + p.l.sum) (if q = 4611686018427387904 then 0 else q + bu), l := List.replicate p.l.length 0 }, ⟨rfl, rfl, rfl, rfl, rfl, rfl, rfl, rfl, by simp, ?_, fun x hx => by have := List.eq_of_mem_replicate hx; omega, by simp⟩⟩
  rcases hr with ⟨h5, h6⟩ | ⟨h5, h6, h7, h8, h9⟩
  · simp [h5]; omega
  · simp [h5]; omega
theorem HalfOK.stepL {p : Pool} {m : Int} {x : Half} (h : HalfOK p p.l.length m x) (h0 : 0 ≤ x.i) (h1 : x.i < x.l.length) : HalfOK p p.l.length m ⟨x.i - 1, x.over - min x.over (x.l.getD x.i.toNat 0), x.le, x.l.set x.i.toNat (x.l.getD x.i.toNat 0 - min x.over (x.l.getD x.i.toNat 0))⟩ := by
  obtain ⟨a1, a2, a3, a4, a5, a6, a7, a8, a9⟩ := h
  have hi : x.i.toNat < x.l.length := by omega
  have hs := sum_set hi (x.l.getD x.i.toNat 0 - min x.over (x.l.getD x.i.toNat 0))
  have hg := get_nonneg a5 x.i.toNat
  have e : (x.i + 1).toNat = x.i.toNat + 1 := by omega
  have ht := sum_take_succ x.l x.i.toNat hi
  have ht0 := sum_take_nonneg a5 x.i.toNat
  rw [e, ht, if_neg (by omega)] at a8
  refine ⟨by dsimp only; omega, by dsimp only; omega, by dsimp only; omega, a4, fun y hy => ?_, by simpa using a6, ?_, ?_, ?_⟩
  · rcases List.mem_or_eq_of_mem_set hy with h | h
    · exact a5 y h
    · omega
  · dsimp only; rw [hs]; omega
  · dsimp only; rw [List.length_set, if_neg (by omega)]
    have e2 : (x.i - 1 + 1).toNat = x.i.toNat := by omega
    rw [e2, List.take_set_of_le (Nat.le_refl _)]
    omega
  · dsimp only; rw [hs]; omega
theorem HalfOK.stepE {p : Pool} {m : Int} {x : Half} (h : HalfOK p p.l.length m x) (h0 : 0 ≤ x.i) (h1 : ¬ x.i < x.l.length) : HalfOK p p.l.length m ⟨x.i - 1, x.over - min x.over x.le, x.le - min x.over x.le, x.l⟩ := by
  obtain ⟨a1, a2, a3, a4, a5, a6, a7, a8, a9⟩ := h
  have e : x.i = x.l.length := by omega
  have hs := sum_nonneg a5
  rw [if_pos e, List.take_of_length_le (by omega)] at a8
  refine ⟨by dsimp only; omega, by dsimp only; omega, by dsimp only; omega, by dsimp only; omega, a5, a6, by dsimp only; omega, ?_, by dsimp only; omega⟩
  dsimp only
  rw [if_neg (by omega), List.take_of_length_le (by omega)]
  omega
theorem half_start {p : Pool} (hg : Good p) {o : Int} (h0 : 0 ≤ o) (h1 : o ≤ p.le + p.l.sum) : HalfOK p p.l.length (p.le + p.l.sum - o) ⟨p.l.length, o, p.le, p.l⟩ := by
  obtain ⟨m, hm, a0, a1, a2, a3⟩ := hg.most
  refine ⟨by dsimp only; omega, by dsimp only; omega, h0, a0, a1, rfl, rfl, ?_, by dsimp only; omega⟩
  dsimp only
  rw [if_pos rfl, List.take_of_length_le (by omega)]
  exact h1
theorem half_stop {p : Pool} {q bu m : Int} {x : Half} (h : HalfOK p p.l.length m x) (hi : ¬ 0 ≤ x.i) (hm : m = min (p.le + p.l.sum) (if q = 4611686018427387904 then 0 else q + bu)) : Changed p q bu (chP p q bu x) := by
  obtain ⟨a1, a2, a3, a4, a5, a6, a7, a8, a9⟩ := h
  have e : (x.i + 1).toNat = 0 := by omega
  rw [e, if_neg (by omega)] at a8
  simp only [List.take_zero, List.sum_nil] at a8
  exact ⟨rfl, rfl, rfl, rfl, rfl, rfl, rfl, rfl, a6, a4, a5, by rw [← hm]; show x.le + x.l.sum = m; omega⟩
theorem Changed.good {p y : Pool} {q bu : Int} (h : Changed p q bu y) (hg : Good p) (hr : RatesI q bu) : Good y := by
  have hs := sum_nonneg h.l0
  have hh := h.held
  have hle := h.le0
  refine ⟨by rw [h.g]; exact hg.g0, by rw [h.g]; exact hg.g1, ?_, by rw [h.s]; exact hg.s0, by rw [h.s]; exact hg.s1, by rw [h.len]; exact hg.n0, by rw [h.len]; exact hg.n1, by rw [h.sp]; exact hg.sp0, by rw [h.sp]; exact hg.sp1, by rw [h.pe]; exact hg.pe0, by rw [h.pe]; exact hg.pe1, by rw [h.th]; exact hg.th0, by rw [h.th, h.em, h.pe]; exact hg.th1⟩
  rw [h.q, h.bu]
  rcases hr with ⟨h1, h2⟩ | ⟨h1, h2, h3, h4, h5⟩
  · rw [if_pos h1] at hh
    exact .inl ⟨h1, h2, by omega, all_zero h.l0 (by omega)⟩
  · rw [if_neg h1] at hh
    exact .inr ⟨h1, h2, h3, h4, h5, hle, h.l0, by omega⟩
theorem getD_zero {l : List Int} (h : ∀ x ∈ l, x = 0) (i : Nat) : l.getD i 0 = 0 := by
  have h0 : ∀ x ∈ l, 0 ≤ x := fun x hx => by rw [h x hx]; omega
  have h1 := get_nonneg h0 i
  have h2 := get_le_sum h0 i
  rw [sum_zero h] at h2
  omega
theorem Good.upd {p : Pool} (h : Good p) {le : Int} {l : List Int} (hl : l.length = p.l.length) (h0 : 0 ≤ le) (h1 : ∀ x ∈ l, 0 ≤ x) (hs : le + l.sum ≤ p.le + p.l.sum) : Good { p with le := le, l := l } := by
  have hp := sum_nonneg h1
  refine ⟨h.g0, h.g1, ?_, h.s0, h.s1, by show 1 ≤ l.length; rw [hl]; exact h.n0, by show l.length ≤ 16; rw [hl]; exact h.n1, h.sp0, h.sp1, h.pe0, h.pe1, h.th0, h.th1⟩
  rcases h.lim with ⟨a1, a2, a3, a4⟩ | ⟨a1, a2, a3, a4, a5, a6, a7, a8⟩
  · have := sum_zero a4
    exact .inl ⟨a1, a2, by show le = 0; omega, all_zero h1 (show l.sum ≤ 0 by omega)⟩
  · exact .inr ⟨a1, a2, a3, a4, a5, h0, h1, by show le + l.sum ≤ p.q + p.bu; omega⟩
theorem Good.sp {p : Pool} (h : Good p) {v : Int} (h0 : 0 ≤ v) (h1 : v ≤ 1099511627776) : Good { p with sp := v } :=
  ⟨h.g0, h.g1, h.lim, h.s0, h.s1, h.n0, h.n1, h0, h1, h.pe0, h.pe1, h.th0, h.th1⟩
theorem took_held {p : Pool} {c : Nat} (hc : c < p.l.length) : (tookP p c).le + (tookP p c).l.sum = p.le + p.l.sum := by
  show p.le - min p.s p.le + (p.l.set c (p.l.getD c 0 + min p.s p.le)).sum = _
  rw [sum_set hc]; omega
theorem Good.took {p : Pool} (h : Good p) {c : Nat} (hc : c < p.l.length) : Good (tookP p c) := by
  obtain ⟨m, _, a0, a1, _⟩ := h.most
  have := h.s0
  have := get_nonneg a1 c
  refine h.upd (by simp) (by omega) (fun x hx => ?_) (by have := took_held hc; exact Int.le_of_eq this)
  rcases List.mem_or_eq_of_mem_set hx with h | h
  · exact a1 x h
  · omega
theorem back_held {p : Pool} {c : Nat} (hc : c < p.l.length) : (returnP p c).le + (returnP p c).l.sum = p.le + p.l.sum := by
  show p.le + p.l.getD c 0 + (p.l.set c 0).sum = _
  rw [sum_set hc]; omega
theorem Good.back {p : Pool} (h : Good p) {c : Nat} (hc : c < p.l.length) : Good (returnP p c) := by
  obtain ⟨m, _, a0, a1, _⟩ := h.most
  have := get_nonneg a1 c
  refine h.upd (by simp) (by omega) (fun x hx => ?_) (by have := back_held hc; exact Int.le_of_eq this)
  rcases List.mem_or_eq_of_mem_set hx with h | h
  · exact a1 x h
  · omega
theorem used_held {p : Pool} {c : Nat} (hc : c < p.l.length) : (usedP p c).le + (usedP p c).l.sum = p.le + p.l.sum - 1 := by
  show p.le + (p.l.set c (p.l.getD c 0 - 1)).sum = _
  rw [sum_set hc]; omega
theorem Good.used {p : Pool} (h : Good p) {c : Nat} (hc : c < p.l.length) (h0 : 0 < p.l.getD c 0) : Good (usedP p c) := by
  obtain ⟨m, _, a0, a1, _⟩ := h.most
  have b0 := h.sp0
  have b1 := h.sp1
  have e := used_held hc
  have hg : Good { p with le := p.le, l := p.l.set c (p.l.getD c 0 - 1) } := by
    refine h.upd (by simp) a0 (fun x hx => ?_) ?_
    · rcases List.mem_or_eq_of_mem_set hx with h | h
      · exact a1 x h
      · omega
    · have : p.le + (p.l.set c (p.l.getD c 0 - 1)).sum = p.le + p.l.sum - 1 := e
      omega
  exact hg.sp (v := min (p.sp + 1) 1099511627776) (by omega) (by omega)
theorem Good.dry {p : Pool} (h : Good p) : Good (dryP p) := by
  unfold dryP
  split
  · exact h
  · rename_i he
    have := h.th1
    rw [if_neg (by simpa using he)] at this
    have := h.th0
    exact ⟨h.g0, h.g1, h.lim, h.s0, h.s1, h.n0, h.n1, h.sp0, h.sp1, h.pe0, h.pe1, by show 0 ≤ p.th + 1; omega, by show p.th + 1 ≤ if true then p.pe else p.pe - 1; rw [if_pos rfl]; omega⟩
theorem dry_same (p : Pool) : (dryP p).q = p.q ∧ (dryP p).bu = p.bu ∧ (dryP p).pe = p.pe ∧ (dryP p).l = p.l ∧ (dryP p).le = p.le ∧ (dryP p).sp = p.sp ∧ (dryP p).em = true ∧ (dryP (dryP p)) = dryP p := by
  cases h : p.em <;> simp [dryP, h]
theorem spend_facts {p : Pool} (h : Good p) {c : Nat} (hc : c < p.l.length) : Good (spendR p c).1 ∧ (spendR p c).1.q = p.q ∧ (spendR p c).1.bu = p.bu ∧ (spendR p c).1.pe = p.pe ∧ (spendR p c).1.l.length = p.l.length ∧ (spendR p c).1.sp ≤ p.sp + 1 ∧
    ((p.q = 4611686018427387904 ∧ (spendR p c).2 = 0 ∧ (spendR p c).1.sp = min (p.sp + 1) 1099511627776 ∧ (spendR p c).1.le = p.le ∧ (spendR p c).1.l = p.l) ∨
     (p.q ≠ 4611686018427387904 ∧ 0 < p.le + p.l.getD c 0 ∧ (spendR p c).2 = 0 ∧ (spendR p c).1.sp = min (p.sp + 1) 1099511627776 ∧ (spendR p c).1.le + (spendR p c).1.l.sum = p.le + p.l.sum - 1) ∨
     (p.q ≠ 4611686018427387904 ∧ p.le = 0 ∧ p.l.getD c 0 = 0 ∧ spendR p c = (dryP p, 11))) := by
  obtain ⟨m, _, a0, a1, _⟩ := h.most
  have b0 := h.sp0
  have b1 := h.sp1
  have b2 := get_nonneg a1 c
  have b3 := h.s0
  unfold spendR
  split
  · rename_i hq
    exact ⟨h.sp (v := min (p.sp + 1) 1099511627776) (by omega) (by omega), rfl, rfl, rfl, rfl, by show min (p.sp + 1) 1099511627776 ≤ _; omega, .inl ⟨hq, rfl, rfl, rfl, rfl⟩⟩
  · rename_i hq
    split
    · rename_i hl
      split
      · rename_i hle
        obtain ⟨d1, d2, d3, d4, d5, d6, d7⟩ := dry_same p
        exact ⟨h.dry, d1, d2, d3, by rw [d4], by rw [d6]; omega, .inr (.inr ⟨hq, hle, hl, rfl⟩)⟩
      · rename_i hle
        have hc' : c < (tookP p c).l.length := by simpa [tookP] using hc
        have hp : (tookP p c).l.getD c 0 = min p.s p.le := by
          show (p.l.set c (p.l.getD c 0 + min p.s p.le)).getD c 0 = _
          rw [List.getD_eq_getElem?_getD, List.getElem?_set_self hc, Option.getD_some, hl]; omega
        have e := used_held hc'
        rw [took_held hc] at e
        exact ⟨(h.took hc).used hc' (by rw [hp]; omega), rfl, rfl, rfl, by simp [usedP, tookP], by show min (p.sp + 1) 1099511627776 ≤ _; omega, .inr (.inl ⟨hq, by omega, rfl, rfl, e⟩)⟩
    · rename_i hl
      exact ⟨h.used hc (by omega), rfl, rfl, rfl, by simp [usedP], by show min (p.sp + 1) 1099511627776 ≤ _; omega, .inr (.inl ⟨hq, by omega, rfl, rfl, used_held hc⟩)⟩
theorem refill_facts {p : Pool} (h : Good p) (hp : p.pe < 1099511627776) : Good (refillP p) ∧ (p.q = 4611686018427387904 → (refillP p).le = 0) ∧ (p.q ≠ 4611686018427387904 → (refillP p).le + p.l.sum = min (p.le + p.l.sum + p.q) (p.q + p.bu)) := by
  have hl := h.lim
  have g0 := h.pe0
  have g1 := h.th0
  have g2 := h.th1
  refine ⟨⟨h.g0, h.g1, ?_, h.s0, h.s1, h.n0, h.n1, Int.le_refl 0, by show (0 : Int) ≤ _; omega, by show 0 ≤ p.pe + 1; omega, by show p.pe + 1 ≤ _; omega, h.th0, ?_⟩, fun hq => ?_, fun hq => ?_⟩
  · show (p.q = 4611686018427387904 ∧ p.bu = 0 ∧ (if p.q = 4611686018427387904 then p.le else p.le + min p.q (p.q + p.bu - (p.le + p.l.sum))) = 0 ∧ ∀ x ∈ p.l, x = 0) ∨ (p.q ≠ 4611686018427387904 ∧ 1 ≤ p.q ∧ p.q ≤ 1000000 ∧ 0 ≤ p.bu ∧ p.bu ≤ p.q ∧ 0 ≤ (if p.q = 4611686018427387904 then p.le else p.le + min p.q (p.q + p.bu - (p.le + p.l.sum))) ∧ (∀ x ∈ p.l, 0 ≤ x) ∧ (if p.q = 4611686018427387904 then p.le else p.le + min p.q (p.q + p.bu - (p.le + p.l.sum))) + p.l.sum ≤ p.q + p.bu)
    rcases hl with ⟨a1, a2, a3, a4⟩ | ⟨a1, a2, a3, a4, a5, a6, a7, a8⟩
    · rw [if_pos a1]; exact .inl ⟨a1, a2, a3, a4⟩
    · rw [if_neg a1]; exact .inr ⟨a1, a2, a3, a4, a5, by omega, a7, by omega⟩
  · show p.th ≤ if false then p.pe + 1 else p.pe + 1 - 1
    rw [if_neg (by simp)]
    split at g2 <;> omega
  · show (if p.q = 4611686018427387904 then p.le else _) = 0
    rw [if_pos hq]
    rcases hl with ⟨a1, a2, a3, a4⟩ | ⟨a1, a2⟩
    · exact a3
    · exact absurd hq a1
  · show (if p.q = 4611686018427387904 then p.le else p.le + min p.q (p.q + p.bu - (p.le + p.l.sum))) + p.l.sum = _
    rw [if_neg hq]
    rcases hl with ⟨a1, a2⟩ | ⟨a1, a2, a3, a4, a5, a6, a7, a8⟩
    · exact absurd a1 hq
    · omega
theorem take_facts (p : Pool) (c : Nat) : (p.q ≠ 4611686018427387904 ∧ p.le = 0 ∧ takeR p c = (zeroP, 11)) ∨ takeR p c = (tookP p c, 0) := by
  unfold takeR
  split
  · rename_i h; exact .inl ⟨h.1, h.2, rfl⟩
  · exact .inr rfl
/-- A pool that was made, with i steps still to come. -/
theorem new_good {g q bu s : Int} {c : Nat} (h : 1 ≤ g ∧ g ≤ 2147483647) (hr : RatesI q bu) (hs : 1 ≤ s ∧ s ≤ 1000000) (hc : 1 ≤ c ∧ c ≤ 16) : Good (newP g q bu s c) := by
  have hz : (List.replicate c (0 : Int)).sum = 0 := sum_zero fun x hx => List.eq_of_mem_replicate hx
  refine ⟨h.1, h.2, ?_, hs.1, hs.2, by simpa [newP] using hc.1, by simpa [newP] using hc.2, Int.le_refl 0, by show (0 : Int) ≤ _; omega, by show (0 : Int) ≤ 1; omega, by show (1 : Int) ≤ _; omega, Int.le_refl 0, by show (0 : Int) ≤ if false then 1 else 1 - 1; simp⟩
  show (q = 4611686018427387904 ∧ bu = 0 ∧ (if q = 4611686018427387904 then 0 else q) = 0 ∧ ∀ x ∈ List.replicate c (0 : Int), x = 0) ∨ (q ≠ 4611686018427387904 ∧ 1 ≤ q ∧ q ≤ 1000000 ∧ 0 ≤ bu ∧ bu ≤ q ∧ 0 ≤ (if q = 4611686018427387904 then 0 else q) ∧ (∀ x ∈ List.replicate c (0 : Int), 0 ≤ x) ∧ (if q = 4611686018427387904 then 0 else q) + (List.replicate c (0 : Int)).sum ≤ q + bu)
  rcases hr with ⟨a1, a2⟩ | ⟨a1, a2, a3, a4, a5⟩
  · rw [if_pos a1]; exact .inl ⟨a1, a2, rfl, fun x hx => List.eq_of_mem_replicate hx⟩
  · rw [if_neg a1, hz]; exact .inr ⟨a1, a2, a3, a4, a5, by omega, fun x hx => by rw [List.eq_of_mem_replicate hx]; exact Int.le_refl 0, by omega⟩
def takeG (p : Pool) (c : Int) : Pool × Int := if useI p c = 0 then takeR p c.toNat else (zeroP, useI p c)
def returnG (p : Pool) (c : Int) : Pool × Int := if useI p c = 0 then (returnP p c.toNat, 0) else (zeroP, useI p c)
def spendG (p : Pool) (c : Int) : Pool × Int := if useI p c = 0 then spendR p c.toNat else (zeroP, useI p c)
def refillG (p : Pool) : Pool × Int := if goodB p = false then (zeroP, 1) else if 1099511627776 ≤ p.pe then (zeroP, 7) else (refillP p, 0)
def newG (g q bu s c : Int) : Pool × Int := if 1 ≤ c ∧ c ≤ 16 ∧ goodB (newP g q bu s c.toNat) = true then (newP g q bu s c.toNat, 0) else (zeroP, 3)
def drain : Nat → Int → List Int → List Int
  | 0, _, l => l
  | n + 1, o, l => drain n (o - min o (l.getD n 0)) (l.set n (l.getD n 0 - min o (l.getD n 0)))
def overI (p : Pool) (q bu : Int) : Int := if q = 4611686018427387904 then p.le + p.l.sum else max (p.le + p.l.sum - q - bu) 0
def chD (p : Pool) (q bu : Int) : Pool := { p with q := q, bu := bu, le := p.le - min (overI p q bu) p.le, l := drain p.l.length (overI p q bu - min (overI p q bu) p.le) p.l }
def changeG (p : Pool) (q bu : Int) : Pool × Int := if goodB p = false then (zeroP, 1) else if ratesI q bu = false then (zeroP, 3) else (chD p q bu, 0)
def rem1 (n : Nat) (x : Half) : Int × List Int := if x.i = n then (x.le - min x.over x.le, drain n (x.over - min x.over x.le) x.l) else (x.le, drain (x.i + 1).toNat x.over x.l)
theorem use_ok {p : Pool} {c : Int} (h : useI p c = 0) : Good p ∧ 0 ≤ c ∧ c < p.l.length := by
  unfold useI at h
  by_cases e : goodB p = false
  · rw [if_pos e] at h; omega
  · rw [if_neg e] at h
    have e2 : goodB p = true := by simpa using e
    by_cases e3 : c < 0 ∨ (p.l.length : Int) ≤ c
    · rw [if_pos e3] at h; omega
    · exact ⟨goodB_iff.1 e2, by omega, by omega⟩
theorem use_of {p : Pool} {c : Int} (h : Good p) (h0 : 0 ≤ c) (h1 : c < p.l.length) : useI p c = 0 := by
  rw [useI, if_neg (by rw [goodB_iff.2 h]; simp), if_neg (by omega)]
theorem rem_step {n : Nat} {x : Half} (hl : x.l.length = n) (h0 : 0 ≤ x.i) (h1 : x.i < x.l.length) : rem1 n ⟨x.i - 1, x.over - min x.over (x.l.getD x.i.toNat 0), x.le, x.l.set x.i.toNat (x.l.getD x.i.toNat 0 - min x.over (x.l.getD x.i.toNat 0))⟩ = rem1 n x := by
  unfold rem1
  rw [if_neg (by dsimp only; omega), if_neg (by omega)]
  have e : (x.i + 1).toNat = x.i.toNat + 1 := by omega
  have e2 : (x.i - 1 + 1).toNat = x.i.toNat := by omega
  dsimp only
  rw [e, e2, drain]
theorem rem_top {n : Nat} {x : Half} (hi : x.i = n) : rem1 n ⟨x.i - 1, x.over - min x.over x.le, x.le - min x.over x.le, x.l⟩ = rem1 n x := by
  unfold rem1
  rw [if_neg (by dsimp only; omega), if_pos hi]
  dsimp only
  have e2 : (x.i - 1 + 1).toNat = n := by omega
  rw [e2]
theorem rem_end {n : Nat} {x : Half} (h0 : -1 ≤ x.i) (h1 : ¬ 0 ≤ x.i) : rem1 n x = (x.le, x.l) := by
  unfold rem1
  rw [if_neg (by omega)]
  have e : (x.i + 1).toNat = 0 := by omega
  rw [e, drain]
theorem drain_half {p : Pool} {m : Int} : ∀ (k : Nat) (o le : Int) (l : List Int), HalfOK p p.l.length m ⟨(k : Int) - 1, o, le, l⟩ → k ≤ p.l.length → ∃ o', HalfOK p p.l.length m ⟨-1, o', le, drain k o l⟩
  | 0, o, le, l, h, _ => ⟨o, h⟩
  | k + 1, o, le, l, h, hk => by
    have hl := h.len
    dsimp only at hl
    have h2 := h.stepL (by dsimp only; omega) (by dsimp only; omega)
    have e : ((k + 1 : Nat) : Int) - 1 = k := by omega
    dsimp only at h2
    rw [e] at h2
    simp only [Int.toNat_natCast] at h2
    rw [drain]
    exact drain_half k _ _ _ h2 (by omega)
theorem over_rng {p : Pool} {q bu : Int} (hg : Good p) (hr : ratesI q bu = true) : 0 ≤ overI p q bu ∧ overI p q bu ≤ p.le + p.l.sum ∧ p.le + p.l.sum - overI p q bu = min (p.le + p.l.sum) (if q = 4611686018427387904 then 0 else q + bu) := by
  obtain ⟨m, hm, a0, a1, a2, a3⟩ := hg.most
  have hs := sum_nonneg a1
  unfold overI
  rcases ratesI_iff.1 hr with ⟨h1, h2⟩ | ⟨h1, h2⟩
  · rw [if_pos h1, if_pos h1]; omega
  · rw [if_neg h1, if_neg h1]; omega
theorem ch_changed {p : Pool} {q bu : Int} (hg : Good p) (hr : ratesI q bu = true) : Changed p q bu (chD p q bu) := by
  obtain ⟨o0, o1, o2⟩ := over_rng hg hr
  have h1 := (half_start hg o0 o1).stepE (by dsimp only; omega) (by dsimp only; omega)
  obtain ⟨o', h2⟩ := drain_half p.l.length _ _ _ h1 (Nat.le_refl _)
  exact half_stop h2 (by dsimp only; omega) o2
theorem ch_good {p : Pool} {q bu : Int} (hg : Good p) (hr : ratesI q bu = true) : Good (chD p q bu) := (ch_changed hg hr).good hg (ratesI_iff.1 hr)
theorem tame_new (g q bu s le : Int) (l : List Int) (h0 : -1152921504606846976 ≤ bu) (h1 : bu ≤ 1152921504606846976) (hl : l.length ≤ 1048576) : Tame ⟨g, q, bu, s, le, l, 0, 1, 0, false⟩ := ⟨h0, h1, by show (0 : Int) ≤ _; omega, by show _ ≤ (1 : Int); omega, by show _ ≤ (0 : Int); omega, by show (1 : Int) ≤ _; omega, hl⟩
end Go.Proofs.Ytemffnpliflkgaa
namespace Go.Proofs.Ytemffnpliflkgaa
open Go
set_option linter.unusedVariables false

def sTake : DS := ⟨_, two pkPool pkI, fun x => Tame x.1, fun x => .tup [ret (takeG x.1 x.2.1).1, .int .i64 (takeG x.1 x.2.1).2], fun x => row (takeG x.1 x.2.1).1⟩
def sReturn : DS := ⟨_, two pkPool pkI, fun x => Tame x.1, fun x => .tup [ret (returnG x.1 x.2.1).1, .int .i64 (returnG x.1 x.2.1).2], fun x => row (returnG x.1 x.2.1).1⟩
def sSpend : DS := ⟨_, two pkPool pkI, fun x => Tame x.1, fun x => .tup [ret (spendG x.1 x.2.1).1, .int .i64 (spendG x.1 x.2.1).2], fun x => row (spendG x.1 x.2.1).1⟩
def sRefill : DS := ⟨_, one pkPool, fun x => Tame x.1, fun x => .tup [ret (refillG x.1).1, .int .i64 (refillG x.1).2], fun x => row (refillG x.1).1⟩
def sNewP : DS := ⟨_, Sig.cons pkI (Sig.cons pkI (three pkI pkI pkI)), fun x => -1152921504606846976 ≤ x.2.2.1 ∧ x.2.2.1 ≤ 1152921504606846976, fun x => .tup [ret (newG x.1 x.2.1 x.2.2.1 x.2.2.2.1 x.2.2.2.2.1).1, .int .i64 (newG x.1 x.2.1 x.2.2.1 x.2.2.2.1 x.2.2.2.2.1).2], fun x => row (newG x.1 x.2.1 x.2.2.1 x.2.2.2.1 x.2.2.2.2.1).1⟩
def sChange : DS := ⟨_, three pkPool pkI pkI, fun x => Tame x.1 ∧ -1152921504606846976 ≤ x.2.2.1 ∧ x.2.2.1 ≤ 1152921504606846976, fun x => .tup [ret (changeG x.1 x.2.1 x.2.2.1).1, .int .i64 (changeG x.1 x.2.1 x.2.2.1).2], fun x => row (changeG x.1 x.2.1 x.2.2.1).1⟩


set_option maxRecDepth 100000 in
theorem vc141 (p : Pool) (c : Int) (hx : Tame p) : sTake.vc (EV Try.prog [(138, sUse.spec), (139, sCopied.spec), (140, sLimited.spec)] noInv noInv) Try.f141 (p, c, ()) := by
  have e : (Tame p ∧ ((!decide (useI p c = 0)) = true → ∃ (y : Unit), True ∧ 0 = (takeG p c).fst.g ∧ 0 = (takeG p c).fst.q ∧ 0 = (takeG p c).fst.bu ∧ 0 = (takeG p c).fst.s ∧ 0 = (takeG p c).fst.le ∧ 0 = (takeG p c).fst.sp ∧ 0 = (takeG p c).fst.pe ∧ 0 = (takeG p c).fst.th ∧ false = (takeG p c).fst.em ∧ useI p c = (takeG p c).snd ∧ NilL Int = (takeG p c).fst.l) ∧ ((!decide (useI p c = 0)) = false → True ∧ ((!decide (p.q = 4611686018427387904)) = true → (!decide (p.q = 4611686018427387904)) = true) ∧ ((!decide (p.q = 4611686018427387904)) = true → (!decide (p.q = 4611686018427387904)) = true) ∧ ((!decide (p.q = 4611686018427387904)) = true → (!decide (p.q = 4611686018427387904)) = true) ∧ ((!decide (p.q = 4611686018427387904) && decide (p.le = 0)) = true → ∃ (y : Unit), True ∧ 0 = (takeG p c).fst.g ∧ 0 = (takeG p c).fst.q ∧ 0 = (takeG p c).fst.bu ∧ 0 = (takeG p c).fst.s ∧ 0 = (takeG p c).fst.le ∧ 0 = (takeG p c).fst.sp ∧ 0 = (takeG p c).fst.pe ∧ 0 = (takeG p c).fst.th ∧ false = (takeG p c).fst.em ∧ 11 = (takeG p c).snd ∧ NilL Int = (takeG p c).fst.l) ∧ ((!decide (p.q = 4611686018427387904) && decide (p.le = 0)) = false → p.l.length ≤ (1048576 : Nat) ∧ i64R (p.le - Min.min p.s p.le) ∧ (0 ≤ c ∧ c < (↑p.l.length : Int)) ∧ i64R (p.l.getD c.toNat 0 + Min.min p.s p.le) ∧ (0 ≤ c ∧ c < (↑p.l.length : Int)) ∧ ∃ (y : Unit), True ∧ p.g = (takeG p c).fst.g ∧ p.q = (takeG p c).fst.q ∧ p.bu = (takeG p c).fst.bu ∧ p.s = (takeG p c).fst.s ∧ p.le - Min.min p.s p.le = (takeG p c).fst.le ∧ p.sp = (takeG p c).fst.sp ∧ p.pe = (takeG p c).fst.pe ∧ p.th = (takeG p c).fst.th ∧ p.em = (takeG p c).fst.em ∧ 0 = (takeG p c).snd ∧ p.l.set c.toNat (p.l.getD c.toNat 0 + Min.min p.s p.le) = (takeG p c).fst.l))) = sTake.vc (EV Try.prog [(138, sUse.spec), (139, sCopied.spec), (140, sLimited.spec)] noInv noInv) Try.f141 (p, c, ()) := by kernel_rfl
  rw [← e]
  clear e
  simp only [imp_self, true_and, exists_const, NilL_eq ]
  simp only [i64R, Int.reduceNeg, decide_eq_true_eq, decide_eq_false_iff_not, Bool.not_eq_true', Bool.not_eq_false', Bool.and_eq_true, Bool.and_eq_false_iff]
  refine ⟨hx, fun h => ?_, fun h => ⟨fun h2 => ?_, fun h2 => ?_⟩⟩
  · have e : takeG p c = (zeroP, useI p c) := by rw [takeG, if_neg h]
    rw [e]; exact ⟨rfl, rfl, rfl, rfl, rfl, rfl, rfl, rfl, rfl, rfl, rfl⟩
  · have e : takeG p c = (zeroP, 11) := by rw [takeG, if_pos h, takeR, if_pos h2]
    rw [e]; exact ⟨rfl, rfl, rfl, rfl, rfl, rfl, rfl, rfl, rfl, rfl, rfl⟩
  · have e : takeG p c = (tookP p c.toNat, 0) := by rw [takeG, if_pos h, takeR, if_neg (by rintro ⟨a, b⟩; rcases h2 with h2 | h2; exact a h2; exact h2 b)]
    obtain ⟨hg, h4, h5⟩ := use_ok h
    obtain ⟨m, hm, h0, h1, h2, h3⟩ := hg.most
    have hn := hg.n1
    have hr := hg.room h4 h5
    have := hg.s0
    have := hg.s1
    have := hg.sp0
    have := hg.sp1
    have := hg.th0
    have := hg.th1
    have hc : c.toNat < p.l.length := by omega
    have := hx.th
    rw [e]
    exact ⟨by omega, by omega, by omega, by omega, by omega, rfl, rfl, rfl, rfl, rfl, rfl, rfl, rfl, rfl, rfl, rfl⟩


set_option maxRecDepth 100000 in
theorem vc143 (p : Pool) (c : Int) (hx : Tame p) : sTake.vc (EV Try.prog [(142, sUse.spec), (118, sCopied.spec), (57, sLimited.spec)] noInv noInv) Try.f143 (p, c, ()) := by
  have e : (Tame p ∧ ((!decide (useI p c = 0)) = true → ∃ (y : Unit), True ∧ 0 = (takeG p c).fst.g ∧ 0 = (takeG p c).fst.q ∧ 0 = (takeG p c).fst.bu ∧ 0 = (takeG p c).fst.s ∧ 0 = (takeG p c).fst.le ∧ 0 = (takeG p c).fst.sp ∧ 0 = (takeG p c).fst.pe ∧ 0 = (takeG p c).fst.th ∧ false = (takeG p c).fst.em ∧ useI p c = (takeG p c).snd ∧ NilL Int = (takeG p c).fst.l) ∧ ((!decide (useI p c = 0)) = false → True ∧ ((!decide (p.q = 4611686018427387904)) = true → (!decide (p.q = 4611686018427387904)) = true) ∧ ((!decide (p.q = 4611686018427387904)) = true → (!decide (p.q = 4611686018427387904)) = true) ∧ ((!decide (p.q = 4611686018427387904)) = true → (!decide (p.q = 4611686018427387904)) = true) ∧ ((!decide (p.q = 4611686018427387904) && decide (p.le = 0)) = true → ∃ (y : Unit), True ∧ 0 = (takeG p c).fst.g ∧ 0 = (takeG p c).fst.q ∧ 0 = (takeG p c).fst.bu ∧ 0 = (takeG p c).fst.s ∧ 0 = (takeG p c).fst.le ∧ 0 = (takeG p c).fst.sp ∧ 0 = (takeG p c).fst.pe ∧ 0 = (takeG p c).fst.th ∧ false = (takeG p c).fst.em ∧ 11 = (takeG p c).snd ∧ NilL Int = (takeG p c).fst.l) ∧ ((!decide (p.q = 4611686018427387904) && decide (p.le = 0)) = false → p.l.length ≤ (1048576 : Nat) ∧ i64R (p.le - Min.min p.s p.le) ∧ (0 ≤ c ∧ c < (↑p.l.length : Int)) ∧ i64R (p.l.getD c.toNat 0 + Min.min p.s p.le) ∧ (0 ≤ c ∧ c < (↑p.l.length : Int)) ∧ ∃ (y : Unit), True ∧ p.g = (takeG p c).fst.g ∧ p.q = (takeG p c).fst.q ∧ p.bu = (takeG p c).fst.bu ∧ p.s = (takeG p c).fst.s ∧ p.le - Min.min p.s p.le = (takeG p c).fst.le ∧ p.sp = (takeG p c).fst.sp ∧ p.pe = (takeG p c).fst.pe ∧ p.th = (takeG p c).fst.th ∧ p.em = (takeG p c).fst.em ∧ 0 = (takeG p c).snd ∧ p.l.set c.toNat (p.l.getD c.toNat 0 + Min.min p.s p.le) = (takeG p c).fst.l))) = sTake.vc (EV Try.prog [(142, sUse.spec), (118, sCopied.spec), (57, sLimited.spec)] noInv noInv) Try.f143 (p, c, ()) := by kernel_rfl
  rw [← e]
  clear e
  simp only [imp_self, true_and, exists_const, NilL_eq ]
  simp only [i64R, Int.reduceNeg, decide_eq_true_eq, decide_eq_false_iff_not, Bool.not_eq_true', Bool.not_eq_false', Bool.and_eq_true, Bool.and_eq_false_iff]
  refine ⟨hx, fun h => ?_, fun h => ⟨fun h2 => ?_, fun h2 => ?_⟩⟩
  · have e : takeG p c = (zeroP, useI p c) := by rw [takeG, if_neg h]
    rw [e]; exact ⟨rfl, rfl, rfl, rfl, rfl, rfl, rfl, rfl, rfl, rfl, rfl⟩
  · have e : takeG p c = (zeroP, 11) := by rw [takeG, if_pos h, takeR, if_pos h2]
    rw [e]; exact ⟨rfl, rfl, rfl, rfl, rfl, rfl, rfl, rfl, rfl, rfl, rfl⟩
  · have e : takeG p c = (tookP p c.toNat, 0) := by rw [takeG, if_pos h, takeR, if_neg (by rintro ⟨a, b⟩; rcases h2 with h2 | h2; exact a h2; exact h2 b)]
    obtain ⟨hg, h4, h5⟩ := use_ok h
    obtain ⟨m, hm, h0, h1, h2, h3⟩ := hg.most
    have hn := hg.n1
    have hr := hg.room h4 h5
    have := hg.s0
    have := hg.s1
    have := hg.sp0
    have := hg.sp1
    have := hg.th0
    have := hg.th1
    have hc : c.toNat < p.l.length := by omega
    have := hx.th
    rw [e]
    exact ⟨by omega, by omega, by omega, by omega, by omega, rfl, rfl, rfl, rfl, rfl, rfl, rfl, rfl, rfl, rfl, rfl⟩


set_option maxRecDepth 100000 in
theorem vc107 (p : Pool) (c : Int) (hx : Tame p) : sSpend.vc (EV Try.prog [(138, sUse.spec), (139, sCopied.spec), (140, sLimited.spec), (141, sTake.spec)] noInv noInv) Try.f107 (p, c, ()) := by
  have e : (Tame p ∧ ((!decide (useI p c = 0)) = true → ∃ (y : Unit), True ∧ 0 = (spendG p c).fst.g ∧ 0 = (spendG p c).fst.q ∧ 0 = (spendG p c).fst.bu ∧ 0 = (spendG p c).fst.s ∧ 0 = (spendG p c).fst.le ∧ 0 = (spendG p c).fst.sp ∧ 0 = (spendG p c).fst.pe ∧ 0 = (spendG p c).fst.th ∧ false = (spendG p c).fst.em ∧ useI p c = (spendG p c).snd ∧ NilL Int = (spendG p c).fst.l) ∧ ((!decide (useI p c = 0)) = false → p.l.length ≤ (1048576 : Nat) ∧ True ∧ ((!decide (p.q = 4611686018427387904)) = true → (0 ≤ c ∧ c < (↑p.l.length : Int)) ∧ (decide (p.l.getD c.toNat (0 : Int) = 0) = true → Tame p ∧ ((!decide ((takeG p c).snd = 0)) = true → ((!p.em) = true → i64R (p.th + 1) ∧ ∃ (y : Unit), True ∧ p.g = (spendG p c).fst.g ∧ p.q = (spendG p c).fst.q ∧ p.bu = (spendG p c).fst.bu ∧ p.s = (spendG p c).fst.s ∧ p.le = (spendG p c).fst.le ∧ p.sp = (spendG p c).fst.sp ∧ p.pe = (spendG p c).fst.pe ∧ p.th + 1 = (spendG p c).fst.th ∧ true = (spendG p c).fst.em ∧ (takeG p c).snd = (spendG p c).snd ∧ p.l = (spendG p c).fst.l) ∧ ((!p.em) = false → ∃ (y : Unit), True ∧ p.g = (spendG p c).fst.g ∧ p.q = (spendG p c).fst.q ∧ p.bu = (spendG p c).fst.bu ∧ p.s = (spendG p c).fst.s ∧ p.le = (spendG p c).fst.le ∧ p.sp = (spendG p c).fst.sp ∧ p.pe = (spendG p c).fst.pe ∧ p.th = (spendG p c).fst.th ∧ p.em = (spendG p c).fst.em ∧ (takeG p c).snd = (spendG p c).snd ∧ p.l = (spendG p c).fst.l)) ∧ ((!decide ((takeG p c).snd = 0)) = false → (0 ≤ c ∧ c < (↑(takeG p c).fst.l.length : Int)) ∧ i64R ((takeG p c).fst.l.getD c.toNat (0 : Int) - 1) ∧ (0 ≤ c ∧ c < (↑(takeG p c).fst.l.length : Int)) ∧ i64R ((takeG p c).fst.sp + 1) ∧ ∃ (y : Unit), True ∧ (takeG p c).fst.g = (spendG p c).fst.g ∧ (takeG p c).fst.q = (spendG p c).fst.q ∧ (takeG p c).fst.bu = (spendG p c).fst.bu ∧ (takeG p c).fst.s = (spendG p c).fst.s ∧ (takeG p c).fst.le = (spendG p c).fst.le ∧ Min.min ((takeG p c).fst.sp + 1) 1099511627776 = (spendG p c).fst.sp ∧ (takeG p c).fst.pe = (spendG p c).fst.pe ∧ (takeG p c).fst.th = (spendG p c).fst.th ∧ (takeG p c).fst.em = (spendG p c).fst.em ∧ 0 = (spendG p c).snd ∧ (takeG p c).fst.l.set c.toNat ((takeG p c).fst.l.getD c.toNat (0 : Int) - 1) = (spendG p c).fst.l)) ∧ (decide (p.l.getD c.toNat (0 : Int) = 0) = false → (0 ≤ c ∧ c < (↑p.l.length : Int)) ∧ i64R (p.l.getD c.toNat (0 : Int) - 1) ∧ (0 ≤ c ∧ c < (↑p.l.length : Int)) ∧ i64R (p.sp + 1) ∧ ∃ (y : Unit), True ∧ p.g = (spendG p c).fst.g ∧ p.q = (spendG p c).fst.q ∧ p.bu = (spendG p c).fst.bu ∧ p.s = (spendG p c).fst.s ∧ p.le = (spendG p c).fst.le ∧ Min.min (p.sp + 1) 1099511627776 = (spendG p c).fst.sp ∧ p.pe = (spendG p c).fst.pe ∧ p.th = (spendG p c).fst.th ∧ p.em = (spendG p c).fst.em ∧ 0 = (spendG p c).snd ∧ p.l.set c.toNat (p.l.getD c.toNat (0 : Int) - 1) = (spendG p c).fst.l)) ∧ ((!decide (p.q = 4611686018427387904)) = false → i64R (p.sp + 1) ∧ ∃ (y : Unit), True ∧ p.g = (spendG p c).fst.g ∧ p.q = (spendG p c).fst.q ∧ p.bu = (spendG p c).fst.bu ∧ p.s = (spendG p c).fst.s ∧ p.le = (spendG p c).fst.le ∧ Min.min (p.sp + 1) 1099511627776 = (spendG p c).fst.sp ∧ p.pe = (spendG p c).fst.pe ∧ p.th = (spendG p c).fst.th ∧ p.em = (spendG p c).fst.em ∧ 0 = (spendG p c).snd ∧ p.l = (spendG p c).fst.l))) = sSpend.vc (EV Try.prog [(138, sUse.spec), (139, sCopied.spec), (140, sLimited.spec), (141, sTake.spec)] noInv noInv) Try.f107 (p, c, ()) := by kernel_rfl
  rw [← e]
  clear e
  simp only [true_and, exists_const, NilL_eq ]
  simp only [i64R, Int.reduceNeg, decide_eq_true_eq, decide_eq_false_iff_not, Bool.not_eq_true', Bool.not_eq_false']
  refine ⟨hx, fun h => ?_, fun h => ?_⟩
  · have e : spendG p c = (zeroP, useI p c) := by rw [spendG, if_neg h]
    rw [e]; exact ⟨rfl, rfl, rfl, rfl, rfl, rfl, rfl, rfl, rfl, rfl, rfl⟩
  · have e0 : spendG p c = spendR p c.toNat := by rw [spendG, if_pos h]
    obtain ⟨hg, h4, h5⟩ := use_ok h
    obtain ⟨m, hm, h0, h1, h2, h3⟩ := hg.most
    have hn := hg.n1
    have hr := hg.room h4 h5
    have := hg.s0
    have := hg.s1
    have := hg.sp0
    have := hg.sp1
    have := hg.th0
    have := hg.th1
    have hc : c.toNat < p.l.length := by omega
    have := hx.th
    have ht : ∀ {q : Int × Int}, True := fun {_} => trivial
    have eD : ∀ hq : ¬ p.q = 4611686018427387904, p.l.getD c.toNat 0 = 0 → p.le = 0 → spendG p c = (dryP p, 11) := fun a b d => by rw [e0, spendR, if_neg a, if_pos b, if_pos d]
    have eT : ∀ hq : ¬ p.q = 4611686018427387904, p.l.getD c.toNat 0 = 0 → ¬ p.le = 0 → spendG p c = (usedP (tookP p c.toNat) c.toNat, 0) := fun a b d => by rw [e0, spendR, if_neg a, if_pos b, if_neg d]
    have eU : ∀ hq : ¬ p.q = 4611686018427387904, ¬ p.l.getD c.toNat 0 = 0 → spendG p c = (usedP p c.toNat, 0) := fun a b => by rw [e0, spendR, if_neg a, if_neg b]
    have eQ : p.q = 4611686018427387904 → spendG p c = ({ p with sp := min (p.sp + 1) 1099511627776 }, 0) := fun a => by rw [e0, spendR, if_pos a]
    have tk : ¬ p.q = 4611686018427387904 → ¬ p.le = 0 → takeG p c = (tookP p c.toNat, 0) := fun a b => by rw [takeG, if_pos h, takeR, if_neg (fun d => b d.2)]
    have tn : ¬ p.q = 4611686018427387904 → p.le = 0 → takeG p c = (zeroP, 11) := fun a b => by rw [takeG, if_pos h, takeR, if_pos ⟨a, b⟩]
    have d1 : p.em = false → dryP p = { p with em := true, th := p.th + 1 } := fun a => by rw [dryP, if_neg (by rw [a]; simp)]
    have d2 : p.em = true → dryP p = p := fun a => by rw [dryP, if_pos a]
    have gt := hg.took hc
    have gl : (tookP p c.toNat).l.length = p.l.length := by simp [tookP]
    have gr := gt.room (c := c) h4 (by omega)
    have gs : (tookP p c.toNat).sp = p.sp := rfl
    refine ⟨by omega, fun hq => ⟨by omega, fun hl => ⟨hx, fun ht => ?_, fun ht => ?_⟩, fun hl => ?_⟩, fun hq => ?_⟩
    · have hle : p.le = 0 := by
        by_cases a : p.le = 0
        · exact a
        · rw [tk hq a] at ht; exact absurd rfl ht
      rw [eD hq hl hle, tn hq hle]
      refine ⟨fun he => ⟨by omega, ?_⟩, fun he => ?_⟩
      · rw [d1 he]; exact ⟨rfl, rfl, rfl, rfl, rfl, rfl, rfl, rfl, rfl, rfl, rfl⟩
      · rw [d2 he]; exact ⟨rfl, rfl, rfl, rfl, rfl, rfl, rfl, rfl, rfl, rfl, rfl⟩
    · have hle : ¬ p.le = 0 := fun a => by rw [tn hq a] at ht; cases ht
      rw [eT hq hl hle, tk hq hle]
      dsimp only
      exact ⟨by omega, by omega, by omega, by omega, rfl, rfl, rfl, rfl, rfl, rfl, rfl, rfl, rfl, rfl, rfl⟩
    · rw [eU hq hl]
      exact ⟨by omega, by omega, by omega, by omega, rfl, rfl, rfl, rfl, rfl, rfl, rfl, rfl, rfl, rfl, rfl⟩
    · rw [eQ hq]
      exact ⟨by omega, rfl, rfl, rfl, rfl, rfl, rfl, rfl, rfl, rfl, rfl, rfl⟩


set_option maxRecDepth 100000 in
theorem vc108 (p : Pool) (c : Int) (hx : Tame p) : sSpend.vc (EV Try.prog [(142, sUse.spec), (118, sCopied.spec), (57, sLimited.spec), (143, sTake.spec), (62, sRoom.spec)] noInv noInv) Try.f108 (p, c, ()) := by
  have e : (Tame p ∧ ((!decide (useI p c = 0)) = true → ∃ (y : Unit), True ∧ 0 = (spendG p c).fst.g ∧ 0 = (spendG p c).fst.q ∧ 0 = (spendG p c).fst.bu ∧ 0 = (spendG p c).fst.s ∧ 0 = (spendG p c).fst.le ∧ 0 = (spendG p c).fst.sp ∧ 0 = (spendG p c).fst.pe ∧ 0 = (spendG p c).fst.th ∧ false = (spendG p c).fst.em ∧ useI p c = (spendG p c).snd ∧ NilL Int = (spendG p c).fst.l) ∧ ((!decide (useI p c = 0)) = false → p.l.length ≤ (1048576 : Nat) ∧ True ∧ ((!decide (p.q = 4611686018427387904)) = true → Tame p ∧ (decide (roomI p c = 0) = true → ((!p.em) = true → i64R (p.th + 1) ∧ ∃ (y : Unit), True ∧ p.g = (spendG p c).fst.g ∧ p.q = (spendG p c).fst.q ∧ p.bu = (spendG p c).fst.bu ∧ p.s = (spendG p c).fst.s ∧ p.le = (spendG p c).fst.le ∧ p.sp = (spendG p c).fst.sp ∧ p.pe = (spendG p c).fst.pe ∧ p.th + 1 = (spendG p c).fst.th ∧ true = (spendG p c).fst.em ∧ 11 = (spendG p c).snd ∧ p.l = (spendG p c).fst.l) ∧ ((!p.em) = false → ∃ (y : Unit), True ∧ p.g = (spendG p c).fst.g ∧ p.q = (spendG p c).fst.q ∧ p.bu = (spendG p c).fst.bu ∧ p.s = (spendG p c).fst.s ∧ p.le = (spendG p c).fst.le ∧ p.sp = (spendG p c).fst.sp ∧ p.pe = (spendG p c).fst.pe ∧ p.th = (spendG p c).fst.th ∧ p.em = (spendG p c).fst.em ∧ 11 = (spendG p c).snd ∧ p.l = (spendG p c).fst.l)) ∧ (decide (roomI p c = 0) = false → (0 ≤ c ∧ c < (↑p.l.length : Int)) ∧ (decide (p.l.getD c.toNat (0 : Int) = 0) = true → Tame p ∧ (0 ≤ c ∧ c < (↑(takeG p c).fst.l.length : Int)) ∧ i64R ((takeG p c).fst.l.getD c.toNat (0 : Int) - 1) ∧ (0 ≤ c ∧ c < (↑(takeG p c).fst.l.length : Int)) ∧ i64R ((takeG p c).fst.sp + 1) ∧ ∃ (y : Unit), True ∧ (takeG p c).fst.g = (spendG p c).fst.g ∧ (takeG p c).fst.q = (spendG p c).fst.q ∧ (takeG p c).fst.bu = (spendG p c).fst.bu ∧ (takeG p c).fst.s = (spendG p c).fst.s ∧ (takeG p c).fst.le = (spendG p c).fst.le ∧ Min.min ((takeG p c).fst.sp + 1) 1099511627776 = (spendG p c).fst.sp ∧ (takeG p c).fst.pe = (spendG p c).fst.pe ∧ (takeG p c).fst.th = (spendG p c).fst.th ∧ (takeG p c).fst.em = (spendG p c).fst.em ∧ 0 = (spendG p c).snd ∧ (takeG p c).fst.l.set c.toNat ((takeG p c).fst.l.getD c.toNat (0 : Int) - 1) = (spendG p c).fst.l) ∧ (decide (p.l.getD c.toNat (0 : Int) = 0) = false → (0 ≤ c ∧ c < (↑p.l.length : Int)) ∧ i64R (p.l.getD c.toNat (0 : Int) - 1) ∧ (0 ≤ c ∧ c < (↑p.l.length : Int)) ∧ i64R (p.sp + 1) ∧ ∃ (y : Unit), True ∧ p.g = (spendG p c).fst.g ∧ p.q = (spendG p c).fst.q ∧ p.bu = (spendG p c).fst.bu ∧ p.s = (spendG p c).fst.s ∧ p.le = (spendG p c).fst.le ∧ Min.min (p.sp + 1) 1099511627776 = (spendG p c).fst.sp ∧ p.pe = (spendG p c).fst.pe ∧ p.th = (spendG p c).fst.th ∧ p.em = (spendG p c).fst.em ∧ 0 = (spendG p c).snd ∧ p.l.set c.toNat (p.l.getD c.toNat (0 : Int) - 1) = (spendG p c).fst.l))) ∧ ((!decide (p.q = 4611686018427387904)) = false → i64R (p.sp + 1) ∧ ∃ (y : Unit), True ∧ p.g = (spendG p c).fst.g ∧ p.q = (spendG p c).fst.q ∧ p.bu = (spendG p c).fst.bu ∧ p.s = (spendG p c).fst.s ∧ p.le = (spendG p c).fst.le ∧ Min.min (p.sp + 1) 1099511627776 = (spendG p c).fst.sp ∧ p.pe = (spendG p c).fst.pe ∧ p.th = (spendG p c).fst.th ∧ p.em = (spendG p c).fst.em ∧ 0 = (spendG p c).snd ∧ p.l = (spendG p c).fst.l))) = sSpend.vc (EV Try.prog [(142, sUse.spec), (118, sCopied.spec), (57, sLimited.spec), (143, sTake.spec), (62, sRoom.spec)] noInv noInv) Try.f108 (p, c, ()) := by kernel_rfl
  rw [← e]
  clear e
  simp only [true_and, exists_const, NilL_eq ]
  simp only [i64R, Int.reduceNeg, decide_eq_true_eq, decide_eq_false_iff_not, Bool.not_eq_true', Bool.not_eq_false']
  refine ⟨hx, fun h => ?_, fun h => ?_⟩
  · have e : spendG p c = (zeroP, useI p c) := by rw [spendG, if_neg h]
    rw [e]; exact ⟨rfl, rfl, rfl, rfl, rfl, rfl, rfl, rfl, rfl, rfl, rfl⟩
  · have e0 : spendG p c = spendR p c.toNat := by rw [spendG, if_pos h]
    obtain ⟨hg, h4, h5⟩ := use_ok h
    obtain ⟨m, hm, h0, h1, h2, h3⟩ := hg.most
    have hn := hg.n1
    have hr := hg.room h4 h5
    have := hg.s0
    have := hg.s1
    have := hg.sp0
    have := hg.sp1
    have := hg.th0
    have := hg.th1
    have hc : c.toNat < p.l.length := by omega
    have := hx.th
    have ht : ∀ {q : Int × Int}, True := fun {_} => trivial
    have eD : ∀ hq : ¬ p.q = 4611686018427387904, p.l.getD c.toNat 0 = 0 → p.le = 0 → spendG p c = (dryP p, 11) := fun a b d => by rw [e0, spendR, if_neg a, if_pos b, if_pos d]
    have eT : ∀ hq : ¬ p.q = 4611686018427387904, p.l.getD c.toNat 0 = 0 → ¬ p.le = 0 → spendG p c = (usedP (tookP p c.toNat) c.toNat, 0) := fun a b d => by rw [e0, spendR, if_neg a, if_pos b, if_neg d]
    have eU : ∀ hq : ¬ p.q = 4611686018427387904, ¬ p.l.getD c.toNat 0 = 0 → spendG p c = (usedP p c.toNat, 0) := fun a b => by rw [e0, spendR, if_neg a, if_neg b]
    have eQ : p.q = 4611686018427387904 → spendG p c = ({ p with sp := min (p.sp + 1) 1099511627776 }, 0) := fun a => by rw [e0, spendR, if_pos a]
    have tk : ¬ p.q = 4611686018427387904 → ¬ p.le = 0 → takeG p c = (tookP p c.toNat, 0) := fun a b => by rw [takeG, if_pos h, takeR, if_neg (fun d => b d.2)]
    have tn : ¬ p.q = 4611686018427387904 → p.le = 0 → takeG p c = (zeroP, 11) := fun a b => by rw [takeG, if_pos h, takeR, if_pos ⟨a, b⟩]
    have d1 : p.em = false → dryP p = { p with em := true, th := p.th + 1 } := fun a => by rw [dryP, if_neg (by rw [a]; simp)]
    have d2 : p.em = true → dryP p = p := fun a => by rw [dryP, if_pos a]
    have gt := hg.took hc
    have gl : (tookP p c.toNat).l.length = p.l.length := by simp [tookP]
    have gr := gt.room (c := c) h4 (by omega)
    have gs : (tookP p c.toNat).sp = p.sp := rfl
    have er : ¬ p.q = 4611686018427387904 → roomI p c = p.le + p.l.getD c.toNat 0 := fun a => by rw [roomI, if_neg (by omega), if_neg a]
    refine ⟨by omega, fun hq => ⟨hx, fun ht => ?_, fun ht => ⟨by omega, fun hl => ?_, fun hl => ?_⟩⟩, fun hq => ?_⟩
    · rw [er hq] at ht
      rw [eD hq (by omega) (by omega)]
      refine ⟨fun he => ⟨by omega, ?_⟩, fun he => ?_⟩
      · rw [d1 he]; exact ⟨rfl, rfl, rfl, rfl, rfl, rfl, rfl, rfl, rfl, rfl, rfl⟩
      · rw [d2 he]; exact ⟨rfl, rfl, rfl, rfl, rfl, rfl, rfl, rfl, rfl, rfl, rfl⟩
    · rw [er hq] at ht
      have hle : ¬ p.le = 0 := by omega
      rw [eT hq hl hle, tk hq hle]
      dsimp only
      exact ⟨hx, by omega, by omega, by omega, by omega, rfl, rfl, rfl, rfl, rfl, rfl, rfl, rfl, rfl, rfl, rfl⟩
    · rw [eU hq hl]
      exact ⟨by omega, by omega, by omega, by omega, rfl, rfl, rfl, rfl, rfl, rfl, rfl, rfl, rfl, rfl, rfl⟩
    · rw [eQ hq]
      exact ⟨by omega, rfl, rfl, rfl, rfl, rfl, rfl, rfl, rfl, rfl, rfl, rfl⟩


set_option maxRecDepth 100000 in
theorem vc113 (p : Pool) (hx : Tame p) : sRefill.vc (EV Try.prog [(116, sGoodB.spec), (118, sCopied.spec), (57, sLimited.spec), (60, sHeld.spec)] noInv noInv) Try.f113 (p, ()) := by
  have e : (Tame p ∧ ((!goodB p) = true → ∃ (y : Unit), True ∧ 0 = (refillG p).fst.g ∧ 0 = (refillG p).fst.q ∧ 0 = (refillG p).fst.bu ∧ 0 = (refillG p).fst.s ∧ 0 = (refillG p).fst.le ∧ 0 = (refillG p).fst.sp ∧ 0 = (refillG p).fst.pe ∧ 0 = (refillG p).fst.th ∧ false = (refillG p).fst.em ∧ 1 = (refillG p).snd ∧ NilL Int = (refillG p).fst.l) ∧ ((!goodB p) = false → (decide (p.pe = 1099511627776) = true → ∃ (y : Unit), True ∧ 0 = (refillG p).fst.g ∧ 0 = (refillG p).fst.q ∧ 0 = (refillG p).fst.bu ∧ 0 = (refillG p).fst.s ∧ 0 = (refillG p).fst.le ∧ 0 = (refillG p).fst.sp ∧ 0 = (refillG p).fst.pe ∧ 0 = (refillG p).fst.th ∧ false = (refillG p).fst.em ∧ 7 = (refillG p).snd ∧ NilL Int = (refillG p).fst.l) ∧ (decide (p.pe = 1099511627776) = false → p.l.length ≤ (1048576 : Nat) ∧ True ∧ ((!decide (p.q = 4611686018427387904)) = true → i64R (p.q + p.bu) ∧ Small p.le p.l ∧ i64R (p.q + p.bu - (p.le + p.l.sum)) ∧ i64R (p.le + Min.min p.q (p.q + p.bu - (p.le + p.l.sum))) ∧ i64R (p.pe + 1) ∧ ∃ (y : Unit), True ∧ p.g = (refillG p).fst.g ∧ p.q = (refillG p).fst.q ∧ p.bu = (refillG p).fst.bu ∧ p.s = (refillG p).fst.s ∧ p.le + Min.min p.q (p.q + p.bu - (p.le + p.l.sum)) = (refillG p).fst.le ∧ 0 = (refillG p).fst.sp ∧ p.pe + 1 = (refillG p).fst.pe ∧ p.th = (refillG p).fst.th ∧ false = (refillG p).fst.em ∧ 0 = (refillG p).snd ∧ p.l = (refillG p).fst.l) ∧ ((!decide (p.q = 4611686018427387904)) = false → i64R (p.pe + 1) ∧ ∃ (y : Unit), True ∧ p.g = (refillG p).fst.g ∧ p.q = (refillG p).fst.q ∧ p.bu = (refillG p).fst.bu ∧ p.s = (refillG p).fst.s ∧ p.le = (refillG p).fst.le ∧ 0 = (refillG p).fst.sp ∧ p.pe + 1 = (refillG p).fst.pe ∧ p.th = (refillG p).fst.th ∧ false = (refillG p).fst.em ∧ 0 = (refillG p).snd ∧ p.l = (refillG p).fst.l)))) = sRefill.vc (EV Try.prog [(116, sGoodB.spec), (118, sCopied.spec), (57, sLimited.spec), (60, sHeld.spec)] noInv noInv) Try.f113 (p, ()) := by kernel_rfl
  rw [← e]
  clear e
  simp only [true_and, exists_const, NilL_eq ]
  simp only [i64R, Int.reduceNeg, decide_eq_true_eq, decide_eq_false_iff_not, Bool.not_eq_true', Bool.not_eq_false']
  refine ⟨hx, fun h => ?_, fun h => ⟨fun h2 => ?_, fun h2 => ?_⟩⟩
  · have e : refillG p = (zeroP, 1) := by rw [refillG, if_pos h]
    rw [e]; exact ⟨rfl, rfl, rfl, rfl, rfl, rfl, rfl, rfl, rfl, rfl, rfl⟩
  · have e : refillG p = (zeroP, 7) := by rw [refillG, if_neg (by rw [h]; simp), if_pos (by omega)]
    rw [e]; exact ⟨rfl, rfl, rfl, rfl, rfl, rfl, rfl, rfl, rfl, rfl, rfl⟩
  · have e : refillG p = (refillP p, 0) := by rw [refillG, if_neg (by rw [h]; simp), if_neg (by have := (goodB_iff.1 h).pe1; omega)]
    have hg := goodB_iff.1 h
    obtain ⟨m, hm, h0, h1, h2, h3⟩ := hg.most
    have hn := hg.n1
    have hs0 := sum_nonneg h1
    have := hg.pe0
    have := hg.pe1
    rw [e]
    have eP : ∀ hq : ¬ p.q = 4611686018427387904, refillP p = { p with le := p.le + min p.q (p.q + p.bu - (p.le + p.l.sum)), pe := p.pe + 1, sp := 0, em := false } := fun hq => by rw [refillP, if_neg hq]
    have eQ : p.q = 4611686018427387904 → refillP p = { p with pe := p.pe + 1, sp := 0, em := false } := fun hq => by rw [refillP, if_pos hq]
    refine ⟨by omega, fun hq => ?_, fun hq => ?_⟩
    · rw [eP hq]
      exact ⟨by omega, hg.small, by omega, by omega, by omega, rfl, rfl, rfl, rfl, rfl, rfl, rfl, rfl, rfl, rfl, rfl⟩
    · rw [eQ hq]
      exact ⟨by omega, rfl, rfl, rfl, rfl, rfl, rfl, rfl, rfl, rfl, rfl, rfl⟩


set_option maxRecDepth 100000 in
theorem vc115 (g q bu s c : Int) (hx : -1152921504606846976 ≤ bu ∧ bu ≤ 1152921504606846976) : sNewP.vc (EV Try.prog [(147, sWithin.spec), (140, sLimited.spec), (121, sGoodB.spec)] noInv noInv) Try.f115 (g, q, bu, s, c, ()) := by
  have e : (True ∧ ((decide (1 ≤ c) && decide (c ≤ 16)) = true → (0 ≤ c ∧ c ≤ c ∧ (↑(8 : Nat) : Int) * c ≤ 281474976710656 ∧ c ≤ 1099511627776) ∧ True ∧ ((!decide (q = 4611686018427387904)) = true → Tame { g := g, q := q, bu := bu, s := s, le := q, l := List.replicate c.toNat 0, sp := 0, pe := 1, th := 0, em := false : Pool } ∧ ((!goodB { g := g, q := q, bu := bu, s := s, le := q, l := List.replicate c.toNat 0, sp := 0, pe := 1, th := 0, em := false : Pool }) = true → ∃ (y : Unit), True ∧ 0 = (newG g q bu s c).fst.g ∧ 0 = (newG g q bu s c).fst.q ∧ 0 = (newG g q bu s c).fst.bu ∧ 0 = (newG g q bu s c).fst.s ∧ 0 = (newG g q bu s c).fst.le ∧ 0 = (newG g q bu s c).fst.sp ∧ 0 = (newG g q bu s c).fst.pe ∧ 0 = (newG g q bu s c).fst.th ∧ false = (newG g q bu s c).fst.em ∧ 3 = (newG g q bu s c).snd ∧ NilL Int = (newG g q bu s c).fst.l) ∧ ((!goodB { g := g, q := q, bu := bu, s := s, le := q, l := List.replicate c.toNat 0, sp := 0, pe := 1, th := 0, em := false : Pool }) = false → ∃ (y : Unit), True ∧ g = (newG g q bu s c).fst.g ∧ q = (newG g q bu s c).fst.q ∧ bu = (newG g q bu s c).fst.bu ∧ s = (newG g q bu s c).fst.s ∧ q = (newG g q bu s c).fst.le ∧ 0 = (newG g q bu s c).fst.sp ∧ 1 = (newG g q bu s c).fst.pe ∧ 0 = (newG g q bu s c).fst.th ∧ false = (newG g q bu s c).fst.em ∧ 0 = (newG g q bu s c).snd ∧ List.replicate c.toNat 0 = (newG g q bu s c).fst.l)) ∧ ((!decide (q = 4611686018427387904)) = false → Tame { g := g, q := q, bu := bu, s := s, le := 0, l := List.replicate c.toNat 0, sp := 0, pe := 1, th := 0, em := false : Pool } ∧ ((!goodB { g := g, q := q, bu := bu, s := s, le := 0, l := List.replicate c.toNat 0, sp := 0, pe := 1, th := 0, em := false : Pool }) = true → ∃ (y : Unit), True ∧ 0 = (newG g q bu s c).fst.g ∧ 0 = (newG g q bu s c).fst.q ∧ 0 = (newG g q bu s c).fst.bu ∧ 0 = (newG g q bu s c).fst.s ∧ 0 = (newG g q bu s c).fst.le ∧ 0 = (newG g q bu s c).fst.sp ∧ 0 = (newG g q bu s c).fst.pe ∧ 0 = (newG g q bu s c).fst.th ∧ false = (newG g q bu s c).fst.em ∧ 3 = (newG g q bu s c).snd ∧ NilL Int = (newG g q bu s c).fst.l) ∧ ((!goodB { g := g, q := q, bu := bu, s := s, le := 0, l := List.replicate c.toNat 0, sp := 0, pe := 1, th := 0, em := false : Pool }) = false → ∃ (y : Unit), True ∧ g = (newG g q bu s c).fst.g ∧ q = (newG g q bu s c).fst.q ∧ bu = (newG g q bu s c).fst.bu ∧ s = (newG g q bu s c).fst.s ∧ 0 = (newG g q bu s c).fst.le ∧ 0 = (newG g q bu s c).fst.sp ∧ 1 = (newG g q bu s c).fst.pe ∧ 0 = (newG g q bu s c).fst.th ∧ false = (newG g q bu s c).fst.em ∧ 0 = (newG g q bu s c).snd ∧ List.replicate c.toNat 0 = (newG g q bu s c).fst.l))) ∧ ((decide (1 ≤ c) && decide (c ≤ 16)) = false → True ∧ ((!decide (q = 4611686018427387904)) = true → Tame { g := g, q := q, bu := bu, s := s, le := q, l := NilL Int, sp := 0, pe := 1, th := 0, em := false : Pool } ∧ ((!goodB { g := g, q := q, bu := bu, s := s, le := q, l := NilL Int, sp := 0, pe := 1, th := 0, em := false : Pool }) = true → ∃ (y : Unit), True ∧ 0 = (newG g q bu s c).fst.g ∧ 0 = (newG g q bu s c).fst.q ∧ 0 = (newG g q bu s c).fst.bu ∧ 0 = (newG g q bu s c).fst.s ∧ 0 = (newG g q bu s c).fst.le ∧ 0 = (newG g q bu s c).fst.sp ∧ 0 = (newG g q bu s c).fst.pe ∧ 0 = (newG g q bu s c).fst.th ∧ false = (newG g q bu s c).fst.em ∧ 3 = (newG g q bu s c).snd ∧ NilL Int = (newG g q bu s c).fst.l) ∧ ((!goodB { g := g, q := q, bu := bu, s := s, le := q, l := NilL Int, sp := 0, pe := 1, th := 0, em := false : Pool }) = false → ∃ (y : Unit), True ∧ g = (newG g q bu s c).fst.g ∧ q = (newG g q bu s c).fst.q ∧ bu = (newG g q bu s c).fst.bu ∧ s = (newG g q bu s c).fst.s ∧ q = (newG g q bu s c).fst.le ∧ 0 = (newG g q bu s c).fst.sp ∧ 1 = (newG g q bu s c).fst.pe ∧ 0 = (newG g q bu s c).fst.th ∧ false = (newG g q bu s c).fst.em ∧ 0 = (newG g q bu s c).snd ∧ NilL Int = (newG g q bu s c).fst.l)) ∧ ((!decide (q = 4611686018427387904)) = false → Tame { g := g, q := q, bu := bu, s := s, le := 0, l := NilL Int, sp := 0, pe := 1, th := 0, em := false : Pool } ∧ ((!goodB { g := g, q := q, bu := bu, s := s, le := 0, l := NilL Int, sp := 0, pe := 1, th := 0, em := false : Pool }) = true → ∃ (y : Unit), True ∧ 0 = (newG g q bu s c).fst.g ∧ 0 = (newG g q bu s c).fst.q ∧ 0 = (newG g q bu s c).fst.bu ∧ 0 = (newG g q bu s c).fst.s ∧ 0 = (newG g q bu s c).fst.le ∧ 0 = (newG g q bu s c).fst.sp ∧ 0 = (newG g q bu s c).fst.pe ∧ 0 = (newG g q bu s c).fst.th ∧ false = (newG g q bu s c).fst.em ∧ 3 = (newG g q bu s c).snd ∧ NilL Int = (newG g q bu s c).fst.l) ∧ ((!goodB { g := g, q := q, bu := bu, s := s, le := 0, l := NilL Int, sp := 0, pe := 1, th := 0, em := false : Pool }) = false → ∃ (y : Unit), True ∧ g = (newG g q bu s c).fst.g ∧ q = (newG g q bu s c).fst.q ∧ bu = (newG g q bu s c).fst.bu ∧ s = (newG g q bu s c).fst.s ∧ 0 = (newG g q bu s c).fst.le ∧ 0 = (newG g q bu s c).fst.sp ∧ 1 = (newG g q bu s c).fst.pe ∧ 0 = (newG g q bu s c).fst.th ∧ false = (newG g q bu s c).fst.em ∧ 0 = (newG g q bu s c).snd ∧ NilL Int = (newG g q bu s c).fst.l)))) = sNewP.vc (EV Try.prog [(147, sWithin.spec), (140, sLimited.spec), (121, sGoodB.spec)] noInv noInv) Try.f115 (g, q, bu, s, c, ()) := by kernel_rfl
  rw [← e]
  clear e
  simp only [true_and, exists_const, NilL_eq ]
  simp only [decide_eq_true_eq, decide_eq_false_iff_not, Bool.not_eq_true', Bool.not_eq_false', Bool.and_eq_true, Bool.and_eq_false_iff]
  have eN : ¬ q = 4611686018427387904 → newP g q bu s c.toNat = ⟨g, q, bu, s, q, List.replicate c.toNat 0, 0, 1, 0, false⟩ := fun a => by rw [newP, if_neg a]
  have eQ : q = 4611686018427387904 → newP g q bu s c.toNat = ⟨g, q, bu, s, 0, List.replicate c.toNat 0, 0, 1, 0, false⟩ := fun a => by rw [newP, if_pos a]
  have ok : 1 ≤ c ∧ c ≤ 16 → ∀ P : Pool, newP g q bu s c.toNat = P → goodB P = true → newG g q bu s c = (P, 0) := fun h P e h2 => by rw [newG, if_pos ⟨h.1, h.2, by rw [e]; exact h2⟩, e]
  have no : ∀ P : Pool, newP g q bu s c.toNat = P → goodB P = false → newG g q bu s c = (zeroP, 3) := fun P e h2 => by rw [newG, if_neg (fun h => by rw [e, h2] at h; exact absurd h.2.2 (by simp))]
  have out : ¬ 1 ≤ c ∨ ¬ c ≤ 16 → newG g q bu s c = (zeroP, 3) := fun h => by rw [newG, if_neg (by omega)]
  have ng : ∀ le : Int, goodB ⟨g, q, bu, s, le, [], 0, 1, 0, false⟩ = true → False := fun le h => by
    have h2 : (1 : Nat) ≤ ([] : List Int).length := (goodB_iff.1 h).n0
    simp at h2
  have tm : ∀ (le : Int), 1 ≤ c ∧ c ≤ 16 → Tame ⟨g, q, bu, s, le, List.replicate c.toNat 0, 0, 1, 0, false⟩ := fun le h => tame_new g q bu s le _ hx.1 hx.2 (by rw [List.length_replicate]; omega)
  have t0 : ∀ (le : Int), Tame ⟨g, q, bu, s, le, [], 0, 1, 0, false⟩ := fun le => tame_new g q bu s le _ hx.1 hx.2 (by simp)
  have main : (1 ≤ c ∧ c ≤ 16) → True := fun _ => trivial
  refine ⟨fun h => ⟨by omega, fun hq => ⟨tm _ h, fun h2 => ?_, fun h2 => ?_⟩, fun hq => ⟨tm _ h, fun h2 => ?_, fun h2 => ?_⟩⟩, fun h => ⟨fun hq => ⟨t0 _, fun h2 => ?_, fun h2 => (ng _ h2).elim⟩, fun hq => ⟨t0 _, fun h2 => ?_, fun h2 => (ng _ h2).elim⟩⟩⟩
  · rw [no _ (eN hq) h2]; exact ⟨rfl, rfl, rfl, rfl, rfl, rfl, rfl, rfl, rfl, rfl, rfl⟩
  · rw [ok h _ (eN hq) h2]; exact ⟨rfl, rfl, rfl, rfl, rfl, rfl, rfl, rfl, rfl, rfl, rfl⟩
  · rw [no _ (eQ hq) h2]; exact ⟨rfl, rfl, rfl, rfl, rfl, rfl, rfl, rfl, rfl, rfl, rfl⟩
  · rw [ok h _ (eQ hq) h2]; exact ⟨rfl, rfl, rfl, rfl, rfl, rfl, rfl, rfl, rfl, rfl, rfl⟩
  · rw [out h]; exact ⟨rfl, rfl, rfl, rfl, rfl, rfl, rfl, rfl, rfl, rfl, rfl⟩
  · rw [out h]; exact ⟨rfl, rfl, rfl, rfl, rfl, rfl, rfl, rfl, rfl, rfl, rfl⟩


set_option maxRecDepth 100000 in
theorem vc133 (g q bu s c : Int) (hx : -1152921504606846976 ≤ bu ∧ bu ≤ 1152921504606846976) : sNewP.vc (EV Try.prog [(119, sWithin.spec), (57, sLimited.spec), (116, sGoodB.spec)] noInv noInv) Try.f133 (g, q, bu, s, c, ()) := by
  have e : (True ∧ ((!(decide (1 ≤ c) && decide (c ≤ 16))) = true → ∃ (y : Unit), True ∧ 0 = (newG g q bu s c).fst.g ∧ 0 = (newG g q bu s c).fst.q ∧ 0 = (newG g q bu s c).fst.bu ∧ 0 = (newG g q bu s c).fst.s ∧ 0 = (newG g q bu s c).fst.le ∧ 0 = (newG g q bu s c).fst.sp ∧ 0 = (newG g q bu s c).fst.pe ∧ 0 = (newG g q bu s c).fst.th ∧ false = (newG g q bu s c).fst.em ∧ 3 = (newG g q bu s c).snd ∧ NilL Int = (newG g q bu s c).fst.l) ∧ ((!(decide (1 ≤ c) && decide (c ≤ 16))) = false → (0 ≤ c ∧ c ≤ c ∧ (↑(8 : Nat) : Int) * c ≤ 281474976710656 ∧ c ≤ 1099511627776) ∧ True ∧ ((!decide (q = 4611686018427387904)) = true → Tame { g := g, q := q, bu := bu, s := s, le := q, l := List.replicate c.toNat 0, sp := 0, pe := 1, th := 0, em := false : Pool } ∧ ((!goodB { g := g, q := q, bu := bu, s := s, le := q, l := List.replicate c.toNat 0, sp := 0, pe := 1, th := 0, em := false : Pool }) = true → ∃ (y : Unit), True ∧ 0 = (newG g q bu s c).fst.g ∧ 0 = (newG g q bu s c).fst.q ∧ 0 = (newG g q bu s c).fst.bu ∧ 0 = (newG g q bu s c).fst.s ∧ 0 = (newG g q bu s c).fst.le ∧ 0 = (newG g q bu s c).fst.sp ∧ 0 = (newG g q bu s c).fst.pe ∧ 0 = (newG g q bu s c).fst.th ∧ false = (newG g q bu s c).fst.em ∧ 3 = (newG g q bu s c).snd ∧ NilL Int = (newG g q bu s c).fst.l) ∧ ((!goodB { g := g, q := q, bu := bu, s := s, le := q, l := List.replicate c.toNat 0, sp := 0, pe := 1, th := 0, em := false : Pool }) = false → ∃ (y : Unit), True ∧ g = (newG g q bu s c).fst.g ∧ q = (newG g q bu s c).fst.q ∧ bu = (newG g q bu s c).fst.bu ∧ s = (newG g q bu s c).fst.s ∧ q = (newG g q bu s c).fst.le ∧ 0 = (newG g q bu s c).fst.sp ∧ 1 = (newG g q bu s c).fst.pe ∧ 0 = (newG g q bu s c).fst.th ∧ false = (newG g q bu s c).fst.em ∧ 0 = (newG g q bu s c).snd ∧ List.replicate c.toNat 0 = (newG g q bu s c).fst.l)) ∧ ((!decide (q = 4611686018427387904)) = false → Tame { g := g, q := q, bu := bu, s := s, le := 0, l := List.replicate c.toNat 0, sp := 0, pe := 1, th := 0, em := false : Pool } ∧ ((!goodB { g := g, q := q, bu := bu, s := s, le := 0, l := List.replicate c.toNat 0, sp := 0, pe := 1, th := 0, em := false : Pool }) = true → ∃ (y : Unit), True ∧ 0 = (newG g q bu s c).fst.g ∧ 0 = (newG g q bu s c).fst.q ∧ 0 = (newG g q bu s c).fst.bu ∧ 0 = (newG g q bu s c).fst.s ∧ 0 = (newG g q bu s c).fst.le ∧ 0 = (newG g q bu s c).fst.sp ∧ 0 = (newG g q bu s c).fst.pe ∧ 0 = (newG g q bu s c).fst.th ∧ false = (newG g q bu s c).fst.em ∧ 3 = (newG g q bu s c).snd ∧ NilL Int = (newG g q bu s c).fst.l) ∧ ((!goodB { g := g, q := q, bu := bu, s := s, le := 0, l := List.replicate c.toNat 0, sp := 0, pe := 1, th := 0, em := false : Pool }) = false → ∃ (y : Unit), True ∧ g = (newG g q bu s c).fst.g ∧ q = (newG g q bu s c).fst.q ∧ bu = (newG g q bu s c).fst.bu ∧ s = (newG g q bu s c).fst.s ∧ 0 = (newG g q bu s c).fst.le ∧ 0 = (newG g q bu s c).fst.sp ∧ 1 = (newG g q bu s c).fst.pe ∧ 0 = (newG g q bu s c).fst.th ∧ false = (newG g q bu s c).fst.em ∧ 0 = (newG g q bu s c).snd ∧ List.replicate c.toNat 0 = (newG g q bu s c).fst.l)))) = sNewP.vc (EV Try.prog [(119, sWithin.spec), (57, sLimited.spec), (116, sGoodB.spec)] noInv noInv) Try.f133 (g, q, bu, s, c, ()) := by kernel_rfl
  rw [← e]
  clear e
  simp only [true_and, exists_const, NilL_eq ]
  simp only [decide_eq_true_eq, decide_eq_false_iff_not, Bool.not_eq_true', Bool.not_eq_false', Bool.and_eq_true, Bool.and_eq_false_iff]
  have eN : ¬ q = 4611686018427387904 → newP g q bu s c.toNat = ⟨g, q, bu, s, q, List.replicate c.toNat 0, 0, 1, 0, false⟩ := fun a => by rw [newP, if_neg a]
  have eQ : q = 4611686018427387904 → newP g q bu s c.toNat = ⟨g, q, bu, s, 0, List.replicate c.toNat 0, 0, 1, 0, false⟩ := fun a => by rw [newP, if_pos a]
  have ok : 1 ≤ c ∧ c ≤ 16 → ∀ P : Pool, newP g q bu s c.toNat = P → goodB P = true → newG g q bu s c = (P, 0) := fun h P e h2 => by rw [newG, if_pos ⟨h.1, h.2, by rw [e]; exact h2⟩, e]
  have no : ∀ P : Pool, newP g q bu s c.toNat = P → goodB P = false → newG g q bu s c = (zeroP, 3) := fun P e h2 => by rw [newG, if_neg (fun h => by rw [e, h2] at h; exact absurd h.2.2 (by simp))]
  have out : ¬ 1 ≤ c ∨ ¬ c ≤ 16 → newG g q bu s c = (zeroP, 3) := fun h => by rw [newG, if_neg (by omega)]
  have ng : ∀ le : Int, goodB ⟨g, q, bu, s, le, [], 0, 1, 0, false⟩ = true → False := fun le h => by
    have h2 : (1 : Nat) ≤ ([] : List Int).length := (goodB_iff.1 h).n0
    simp at h2
  have tm : ∀ (le : Int), 1 ≤ c ∧ c ≤ 16 → Tame ⟨g, q, bu, s, le, List.replicate c.toNat 0, 0, 1, 0, false⟩ := fun le h => tame_new g q bu s le _ hx.1 hx.2 (by rw [List.length_replicate]; omega)
  have t0 : ∀ (le : Int), Tame ⟨g, q, bu, s, le, [], 0, 1, 0, false⟩ := fun le => tame_new g q bu s le _ hx.1 hx.2 (by simp)
  have main : (1 ≤ c ∧ c ≤ 16) → True := fun _ => trivial
  refine ⟨fun h => ?_, fun h => ⟨by omega, fun hq => ⟨tm _ h, fun h2 => ?_, fun h2 => ?_⟩, fun hq => ⟨tm _ h, fun h2 => ?_, fun h2 => ?_⟩⟩⟩
  · rw [out h]; exact ⟨rfl, rfl, rfl, rfl, rfl, rfl, rfl, rfl, rfl, rfl, rfl⟩
  · rw [no _ (eN hq) h2]; exact ⟨rfl, rfl, rfl, rfl, rfl, rfl, rfl, rfl, rfl, rfl, rfl⟩
  · rw [ok h _ (eN hq) h2]; exact ⟨rfl, rfl, rfl, rfl, rfl, rfl, rfl, rfl, rfl, rfl, rfl⟩
  · rw [no _ (eQ hq) h2]; exact ⟨rfl, rfl, rfl, rfl, rfl, rfl, rfl, rfl, rfl, rfl, rfl⟩
  · rw [ok h _ (eQ hq) h2]; exact ⟨rfl, rfl, rfl, rfl, rfl, rfl, rfl, rfl, rfl, rfl, rfl⟩

def inv146 (p : Pool) (q bu : Int) : Inv where
  X := Half
  ok := fun h => HalfOK p p.l.length (p.le + p.l.sum - overI p q bu) h ∧ rem1 p.l.length h = ((chD p q bu).le, (chD p q bu).l)
  sl := fun h => [(9, .int .i64 h.i), (8, .int .i64 h.over)]
  hp := fun h => [(10000, .cells 80 (poolAV (chP p q bu h) (.own 101 0)).flat), (101, .rows 3 0 h.l)]
  keep := [10010]
  me := fun h => (h.i + 1).toNat
set_option maxRecDepth 100000 in
theorem vc146 (p : Pool) (q bu : Int) (hx : Tame p ∧ -1152921504606846976 ≤ bu ∧ bu ≤ 1152921504606846976) : sChange.vc (EV Try.prog [(121, sGoodB.spec), (139, sCopied.spec), (148, sRates.spec), (144, sHeld.spec), (140, sLimited.spec)] (invs [(11, inv146 p q bu)]) noInv) Try.f146 (p, q, bu, ()) := by
  have e : (Tame p ∧ ((!goodB p) = true → ∃ (y : Unit), True ∧ 0 = (changeG p q bu).fst.g ∧ 0 = (changeG p q bu).fst.q ∧ 0 = (changeG p q bu).fst.bu ∧ 0 = (changeG p q bu).fst.s ∧ 0 = (changeG p q bu).fst.le ∧ 0 = (changeG p q bu).fst.sp ∧ 0 = (changeG p q bu).fst.pe ∧ 0 = (changeG p q bu).fst.th ∧ false = (changeG p q bu).fst.em ∧ 1 = (changeG p q bu).snd ∧ NilL Int = (changeG p q bu).fst.l) ∧ ((!goodB p) = false → p.l.length ≤ (1048576 : Nat) ∧ True ∧ ((!ratesI q bu) = true → ∃ (y : Unit), True ∧ 0 = (changeG p q bu).fst.g ∧ 0 = (changeG p q bu).fst.q ∧ 0 = (changeG p q bu).fst.bu ∧ 0 = (changeG p q bu).fst.s ∧ 0 = (changeG p q bu).fst.le ∧ 0 = (changeG p q bu).fst.sp ∧ 0 = (changeG p q bu).fst.pe ∧ 0 = (changeG p q bu).fst.th ∧ false = (changeG p q bu).fst.em ∧ 3 = (changeG p q bu).snd ∧ NilL Int = (changeG p q bu).fst.l) ∧ ((!ratesI q bu) = false → Small p.le p.l ∧ True ∧ ((!decide (q = 4611686018427387904)) = true → i64R (p.le + p.l.sum - q) ∧ i64R (p.le + p.l.sum - q - bu) ∧ (∃ (x : Half), (HalfOK p (↑p.l.length : Int) (p.le + p.l.sum - overI p q bu) x ∧ rem1 p.l.length x = (p.le - Min.min (overI p q bu) p.le, drain p.l.length (overI p q bu - Min.min (overI p q bu) p.le) p.l)) ∧ (↑p.l.length : Int) = x.i ∧ Max.max (p.le + p.l.sum - q - bu) 0 = x.over ∧ p.g = p.g ∧ q = q ∧ bu = bu ∧ p.s = p.s ∧ p.le = x.le ∧ p.sp = p.sp ∧ p.pe = p.pe ∧ p.th = p.th ∧ p.em = p.em ∧ p.l = x.l ∧ (0 : Int) = 0 ∧ (0 : Int) = 0 ∧ (0 : Int) = 0 ∧ (0 : Int) = 0 ∧ (0 : Int) = 0 ∧ (0 : Int) = 0 ∧ (0 : Int) = 0 ∧ (0 : Int) = 0) ∧ ∀ (x : Half), HalfOK p (↑p.l.length : Int) (p.le + p.l.sum - overI p q bu) x ∧ rem1 p.l.length x = (p.le - Min.min (overI p q bu) p.le, drain p.l.length (overI p q bu - Min.min (overI p q bu) p.le) p.l) → (decide (0 ≤ x.i) = true → (decide (x.i < (↑x.l.length : Int)) = true → (0 ≤ x.i ∧ x.i < (↑x.l.length : Int)) ∧ i64R (x.l.getD x.i.toNat 0 - Min.min x.over (x.l.getD x.i.toNat 0)) ∧ i64R (x.over - Min.min x.over (x.l.getD x.i.toNat 0)) ∧ i64R (x.i - 1) ∧ ∃ (x' : Half), (HalfOK p (↑p.l.length : Int) (p.le + p.l.sum - overI p q bu) x' ∧ rem1 p.l.length x' = (p.le - Min.min (overI p q bu) p.le, drain p.l.length (overI p q bu - Min.min (overI p q bu) p.le) p.l)) ∧ (x'.i + 1).toNat < (x.i + 1).toNat ∧ x.i - 1 = x'.i ∧ x.over - Min.min x.over (x.l.getD x.i.toNat 0) = x'.over ∧ p.g = p.g ∧ q = q ∧ bu = bu ∧ p.s = p.s ∧ x.le = x'.le ∧ p.sp = p.sp ∧ p.pe = p.pe ∧ p.th = p.th ∧ p.em = p.em ∧ x.l.set x.i.toNat (x.l.getD x.i.toNat 0 - Min.min x.over (x.l.getD x.i.toNat 0)) = x'.l ∧ (0 : Int) = 0 ∧ (0 : Int) = 0 ∧ (0 : Int) = 0 ∧ (0 : Int) = 0 ∧ (0 : Int) = 0 ∧ (0 : Int) = 0 ∧ (0 : Int) = 0 ∧ (0 : Int) = 0) ∧ (decide (x.i < (↑x.l.length : Int)) = false → i64R (x.le - Min.min x.over x.le) ∧ i64R (x.over - Min.min x.over x.le) ∧ i64R (x.i - 1) ∧ ∃ (x' : Half), (HalfOK p (↑p.l.length : Int) (p.le + p.l.sum - overI p q bu) x' ∧ rem1 p.l.length x' = (p.le - Min.min (overI p q bu) p.le, drain p.l.length (overI p q bu - Min.min (overI p q bu) p.le) p.l)) ∧ (x'.i + 1).toNat < (x.i + 1).toNat ∧ x.i - 1 = x'.i ∧ x.over - Min.min x.over x.le = x'.over ∧ p.g = p.g ∧ q = q ∧ bu = bu ∧ p.s = p.s ∧ x.le - Min.min x.over x.le = x'.le ∧ p.sp = p.sp ∧ p.pe = p.pe ∧ p.th = p.th ∧ p.em = p.em ∧ x.l = x'.l ∧ (0 : Int) = 0 ∧ (0 : Int) = 0 ∧ (0 : Int) = 0 ∧ (0 : Int) = 0 ∧ (0 : Int) = 0 ∧ (0 : Int) = 0 ∧ (0 : Int) = 0 ∧ (0 : Int) = 0)) ∧ (decide (0 ≤ x.i) = false → ∃ (y : Unit), True ∧ p.g = (changeG p q bu).fst.g ∧ q = (changeG p q bu).fst.q ∧ bu = (changeG p q bu).fst.bu ∧ p.s = (changeG p q bu).fst.s ∧ x.le = (changeG p q bu).fst.le ∧ p.sp = (changeG p q bu).fst.sp ∧ p.pe = (changeG p q bu).fst.pe ∧ p.th = (changeG p q bu).fst.th ∧ p.em = (changeG p q bu).fst.em ∧ 0 = (changeG p q bu).snd ∧ x.l = (changeG p q bu).fst.l)) ∧ ((!decide (q = 4611686018427387904)) = false → (∃ (x : Half), (HalfOK p (↑p.l.length : Int) (p.le + p.l.sum - overI p q bu) x ∧ rem1 p.l.length x = (p.le - Min.min (overI p q bu) p.le, drain p.l.length (overI p q bu - Min.min (overI p q bu) p.le) p.l)) ∧ (↑p.l.length : Int) = x.i ∧ p.le + p.l.sum = x.over ∧ p.g = p.g ∧ q = q ∧ bu = bu ∧ p.s = p.s ∧ p.le = x.le ∧ p.sp = p.sp ∧ p.pe = p.pe ∧ p.th = p.th ∧ p.em = p.em ∧ p.l = x.l ∧ (0 : Int) = 0 ∧ (0 : Int) = 0 ∧ (0 : Int) = 0 ∧ (0 : Int) = 0 ∧ (0 : Int) = 0 ∧ (0 : Int) = 0 ∧ (0 : Int) = 0 ∧ (0 : Int) = 0) ∧ ∀ (x : Half), HalfOK p (↑p.l.length : Int) (p.le + p.l.sum - overI p q bu) x ∧ rem1 p.l.length x = (p.le - Min.min (overI p q bu) p.le, drain p.l.length (overI p q bu - Min.min (overI p q bu) p.le) p.l) → (decide (0 ≤ x.i) = true → (decide (x.i < (↑x.l.length : Int)) = true → (0 ≤ x.i ∧ x.i < (↑x.l.length : Int)) ∧ i64R (x.l.getD x.i.toNat 0 - Min.min x.over (x.l.getD x.i.toNat 0)) ∧ i64R (x.over - Min.min x.over (x.l.getD x.i.toNat 0)) ∧ i64R (x.i - 1) ∧ ∃ (x' : Half), (HalfOK p (↑p.l.length : Int) (p.le + p.l.sum - overI p q bu) x' ∧ rem1 p.l.length x' = (p.le - Min.min (overI p q bu) p.le, drain p.l.length (overI p q bu - Min.min (overI p q bu) p.le) p.l)) ∧ (x'.i + 1).toNat < (x.i + 1).toNat ∧ x.i - 1 = x'.i ∧ x.over - Min.min x.over (x.l.getD x.i.toNat 0) = x'.over ∧ p.g = p.g ∧ q = q ∧ bu = bu ∧ p.s = p.s ∧ x.le = x'.le ∧ p.sp = p.sp ∧ p.pe = p.pe ∧ p.th = p.th ∧ p.em = p.em ∧ x.l.set x.i.toNat (x.l.getD x.i.toNat 0 - Min.min x.over (x.l.getD x.i.toNat 0)) = x'.l ∧ (0 : Int) = 0 ∧ (0 : Int) = 0 ∧ (0 : Int) = 0 ∧ (0 : Int) = 0 ∧ (0 : Int) = 0 ∧ (0 : Int) = 0 ∧ (0 : Int) = 0 ∧ (0 : Int) = 0) ∧ (decide (x.i < (↑x.l.length : Int)) = false → i64R (x.le - Min.min x.over x.le) ∧ i64R (x.over - Min.min x.over x.le) ∧ i64R (x.i - 1) ∧ ∃ (x' : Half), (HalfOK p (↑p.l.length : Int) (p.le + p.l.sum - overI p q bu) x' ∧ rem1 p.l.length x' = (p.le - Min.min (overI p q bu) p.le, drain p.l.length (overI p q bu - Min.min (overI p q bu) p.le) p.l)) ∧ (x'.i + 1).toNat < (x.i + 1).toNat ∧ x.i - 1 = x'.i ∧ x.over - Min.min x.over x.le = x'.over ∧ p.g = p.g ∧ q = q ∧ bu = bu ∧ p.s = p.s ∧ x.le - Min.min x.over x.le = x'.le ∧ p.sp = p.sp ∧ p.pe = p.pe ∧ p.th = p.th ∧ p.em = p.em ∧ x.l = x'.l ∧ (0 : Int) = 0 ∧ (0 : Int) = 0 ∧ (0 : Int) = 0 ∧ (0 : Int) = 0 ∧ (0 : Int) = 0 ∧ (0 : Int) = 0 ∧ (0 : Int) = 0 ∧ (0 : Int) = 0)) ∧ (decide (0 ≤ x.i) = false → ∃ (y : Unit), True ∧ p.g = (changeG p q bu).fst.g ∧ q = (changeG p q bu).fst.q ∧ bu = (changeG p q bu).fst.bu ∧ p.s = (changeG p q bu).fst.s ∧ x.le = (changeG p q bu).fst.le ∧ p.sp = (changeG p q bu).fst.sp ∧ p.pe = (changeG p q bu).fst.pe ∧ p.th = (changeG p q bu).fst.th ∧ p.em = (changeG p q bu).fst.em ∧ 0 = (changeG p q bu).snd ∧ x.l = (changeG p q bu).fst.l))))) = sChange.vc (EV Try.prog [(121, sGoodB.spec), (139, sCopied.spec), (148, sRates.spec), (144, sHeld.spec), (140, sLimited.spec)] (invs [(11, inv146 p q bu)]) noInv) Try.f146 (p, q, bu, ()) := by kernel_rfl
  rw [← e]
  clear e
  simp only [true_and, and_true, exists_const, NilL_eq ]
  simp only [i64R, Int.reduceNeg, decide_eq_true_eq, decide_eq_false_iff_not, Bool.not_eq_true', Bool.not_eq_false']
  obtain ⟨hx, hb0, hb1⟩ := hx
  have eD : ((chD p q bu).le, (chD p q bu).l) = (p.le - min (overI p q bu) p.le, drain p.l.length (overI p q bu - min (overI p q bu) p.le) p.l) := rfl
  rw [← eD]
  have fin : ∀ x : Half, -1 ≤ x.i → ¬ 0 ≤ x.i → rem1 p.l.length x = ((chD p q bu).le, (chD p q bu).l) → x.le = (chD p q bu).le ∧ x.l = (chD p q bu).l := fun x h0 h1 h => by
    rw [rem_end h0 h1] at h
    exact Prod.mk.inj h
  refine ⟨hx, fun h => ?_, fun h => ?_⟩
  · have e : changeG p q bu = (zeroP, 1) := by rw [changeG, if_pos h]
    rw [e]; exact ⟨rfl, rfl, rfl, rfl, rfl, rfl, rfl, rfl, rfl, rfl, rfl⟩
  have hg := goodB_iff.1 h
  obtain ⟨m, hm, h0, h1, h2, h3⟩ := hg.most
  have hn := hg.n1
  have hs := sum_nonneg h1
  refine ⟨by omega, fun hr => ?_, fun hr => ⟨hg.small, ?_⟩⟩
  · have e : changeG p q bu = (zeroP, 3) := by rw [changeG, if_neg (by rw [h]; simp), if_pos hr]
    rw [e]; exact ⟨rfl, rfl, rfl, rfl, rfl, rfl, rfl, rfl, rfl, rfl, rfl⟩
  have e : changeG p q bu = (chD p q bu, 0) := by rw [changeG, if_neg (by rw [h]; simp), if_neg (by rw [hr]; simp)]
  rw [e]
  obtain ⟨o0, o1, o2⟩ := over_rng hg hr
  have st := half_start hg o0 o1
  have s0 : rem1 p.l.length ⟨p.l.length, overI p q bu, p.le, p.l⟩ = ((chD p q bu).le, (chD p q bu).l) := by rw [rem1, if_pos rfl]; rfl
  have hr2 := ratesI_iff.1 hr
  refine ⟨fun hq => ⟨by omega, by omega, ⟨_, ⟨st, s0⟩, rfl, by rw [overI, if_neg hq], rfl, rfl⟩, ?_⟩, fun hq => ⟨⟨_, ⟨st, s0⟩, rfl, by rw [overI, if_pos hq], rfl, rfl⟩, ?_⟩⟩
  all_goals
    intro x hxx
    obtain ⟨hh, hrem⟩ := hxx
    have hh2 := hh
    obtain ⟨a1, a2, a3, a4, a5, a6, a7, a8, a9⟩ := hh2
    have b1 := get_nonneg a5 x.i.toNat
    have b2 := get_le_sum a5 x.i.toNat
    have b3 := sum_nonneg a5
    refine ⟨fun hi => ⟨fun hl => ⟨by omega, by omega, by omega, by omega, _, ⟨hh.stepL hi hl, by rw [rem_step a6 hi hl]; exact hrem⟩, by dsimp only; omega, rfl, rfl, rfl, rfl⟩, fun hl => ⟨by omega, by omega, by omega, _, ⟨hh.stepE hi hl, by rw [rem_top (by omega)]; exact hrem⟩, by dsimp only; omega, rfl, rfl, rfl, rfl⟩⟩, fun hi => ?_⟩
    obtain ⟨f1, f2⟩ := fin x a1 hi hrem
    exact ⟨rfl, rfl, rfl, rfl, f1, rfl, rfl, rfl, rfl, rfl, f2⟩
end Go.Proofs.Ytemffnpliflkgaa
namespace Go.Proofs.Ytemffnpliflkgaa
open Go
set_option linter.unusedVariables false

theorem up_len64 {l : List Nod} {n : Int} (hc : ChkP l n) (g : Int) : (upT l g).length ≤ 64 := by
  by_cases c : g ∈ ids l
  · obtain ⟨i, hi, e⟩ := ids_mem.1 c
    have := hc.up_len hi
    rw [e] at this; omega
  · rw [upT_none c]; simp
def pn (l : List Pool) (i : Nat) : Pool := l.getD i zeroP
theorem pn_fold (l : List Pool) (k : Nat) : l.getD k ⟨0, 0, 0, 0, 0, [], 0, 0, 0, false⟩ = pn l k := rfl
theorem pn_get {l : List Pool} {i : Nat} (h : i < l.length) : pn l i = l[i] := by simp [pn, List.getD_eq_getElem?_getD, h]
theorem pn_mem {l : List Pool} {i : Nat} (h : i < l.length) : pn l i ∈ l := by rw [pn_get h]; exact List.getElem_mem h
theorem mem_pn {l : List Pool} {x : Pool} (h : x ∈ l) : ∃ i, i < l.length ∧ pn l i = x := by
  obtain ⟨i, hi, e⟩ := List.getElem_of_mem h
  exact ⟨i, hi, by rw [pn_get hi, e]⟩
def idxQ (l : List Pool) (g : Int) : Int := match l.findIdx? (fun x => decide (x.g = g)) with
  | some i => i
  | none => -1
theorem idxQ_first {l : List Pool} {g : Int} {i : Nat} (h : ∀ j, j < i → ¬ (pn l j).g = g) (hi : i < l.length) (e : (pn l i).g = g) : idxQ l g = i := by
  have : l.findIdx? (fun x => decide (x.g = g)) = some i := by
    rw [List.findIdx?_eq_some_iff_getElem]
    refine ⟨hi, by rw [← pn_get hi]; simpa using e, fun j hj => ?_⟩
    have := h j hj
    rw [pn_get (by omega)] at this
    simpa using this
  rw [idxQ, this]
theorem idxQ_all {l : List Pool} {g : Int} (h : ∀ j, j < l.length → ¬ (pn l j).g = g) : idxQ l g = -1 := by
  have : l.findIdx? (fun x => decide (x.g = g)) = none := by
    rw [List.findIdx?_eq_none_iff]
    intro x hx
    obtain ⟨i, hi, e⟩ := mem_pn hx
    have := h i hi
    rw [e] at this
    simpa using this
  rw [idxQ, this]
def atP (l : List Pool) (g : Int) : Pool := (l.find? fun x => decide (x.g = g)).getD zeroP
def hasP (l : List Pool) (g : Int) : Bool := (l.map (·.g)).contains g
theorem hasP_iff {l : List Pool} {g : Int} : hasP l g = true ↔ ∃ i, i < l.length ∧ (pn l i).g = g := by
  simp only [hasP, List.contains_iff_mem, List.mem_map]
  constructor
  · rintro ⟨x, hx, e⟩
    obtain ⟨i, hi, e2⟩ := mem_pn hx
    exact ⟨i, hi, by rw [e2]; exact e⟩
  · rintro ⟨i, hi, e⟩
    exact ⟨pn l i, pn_mem hi, e⟩
theorem atP_first {l : List Pool} {g : Int} {i : Nat} (h : ∀ j, j < i → ¬ (pn l j).g = g) (hi : i < l.length) (e : (pn l i).g = g) : atP l g = pn l i ∧ hasP l g = true := by
  have : l.find? (fun x => decide (x.g = g)) = some (pn l i) := by
    rw [List.find?_eq_some_iff_getElem]
    refine ⟨by simpa using e, i, hi, by rw [pn_get hi], fun j hj => ?_⟩
    have := h j hj
    rw [pn_get (by omega)] at this
    simpa using this
  exact ⟨by rw [atP, this]; rfl, hasP_iff.2 ⟨i, hi, e⟩⟩
theorem atP_all {l : List Pool} {g : Int} (h : ∀ j, j < l.length → ¬ (pn l j).g = g) : atP l g = zeroP ∧ hasP l g = false := by
  have : l.find? (fun x => decide (x.g = g)) = none := by
    rw [List.find?_eq_none]
    intro x hx
    obtain ⟨i, hi, e⟩ := mem_pn hx
    have := h i hi
    rw [e] at this
    simpa using this
  refine ⟨by rw [atP, this]; rfl, ?_⟩
  cases c : hasP l g
  · rfl
  · obtain ⟨i, hi, e⟩ := hasP_iff.1 c
    exact absurd e (h i hi)
theorem idxQ_cases (l : List Pool) (g : Int) : (∃ i : Nat, i < l.length ∧ (pn l i).g = g ∧ (∀ j, j < i → ¬ (pn l j).g = g) ∧ idxQ l g = i ∧ atP l g = pn l i ∧ hasP l g = true) ∨ ((∀ j, j < l.length → ¬ (pn l j).g = g) ∧ idxQ l g = -1 ∧ atP l g = zeroP ∧ hasP l g = false) := by
  by_cases h : ∃ i, i < l.length ∧ (pn l i).g = g
  · left
    obtain ⟨i, hi, e⟩ := h
    have key : ∀ n, ∀ i, i ≤ n → i < l.length → (pn l i).g = g → ∃ k, k < l.length ∧ (pn l k).g = g ∧ ∀ j, j < k → ¬ (pn l j).g = g := by
      intro n
      induction n with
      | zero => exact fun i hn hi e => ⟨i, hi, e, fun j hj => by omega⟩
      | succ n ih =>
        intro i hn hi e
        by_cases h2 : ∃ j, j < i ∧ (pn l j).g = g
        · obtain ⟨j, hj, ej⟩ := h2
          exact ih j (by omega) (by omega) ej
        · exact ⟨i, hi, e, fun j hj ej => h2 ⟨j, hj, ej⟩⟩
    obtain ⟨k, hk, ek, h2⟩ := key i i (Nat.le_refl _) hi e
    obtain ⟨a1, a2⟩ := atP_first h2 hk ek
    exact ⟨k, hk, ek, h2, idxQ_first h2 hk ek, a1, a2⟩
  · right
    have h2 : ∀ j, j < l.length → ¬ (pn l j).g = g := fun j hj e => h ⟨j, hj, e⟩
    obtain ⟨a1, a2⟩ := atP_all h2
    exact ⟨h2, idxQ_all h2, a1, a2⟩
/-- There is a good pool for each group, with as many cells. -/
structure ThrP (l : List Nod) (n : Int) (ps : List Pool) : Prop where
  chk : ChkP l n
  len : ps.length = l.length
  grp : ∀ i, i < l.length → (pn ps i).g = (nd l i).id
  good : ∀ i, i < l.length → Good (pn ps i)
  loc : ∀ i, i < l.length → (pn ps i).l.length = (pn ps 0).l.length
def tc1 (l : List Nod) (ps : List Pool) (i : Nat) : Bool := decide ((pn ps i).g = (nd l i).id) && goodB (pn ps i) && decide ((pn ps i).l.length = (pn ps 0).l.length)
def thrB (l : List Nod) (n : Int) (ps : List Pool) : Bool := chkB l n && decide (ps.length = l.length) && (List.range l.length).all (tc1 l ps)
theorem thrB_all {l : List Nod} {n : Int} {ps : List Pool} : thrB l n ps = true ↔ (chkB l n = true ∧ ps.length = l.length) ∧ ∀ i, i < l.length → tc1 l ps i = true := by
  simp only [thrB, Bool.and_eq_true, decide_eq_true_eq, List.all_eq_true, List.mem_range]
theorem thrB_iff {l : List Nod} {n : Int} {ps : List Pool} : thrB l n ps = true ↔ ThrP l n ps := by
  rw [thrB_all]
  simp only [tc1, Bool.and_eq_true, decide_eq_true_eq, chkB_iff, goodB_iff]
  exact ⟨fun ⟨⟨h1, h2⟩, h3⟩ => ⟨h1, h2, fun i hi => (h3 i hi).1.1, fun i hi => (h3 i hi).1.2, fun i hi => (h3 i hi).2⟩, fun h => ⟨⟨h.chk, h.len⟩, fun i hi => ⟨⟨h.grp i hi, h.good i hi⟩, h.loc i hi⟩⟩⟩
theorem thrB_no {l : List Nod} {n : Int} {ps : List Pool} (h : ThrP l n ps → False) : false = thrB l n ps := by
  cases e : thrB l n ps
  · rfl
  · exact absurd (thrB_iff.1 e) h
theorem ThrP.at {l : List Nod} {n : Int} {ps : List Pool} (h : ThrP l n ps) {i : Nat} (hi : i < l.length) : idxQ ps (nd l i).id = i ∧ atP ps (nd l i).id = pn ps i ∧ hasP ps (nd l i).id = true := by
  have h2 : ∀ j, j < i → ¬ (pn ps j).g = (nd l i).id := fun j hj e => by
    rw [h.grp j (by omega)] at e
    have := h.chk.asc.lt j i hj hi
    omega
  have h3 := h.len
  exact ⟨idxQ_first h2 (by omega) (h.grp i hi), atP_first h2 (by omega) (h.grp i hi)⟩
theorem ThrP.no {l : List Nod} {n : Int} {ps : List Pool} (h : ThrP l n ps) {g : Int} (hg : g ∉ ids l) : idxQ ps g = -1 ∧ atP ps g = zeroP ∧ hasP ps g = false := by
  have h3 := h.len
  have h2 : ∀ j, j < ps.length → ¬ (pn ps j).g = g := fun j hj e => by
    rw [h.grp j (by omega)] at e
    exact hg (ids_mem.2 ⟨j, by omega, e⟩)
  exact ⟨idxQ_all h2, atP_all h2⟩
theorem ThrP.of_id {l : List Nod} {n : Int} {ps : List Pool} (h : ThrP l n ps) {g : Int} (hg : g ∈ ids l) : ∃ i : Nat, i < l.length ∧ (nd l i).id = g ∧ idxQ ps g = i ∧ atP ps g = pn ps i ∧ (pn ps i).g = g ∧ hasP ps g = true := by
  obtain ⟨i, hi, e⟩ := ids_mem.1 hg
  subst e
  obtain ⟨h1, h2, h3⟩ := h.at hi
  exact ⟨i, hi, rfl, h1, h2, h.grp i hi, h3⟩
theorem ThrP.has {l : List Nod} {n : Int} {ps : List Pool} (h : ThrP l n ps) (g : Int) : hasP ps g = hasB l g := by
  by_cases hg : g ∈ ids l
  · obtain ⟨i, _, _, _, _, _, e⟩ := h.of_id hg
    rw [e, hasB_iff.2 hg]
  · have : hasB l g = false := by
      cases c : hasB l g
      · rfl
      · exact absurd (hasB_iff.1 c) hg
    rw [(h.no hg).2.2, this]
theorem ThrP.tame {l : List Nod} {n : Int} {ps : List Pool} (h : ThrP l n ps) : ∀ x ∈ ps, Tame x := fun x hx => by
  obtain ⟨i, hi, e⟩ := mem_pn hx
  rw [← e]
  exact (h.good i (by rw [← h.len]; exact hi)).tame
theorem ThrP.loc_pos {l : List Nod} {n : Int} {ps : List Pool} (h : ThrP l n ps) : 1 ≤ (pn ps 0).l.length ∧ (pn ps 0).l.length ≤ 16 := by
  have h1 := h.chk.len1
  exact ⟨(h.good 0 (by omega)).n0, (h.good 0 (by omega)).n1⟩
theorem ThrP.inj {l : List Nod} {n : Int} {ps : List Pool} (h : ThrP l n ps) {i j : Nat} (hi : i < ps.length) (hj : j < ps.length) (e : (pn ps i).g = (pn ps j).g) : i = j := by
  have h3 := h.len
  rw [h.grp i (by omega), h.grp j (by omega)] at e
  exact h.chk.asc.inj (by omega) (by omega) e
/-- The first pools are changed by F. -/
def updK (F : Pool → Pool) (ps : List Pool) (i : Nat) : List Pool := (ps.take i).map F ++ ps.drop i
theorem updK_zero (F : Pool → Pool) (ps : List Pool) : updK F ps 0 = ps := by simp [updK]
theorem updK_all (F : Pool → Pool) (ps : List Pool) {i : Nat} (h : ps.length ≤ i) : updK F ps i = ps.map F := by
  rw [updK, List.take_of_length_le h, List.drop_eq_nil_of_le h, List.append_nil]
theorem updK_len (F : Pool → Pool) (ps : List Pool) (i : Nat) : (updK F ps i).length = ps.length := by
  simp only [updK, List.length_append, List.length_map, List.length_take, List.length_drop]; omega
theorem drop_pn {ps : List Pool} {i : Nat} (h : i < ps.length) : ps.drop i = pn ps i :: ps.drop (i + 1) := by
  rw [List.drop_eq_getElem_cons h, pn_get h]
theorem take_pn {ps : List Pool} {i : Nat} (h : i < ps.length) : ps.take (i + 1) = ps.take i ++ [pn ps i] := by
  rw [List.take_add_one, List.getElem?_eq_getElem h, pn_get h]; rfl
theorem updK_get {F : Pool → Pool} {ps : List Pool} {i : Nat} (h : i < ps.length) : pn (updK F ps i) i = pn ps i := by
  have e : ((ps.take i).map F).length = i := by rw [List.length_map, List.length_take]; omega
  rw [pn, updK, drop_pn h, List.getD_eq_getElem?_getD, List.getElem?_append_right (by omega), e, Nat.sub_self]; rfl
theorem updK_step {F : Pool → Pool} {ps : List Pool} {i : Nat} (h : i < ps.length) : (updK F ps i).set i (F (pn ps i)) = updK F ps (i + 1) := by
  have e : ((ps.take i).map F).length = i := by rw [List.length_map, List.length_take]; omega
  rw [updK, drop_pn h, List.set_append_right _ _ (by omega), e, Nat.sub_self, List.set_cons_zero, updK, take_pn h, List.map_append, List.append_assoc]; rfl
theorem updK_same {F : Pool → Pool} {ps : List Pool} {i : Nat} (h : i < ps.length) (e : F (pn ps i) = pn ps i) : updK F ps i = updK F ps (i + 1) := by
  rw [← updK_step h, e]
  apply List.ext_getElem (by rw [List.length_set])
  intro j h1 h2
  rw [List.getElem_set]
  split
  · rename_i c
    subst c
    rw [← pn_get h1, updK_get h]
  · rfl
theorem map_set {ps : List Pool} {F G : Pool → Pool} {i : Nat} (hi : i < ps.length) (h : ∀ j, j < ps.length → j ≠ i → F (pn ps j) = G (pn ps j)) : (ps.map F).set i (G (pn ps i)) = ps.map G := by
  apply List.ext_getElem (by simp)
  intro j h1 h2
  rw [List.getElem_set]
  simp only [List.length_map, List.length_set] at h1 h2
  split
  · rename_i c
    subst c
    rw [List.getElem_map, pn_get hi]
  · rename_i c
    rw [List.getElem_map, List.getElem_map]
    have := h j h2 (fun e => c e.symm)
    rwa [pn_get h2] at this
def roomL (ps : List Pool) (c : Int) (up : List Int) : Int := up.foldl (fun m g => min m (roomI (atP ps g) c)) 1099511627776
theorem roomL_step {ps : List Pool} {c : Int} {up : List Int} {i : Nat} (h : i < up.length) : roomL ps c (up.take (i + 1)) = min (roomL ps c (up.take i)) (roomI (atP ps (up.getD i 0)) c) := by
  unfold roomL
  rw [List.take_add_one, List.foldl_append]
  simp [List.getD_eq_getElem?_getD, h]
def blkL (ps : List Pool) (c : Int) : List Int → Int × Bool
  | [] => (0, false)
  | g :: r => if roomI (atP ps g) c = 0 then (g, true) else blkL ps c r
theorem blkL_at {ps : List Pool} {c : Int} : ∀ {up : List Int} {i : Nat}, (∀ j, j < i → ¬ roomI (atP ps (up.getD j 0)) c = 0) → i < up.length → roomI (atP ps (up.getD i 0)) c = 0 → blkL ps c up = (up.getD i 0, true)
  | g :: r, 0, h, hi, e => by rw [blkL, if_pos (by simpa using e)]; rfl
  | g :: r, i + 1, h, hi, e => by
    have h0 := h 0 (by omega)
    rw [blkL, if_neg (by simpa using h0), blkL_at (i := i) (fun j hj => by simpa using h (j + 1) (by omega)) (by simpa using hi) (by simpa using e)]
    simp
theorem blkL_none {ps : List Pool} {c : Int} : ∀ {up : List Int}, (∀ j, j < up.length → ¬ roomI (atP ps (up.getD j 0)) c = 0) → blkL ps c up = (0, false)
  | [], h => rfl
  | g :: r, h => by
    have h0 := h 0 (by simp)
    rw [blkL, if_neg (by simpa using h0), blkL_none fun j hj => by simpa using h (j + 1) (by simpa using hj)]
theorem blkL_mem {ps : List Pool} {c : Int} : ∀ {up : List Int}, (blkL ps c up).2 = true → (blkL ps c up).1 ∈ up ∧ roomI (atP ps (blkL ps c up).1) c = 0
  | [], h => by cases h
  | g :: r, h => by
    rw [blkL] at h ⊢
    by_cases e : roomI (atP ps g) c = 0
    · rw [if_pos e]; exact ⟨by simp, e⟩
    · rw [if_neg e] at h ⊢
      exact ⟨List.mem_cons_of_mem _ (blkL_mem h).1, (blkL_mem h).2⟩
theorem blkL_no {ps : List Pool} {c : Int} : ∀ {up : List Int}, (blkL ps c up).2 = false → blkL ps c up = (0, false) ∧ ∀ g ∈ up, ¬ roomI (atP ps g) c = 0
  | [], h => ⟨rfl, fun g hg => by cases hg⟩
  | g :: r, h => by
    rw [blkL] at h ⊢
    by_cases e : roomI (atP ps g) c = 0
    · rw [if_pos e] at h; cases h
    · rw [if_neg e] at h ⊢
      obtain ⟨h1, h2⟩ := blkL_no h
      refine ⟨h1, fun x hx => ?_⟩
      rcases List.mem_cons.1 hx with e2 | hx
      · rw [e2]; exact e
      · exact h2 x hx
def roomT (l : List Nod) (n : Int) (ps : List Pool) (g c : Int) : Int := if thrB l n ps = false then 0 else if hasB l g = false then 0 else roomL ps c (upT l g)
def blkT (l : List Nod) (n : Int) (ps : List Pool) (g c : Int) : Int × Bool := if thrB l n ps = false then (0, false) else blkL ps c (upT l g)
def spE (l : List Nod) (n : Int) (ps : List Pool) (g c : Int) : Int := if thrB l n ps = false then 1 else if hasB l g = false then 4 else if c < 0 ∨ ((pn ps 0).l.length : Int) ≤ c then 3 else if (blkL ps c (upT l g)).2 = true then 11 else 0
def sp1 (ps : List Pool) (up : List Int) (c : Int) (p : Pool) : Pool := if ((blkL ps c up).2 = true ∧ p.g = (blkL ps c up).1) ∨ ((blkL ps c up).2 = false ∧ p.g ∈ up) then (spendG p c).1 else p
def spL (l : List Nod) (n : Int) (ps : List Pool) (g c : Int) : List Pool := if spE l n ps g c = 0 ∨ spE l n ps g c = 11 then ps.map (sp1 ps (upT l g) c) else []
def id1 (c : Int) (p : Pool) : Pool := if (returnG p c).2 = 0 then (returnG p c).1 else p
def idL (l : List Nod) (n : Int) (ps : List Pool) (c : Int) : List Pool := if thrB l n ps = false then [] else ps.map (id1 c)
def rf1 (due : List Int) (p : Pool) : Pool := if (refillG p).2 = 0 ∧ p.g ∈ due then (refillG p).1 else p
def rfL (l : List Nod) (n : Int) (ps : List Pool) (due : List Int) : List Pool := if thrB l n ps = false then [] else ps.map (rf1 due)
end Go.Proofs.Ytemffnpliflkgaa
namespace Go.Proofs.Ytemffnpliflkgaa
open Go
set_option linter.unusedVariables false

def TL (ps : List Pool) : Prop := (∀ x ∈ ps, Tame x) ∧ ps.length ≤ 1048576
def getPk : AV → Option Int
  | .fn (.func 135) [] [.ipt false [.int .i64 a] 0] => some a
  | _ => none
def pkFnP : PK Int where
  get := getPk
  put := fun a => .fn (.func 135) [] [.ipt false [.int .i64 a] 0]
  ok := fun v a h w S μ x hS hx => by
    unfold getPk at h
    split at h
    · cases h; exact hx
    · cases h
def retF (p : Pool) : AV := poolAV p (.irec true 0 p.l)
def contP (s : St) (v : AV) : List Pool := match v with
  | .nsl => []
  | v => match contentA s.h v with
    | some ⟨4, l⟩ => l
    | _ => []
def sAt1P : DS := ⟨_, two pkPool pkPeek, fun _ => True, fun x => .bool (decide (x.1.g = x.2.1)), nou⟩
def sIdxF : DS := ⟨_, two pkPools pkFnP, fun x => x.1.length ≤ 9223372036854775807, fun x => .int .i64 (idxQ x.1 x.2.1), nou⟩
def sAtP : DS := ⟨_, two pkPools pkI, fun x => x.1.length ≤ 9223372036854775807, fun x => .int .i64 (idxQ x.1 x.2.1), nou⟩
def sCloneP : DS := ⟨_, one pkPools, fun x => x.1.length ≤ 1048576, fun _ => .own 101 4, fun x => [(101, .rows 80 4 x.1)]⟩
def sCopyP : DS := ⟨_, one pkPools, fun x => TL x.1, fun _ => .own 101 4, fun x => [(101, .rows 80 4 x.1)]⟩
def sThr : DS := ⟨_, two pkTree pkPools, fun x => WfN x.1.1 ∧ TL x.2.1, fun x => .bool (thrB x.1.1 x.1.2 x.2.1), nou⟩
def sGetP : DS := ⟨_, two pkPools pkI, fun x => TL x.1, fun x => .tup [retF (atP x.1 x.2.1), .bool (hasP x.1 x.2.1)], nou⟩
def sRoom0 : DS := ⟨_, four pkTree pkPools pkI pkI, fun x => ThrP x.1.1 x.1.2 x.2.1, fun x => .int .i64 (roomL x.2.1 x.2.2.2.1 (upT x.1.1 x.2.2.1)), nou⟩
def sRoomT : DS := ⟨_, four pkTree pkPools pkI pkI, fun x => WfN x.1.1 ∧ TL x.2.1, fun x => .int .i64 (roomT x.1.1 x.1.2 x.2.1 x.2.2.1 x.2.2.2.1), nou⟩
def sBlk0 : DS := ⟨_, four pkTree pkPools pkI pkI, fun x => ThrP x.1.1 x.1.2 x.2.1, fun x => .tup [.int .i64 (blkL x.2.1 x.2.2.2.1 (upT x.1.1 x.2.2.1)).1, .bool (blkL x.2.1 x.2.2.2.1 (upT x.1.1 x.2.2.1)).2], nou⟩
def sBlkT : DS := ⟨_, four pkTree pkPools pkI pkI, fun x => WfN x.1.1 ∧ TL x.2.1, fun x => .tup [.int .i64 (blkT x.1.1 x.1.2 x.2.1 x.2.2.1 x.2.2.2.1).1, .bool (blkT x.1.1 x.1.2 x.2.1 x.2.2.1 x.2.2.2.1).2], nou⟩
def sSpT : DS := ⟨_, four pkTree pkPools pkI pkI, fun x => WfN x.1.1 ∧ TL x.2.1, fun x => .tup [.own 101 4, .int .i64 (spE x.1.1 x.1.2 x.2.1 x.2.2.1 x.2.2.2.1)], fun x => [(101, .rows 80 4 (spL x.1.1 x.1.2 x.2.1 x.2.2.1 x.2.2.2.1))]⟩
def sIdT : DS := ⟨_, three pkTree pkPools pkI, fun x => WfN x.1.1 ∧ TL x.2.1, fun _ => .own 101 4, fun x => [(101, .rows 80 4 (idL x.1.1 x.1.2 x.2.1 x.2.2.1))]⟩
def sRfT : DS := ⟨_, three pkTree pkPools pkInts, fun x => (WfN x.1.1 ∧ TL x.2.1) ∧ x.2.2.1.length ≤ 9223372036854775807, fun _ => .own 101 4, fun x => [(101, .rows 80 4 (rfL x.1.1 x.1.2 x.2.1 x.2.2.1))]⟩


set_option maxRecDepth 100000 in
theorem vc135 (p : Pool) (g : Int) (hx : True) : sAt1P.vc (EV Try.prog [] noInv noInv) Try.f135 (p, g, ()) := by
  have e : (∃ (y : Unit), True ∧ decide (p.g = g) = decide (p.g = g)) = sAt1P.vc (EV Try.prog [] noInv noInv) Try.f135 (p, g, ()) := by kernel_rfl
  rw [← e]
  clear e
  simp only [and_true, exists_const]

def inv134 (l : List Pool) (g : Int) : Inv where
  X := Int
  ok := fun i => 0 ≤ i ∧ i ≤ l.length ∧ ∀ j : Nat, (j : Int) < i → ¬ (pn l j).g = g
  sl := fun i => [(8, .int .i64 i)]
  hp := fun _ => []
  keep := []
  me := fun i => (l.length - i).toNat
set_option maxRecDepth 100000 in
theorem vc134 (l : List Pool) (g : Int) (hx : l.length ≤ 9223372036854775807) : sIdxF.vc (EV Try.prog [(135, sAt1P.spec)] (invs [(2, inv134 l g)]) noInv) Try.f134 (l, g, ()) := by
  have e : ((∃ (x : Int), (0 ≤ x ∧ x ≤ (↑l.length : Int) ∧ ∀ (j : Nat), (↑j : Int) < x → ¬(pn l j).g = g) ∧ 0 = x) ∧ ∀ (x : Int), (0 ≤ x ∧ x ≤ (↑l.length : Int) ∧ ∀ (j : Nat), (↑j : Int) < x → ¬(pn l j).g = g) → (decide (x < (↑l.length : Int)) = true → (0 ≤ x ∧ x < (↑l.length : Int)) ∧ True ∧ (decide ((l.getD x.toNat pl0).g = g) = true → ∃ (y : Unit), True ∧ x = idxQ l g) ∧ (decide ((l.getD x.toNat pl0).g = g) = false → i64R (x + 1) ∧ ∃ (x' : Int), (0 ≤ x' ∧ x' ≤ (↑l.length : Int) ∧ ∀ (j : Nat), (↑j : Int) < x' → ¬(pn l j).g = g) ∧ ((↑l.length : Int) - x').toNat < ((↑l.length : Int) - x).toNat ∧ x + 1 = x')) ∧ (decide (x < (↑l.length : Int)) = false → ∃ (y : Unit), True ∧ (-1) = idxQ l g)) = sIdxF.vc (EV Try.prog [(135, sAt1P.spec)] (invs [(2, inv134 l g)]) noInv) Try.f134 (l, g, ()) := by kernel_rfl
  rw [← e]
  clear e
  delta pl0
  simp only [true_and, exists_const]
  simp only [i64R, Int.reduceNeg, decide_eq_true_eq, decide_eq_false_iff_not]
  simp only [NilL_eq, pn_fold]
  refine ⟨⟨0, ⟨by omega, by omega, fun j hj => by omega⟩, rfl⟩, fun x hx1 => ⟨fun hlt => ⟨by omega, fun he => ?_, fun hne => ⟨by omega, x + 1, ⟨by omega, by omega, fun j hj => ?_⟩, by omega, rfl⟩⟩, fun hge => ?_⟩⟩
  · rw [idxQ_first (fun j hj => hx1.2.2 j (by omega)) (by omega) he]; omega
  · by_cases e : (j : Int) < x
    · exact hx1.2.2 j e
    · have : j = x.toNat := by omega
      rw [this]; exact hne
  · rw [idxQ_all fun j hj => hx1.2.2 j (by omega)]


set_option maxRecDepth 100000 in
theorem vc104 (l : List Pool) (g : Int) (hx : l.length ≤ 9223372036854775807) : sAtP.vc (EV Try.prog [(134, sIdxF.spec)] noInv noInv) Try.f104 (l, g, ()) := by
  have e : (l.length ≤ (9223372036854775807 : Nat) ∧ ∃ (y : Unit), True ∧ idxQ l g = idxQ l g) = sAtP.vc (EV Try.prog [(134, sIdxF.spec)] noInv noInv) Try.f104 (l, g, ()) := by kernel_rfl
  rw [← e]
  clear e
  simp only [and_true, exists_const]
  exact hx


set_option maxRecDepth 100000 in
theorem vc136 (l : List Pool) (hx : l.length ≤ 1048576) : sCloneP.vc (EV Try.prog [] noInv noInv) Try.f136 (l, ()) := by
  have e : (∀ (y : Bool), (y = true → l = NilL Pool) → (y = true → ∃ (y : Unit), True ∧ NilL Pool = l) ∧ (y = false → (NilL Pool).length + l.length ≤ (68719476736 : Nat) ∧ ∃ (y : Unit), True ∧ NilL Pool ++ l = l)) = sCloneP.vc (EV Try.prog [] noInv noInv) Try.f136 (l, ()) := by kernel_rfl
  rw [← e]
  clear e
  simp only [NilL_eq]
  intro y hy
  refine ⟨fun h => ⟨(), trivial, (hy h).symm⟩, fun _ => ⟨by simp; omega, (), trivial, rfl⟩⟩

def inv105 (l : List Pool) : Inv where
  X := Int
  ok := fun i => 0 ≤ i ∧ i ≤ l.length
  sl := fun i => [(10, .int .i64 i), (3, .own 101 4), (8, .own 101 4)]
  hp := fun _ => [(101, .rows 80 4 l)]
  keep := []
  me := fun i => (l.length - i).toNat
set_option maxRecDepth 100000 in
theorem vc105 (l : List Pool) (hx : TL l) : sCopyP.vc (EV Try.prog [(136, sCloneP.spec), (125, sClone.spec)] (invs [(3, inv105 l)]) noInv) Try.f105 (l, ()) := by
  have e : (l.length ≤ (1048576 : Nat) ∧ (∃ (x : Int), (0 ≤ x ∧ x ≤ (↑l.length : Int)) ∧ 0 = x ∧ l = l) ∧ ∀ (x : Int), 0 ≤ x ∧ x ≤ (↑l.length : Int) → (decide (x < (↑l.length : Int)) = true → (0 ≤ x ∧ x < (↑l.length : Int)) ∧ (l.getD x.toNat pl0).l.length ≤ (1048576 : Nat) ∧ (0 ≤ x ∧ x < (↑l.length : Int)) ∧ i64R (x + 1) ∧ ∃ (x' : Int), (0 ≤ x' ∧ x' ≤ (↑l.length : Int)) ∧ ((↑l.length : Int) - x').toNat < ((↑l.length : Int) - x).toNat ∧ x + 1 = x' ∧ l.set x.toNat (l.getD x.toNat pl0) = l) ∧ (decide (x < (↑l.length : Int)) = false → ∃ (y : Unit), True ∧ l = l)) = sCopyP.vc (EV Try.prog [(136, sCloneP.spec), (125, sClone.spec)] (invs [(3, inv105 l)]) noInv) Try.f105 (l, ()) := by kernel_rfl
  rw [← e]
  clear e
  delta pl0
  simp only [and_true, exists_const, implies_true]
  simp only [i64R, Int.reduceNeg, decide_eq_true_eq]
  simp only [NilL_eq, pn_fold]
  obtain ⟨ht, hl⟩ := hx
  refine ⟨hl, ⟨0, by omega, rfl⟩, fun x hx2 hlt => ⟨by omega, (ht _ (pn_mem (by omega))).len, by omega, by omega, x + 1, by omega, by omega, rfl, ?_⟩⟩
  apply List.ext_getElem (by rw [List.length_set])
  intro j h1 h2
  rw [List.getElem_set]
  split
  · rename_i c
    rw [← pn_get h2, c]
  · rfl

def inv103 (l : List Pool) : Inv where
  X := Int
  ok := fun i => 0 ≤ i ∧ i ≤ l.length
  sl := fun i => [(4, .int .i64 i), (3, .own 101 4)]
  hp := fun i => [(101, .rows 80 4 (l.take i.toNat))]
  keep := []
  me := fun i => (l.length - i).toNat
set_option maxRecDepth 100000 in
theorem vc103 (l : List Pool) (hx : TL l) : sCopyP.vc (EV Try.prog [(118, sCopied.spec)] (invs [(3, inv103 l)]) noInv) Try.f103 (l, ()) := by
  have e : ((∃ (x : Int), (0 ≤ x ∧ x ≤ (↑l.length : Int)) ∧ 0 = x ∧ NilL Pool = List.take x.toNat l) ∧ ∀ (x : Int), 0 ≤ x ∧ x ≤ (↑l.length : Int) → (decide (x < (↑l.length : Int)) = true → (0 ≤ x ∧ x < (↑l.length : Int)) ∧ (l.getD x.toNat pl0).l.length ≤ (1048576 : Nat) ∧ (List.take x.toNat l).length + (l.getD x.toNat pl0 :: NilL Pool).length ≤ (68719476736 : Nat) ∧ i64R (x + 1) ∧ ∃ (x' : Int), (0 ≤ x' ∧ x' ≤ (↑l.length : Int)) ∧ ((↑l.length : Int) - x').toNat < ((↑l.length : Int) - x).toNat ∧ x + 1 = x' ∧ List.take x.toNat l ++ l.getD x.toNat pl0 :: NilL Pool = List.take x'.toNat l) ∧ (decide (x < (↑l.length : Int)) = false → ∃ (y : Unit), True ∧ List.take x.toNat l = l)) = sCopyP.vc (EV Try.prog [(118, sCopied.spec)] (invs [(3, inv103 l)]) noInv) Try.f103 (l, ()) := by kernel_rfl
  rw [← e]
  clear e
  delta pl0
  simp only [true_and, exists_const]
  simp only [i64R, Int.reduceNeg, decide_eq_true_eq, decide_eq_false_iff_not]
  simp only [NilL_eq, pn_fold]
  obtain ⟨ht, hl⟩ := hx
  refine ⟨⟨0, by omega, rfl, rfl⟩, fun x hx2 => ⟨fun hlt => ?_, fun hge => by rw [List.take_of_length_le (by omega)]⟩⟩
  have e : (x + 1).toNat = x.toNat + 1 := by omega
  refine ⟨by omega, (ht _ (pn_mem (by omega))).len, by rw [List.length_take]; simp; omega, by omega, x + 1, by omega, by omega, rfl, ?_⟩
  rw [e, take_pn (by omega)]

def inv66 (l : List Nod) (ps : List Pool) : Inv where
  X := Int
  ok := fun i => 0 ≤ i ∧ i ≤ l.length ∧ ∀ j : Nat, (j : Int) < i → tc1 l ps j = true
  sl := fun i => [(21, .int .i64 i)]
  hp := fun _ => []
  keep := [10000]
  me := fun i => (l.length - i).toNat
set_option maxRecDepth 100000 in
theorem vc66 (l : List Nod) (n : Int) (ps : List Pool) (hx : WfN l ∧ TL ps) : sThr.vc (EV Try.prog [(83, sChkP.spec), (121, sGoodB.spec)] (invs [(4, inv66 l ps)]) noInv) Try.f66 ((l, n), ps, ()) := by
  have e : (WfN l ∧ ((!chkB l n) = false → (!chkB l n) = false) ∧ ((!chkB l n) = false → (!chkB l n) = false) ∧ ((!chkB l n) = false → (!chkB l n) = false) ∧ ((!chkB l n) = false → (!chkB l n) = false) ∧ ((!chkB l n) = false → (!chkB l n) = false) ∧ ((!chkB l n) = false → (!chkB l n) = false) ∧ ((!chkB l n || !decide ((↑ps.length : Int) = (↑l.length : Int))) = true → ∃ (y : Unit), True ∧ false = thrB l n ps) ∧ ((!chkB l n || !decide ((↑ps.length : Int) = (↑l.length : Int))) = false → (∃ (x : Int), (0 ≤ x ∧ x ≤ (↑l.length : Int) ∧ ∀ (j : Nat), (↑j : Int) < x → tc1 l ps j = true) ∧ 0 = x ∧ l = l ∧ n = n) ∧ ∀ (x : Int), (0 ≤ x ∧ x ≤ (↑l.length : Int) ∧ ∀ (j : Nat), (↑j : Int) < x → tc1 l ps j = true) → (decide (x < (↑l.length : Int)) = true → (0 ≤ x ∧ x < (↑l.length : Int)) ∧ (0 ≤ x ∧ x < (↑ps.length : Int)) ∧ ((!decide ((ps.getD x.toNat pl0).g = (l.getD x.toNat nd0).id)) = false → (!decide ((ps.getD x.toNat pl0).g = (l.getD x.toNat nd0).id)) = false) ∧ ((!decide ((ps.getD x.toNat pl0).g = (l.getD x.toNat nd0).id)) = false → (!decide ((ps.getD x.toNat pl0).g = (l.getD x.toNat nd0).id)) = false) ∧ ((!decide ((ps.getD x.toNat pl0).g = (l.getD x.toNat nd0).id)) = false → 0 ≤ x ∧ x < (↑ps.length : Int)) ∧ ((!decide ((ps.getD x.toNat pl0).g = (l.getD x.toNat nd0).id)) = false → (!decide ((ps.getD x.toNat pl0).g = (l.getD x.toNat nd0).id)) = false) ∧ ((!decide ((ps.getD x.toNat pl0).g = (l.getD x.toNat nd0).id)) = false → (!decide ((ps.getD x.toNat pl0).g = (l.getD x.toNat nd0).id)) = false) ∧ ((!decide ((ps.getD x.toNat pl0).g = (l.getD x.toNat nd0).id)) = false → Tame (ps.getD x.toNat pl0)) ∧ ((!decide ((ps.getD x.toNat pl0).g = (l.getD x.toNat nd0).id)) = false → (!decide ((ps.getD x.toNat pl0).g = (l.getD x.toNat nd0).id)) = false) ∧ ((!decide ((ps.getD x.toNat pl0).g = (l.getD x.toNat nd0).id)) = false → (!decide ((ps.getD x.toNat pl0).g = (l.getD x.toNat nd0).id)) = false) ∧ ((!decide ((ps.getD x.toNat pl0).g = (l.getD x.toNat nd0).id) || !goodB (ps.getD x.toNat pl0)) = false → (!decide ((ps.getD x.toNat pl0).g = (l.getD x.toNat nd0).id) || !goodB (ps.getD x.toNat pl0)) = false) ∧ ((!decide ((ps.getD x.toNat pl0).g = (l.getD x.toNat nd0).id) || !goodB (ps.getD x.toNat pl0)) = false → (!decide ((ps.getD x.toNat pl0).g = (l.getD x.toNat nd0).id) || !goodB (ps.getD x.toNat pl0)) = false) ∧ ((!decide ((ps.getD x.toNat pl0).g = (l.getD x.toNat nd0).id) || !goodB (ps.getD x.toNat pl0)) = false → 0 ≤ x ∧ x < (↑ps.length : Int)) ∧ ((!decide ((ps.getD x.toNat pl0).g = (l.getD x.toNat nd0).id) || !goodB (ps.getD x.toNat pl0)) = false → (!decide ((ps.getD x.toNat pl0).g = (l.getD x.toNat nd0).id) || !goodB (ps.getD x.toNat pl0)) = false) ∧ ((!decide ((ps.getD x.toNat pl0).g = (l.getD x.toNat nd0).id) || !goodB (ps.getD x.toNat pl0)) = false → (!decide ((ps.getD x.toNat pl0).g = (l.getD x.toNat nd0).id) || !goodB (ps.getD x.toNat pl0)) = false) ∧ ((!decide ((ps.getD x.toNat pl0).g = (l.getD x.toNat nd0).id) || !goodB (ps.getD x.toNat pl0)) = false → (!decide ((ps.getD x.toNat pl0).g = (l.getD x.toNat nd0).id) || !goodB (ps.getD x.toNat pl0)) = false) ∧ ((!decide ((ps.getD x.toNat pl0).g = (l.getD x.toNat nd0).id) || !goodB (ps.getD x.toNat pl0)) = false → (!decide ((ps.getD x.toNat pl0).g = (l.getD x.toNat nd0).id) || !goodB (ps.getD x.toNat pl0)) = false) ∧ ((!decide ((ps.getD x.toNat pl0).g = (l.getD x.toNat nd0).id) || !goodB (ps.getD x.toNat pl0)) = false → (0 : Int) ≤ 0 ∧ 0 < (↑ps.length : Int)) ∧ ((!decide ((ps.getD x.toNat pl0).g = (l.getD x.toNat nd0).id) || !goodB (ps.getD x.toNat pl0)) = false → (!decide ((ps.getD x.toNat pl0).g = (l.getD x.toNat nd0).id) || !goodB (ps.getD x.toNat pl0)) = false) ∧ ((!decide ((ps.getD x.toNat pl0).g = (l.getD x.toNat nd0).id) || !goodB (ps.getD x.toNat pl0)) = false → (!decide ((ps.getD x.toNat pl0).g = (l.getD x.toNat nd0).id) || !goodB (ps.getD x.toNat pl0)) = false) ∧ ((!decide ((ps.getD x.toNat pl0).g = (l.getD x.toNat nd0).id) || !goodB (ps.getD x.toNat pl0)) = false → (!decide ((ps.getD x.toNat pl0).g = (l.getD x.toNat nd0).id) || !goodB (ps.getD x.toNat pl0)) = false) ∧ ((!decide ((ps.getD x.toNat pl0).g = (l.getD x.toNat nd0).id) || !goodB (ps.getD x.toNat pl0)) = false → (!decide ((ps.getD x.toNat pl0).g = (l.getD x.toNat nd0).id) || !goodB (ps.getD x.toNat pl0)) = false) ∧ ((!decide ((ps.getD x.toNat pl0).g = (l.getD x.toNat nd0).id) || !goodB (ps.getD x.toNat pl0)) = false → (!decide ((ps.getD x.toNat pl0).g = (l.getD x.toNat nd0).id) || !goodB (ps.getD x.toNat pl0)) = false) ∧ ((!decide ((ps.getD x.toNat pl0).g = (l.getD x.toNat nd0).id) || !goodB (ps.getD x.toNat pl0)) = false → (!decide ((ps.getD x.toNat pl0).g = (l.getD x.toNat nd0).id) || !goodB (ps.getD x.toNat pl0)) = false) ∧ ((!decide ((ps.getD x.toNat pl0).g = (l.getD x.toNat nd0).id) || !goodB (ps.getD x.toNat pl0) || !decide ((↑(ps.getD x.toNat pl0).l.length : Int) = (↑(ps.getD (Int.toNat 0) pl0).l.length : Int))) = true → ∃ (y : Unit), True ∧ false = thrB l n ps) ∧ ((!decide ((ps.getD x.toNat pl0).g = (l.getD x.toNat nd0).id) || !goodB (ps.getD x.toNat pl0) || !decide ((↑(ps.getD x.toNat pl0).l.length : Int) = (↑(ps.getD (Int.toNat 0) pl0).l.length : Int))) = false → i64R (x + 1) ∧ ∃ (x' : Int), (0 ≤ x' ∧ x' ≤ (↑l.length : Int) ∧ ∀ (j : Nat), (↑j : Int) < x' → tc1 l ps j = true) ∧ ((↑l.length : Int) - x').toNat < ((↑l.length : Int) - x).toNat ∧ x + 1 = x' ∧ l = l ∧ n = n)) ∧ (decide (x < (↑l.length : Int)) = false → ∃ (y : Unit), True ∧ true = thrB l n ps))) = sThr.vc (EV Try.prog [(83, sChkP.spec), (121, sGoodB.spec)] (invs [(4, inv66 l ps)]) noInv) Try.f66 ((l, n), ps, ()) := by kernel_rfl
  rw [← e]
  clear e
  delta nd0 pl0
  simp only [imp_self, true_and, and_true, exists_const]
  simp only [true_and, i64R, Int.reduceLE, Int.reduceNeg, decide_eq_true_eq, decide_eq_false_iff_not, Bool.not_eq_true', Bool.not_eq_false', Bool.or_eq_true, Bool.or_eq_false_iff ]
  simp only [NilL_eq, pn_fold, nd_fold]
  obtain ⟨hw, ht, hl⟩ := hx
  have no : ∀ x : Int, 0 ≤ x → x < l.length → ¬ tc1 l ps x.toNat = true → false = thrB l n ps := fun x h0 h1 hb => by
    cases e : thrB l n ps
    · rfl
    · exact absurd ((thrB_all.1 e).2 x.toNat (by omega)) hb
  refine ⟨hw, fun h => ?_, fun h => ⟨⟨0, ⟨by omega, by omega, fun j hj => by omega⟩, rfl⟩, fun x hi => ⟨fun hlt => ?_, fun hge => ?_⟩⟩⟩
  · cases e : thrB l n ps
    · rfl
    · obtain ⟨⟨a, b⟩, c⟩ := thrB_all.1 e
      rcases h with h | h
      · rw [a] at h; cases h
      · exact absurd (by omega) h
  · have hc : tc1 l ps x.toNat = (decide ((pn ps x.toNat).g = (nd l x.toNat).id) && goodB (pn ps x.toNat) && decide ((pn ps x.toNat).l.length = (pn ps 0).l.length)) := rfl
    refine ⟨by omega, by omega, fun _ => by omega, fun _ => ht _ (pn_mem (by omega)), fun _ => by omega, fun _ => by omega, fun hb => no x (by omega) (by omega) ?_, fun hb => ⟨by omega, x + 1, ⟨by omega, by omega, fun j hj => ?_⟩, by omega, rfl⟩⟩
    · rw [hc]
      simp only [Bool.and_eq_true, decide_eq_true_eq]
      rintro ⟨⟨a, b⟩, c⟩
      rcases hb with (hb | hb) | hb
      · exact hb a
      · rw [b] at hb; cases hb
      · exact hb (by have : (Int.toNat 0) = 0 := rfl; rw [this]; omega)
    · by_cases e : (j : Int) < x
      · exact hi.2.2 j e
      · have : j = x.toNat := by omega
        rw [this, hc]
        simp only [Bool.and_eq_true, decide_eq_true_eq]
        have e0 : (Int.toNat 0) = 0 := rfl
        rw [e0] at hb
        exact ⟨⟨hb.1.1, hb.1.2⟩, by omega⟩
  · symm
    exact thrB_all.2 ⟨⟨h.1, by omega⟩, fun i hi2 => hi.2.2 i (by omega)⟩

def inv54 (l : List Nod) (ps : List Pool) : Inv where
  X := Int
  ok := fun i => 0 ≤ i ∧ i ≤ l.length ∧ ∀ j : Nat, (j : Int) < i → tc1 l ps j = true
  sl := fun i => [(5, .int .i64 i)]
  hp := fun _ => []
  keep := [10000]
  me := fun i => (l.length - i).toNat
set_option maxRecDepth 100000 in
theorem vc54 (l : List Nod) (n : Int) (ps : List Pool) (hx : WfN l ∧ TL ps) : sThr.vc (EV Try.prog [(78, sChk.spec), (116, sGoodB.spec)] (invs [(4, inv54 l ps)]) noInv) Try.f54 ((l, n), ps, ()) := by
  have e : (True ∧ ((!chkB l n) = false → (!chkB l n) = false) ∧ ((!chkB l n) = false → (!chkB l n) = false) ∧ ((!chkB l n) = false → (!chkB l n) = false) ∧ ((!chkB l n) = false → (!chkB l n) = false) ∧ ((!chkB l n) = false → (!chkB l n) = false) ∧ ((!chkB l n) = false → (!chkB l n) = false) ∧ ((!chkB l n || !decide ((↑ps.length : Int) = (↑l.length : Int))) = true → ∃ (y : Unit), True ∧ false = thrB l n ps) ∧ ((!chkB l n || !decide ((↑ps.length : Int) = (↑l.length : Int))) = false → (∃ (x : Int), (0 ≤ x ∧ x ≤ (↑l.length : Int) ∧ ∀ (j : Nat), (↑j : Int) < x → tc1 l ps j = true) ∧ 0 = x ∧ l = l ∧ n = n) ∧ ∀ (x : Int), (0 ≤ x ∧ x ≤ (↑l.length : Int) ∧ ∀ (j : Nat), (↑j : Int) < x → tc1 l ps j = true) → (decide (x < (↑ps.length : Int)) = true → (0 ≤ x ∧ x < (↑ps.length : Int)) ∧ (0 ≤ x ∧ x < (↑l.length : Int)) ∧ ((!decide ((ps.getD x.toNat pl0).g = (l.getD x.toNat nd0).id)) = false → (!decide ((ps.getD x.toNat pl0).g = (l.getD x.toNat nd0).id)) = false) ∧ ((!decide ((ps.getD x.toNat pl0).g = (l.getD x.toNat nd0).id)) = false → (!decide ((ps.getD x.toNat pl0).g = (l.getD x.toNat nd0).id)) = false) ∧ ((!decide ((ps.getD x.toNat pl0).g = (l.getD x.toNat nd0).id)) = false → 0 ≤ x ∧ x < (↑ps.length : Int)) ∧ ((!decide ((ps.getD x.toNat pl0).g = (l.getD x.toNat nd0).id)) = false → (!decide ((ps.getD x.toNat pl0).g = (l.getD x.toNat nd0).id)) = false) ∧ ((!decide ((ps.getD x.toNat pl0).g = (l.getD x.toNat nd0).id)) = false → (!decide ((ps.getD x.toNat pl0).g = (l.getD x.toNat nd0).id)) = false) ∧ ((!decide ((ps.getD x.toNat pl0).g = (l.getD x.toNat nd0).id)) = false → Tame (ps.getD x.toNat pl0)) ∧ ((!decide ((ps.getD x.toNat pl0).g = (l.getD x.toNat nd0).id)) = false → (!decide ((ps.getD x.toNat pl0).g = (l.getD x.toNat nd0).id)) = false) ∧ ((!decide ((ps.getD x.toNat pl0).g = (l.getD x.toNat nd0).id)) = false → (!decide ((ps.getD x.toNat pl0).g = (l.getD x.toNat nd0).id)) = false) ∧ ((!decide ((ps.getD x.toNat pl0).g = (l.getD x.toNat nd0).id) || !goodB (ps.getD x.toNat pl0)) = false → (!decide ((ps.getD x.toNat pl0).g = (l.getD x.toNat nd0).id) || !goodB (ps.getD x.toNat pl0)) = false) ∧ ((!decide ((ps.getD x.toNat pl0).g = (l.getD x.toNat nd0).id) || !goodB (ps.getD x.toNat pl0)) = false → (!decide ((ps.getD x.toNat pl0).g = (l.getD x.toNat nd0).id) || !goodB (ps.getD x.toNat pl0)) = false) ∧ ((!decide ((ps.getD x.toNat pl0).g = (l.getD x.toNat nd0).id) || !goodB (ps.getD x.toNat pl0)) = false → 0 ≤ x ∧ x < (↑ps.length : Int)) ∧ ((!decide ((ps.getD x.toNat pl0).g = (l.getD x.toNat nd0).id) || !goodB (ps.getD x.toNat pl0)) = false → (!decide ((ps.getD x.toNat pl0).g = (l.getD x.toNat nd0).id) || !goodB (ps.getD x.toNat pl0)) = false) ∧ ((!decide ((ps.getD x.toNat pl0).g = (l.getD x.toNat nd0).id) || !goodB (ps.getD x.toNat pl0)) = false → (!decide ((ps.getD x.toNat pl0).g = (l.getD x.toNat nd0).id) || !goodB (ps.getD x.toNat pl0)) = false) ∧ ((!decide ((ps.getD x.toNat pl0).g = (l.getD x.toNat nd0).id) || !goodB (ps.getD x.toNat pl0)) = false → (!decide ((ps.getD x.toNat pl0).g = (l.getD x.toNat nd0).id) || !goodB (ps.getD x.toNat pl0)) = false) ∧ ((!decide ((ps.getD x.toNat pl0).g = (l.getD x.toNat nd0).id) || !goodB (ps.getD x.toNat pl0)) = false → (!decide ((ps.getD x.toNat pl0).g = (l.getD x.toNat nd0).id) || !goodB (ps.getD x.toNat pl0)) = false) ∧ ((!decide ((ps.getD x.toNat pl0).g = (l.getD x.toNat nd0).id) || !goodB (ps.getD x.toNat pl0)) = false → (0 : Int) ≤ 0 ∧ 0 < (↑ps.length : Int)) ∧ ((!decide ((ps.getD x.toNat pl0).g = (l.getD x.toNat nd0).id) || !goodB (ps.getD x.toNat pl0)) = false → (!decide ((ps.getD x.toNat pl0).g = (l.getD x.toNat nd0).id) || !goodB (ps.getD x.toNat pl0)) = false) ∧ ((!decide ((ps.getD x.toNat pl0).g = (l.getD x.toNat nd0).id) || !goodB (ps.getD x.toNat pl0)) = false → (!decide ((ps.getD x.toNat pl0).g = (l.getD x.toNat nd0).id) || !goodB (ps.getD x.toNat pl0)) = false) ∧ ((!decide ((ps.getD x.toNat pl0).g = (l.getD x.toNat nd0).id) || !goodB (ps.getD x.toNat pl0)) = false → (!decide ((ps.getD x.toNat pl0).g = (l.getD x.toNat nd0).id) || !goodB (ps.getD x.toNat pl0)) = false) ∧ ((!decide ((ps.getD x.toNat pl0).g = (l.getD x.toNat nd0).id) || !goodB (ps.getD x.toNat pl0)) = false → (!decide ((ps.getD x.toNat pl0).g = (l.getD x.toNat nd0).id) || !goodB (ps.getD x.toNat pl0)) = false) ∧ ((!decide ((ps.getD x.toNat pl0).g = (l.getD x.toNat nd0).id) || !goodB (ps.getD x.toNat pl0)) = false → (!decide ((ps.getD x.toNat pl0).g = (l.getD x.toNat nd0).id) || !goodB (ps.getD x.toNat pl0)) = false) ∧ ((!decide ((ps.getD x.toNat pl0).g = (l.getD x.toNat nd0).id) || !goodB (ps.getD x.toNat pl0)) = false → (!decide ((ps.getD x.toNat pl0).g = (l.getD x.toNat nd0).id) || !goodB (ps.getD x.toNat pl0)) = false) ∧ ((!decide ((ps.getD x.toNat pl0).g = (l.getD x.toNat nd0).id) || !goodB (ps.getD x.toNat pl0) || !decide ((↑(ps.getD x.toNat pl0).l.length : Int) = (↑(ps.getD (Int.toNat 0) pl0).l.length : Int))) = true → ∃ (y : Unit), True ∧ false = thrB l n ps) ∧ ((!decide ((ps.getD x.toNat pl0).g = (l.getD x.toNat nd0).id) || !goodB (ps.getD x.toNat pl0) || !decide ((↑(ps.getD x.toNat pl0).l.length : Int) = (↑(ps.getD (Int.toNat 0) pl0).l.length : Int))) = false → i64R (x + 1) ∧ ∃ (x' : Int), (0 ≤ x' ∧ x' ≤ (↑l.length : Int) ∧ ∀ (j : Nat), (↑j : Int) < x' → tc1 l ps j = true) ∧ ((↑l.length : Int) - x').toNat < ((↑l.length : Int) - x).toNat ∧ x + 1 = x' ∧ l = l ∧ n = n)) ∧ (decide (x < (↑ps.length : Int)) = false → ∃ (y : Unit), True ∧ true = thrB l n ps))) = sThr.vc (EV Try.prog [(78, sChk.spec), (116, sGoodB.spec)] (invs [(4, inv54 l ps)]) noInv) Try.f54 ((l, n), ps, ()) := by kernel_rfl
  rw [← e]
  clear e
  delta nd0 pl0
  simp only [imp_self, true_and, and_true, exists_const]
  simp only [true_and, i64R, Int.reduceLE, Int.reduceNeg, decide_eq_true_eq, decide_eq_false_iff_not, Bool.not_eq_true', Bool.not_eq_false', Bool.or_eq_true, Bool.or_eq_false_iff ]
  simp only [NilL_eq, pn_fold, nd_fold]
  obtain ⟨hw, ht, hl⟩ := hx
  have no : ∀ x : Int, 0 ≤ x → x < l.length → ¬ tc1 l ps x.toNat = true → false = thrB l n ps := fun x h0 h1 hb => by
    cases e : thrB l n ps
    · rfl
    · exact absurd ((thrB_all.1 e).2 x.toNat (by omega)) hb
  refine ⟨fun h => ?_, fun h => ⟨⟨0, ⟨by omega, by omega, fun j hj => by omega⟩, rfl⟩, fun x hi => ⟨fun hlt => ?_, fun hge => ?_⟩⟩⟩
  · cases e : thrB l n ps
    · rfl
    · obtain ⟨⟨a, b⟩, c⟩ := thrB_all.1 e
      rcases h with h | h
      · rw [a] at h; cases h
      · exact absurd (by omega) h
  · have hc : tc1 l ps x.toNat = (decide ((pn ps x.toNat).g = (nd l x.toNat).id) && goodB (pn ps x.toNat) && decide ((pn ps x.toNat).l.length = (pn ps 0).l.length)) := rfl
    refine ⟨by omega, by omega, fun _ => by omega, fun _ => ht _ (pn_mem (by omega)), fun _ => by omega, fun _ => by omega, fun hb => no x (by omega) (by omega) ?_, fun hb => ⟨by omega, x + 1, ⟨by omega, by omega, fun j hj => ?_⟩, by omega, rfl⟩⟩
    · rw [hc]
      simp only [Bool.and_eq_true, decide_eq_true_eq]
      rintro ⟨⟨a, b⟩, c⟩
      rcases hb with (hb | hb) | hb
      · exact hb a
      · rw [b] at hb; cases hb
      · exact hb (by have : (Int.toNat 0) = 0 := rfl; rw [this]; omega)
    · by_cases e : (j : Int) < x
      · exact hi.2.2 j e
      · have : j = x.toNat := by omega
        rw [this, hc]
        simp only [Bool.and_eq_true, decide_eq_true_eq]
        have e0 : (Int.toNat 0) = 0 := rfl
        rw [e0] at hb
        exact ⟨⟨hb.1.1, hb.1.2⟩, by omega⟩
  · symm
    exact thrB_all.2 ⟨⟨h.1, by omega⟩, fun i hi2 => hi.2.2 i (by omega)⟩

def inv58 (ps : List Pool) (g : Int) : Inv where
  X := Int
  ok := fun i => 0 ≤ i ∧ i ≤ ps.length ∧ ∀ j : Nat, (j : Int) < i → ¬ (pn ps j).g = g
  sl := fun i => [(6, .int .i64 i)]
  hp := fun _ => []
  keep := [10000]
  me := fun i => (ps.length - i).toNat
set_option maxRecDepth 100000 in
theorem vc58 (ps : List Pool) (g : Int) (hx : TL ps) : sGetP.vc (EV Try.prog [(118, sCopied.spec)] (invs [(2, inv58 ps g)]) noInv) Try.f58 (ps, g, ()) := by
  have e : ((∃ (x : Int), (0 ≤ x ∧ x ≤ (↑ps.length : Int) ∧ ∀ (j : Nat), (↑j : Int) < x → ¬(pn ps j).g = g) ∧ 0 = x ∧ (0 : Int) = 0 ∧ (0 : Int) = 0 ∧ (0 : Int) = 0 ∧ (0 : Int) = 0 ∧ (0 : Int) = 0 ∧ (0 : Int) = 0 ∧ (0 : Int) = 0 ∧ (0 : Int) = 0) ∧ ∀ (x : Int), (0 ≤ x ∧ x ≤ (↑ps.length : Int) ∧ ∀ (j : Nat), (↑j : Int) < x → ¬(pn ps j).g = g) → (decide (x < (↑ps.length : Int)) = true → (0 ≤ x ∧ x < (↑ps.length : Int)) ∧ (decide ((ps.getD x.toNat pl0).g = g) = true → (0 ≤ x ∧ x < (↑ps.length : Int)) ∧ (ps.getD x.toNat pl0).l.length ≤ (1048576 : Nat) ∧ ∃ (y : Unit), True ∧ (ps.getD x.toNat pl0).g = (atP ps g).g ∧ (ps.getD x.toNat pl0).q = (atP ps g).q ∧ (ps.getD x.toNat pl0).bu = (atP ps g).bu ∧ (ps.getD x.toNat pl0).s = (atP ps g).s ∧ (ps.getD x.toNat pl0).le = (atP ps g).le ∧ (ps.getD x.toNat pl0).l = (atP ps g).l ∧ (ps.getD x.toNat pl0).sp = (atP ps g).sp ∧ (ps.getD x.toNat pl0).pe = (atP ps g).pe ∧ (ps.getD x.toNat pl0).th = (atP ps g).th ∧ (ps.getD x.toNat pl0).em = (atP ps g).em ∧ true = hasP ps g) ∧ (decide ((ps.getD x.toNat pl0).g = g) = false → i64R (x + 1) ∧ ∃ (x' : Int), (0 ≤ x' ∧ x' ≤ (↑ps.length : Int) ∧ ∀ (j : Nat), (↑j : Int) < x' → ¬(pn ps j).g = g) ∧ ((↑ps.length : Int) - x').toNat < ((↑ps.length : Int) - x).toNat ∧ x + 1 = x' ∧ (0 : Int) = 0 ∧ (0 : Int) = 0 ∧ (0 : Int) = 0 ∧ (0 : Int) = 0 ∧ (0 : Int) = 0 ∧ (0 : Int) = 0 ∧ (0 : Int) = 0 ∧ (0 : Int) = 0)) ∧ (decide (x < (↑ps.length : Int)) = false → ∃ (y : Unit), True ∧ 0 = (atP ps g).g ∧ 0 = (atP ps g).q ∧ 0 = (atP ps g).bu ∧ 0 = (atP ps g).s ∧ 0 = (atP ps g).le ∧ NilL Int = (atP ps g).l ∧ 0 = (atP ps g).sp ∧ 0 = (atP ps g).pe ∧ 0 = (atP ps g).th ∧ false = (atP ps g).em ∧ false = hasP ps g)) = sGetP.vc (EV Try.prog [(118, sCopied.spec)] (invs [(2, inv58 ps g)]) noInv) Try.f58 (ps, g, ()) := by kernel_rfl
  rw [← e]
  clear e
  delta pl0
  simp only [true_and, and_true, exists_const]
  simp only [i64R, Int.reduceNeg, decide_eq_true_eq, decide_eq_false_iff_not]
  simp only [NilL_eq, pn_fold]
  obtain ⟨h1, h2⟩ := hx
  refine ⟨⟨0, ⟨by omega, by omega, fun j hj => by omega⟩, rfl⟩, fun x hi => ⟨fun hlt => ⟨by omega, fun he => ⟨by omega, (h1 _ (pn_mem (by omega))).len, ?_⟩, fun hn => ⟨by omega, x + 1, ⟨by omega, by omega, fun j hj => ?_⟩, by omega, rfl⟩⟩, fun hge => ?_⟩⟩
  · obtain ⟨a, b⟩ := atP_first (fun j hj => hi.2.2 j (by omega)) (by omega) he
    rw [a, b]
    exact ⟨rfl, rfl, rfl, rfl, rfl, rfl, rfl, rfl, rfl, rfl, rfl⟩
  · by_cases e : (j : Int) < x
    · exact hi.2.2 j e
    · have : j = x.toNat := by omega
      rw [this]; exact hn
  · obtain ⟨a, b⟩ := atP_all (l := ps) (g := g) fun j hj => hi.2.2 j (by omega)
    rw [a, b]
    exact ⟨rfl, rfl, rfl, rfl, rfl, rfl, rfl, rfl, rfl, rfl, rfl⟩

def inv120 (l : List Nod) (ps : List Pool) (g c : Int) : Inv where
  X := Int
  ok := fun i => 0 ≤ i ∧ i ≤ (upT l g).length
  sl := fun i => [(16, .int .i64 i), (9, .int .i64 (roomL ps c ((upT l g).take i.toNat))), (14, .own 101 0)]
  hp := fun _ => [(101, .rows 3 0 (upT l g))]
  keep := [10000]
  me := fun i => ((upT l g).length - i).toNat

def inv106 (l : List Nod) (ps : List Pool) (g c : Int) : Inv where
  X := Int
  ok := fun i => 0 ≤ i ∧ i ≤ (upT l g).length ∧ ∀ j : Nat, (j : Int) < i → ¬ roomI (atP ps ((upT l g).getD j 0)) c = 0
  sl := fun i => [(16, .int .i64 i), (14, .own 101 0)]
  hp := fun _ => [(101, .rows 3 0 (upT l g))]
  keep := [10000]
  me := fun i => ((upT l g).length - i).toNat
set_option maxRecDepth 100000 in
theorem vc106 (l : List Nod) (n : Int) (ps : List Pool) (g c : Int) (hx : ThrP l n ps) : sBlk0.vc (EV Try.prog [(73, sFAnc.spec), (104, sAtP.spec), (137, sRoom.spec)] (invs [(2, inv106 l ps g c)]) noInv) Try.f106 ((l, n), ps, g, c, ()) := by
  have e : (ChkP l n ∧ (∃ (x : Int), (0 ≤ x ∧ x ≤ (↑(upT l g).length : Int) ∧ ∀ (j : Nat), (↑j : Int) < x → ¬roomI (atP ps ((upT l g).getD j 0)) c = 0) ∧ 0 = x ∧ upT l g = upT l g ∧ l = l ∧ n = n) ∧ ∀ (x : Int), (0 ≤ x ∧ x ≤ (↑(upT l g).length : Int) ∧ ∀ (j : Nat), (↑j : Int) < x → ¬roomI (atP ps ((upT l g).getD j 0)) c = 0) → (decide (x < (↑(upT l g).length : Int)) = true → (0 ≤ x ∧ x < (↑(upT l g).length : Int)) ∧ ps.length ≤ (9223372036854775807 : Nat) ∧ (0 ≤ idxQ ps ((upT l g).getD x.toNat 0) ∧ idxQ ps ((upT l g).getD x.toNat 0) < (↑ps.length : Int)) ∧ Tame (ps.getD (idxQ ps ((upT l g).getD x.toNat 0)).toNat pl0) ∧ (decide (roomI (ps.getD (idxQ ps ((upT l g).getD x.toNat 0)).toNat pl0) c = 0) = true → ∃ (y : Unit), True ∧ (upT l g).getD x.toNat 0 = (blkL ps c (upT l g)).fst ∧ true = (blkL ps c (upT l g)).snd) ∧ (decide (roomI (ps.getD (idxQ ps ((upT l g).getD x.toNat 0)).toNat pl0) c = 0) = false → i64R (x + 1) ∧ ∃ (x' : Int), (0 ≤ x' ∧ x' ≤ (↑(upT l g).length : Int) ∧ ∀ (j : Nat), (↑j : Int) < x' → ¬roomI (atP ps ((upT l g).getD j 0)) c = 0) ∧ ((↑(upT l g).length : Int) - x').toNat < ((↑(upT l g).length : Int) - x).toNat ∧ x + 1 = x' ∧ upT l g = upT l g ∧ l = l ∧ n = n)) ∧ (decide (x < (↑(upT l g).length : Int)) = false → ∃ (y : Unit), True ∧ 0 = (blkL ps c (upT l g)).fst ∧ false = (blkL ps c (upT l g)).snd)) = sBlk0.vc (EV Try.prog [(73, sFAnc.spec), (104, sAtP.spec), (137, sRoom.spec)] (invs [(2, inv106 l ps g c)]) noInv) Try.f106 ((l, n), ps, g, c, ()) := by kernel_rfl
  rw [← e]
  clear e
  delta pl0
  simp only [true_and, and_true, exists_const]
  simp only [i64R, Int.reduceNeg, decide_eq_true_eq, decide_eq_false_iff_not]
  simp only [NilL_eq, pn_fold]
  have hc := hx.chk
  have hui := up_len64 hc g
  have hl2 := hx.len
  have l2 := hc.len2
  refine ⟨hc, ⟨0, ⟨by omega, by omega, fun j hj => by omega⟩, rfl⟩, fun x hi => ⟨fun hlt => ?_, fun hge => ?_⟩⟩
  · obtain ⟨i, hi2, e1, e2, e3, e4, _⟩ := hx.of_id (upT_sub (getD_mem (l := upT l g) (i := x.toNat) (by omega)))
    rw [e2]
    have e5 : pn ps (Int.toNat (i : Int)) = atP ps ((upT l g).getD x.toNat 0) := e3.symm
    rw [e5]
    refine ⟨by omega, by omega, by omega, by rw [e3]; exact (hx.good i hi2).tame, fun he => ?_, fun hn => ⟨by omega, x + 1, ⟨by omega, by omega, fun j hj => ?_⟩, by omega, rfl⟩⟩
    · rw [blkL_at (i := x.toNat) (fun j hj => hi.2.2 j (by omega)) (by omega) he]
      exact ⟨rfl, rfl⟩
    · by_cases e : (j : Int) < x
      · exact hi.2.2 j e
      · have : j = x.toNat := by omega
        rw [this]; exact hn
  · rw [blkL_none fun j hj => hi.2.2 j (by omega)]
    exact ⟨rfl, rfl⟩
end Go.Proofs.Ytemffnpliflkgaa
namespace Go.Proofs.Ytemffnpliflkgaa
open Go
set_option linter.unusedVariables false

def eqP (p q : Pool) : Bool := decide (p = q)
def eqL (p q : List Pool) : Bool := decide (p = q)
theorem eqP_iff {p q : Pool} : eqP p q = true ↔ p = q := by simp [eqP]
theorem eqP_no {p q : Pool} : eqP p q = false ↔ ¬ p = q := by simp [eqP]
theorem eqL_iff {p q : List Pool} : eqL p q = true ↔ p = q := by simp [eqL]
theorem eqL_no {p q : List Pool} : eqL p q = false ↔ ¬ p = q := by simp [eqL]
def sSameP : DS := ⟨_, two pkPool pkPool, fun x => x.1.l.length ≤ 1048576, fun x => .bool (eqP x.1 x.2.1), nou⟩
def sSameL : DS := ⟨_, two pkPools pkPools, fun x => TL x.1, fun x => .bool (eqL x.1 x.2.1), nou⟩
theorem tame_zero : Tame zeroP := ⟨by decide, by decide, by decide, by decide, by decide, by decide, by decide⟩
theorem atP_tame {ps : List Pool} (h : ∀ x ∈ ps, Tame x) (g : Int) : Tame (atP ps g) := by
  rcases idxQ_cases ps g with ⟨i, hi, e1, e2, e3, e4, e5⟩ | ⟨e2, e3, e4, e5⟩
  · rw [e4]; exact h _ (pn_mem hi)
  · rw [e4]; exact tame_zero




set_option maxRecDepth 100000 in
theorem vc63 (l : List Nod) (n : Int) (ps : List Pool) (g c : Int) (hx : WfN l ∧ TL ps) : sBlkT.vc (EV Try.prog [(66, sThr.spec), (106, sBlk0.spec)] noInv noInv) Try.f63 ((l, n), ps, g, c, ()) := by
  have e : ((WfN l ∧ TL ps) ∧ ((!thrB l n ps) = true → ∃ (y : Unit), True ∧ 0 = (blkT l n ps g c).fst ∧ false = (blkT l n ps g c).snd) ∧ ((!thrB l n ps) = false → ThrP l n ps ∧ ∃ (y : Unit), True ∧ (blkL ps c (upT l g)).fst = (blkT l n ps g c).fst ∧ (blkL ps c (upT l g)).snd = (blkT l n ps g c).snd)) = sBlkT.vc (EV Try.prog [(66, sThr.spec), (106, sBlk0.spec)] noInv noInv) Try.f63 ((l, n), ps, g, c, ()) := by kernel_rfl
  rw [← e]
  clear e
  simp only [true_and, exists_const]
  simp only [Bool.not_eq_true', Bool.not_eq_false']
  refine ⟨hx, fun h => ?_, fun h => ?_⟩
  · rw [blkT, if_pos h]; exact ⟨rfl, rfl⟩
  · rw [blkT, if_neg (by rw [h]; simp)]; exact ⟨thrB_iff.1 h, rfl, rfl⟩

def inv68 (l : List Nod) (n : Int) (ps : List Pool) (g c : Int) : Inv where
  X := Int
  ok := fun i => 0 ≤ i ∧ i ≤ (ancR l n g).length ∧ ∀ j : Nat, (j : Int) < i → ¬ roomI (atP ps ((ancR l n g).getD j 0)) c = 0
  sl := fun i => [(11, .int .i64 i), (10, .own 101 0)]
  hp := fun i => [(101, .rows 3 0 (ancR l n g))]
  keep := [10000]
  me := fun i => ((ancR l n g).length - i).toNat
set_option maxRecDepth 100000 in
theorem vc68 (l : List Nod) (n : Int) (ps : List Pool) (g c : Int) (hx : WfN l ∧ TL ps) : sBlkT.vc (EV Try.prog [(21, sAnc.spec), (54, sThr.spec), (58, sGetP.spec), (62, sRoom.spec)] (invs [(5, inv68 l n ps g c)]) noInv) Try.f68 ((l, n), ps, g, c, ()) := by
  have e : ((WfN l ∧ TL ps) ∧ ((!thrB l n ps) = true → ∃ (y : Unit), True ∧ 0 = (blkT l n ps g c).fst ∧ false = (blkT l n ps g c).snd) ∧ ((!thrB l n ps) = false → True ∧ (∃ (x : Int), (0 ≤ x ∧ x ≤ (↑(ancR l n g).length : Int) ∧ ∀ (j : Nat), (↑j : Int) < x → ¬roomI (atP ps ((ancR l n g).getD j 0)) c = 0) ∧ 0 = x ∧ ancR l n g = ancR l n g ∧ l = l ∧ n = n) ∧ ∀ (x : Int), (0 ≤ x ∧ x ≤ (↑(ancR l n g).length : Int) ∧ ∀ (j : Nat), (↑j : Int) < x → ¬roomI (atP ps ((ancR l n g).getD j 0)) c = 0) → (decide (x < (↑(ancR l n g).length : Int)) = true → (0 ≤ x ∧ x < (↑(ancR l n g).length : Int)) ∧ TL ps ∧ Tame (atP ps ((ancR l n g).getD x.toNat 0)) ∧ (decide (roomI (atP ps ((ancR l n g).getD x.toNat 0)) c = 0) = true → (0 ≤ x ∧ x < (↑(ancR l n g).length : Int)) ∧ ∃ (y : Unit), True ∧ (ancR l n g).getD x.toNat 0 = (blkT l n ps g c).fst ∧ true = (blkT l n ps g c).snd) ∧ (decide (roomI (atP ps ((ancR l n g).getD x.toNat 0)) c = 0) = false → i64R (x + 1) ∧ ∃ (x' : Int), (0 ≤ x' ∧ x' ≤ (↑(ancR l n g).length : Int) ∧ ∀ (j : Nat), (↑j : Int) < x' → ¬roomI (atP ps ((ancR l n g).getD j 0)) c = 0) ∧ ((↑(ancR l n g).length : Int) - x').toNat < ((↑(ancR l n g).length : Int) - x).toNat ∧ x + 1 = x' ∧ ancR l n g = ancR l n g ∧ l = l ∧ n = n)) ∧ (decide (x < (↑(ancR l n g).length : Int)) = false → ∃ (y : Unit), True ∧ 0 = (blkT l n ps g c).fst ∧ false = (blkT l n ps g c).snd))) = sBlkT.vc (EV Try.prog [(21, sAnc.spec), (54, sThr.spec), (58, sGetP.spec), (62, sRoom.spec)] (invs [(5, inv68 l n ps g c)]) noInv) Try.f68 ((l, n), ps, g, c, ()) := by kernel_rfl
  rw [← e]
  clear e
  simp only [true_and, and_true, exists_const]
  simp only [i64R, Int.reduceNeg, decide_eq_true_eq, decide_eq_false_iff_not, Bool.not_eq_true', Bool.not_eq_false']
  try simp only [NilL_eq, pn_fold]
  obtain ⟨hw, ht, hl⟩ := hx
  refine ⟨⟨hw, ht, hl⟩, fun h => ?_, fun h => ?_⟩
  · rw [blkT, if_pos h]; exact ⟨rfl, rfl⟩
  · have hc := (thrB_iff.1 h).chk
    have eA : ancR l n g = upT l g := by
      by_cases hg : g ∈ ids l
      · rw [ancR, if_pos]; unfold hasR; rw [chkB_iff.2 hc, hasB_iff.2 hg]; rfl
      · rw [ancR, upT_none hg, if_neg]
        intro h2
        unfold hasR at h2
        rw [Bool.and_eq_true] at h2
        exact hg (hasB_iff.1 h2.2)
    rw [eA]
    have hui := up_len64 hc g
    have eB : blkT l n ps g c = blkL ps c (upT l g) := by rw [blkT, if_neg (by rw [h]; simp)]
    rw [eB]
    refine ⟨⟨0, ⟨by omega, by omega, fun j hj => by omega⟩, rfl⟩, fun x hi => ⟨fun hlt => ⟨by omega, ⟨ht, hl⟩, atP_tame ht _, fun he => ?_, fun hn => ⟨by omega, x + 1, ⟨by omega, by omega, fun j hj => ?_⟩, by omega, rfl⟩⟩, fun hge => ?_⟩⟩
    · rw [blkL_at (i := x.toNat) (fun j hj => hi.2.2 j (by omega)) (by omega) he]
      exact ⟨by omega, rfl, rfl⟩
    · by_cases e : (j : Int) < x
      · exact hi.2.2 j e
      · have : j = x.toNat := by omega
        rw [this]; exact hn
    · rw [blkL_none fun j hj => hi.2.2 j (by omega)]
      exact ⟨rfl, rfl⟩

def spF (up : List Int) (c : Int) (p : Pool) : Pool := if p.g ∈ up then (spendG p c).1 else p
def inv42 (l : List Nod) (ps : List Pool) (g c : Int) : Inv where
  X := Int
  ok := fun i => 0 ≤ i ∧ i ≤ (upT l g).length
  sl := fun i => [(69, .int .i64 i), (67, .own 101 0), (10, .own 103 4)]
  hp := fun i => [(101, .rows 3 0 (upT l g)), (103, .rows 80 4 (ps.map (spF ((upT l g).take i.toNat) c)))]
  keep := [10000]
  me := fun i => ((upT l g).length - i).toNat
set_option maxRecDepth 100000 in
theorem vc42 (l : List Nod) (n : Int) (ps : List Pool) (g c : Int) (hx : WfN l ∧ TL ps) : sSpT.vc (EV Try.prog [(66, sThr.spec), (104, sAtP.spec), (105, sCopyP.spec), (106, sBlk0.spec), (107, sSpend.spec), (73, sFAnc.spec)] (invs [(13, inv42 l ps g c)]) noInv) Try.f42 ((l, n), ps, g, c, ()) := by
  have e : ((WfN l ∧ TL ps) ∧ ((!thrB l n ps) = true → ∃ (y : Unit), True ∧ 1 = spE l n ps g c ∧ NilL Pool = spL l n ps g c) ∧ ((!thrB l n ps) = false → ps.length ≤ (9223372036854775807 : Nat) ∧ (decide (idxQ ps g < 0) = true → ∃ (y : Unit), True ∧ 4 = spE l n ps g c ∧ NilL Pool = spL l n ps g c) ∧ (decide (idxQ ps g < 0) = false → (decide (c < 0) = false → decide (c < 0) = false) ∧ (decide (c < 0) = false → (0 : Int) ≤ 0 ∧ 0 < (↑ps.length : Int)) ∧ (decide (c < 0) = false → decide (c < 0) = false) ∧ (decide (c < 0) = false → decide (c < 0) = false) ∧ (decide (c < 0) = false → decide (c < 0) = false) ∧ (decide (c < 0) = false → decide (c < 0) = false) ∧ (decide (c < 0) = false → decide (c < 0) = false) ∧ (decide (c < 0) = false → decide (c < 0) = false) ∧ ((decide (c < 0) || decide ((↑(ps.getD (Int.toNat 0) pl0).l.length : Int) ≤ c)) = true → ∃ (y : Unit), True ∧ 3 = spE l n ps g c ∧ NilL Pool = spL l n ps g c) ∧ ((decide (c < 0) || decide ((↑(ps.getD (Int.toNat 0) pl0).l.length : Int) ≤ c)) = false → TL ps ∧ ThrP l n ps ∧ ((blkL ps c (upT l g)).snd = true → ps.length ≤ (9223372036854775807 : Nat) ∧ ps.length ≤ (9223372036854775807 : Nat) ∧ (0 ≤ idxQ ps (blkL ps c (upT l g)).fst ∧ idxQ ps (blkL ps c (upT l g)).fst < (↑ps.length : Int)) ∧ Tame (ps.getD (idxQ ps (blkL ps c (upT l g)).fst).toNat pl0) ∧ (0 ≤ idxQ ps (blkL ps c (upT l g)).fst ∧ idxQ ps (blkL ps c (upT l g)).fst < (↑ps.length : Int)) ∧ ∃ (y : Unit), True ∧ 11 = spE l n ps g c ∧ ps.set (idxQ ps (blkL ps c (upT l g)).fst).toNat (spendG (ps.getD (idxQ ps (blkL ps c (upT l g)).fst).toNat pl0) c).fst = spL l n ps g c) ∧ ((blkL ps c (upT l g)).snd = false → ChkP l n ∧ (∃ (x : Int), (0 ≤ x ∧ x ≤ (↑(upT l g).length : Int)) ∧ 0 = x ∧ upT l g = upT l g ∧ ps = List.map (spF (List.take x.toNat (upT l g)) c) ps ∧ l = l ∧ n = n) ∧ ∀ (x : Int), 0 ≤ x ∧ x ≤ (↑(upT l g).length : Int) → (decide (x < (↑(upT l g).length : Int)) = true → (0 ≤ x ∧ x < (↑(upT l g).length : Int)) ∧ ps.length ≤ (9223372036854775807 : Nat) ∧ ps.length ≤ (9223372036854775807 : Nat) ∧ (0 ≤ idxQ ps ((upT l g).getD x.toNat 0) ∧ idxQ ps ((upT l g).getD x.toNat 0) < (↑ps.length : Int)) ∧ Tame (ps.getD (idxQ ps ((upT l g).getD x.toNat 0)).toNat pl0) ∧ (0 ≤ idxQ ps ((upT l g).getD x.toNat 0) ∧ idxQ ps ((upT l g).getD x.toNat 0) < (↑(List.map (spF (List.take x.toNat (upT l g)) c) ps).length : Int)) ∧ i64R (x + 1) ∧ ∃ (x' : Int), (0 ≤ x' ∧ x' ≤ (↑(upT l g).length : Int)) ∧ ((↑(upT l g).length : Int) - x').toNat < ((↑(upT l g).length : Int) - x).toNat ∧ x + 1 = x' ∧ upT l g = upT l g ∧ (List.map (spF (List.take x.toNat (upT l g)) c) ps).set (idxQ ps ((upT l g).getD x.toNat 0)).toNat (spendG (ps.getD (idxQ ps ((upT l g).getD x.toNat 0)).toNat pl0) c).fst = List.map (spF (List.take x'.toNat (upT l g)) c) ps ∧ l = l ∧ n = n) ∧ (decide (x < (↑(upT l g).length : Int)) = false → ∃ (y : Unit), True ∧ 0 = spE l n ps g c ∧ List.map (spF (List.take x.toNat (upT l g)) c) ps = spL l n ps g c)))))) = sSpT.vc (EV Try.prog [(66, sThr.spec), (104, sAtP.spec), (105, sCopyP.spec), (106, sBlk0.spec), (107, sSpend.spec), (73, sFAnc.spec)] (invs [(13, inv42 l ps g c)]) noInv) Try.f42 ((l, n), ps, g, c, ()) := by kernel_rfl
  rw [← e]
  clear e
  delta pl0
  simp only [imp_self, true_and, and_true, exists_const]
  simp only [true_and, i64R, Int.reduceLE, Int.reduceNeg, decide_eq_true_eq, decide_eq_false_iff_not, Bool.not_eq_true', Bool.not_eq_false', Bool.or_eq_true, Bool.or_eq_false_iff ]
  try simp only [NilL_eq, pn_fold]
  obtain ⟨hw, ht, hl⟩ := hx
  have nil : ∀ k : Int, k ≠ 0 → k ≠ 11 → spE l n ps g c = k → k = spE l n ps g c ∧ [] = spL l n ps g c := fun k hk h11 h => ⟨h.symm, by rw [spL, if_neg (by rw [h]; omega)]⟩
  refine ⟨⟨hw, ht, hl⟩, fun h => nil 1 (by omega) (by omega) (by rw [spE, if_pos h]), fun h => ?_⟩
  have hT := thrB_iff.1 h
  have hc := hT.chk
  have n1 : ¬ thrB l n ps = false := by rw [h]; simp
  have l1 := hc.len1
  have l2 := hc.len2
  have l3 := hT.len
  have hui := up_len64 hc g
  have e0 : (Int.toNat 0) = 0 := rfl
  rw [e0]
  refine ⟨by omega, fun h2 => ?_, fun h2 => ?_⟩
  · have hb : hasB l g = false := by
      cases e : hasB l g
      · rfl
      · obtain ⟨i, _, _, e2, _⟩ := hT.of_id (hasB_iff.1 e)
        omega
    exact nil 4 (by omega) (by omega) (by rw [spE, if_neg n1, if_pos hb])
  have hb : hasB l g = true := by
    rw [← hT.has]
    rcases idxQ_cases ps g with ⟨i, hi, e1, e2, e3, e4, e5⟩ | ⟨e2, e3, e4, e5⟩
    · exact e5
    · omega
  have n2 : ¬ hasB l g = false := by rw [hb]; simp
  refine ⟨fun _ => by omega, fun h3 => nil 3 (by omega) (by omega) (by rw [spE, if_neg n1, if_neg n2, if_pos h3]), fun h3 => ?_⟩
  have n3 : ¬ (c < 0 ∨ ((pn ps 0).l.length : Int) ≤ c) := by omega
  refine ⟨⟨ht, hl⟩, hT, fun h4 => ?_, fun h4 => ?_⟩
  · have e11 : spE l n ps g c = 11 := by rw [spE, if_neg n1, if_neg n2, if_neg n3, if_pos h4]
    obtain ⟨m1, m2⟩ := blkL_mem h4
    obtain ⟨i, hi, e1, e2, e3, e4, _⟩ := hT.of_id (upT_sub m1)
    rw [e2]
    refine ⟨by omega, by omega, by omega, (hT.good i hi).tame, by omega, e11.symm, ?_⟩
    rw [spL, if_pos (.inr e11)]
    show ps.set i (spendG (pn ps i) c).1 = _
    have k1 : (spendG (pn ps i) c).1 = sp1 ps (upT l g) c (pn ps i) := by rw [sp1, if_pos (.inl ⟨h4, e4⟩)]
    have k2 := map_set (ps := ps) (F := fun p => p) (G := sp1 ps (upT l g) c) (i := i) (by omega) fun j hj hji => by
      rw [sp1, if_neg]
      rintro (⟨_, a⟩ | ⟨a, _⟩)
      · exact hji (hT.inj hj (by omega) (by rw [a, e4]))
      · rw [h4] at a; cases a
    rw [List.map_id'] at k2
    rw [k1, k2]
  · have e00 : spE l n ps g c = 0 := by rw [spE, if_neg n1, if_neg n2, if_neg n3, if_neg (by rw [h4]; simp)]
    refine ⟨hc, ⟨0, by omega, rfl, ?_⟩, fun x hi => ⟨fun hlt => ?_, fun hge => ⟨e00.symm, ?_⟩⟩⟩
    · have : spF (List.take (Int.toNat 0) (upT l g)) c = fun p => p := by
        funext p
        rw [spF, if_neg]
        rw [e0, List.take_zero]
        intro a; cases a
      rw [this, List.map_id']
    · obtain ⟨i, hi2, e1, e2, e3, e4, _⟩ := hT.of_id (upT_sub (getD_mem (l := upT l g) (i := x.toNat) (by omega)))
      have e : (x + 1).toNat = x.toNat + 1 := by omega
      rw [e2, List.length_map]
      refine ⟨by omega, by omega, by omega, by omega, (hT.good i hi2).tame, by omega, by omega, x + 1, by omega, by omega, rfl, ?_⟩
      show (ps.map _).set i (spendG (pn ps i) c).1 = _
      have tk : (upT l g).take (x.toNat + 1) = (upT l g).take x.toNat ++ [(upT l g).getD x.toNat 0] := by
        rw [List.take_add_one, List.getElem?_eq_getElem (by omega)]
        simp [List.getD_eq_getElem?_getD, show x.toNat < (upT l g).length by omega]
      have k1 : (spendG (pn ps i) c).1 = spF ((upT l g).take (x.toNat + 1)) c (pn ps i) := by
        rw [spF, if_pos]
        rw [tk, e4]; simp
      rw [e, k1]
      refine map_set (by omega) fun j hj hji => ?_
      have k3 : (pn ps j).g ∈ (upT l g).take (x.toNat + 1) ↔ (pn ps j).g ∈ (upT l g).take x.toNat := by
        rw [tk, List.mem_append]
        constructor
        · rintro (a | a)
          · exact a
          · simp only [List.mem_cons, List.not_mem_nil, or_false] at a
            exact absurd (hT.inj hj (by omega) (by rw [a, e4])) hji
        · exact .inl
      by_cases k4 : (pn ps j).g ∈ (upT l g).take x.toNat
      · rw [spF, if_pos k4, spF, if_pos (k3.2 k4)]
      · rw [spF, if_neg k4, spF, if_neg (fun a => k4 (k3.1 a))]
    · rw [List.take_of_length_le (by omega), spL, if_pos (.inl e00)]
      have : spF (upT l g) c = sp1 ps (upT l g) c := by
        funext p
        unfold spF sp1
        by_cases k : p.g ∈ upT l g
        · rw [if_pos k, if_pos (.inr ⟨h4, k⟩)]
        · rw [if_neg k, if_neg]
          rintro (⟨a, _⟩ | ⟨_, a⟩)
          · rw [h4] at a; cases a
          · exact k a
      rw [this]

def inv43 (l : List Nod) (n : Int) (ps : List Pool) (g c : Int) : Inv where
  X := Int
  ok := fun i => 0 ≤ i ∧ i ≤ ps.length
  sl := fun i => [(14, .int .i64 i), (10, .own 103 4), (11, .own 101 0)]
  hp := fun i => [(101, .rows 3 0 (ancR l n g)), (103, .rows 80 4 (updK (sp1 ps (upT l g) c) ps i.toNat))]
  keep := [10000]
  me := fun i => (ps.length - i).toNat
set_option maxRecDepth 100000 in
theorem vc43 (l : List Nod) (n : Int) (ps : List Pool) (g c : Int) (hx : WfN l ∧ TL ps) : sSpT.vc (EV Try.prog [(54, sThr.spec), (76, sHas.spec), (103, sCopyP.spec), (21, sAnc.spec), (68, sBlkT.spec), (108, sSpend.spec), (64, sHasI.spec)] (invs [(11, inv43 l n ps g c)]) noInv) Try.f43 ((l, n), ps, g, c, ()) := by
  have e : ((WfN l ∧ TL ps) ∧ ((!thrB l n ps) = true → ∃ (y : Unit), True ∧ 1 = spE l n ps g c ∧ NilL Pool = spL l n ps g c) ∧ ((!thrB l n ps) = false → True ∧ ((!hasR l n g) = true → ∃ (y : Unit), True ∧ 4 = spE l n ps g c ∧ NilL Pool = spL l n ps g c) ∧ ((!hasR l n g) = false → (decide (c < 0) = false → decide (c < 0) = false) ∧ (decide (c < 0) = false → (0 : Int) ≤ 0 ∧ 0 < (↑ps.length : Int)) ∧ (decide (c < 0) = false → decide (c < 0) = false) ∧ (decide (c < 0) = false → decide (c < 0) = false) ∧ (decide (c < 0) = false → decide (c < 0) = false) ∧ (decide (c < 0) = false → decide (c < 0) = false) ∧ (decide (c < 0) = false → decide (c < 0) = false) ∧ (decide (c < 0) = false → decide (c < 0) = false) ∧ ((decide (c < 0) || decide ((↑(ps.getD (Int.toNat 0) pl0).l.length : Int) ≤ c)) = true → ∃ (y : Unit), True ∧ 3 = spE l n ps g c ∧ NilL Pool = spL l n ps g c) ∧ ((decide (c < 0) || decide ((↑(ps.getD (Int.toNat 0) pl0).l.length : Int) ≤ c)) = false → TL ps ∧ True ∧ (WfN l ∧ TL ps) ∧ (∃ (x : Int), (0 ≤ x ∧ x ≤ (↑ps.length : Int)) ∧ 0 = x ∧ ancR l n g = ancR l n g ∧ ps = updK (sp1 ps (upT l g) c) ps x.toNat ∧ l = l ∧ n = n) ∧ ∀ (x : Int), 0 ≤ x ∧ x ≤ (↑ps.length : Int) → (decide (x < (↑(updK (sp1 ps (upT l g) c) ps x.toNat).length : Int)) = true → ((blkT l n ps g c).snd = true → (blkT l n ps g c).snd = true) ∧ ((blkT l n ps g c).snd = true → (blkT l n ps g c).snd = true) ∧ ((blkT l n ps g c).snd = true → 0 ≤ x ∧ x < (↑(updK (sp1 ps (upT l g) c) ps x.toNat).length : Int)) ∧ ((blkT l n ps g c).snd = true → (blkT l n ps g c).snd = true) ∧ ((blkT l n ps g c).snd = true → (blkT l n ps g c).snd = true) ∧ ((blkT l n ps g c).snd = true → (blkT l n ps g c).snd = true) ∧ ((blkT l n ps g c).snd = true → (blkT l n ps g c).snd = true) ∧ ((blkT l n ps g c).snd = true → (blkT l n ps g c).snd = true) ∧ (((blkT l n ps g c).snd && decide (((updK (sp1 ps (upT l g) c) ps x.toNat).getD x.toNat pl0).g = (blkT l n ps g c).fst)) = false → ((blkT l n ps g c).snd && decide (((updK (sp1 ps (upT l g) c) ps x.toNat).getD x.toNat pl0).g = (blkT l n ps g c).fst)) = false) ∧ (((blkT l n ps g c).snd && decide (((updK (sp1 ps (upT l g) c) ps x.toNat).getD x.toNat pl0).g = (blkT l n ps g c).fst)) = false → ((blkT l n ps g c).snd && decide (((updK (sp1 ps (upT l g) c) ps x.toNat).getD x.toNat pl0).g = (blkT l n ps g c).fst)) = false) ∧ ((!((blkT l n ps g c).snd && decide (((updK (sp1 ps (upT l g) c) ps x.toNat).getD x.toNat pl0).g = (blkT l n ps g c).fst)) && !(blkT l n ps g c).snd) = true → (!((blkT l n ps g c).snd && decide (((updK (sp1 ps (upT l g) c) ps x.toNat).getD x.toNat pl0).g = (blkT l n ps g c).fst)) && !(blkT l n ps g c).snd) = true) ∧ ((!((blkT l n ps g c).snd && decide (((updK (sp1 ps (upT l g) c) ps x.toNat).getD x.toNat pl0).g = (blkT l n ps g c).fst)) && !(blkT l n ps g c).snd) = true → (!((blkT l n ps g c).snd && decide (((updK (sp1 ps (upT l g) c) ps x.toNat).getD x.toNat pl0).g = (blkT l n ps g c).fst)) && !(blkT l n ps g c).snd) = true) ∧ ((!((blkT l n ps g c).snd && decide (((updK (sp1 ps (upT l g) c) ps x.toNat).getD x.toNat pl0).g = (blkT l n ps g c).fst)) && !(blkT l n ps g c).snd) = true → 0 ≤ x ∧ x < (↑(updK (sp1 ps (upT l g) c) ps x.toNat).length : Int)) ∧ ((!((blkT l n ps g c).snd && decide (((updK (sp1 ps (upT l g) c) ps x.toNat).getD x.toNat pl0).g = (blkT l n ps g c).fst)) && !(blkT l n ps g c).snd) = true → (!((blkT l n ps g c).snd && decide (((updK (sp1 ps (upT l g) c) ps x.toNat).getD x.toNat pl0).g = (blkT l n ps g c).fst)) && !(blkT l n ps g c).snd) = true) ∧ ((!((blkT l n ps g c).snd && decide (((updK (sp1 ps (upT l g) c) ps x.toNat).getD x.toNat pl0).g = (blkT l n ps g c).fst)) && !(blkT l n ps g c).snd) = true → (!((blkT l n ps g c).snd && decide (((updK (sp1 ps (upT l g) c) ps x.toNat).getD x.toNat pl0).g = (blkT l n ps g c).fst)) && !(blkT l n ps g c).snd) = true) ∧ ((!((blkT l n ps g c).snd && decide (((updK (sp1 ps (upT l g) c) ps x.toNat).getD x.toNat pl0).g = (blkT l n ps g c).fst)) && !(blkT l n ps g c).snd) = true → (!((blkT l n ps g c).snd && decide (((updK (sp1 ps (upT l g) c) ps x.toNat).getD x.toNat pl0).g = (blkT l n ps g c).fst)) && !(blkT l n ps g c).snd) = true) ∧ ((!((blkT l n ps g c).snd && decide (((updK (sp1 ps (upT l g) c) ps x.toNat).getD x.toNat pl0).g = (blkT l n ps g c).fst)) && !(blkT l n ps g c).snd) = true → (!((blkT l n ps g c).snd && decide (((updK (sp1 ps (upT l g) c) ps x.toNat).getD x.toNat pl0).g = (blkT l n ps g c).fst)) && !(blkT l n ps g c).snd) = true) ∧ ((!((blkT l n ps g c).snd && decide (((updK (sp1 ps (upT l g) c) ps x.toNat).getD x.toNat pl0).g = (blkT l n ps g c).fst)) && !(blkT l n ps g c).snd) = true → (ancR l n g).length ≤ (9223372036854775807 : Nat)) ∧ (((blkT l n ps g c).snd && decide (((updK (sp1 ps (upT l g) c) ps x.toNat).getD x.toNat pl0).g = (blkT l n ps g c).fst)) = false → ((blkT l n ps g c).snd && decide (((updK (sp1 ps (upT l g) c) ps x.toNat).getD x.toNat pl0).g = (blkT l n ps g c).fst)) = false) ∧ (((blkT l n ps g c).snd && decide (((updK (sp1 ps (upT l g) c) ps x.toNat).getD x.toNat pl0).g = (blkT l n ps g c).fst)) = false → (!(blkT l n ps g c).snd) = true → (!((blkT l n ps g c).snd && decide (((updK (sp1 ps (upT l g) c) ps x.toNat).getD x.toNat pl0).g = (blkT l n ps g c).fst)) && !(blkT l n ps g c).snd) = true) ∧ (((blkT l n ps g c).snd && decide (((updK (sp1 ps (upT l g) c) ps x.toNat).getD x.toNat pl0).g = (blkT l n ps g c).fst)) = false → ((blkT l n ps g c).snd && decide (((updK (sp1 ps (upT l g) c) ps x.toNat).getD x.toNat pl0).g = (blkT l n ps g c).fst)) = false) ∧ (((blkT l n ps g c).snd && decide (((updK (sp1 ps (upT l g) c) ps x.toNat).getD x.toNat pl0).g = (blkT l n ps g c).fst) || !(blkT l n ps g c).snd && memB (ancR l n g) ((updK (sp1 ps (upT l g) c) ps x.toNat).getD x.toNat pl0).g) = true → (0 ≤ x ∧ x < (↑(updK (sp1 ps (upT l g) c) ps x.toNat).length : Int)) ∧ Tame ((updK (sp1 ps (upT l g) c) ps x.toNat).getD x.toNat pl0) ∧ (0 ≤ x ∧ x < (↑(updK (sp1 ps (upT l g) c) ps x.toNat).length : Int)) ∧ i64R (x + 1) ∧ ∃ (x' : Int), (0 ≤ x' ∧ x' ≤ (↑ps.length : Int)) ∧ ((↑ps.length : Int) - x').toNat < ((↑ps.length : Int) - x).toNat ∧ x + 1 = x' ∧ ancR l n g = ancR l n g ∧ (updK (sp1 ps (upT l g) c) ps x.toNat).set x.toNat (spendG ((updK (sp1 ps (upT l g) c) ps x.toNat).getD x.toNat pl0) c).fst = updK (sp1 ps (upT l g) c) ps x'.toNat ∧ l = l ∧ n = n) ∧ (((blkT l n ps g c).snd && decide (((updK (sp1 ps (upT l g) c) ps x.toNat).getD x.toNat pl0).g = (blkT l n ps g c).fst) || !(blkT l n ps g c).snd && memB (ancR l n g) ((updK (sp1 ps (upT l g) c) ps x.toNat).getD x.toNat pl0).g) = false → i64R (x + 1) ∧ ∃ (x' : Int), (0 ≤ x' ∧ x' ≤ (↑ps.length : Int)) ∧ ((↑ps.length : Int) - x').toNat < ((↑ps.length : Int) - x).toNat ∧ x + 1 = x' ∧ ancR l n g = ancR l n g ∧ updK (sp1 ps (upT l g) c) ps x.toNat = updK (sp1 ps (upT l g) c) ps x'.toNat ∧ l = l ∧ n = n)) ∧ (decide (x < (↑(updK (sp1 ps (upT l g) c) ps x.toNat).length : Int)) = false → ((blkT l n ps g c).snd = true → ∃ (y : Unit), True ∧ 11 = spE l n ps g c ∧ updK (sp1 ps (upT l g) c) ps x.toNat = spL l n ps g c) ∧ ((blkT l n ps g c).snd = false → ∃ (y : Unit), True ∧ 0 = spE l n ps g c ∧ updK (sp1 ps (upT l g) c) ps x.toNat = spL l n ps g c)))))) = sSpT.vc (EV Try.prog [(54, sThr.spec), (76, sHas.spec), (103, sCopyP.spec), (21, sAnc.spec), (68, sBlkT.spec), (108, sSpend.spec), (64, sHasI.spec)] (invs [(11, inv43 l n ps g c)]) noInv) Try.f43 ((l, n), ps, g, c, ()) := by kernel_rfl
  rw [← e]
  clear e
  delta pl0
  simp only [imp_self, true_and, and_true, exists_const, gd1]
  simp only [true_and, i64R, Int.reduceLE, Int.reduceNeg, decide_eq_true_eq, decide_eq_false_iff_not, Bool.not_eq_true', Bool.not_eq_false', Bool.and_eq_true, Bool.or_eq_true, Bool.and_eq_false_iff, Bool.or_eq_false_iff ]
  try simp only [NilL_eq, pn_fold]
  obtain ⟨hw, ht, hl⟩ := hx
  have nil : ∀ k : Int, k ≠ 0 → k ≠ 11 → spE l n ps g c = k → k = spE l n ps g c ∧ [] = spL l n ps g c := fun k hk h11 h => ⟨h.symm, by rw [spL, if_neg (by rw [h]; omega)]⟩
  refine ⟨⟨hw, ht, hl⟩, fun h => nil 1 (by omega) (by omega) (by rw [spE, if_pos h]), fun h => ?_⟩
  have hT := thrB_iff.1 h
  have hc := hT.chk
  have n1 : ¬ thrB l n ps = false := by rw [h]; simp
  have l1 := hc.len1
  have l2 := hc.len2
  have l3 := hT.len
  have hui := up_len64 hc g
  have e0 : (Int.toNat 0) = 0 := rfl
  rw [e0]
  have hR : hasR l n g = hasB l g := by unfold hasR; rw [chkB_iff.2 hc, Bool.true_and]
  rw [hR]
  refine ⟨fun h2 => nil 4 (by omega) (by omega) (by rw [spE, if_neg n1, if_pos h2]), fun hb => ?_⟩
  have n2 : ¬ hasB l g = false := by rw [hb]; simp
  have eA : ancR l n g = upT l g := by rw [ancR, if_pos (by rw [hR]; exact hb)]
  have eB : blkT l n ps g c = blkL ps c (upT l g) := by rw [blkT, if_neg n1]
  rw [eA, eB]
  refine ⟨fun _ => by omega, fun h3 => nil 3 (by omega) (by omega) (by rw [spE, if_neg n1, if_neg n2, if_pos h3]), fun h3 => ?_⟩
  have n3 : ¬ (c < 0 ∨ ((pn ps 0).l.length : Int) ≤ c) := by omega
  simp only [updK_len]
  refine ⟨⟨ht, hl⟩, ⟨hw, ht, hl⟩, ⟨0, by omega, rfl, (updK_zero _ _).symm⟩, fun x hi => ⟨fun hlt => ?_, fun hge => ?_⟩⟩
  · have e : (x + 1).toNat = x.toNat + 1 := by omega
    rw [updK_get (by omega)]
    refine ⟨fun _ => by omega, fun _ => by omega, fun _ => by omega, fun hb => ⟨by omega, ht _ (pn_mem (by omega)), by omega, by omega, x + 1, by omega, by omega, rfl, ?_⟩, fun hb => ⟨by omega, x + 1, by omega, by omega, rfl, ?_⟩⟩
    · rw [e, ← updK_step (by omega), sp1, if_pos]
      rcases hb with hb | hb
      · exact .inl hb
      · exact .inr ⟨hb.1, memB_iff.1 hb.2⟩
    · rw [e]
      refine updK_same (by omega) ?_
      rw [sp1, if_neg]
      rintro (⟨a1, a2⟩ | ⟨a1, a2⟩)
      · rcases hb.1 with b | b
        · rw [a1] at b; cases b
        · exact b a2
      · rcases hb.2 with b | b
        · rw [a1] at b; cases b
        · rw [memB_iff.2 a2] at b; cases b
  · rw [updK_all _ _ (by omega)]
    refine ⟨fun h4 => ?_, fun h4 => ?_⟩
    · have e11 : spE l n ps g c = 11 := by rw [spE, if_neg n1, if_neg n2, if_neg n3, if_pos h4]
      exact ⟨e11.symm, by rw [spL, if_pos (.inr e11)]⟩
    · have e00 : spE l n ps g c = 0 := by rw [spE, if_neg n1, if_neg n2, if_neg n3, if_neg (by rw [h4]; simp)]
      exact ⟨e00.symm, by rw [spL, if_pos (.inl e00)]⟩

def inv49 (ps : List Pool) (due : List Int) : Inv where
  X := Int
  ok := fun i => 0 ≤ i ∧ i ≤ ps.length
  sl := fun i => [(8, .int .i64 i), (7, .own 103 4)]
  hp := fun i => [(103, .rows 80 4 (updK (rf1 due) ps i.toNat))]
  keep := [10000]
  me := fun i => (ps.length - i).toNat
set_option maxRecDepth 100000 in
theorem vc49 (l : List Nod) (n : Int) (ps : List Pool) (due : List Int) (hx : (WfN l ∧ TL ps) ∧ due.length ≤ 9223372036854775807) : sRfT.vc (EV Try.prog [(54, sThr.spec), (103, sCopyP.spec), (113, sRefill.spec), (64, sHasI.spec)] (invs [(5, inv49 ps due)]) noInv) Try.f49 ((l, n), ps, due, ()) := by
  have e : ((WfN l ∧ TL ps) ∧ ((!thrB l n ps) = true → ∃ (y : Unit), True ∧ NilL Pool = rfL l n ps due) ∧ ((!thrB l n ps) = false → TL ps ∧ (∃ (x : Int), (0 ≤ x ∧ x ≤ (↑ps.length : Int)) ∧ 0 = x ∧ ps = updK (rf1 due) ps x.toNat ∧ l = l ∧ n = n) ∧ ∀ (x : Int), 0 ≤ x ∧ x ≤ (↑ps.length : Int) → (decide (x < (↑(updK (rf1 due) ps x.toNat).length : Int)) = true → (0 ≤ x ∧ x < (↑(updK (rf1 due) ps x.toNat).length : Int)) ∧ Tame ((updK (rf1 due) ps x.toNat).getD x.toNat pl0) ∧ (decide ((refillG ((updK (rf1 due) ps x.toNat).getD x.toNat pl0)).snd = 0) = true → decide ((refillG ((updK (rf1 due) ps x.toNat).getD x.toNat pl0)).snd = 0) = true) ∧ (decide ((refillG ((updK (rf1 due) ps x.toNat).getD x.toNat pl0)).snd = 0) = true → decide ((refillG ((updK (rf1 due) ps x.toNat).getD x.toNat pl0)).snd = 0) = true) ∧ (decide ((refillG ((updK (rf1 due) ps x.toNat).getD x.toNat pl0)).snd = 0) = true → 0 ≤ x ∧ x < (↑(updK (rf1 due) ps x.toNat).length : Int)) ∧ (decide ((refillG ((updK (rf1 due) ps x.toNat).getD x.toNat pl0)).snd = 0) = true → decide ((refillG ((updK (rf1 due) ps x.toNat).getD x.toNat pl0)).snd = 0) = true) ∧ (decide ((refillG ((updK (rf1 due) ps x.toNat).getD x.toNat pl0)).snd = 0) = true → decide ((refillG ((updK (rf1 due) ps x.toNat).getD x.toNat pl0)).snd = 0) = true) ∧ (decide ((refillG ((updK (rf1 due) ps x.toNat).getD x.toNat pl0)).snd = 0) = true → decide ((refillG ((updK (rf1 due) ps x.toNat).getD x.toNat pl0)).snd = 0) = true) ∧ (decide ((refillG ((updK (rf1 due) ps x.toNat).getD x.toNat pl0)).snd = 0) = true → decide ((refillG ((updK (rf1 due) ps x.toNat).getD x.toNat pl0)).snd = 0) = true) ∧ (decide ((refillG ((updK (rf1 due) ps x.toNat).getD x.toNat pl0)).snd = 0) = true → due.length ≤ (9223372036854775807 : Nat)) ∧ (decide ((refillG ((updK (rf1 due) ps x.toNat).getD x.toNat pl0)).snd = 0) = true → decide ((refillG ((updK (rf1 due) ps x.toNat).getD x.toNat pl0)).snd = 0) = true) ∧ ((decide ((refillG ((updK (rf1 due) ps x.toNat).getD x.toNat pl0)).snd = 0) && memB due ((updK (rf1 due) ps x.toNat).getD x.toNat pl0).g) = true → (0 ≤ x ∧ x < (↑(updK (rf1 due) ps x.toNat).length : Int)) ∧ i64R (x + 1) ∧ ∃ (x' : Int), (0 ≤ x' ∧ x' ≤ (↑ps.length : Int)) ∧ ((↑ps.length : Int) - x').toNat < ((↑ps.length : Int) - x).toNat ∧ x + 1 = x' ∧ (updK (rf1 due) ps x.toNat).set x.toNat (refillG ((updK (rf1 due) ps x.toNat).getD x.toNat pl0)).fst = updK (rf1 due) ps x'.toNat ∧ l = l ∧ n = n) ∧ ((decide ((refillG ((updK (rf1 due) ps x.toNat).getD x.toNat pl0)).snd = 0) && memB due ((updK (rf1 due) ps x.toNat).getD x.toNat pl0).g) = false → i64R (x + 1) ∧ ∃ (x' : Int), (0 ≤ x' ∧ x' ≤ (↑ps.length : Int)) ∧ ((↑ps.length : Int) - x').toNat < ((↑ps.length : Int) - x).toNat ∧ x + 1 = x' ∧ updK (rf1 due) ps x.toNat = updK (rf1 due) ps x'.toNat ∧ l = l ∧ n = n)) ∧ (decide (x < (↑(updK (rf1 due) ps x.toNat).length : Int)) = false → ∃ (y : Unit), True ∧ updK (rf1 due) ps x.toNat = rfL l n ps due))) = sRfT.vc (EV Try.prog [(54, sThr.spec), (103, sCopyP.spec), (113, sRefill.spec), (64, sHasI.spec)] (invs [(5, inv49 ps due)]) noInv) Try.f49 ((l, n), ps, due, ()) := by kernel_rfl
  rw [← e]
  clear e
  delta pl0
  simp only [imp_self, true_and, and_true, exists_const]
  simp only [i64R, Int.reduceNeg, decide_eq_true_eq, decide_eq_false_iff_not, Bool.not_eq_true', Bool.not_eq_false', Bool.and_eq_true, Bool.and_eq_false_iff]
  try simp only [NilL_eq, pn_fold]
  obtain ⟨⟨hw, ht, hl⟩, hd⟩ := hx
  simp only [updK_len]
  refine ⟨⟨hw, ht, hl⟩, fun h => by rw [rfL, if_pos h], fun h => ⟨⟨ht, hl⟩, ⟨0, by omega, rfl, (updK_zero _ _).symm⟩, fun x hi => ⟨fun hlt => ?_, fun hge => ?_⟩⟩⟩
  · have e : (x + 1).toNat = x.toNat + 1 := by omega
    rw [updK_get (by omega)]
    refine ⟨by omega, ht _ (pn_mem (by omega)), fun _ => by omega, fun _ => by omega, fun hb => ⟨by omega, by omega, x + 1, by omega, by omega, rfl, ?_⟩, fun hb => ⟨by omega, x + 1, by omega, by omega, rfl, ?_⟩⟩
    · rw [e, ← updK_step (by omega), rf1, if_pos ⟨hb.1, memB_iff.1 hb.2⟩]
    · rw [e]
      refine updK_same (by omega) ?_
      rw [rf1, if_neg]
      rintro ⟨a1, a2⟩
      rcases hb with b | b
      · exact b a1
      · rw [memB_iff.2 a2] at b; cases b
  · rw [updK_all _ _ (by omega), rfL, if_neg (by rw [h]; simp)]

def inv61 (p q : Pool) : Inv where
  X := Int
  ok := fun i => 0 ≤ i ∧ i ≤ p.l.length ∧ ∀ j : Nat, (j : Int) < i → p.l.getD j 0 = q.l.getD j 0
  sl := fun i => [(5, .int .i64 i)]
  hp := fun i => []
  keep := [10000, 10010]
  me := fun i => (p.l.length - i).toNat
set_option maxRecDepth 100000 in
theorem vc61 (p q : Pool) (hx : p.l.length ≤ 1048576) : sSameP.vc (EV Try.prog [] (invs [(4, inv61 p q)]) noInv) Try.f61 (p, q, ()) := by
  have e : (((!decide ((↑p.l.length : Int) = (↑q.l.length : Int))) = true → ∃ (y : Unit), True ∧ false = eqP p q) ∧ ((!decide ((↑p.l.length : Int) = (↑q.l.length : Int))) = false → (∃ (x : Int), (0 ≤ x ∧ x ≤ (↑p.l.length : Int) ∧ ∀ (j : Nat), (↑j : Int) < x → p.l.getD j 0 = q.l.getD j 0) ∧ 0 = x ∧ p.g = p.g ∧ p.q = p.q ∧ p.bu = p.bu ∧ p.s = p.s ∧ p.le = p.le ∧ p.l = p.l ∧ p.sp = p.sp ∧ p.pe = p.pe ∧ p.th = p.th ∧ p.em = p.em ∧ q.g = q.g ∧ q.q = q.q ∧ q.bu = q.bu ∧ q.s = q.s ∧ q.le = q.le ∧ q.l = q.l ∧ q.sp = q.sp ∧ q.pe = q.pe ∧ q.th = q.th ∧ q.em = q.em) ∧ ∀ (x : Int), (0 ≤ x ∧ x ≤ (↑p.l.length : Int) ∧ ∀ (j : Nat), (↑j : Int) < x → p.l.getD j 0 = q.l.getD j 0) → (decide (x < (↑p.l.length : Int)) = true → (0 ≤ x ∧ x < (↑p.l.length : Int)) ∧ (0 ≤ x ∧ x < (↑q.l.length : Int)) ∧ ((!decide (p.l.getD x.toNat 0 = q.l.getD x.toNat 0)) = true → ∃ (y : Unit), True ∧ false = eqP p q) ∧ ((!decide (p.l.getD x.toNat 0 = q.l.getD x.toNat 0)) = false → i64R (x + 1) ∧ ∃ (x' : Int), (0 ≤ x' ∧ x' ≤ (↑p.l.length : Int) ∧ ∀ (j : Nat), (↑j : Int) < x' → p.l.getD j 0 = q.l.getD j 0) ∧ ((↑p.l.length : Int) - x').toNat < ((↑p.l.length : Int) - x).toNat ∧ x + 1 = x' ∧ p.g = p.g ∧ p.q = p.q ∧ p.bu = p.bu ∧ p.s = p.s ∧ p.le = p.le ∧ p.l = p.l ∧ p.sp = p.sp ∧ p.pe = p.pe ∧ p.th = p.th ∧ p.em = p.em ∧ q.g = q.g ∧ q.q = q.q ∧ q.bu = q.bu ∧ q.s = q.s ∧ q.le = q.le ∧ q.l = q.l ∧ q.sp = q.sp ∧ q.pe = q.pe ∧ q.th = q.th ∧ q.em = q.em)) ∧ (decide (x < (↑p.l.length : Int)) = false → (decide (p.g = q.g) = true → decide (p.g = q.g) = true) ∧ (decide (p.g = q.g) = true → decide (p.g = q.g) = true) ∧ (decide (p.g = q.g) = true → decide (p.g = q.g) = true) ∧ (decide (p.g = q.g) = true → decide (p.g = q.g) = true) ∧ (decide (p.g = q.g) = true → decide (p.g = q.g) = true) ∧ ((decide (p.g = q.g) && decide (p.q = q.q)) = true → (decide (p.g = q.g) && decide (p.q = q.q)) = true) ∧ ((decide (p.g = q.g) && decide (p.q = q.q)) = true → (decide (p.g = q.g) && decide (p.q = q.q)) = true) ∧ ((decide (p.g = q.g) && decide (p.q = q.q)) = true → (decide (p.g = q.g) && decide (p.q = q.q)) = true) ∧ ((decide (p.g = q.g) && decide (p.q = q.q)) = true → (decide (p.g = q.g) && decide (p.q = q.q)) = true) ∧ ((decide (p.g = q.g) && decide (p.q = q.q)) = true → (decide (p.g = q.g) && decide (p.q = q.q)) = true) ∧ ((decide (p.g = q.g) && decide (p.q = q.q) && decide (p.bu = q.bu)) = true → (decide (p.g = q.g) && decide (p.q = q.q) && decide (p.bu = q.bu)) = true) ∧ ((decide (p.g = q.g) && decide (p.q = q.q) && decide (p.bu = q.bu)) = true → (decide (p.g = q.g) && decide (p.q = q.q) && decide (p.bu = q.bu)) = true) ∧ ((decide (p.g = q.g) && decide (p.q = q.q) && decide (p.bu = q.bu)) = true → (decide (p.g = q.g) && decide (p.q = q.q) && decide (p.bu = q.bu)) = true) ∧ ((decide (p.g = q.g) && decide (p.q = q.q) && decide (p.bu = q.bu)) = true → (decide (p.g = q.g) && decide (p.q = q.q) && decide (p.bu = q.bu)) = true) ∧ ((decide (p.g = q.g) && decide (p.q = q.q) && decide (p.bu = q.bu)) = true → (decide (p.g = q.g) && decide (p.q = q.q) && decide (p.bu = q.bu)) = true) ∧ ((decide (p.g = q.g) && decide (p.q = q.q) && decide (p.bu = q.bu) && decide (p.s = q.s)) = true → (decide (p.g = q.g) && decide (p.q = q.q) && decide (p.bu = q.bu) && decide (p.s = q.s)) = true) ∧ ((decide (p.g = q.g) && decide (p.q = q.q) && decide (p.bu = q.bu) && decide (p.s = q.s)) = true → (decide (p.g = q.g) && decide (p.q = q.q) && decide (p.bu = q.bu) && decide (p.s = q.s)) = true) ∧ ((decide (p.g = q.g) && decide (p.q = q.q) && decide (p.bu = q.bu) && decide (p.s = q.s)) = true → (decide (p.g = q.g) && decide (p.q = q.q) && decide (p.bu = q.bu) && decide (p.s = q.s)) = true) ∧ ((decide (p.g = q.g) && decide (p.q = q.q) && decide (p.bu = q.bu) && decide (p.s = q.s)) = true → (decide (p.g = q.g) && decide (p.q = q.q) && decide (p.bu = q.bu) && decide (p.s = q.s)) = true) ∧ ((decide (p.g = q.g) && decide (p.q = q.q) && decide (p.bu = q.bu) && decide (p.s = q.s)) = true → (decide (p.g = q.g) && decide (p.q = q.q) && decide (p.bu = q.bu) && decide (p.s = q.s)) = true) ∧ ((decide (p.g = q.g) && decide (p.q = q.q) && decide (p.bu = q.bu) && decide (p.s = q.s) && decide (p.le = q.le)) = true → (decide (p.g = q.g) && decide (p.q = q.q) && decide (p.bu = q.bu) && decide (p.s = q.s) && decide (p.le = q.le)) = true) ∧ ((decide (p.g = q.g) && decide (p.q = q.q) && decide (p.bu = q.bu) && decide (p.s = q.s) && decide (p.le = q.le)) = true → (decide (p.g = q.g) && decide (p.q = q.q) && decide (p.bu = q.bu) && decide (p.s = q.s) && decide (p.le = q.le)) = true) ∧ ((decide (p.g = q.g) && decide (p.q = q.q) && decide (p.bu = q.bu) && decide (p.s = q.s) && decide (p.le = q.le)) = true → (decide (p.g = q.g) && decide (p.q = q.q) && decide (p.bu = q.bu) && decide (p.s = q.s) && decide (p.le = q.le)) = true) ∧ ((decide (p.g = q.g) && decide (p.q = q.q) && decide (p.bu = q.bu) && decide (p.s = q.s) && decide (p.le = q.le)) = true → (decide (p.g = q.g) && decide (p.q = q.q) && decide (p.bu = q.bu) && decide (p.s = q.s) && decide (p.le = q.le)) = true) ∧ ((decide (p.g = q.g) && decide (p.q = q.q) && decide (p.bu = q.bu) && decide (p.s = q.s) && decide (p.le = q.le)) = true → (decide (p.g = q.g) && decide (p.q = q.q) && decide (p.bu = q.bu) && decide (p.s = q.s) && decide (p.le = q.le)) = true) ∧ ((decide (p.g = q.g) && decide (p.q = q.q) && decide (p.bu = q.bu) && decide (p.s = q.s) && decide (p.le = q.le) && decide (p.sp = q.sp)) = true → (decide (p.g = q.g) && decide (p.q = q.q) && decide (p.bu = q.bu) && decide (p.s = q.s) && decide (p.le = q.le) && decide (p.sp = q.sp)) = true) ∧ ((decide (p.g = q.g) && decide (p.q = q.q) && decide (p.bu = q.bu) && decide (p.s = q.s) && decide (p.le = q.le) && decide (p.sp = q.sp)) = true → (decide (p.g = q.g) && decide (p.q = q.q) && decide (p.bu = q.bu) && decide (p.s = q.s) && decide (p.le = q.le) && decide (p.sp = q.sp)) = true) ∧ ((decide (p.g = q.g) && decide (p.q = q.q) && decide (p.bu = q.bu) && decide (p.s = q.s) && decide (p.le = q.le) && decide (p.sp = q.sp)) = true → (decide (p.g = q.g) && decide (p.q = q.q) && decide (p.bu = q.bu) && decide (p.s = q.s) && decide (p.le = q.le) && decide (p.sp = q.sp)) = true) ∧ ((decide (p.g = q.g) && decide (p.q = q.q) && decide (p.bu = q.bu) && decide (p.s = q.s) && decide (p.le = q.le) && decide (p.sp = q.sp)) = true → (decide (p.g = q.g) && decide (p.q = q.q) && decide (p.bu = q.bu) && decide (p.s = q.s) && decide (p.le = q.le) && decide (p.sp = q.sp)) = true) ∧ ((decide (p.g = q.g) && decide (p.q = q.q) && decide (p.bu = q.bu) && decide (p.s = q.s) && decide (p.le = q.le) && decide (p.sp = q.sp)) = true → (decide (p.g = q.g) && decide (p.q = q.q) && decide (p.bu = q.bu) && decide (p.s = q.s) && decide (p.le = q.le) && decide (p.sp = q.sp)) = true) ∧ ((decide (p.g = q.g) && decide (p.q = q.q) && decide (p.bu = q.bu) && decide (p.s = q.s) && decide (p.le = q.le) && decide (p.sp = q.sp) && decide (p.pe = q.pe)) = true → (decide (p.g = q.g) && decide (p.q = q.q) && decide (p.bu = q.bu) && decide (p.s = q.s) && decide (p.le = q.le) && decide (p.sp = q.sp) && decide (p.pe = q.pe)) = true) ∧ ((decide (p.g = q.g) && decide (p.q = q.q) && decide (p.bu = q.bu) && decide (p.s = q.s) && decide (p.le = q.le) && decide (p.sp = q.sp) && decide (p.pe = q.pe)) = true → (decide (p.g = q.g) && decide (p.q = q.q) && decide (p.bu = q.bu) && decide (p.s = q.s) && decide (p.le = q.le) && decide (p.sp = q.sp) && decide (p.pe = q.pe)) = true) ∧ ((decide (p.g = q.g) && decide (p.q = q.q) && decide (p.bu = q.bu) && decide (p.s = q.s) && decide (p.le = q.le) && decide (p.sp = q.sp) && decide (p.pe = q.pe)) = true → (decide (p.g = q.g) && decide (p.q = q.q) && decide (p.bu = q.bu) && decide (p.s = q.s) && decide (p.le = q.le) && decide (p.sp = q.sp) && decide (p.pe = q.pe)) = true) ∧ ((decide (p.g = q.g) && decide (p.q = q.q) && decide (p.bu = q.bu) && decide (p.s = q.s) && decide (p.le = q.le) && decide (p.sp = q.sp) && decide (p.pe = q.pe)) = true → (decide (p.g = q.g) && decide (p.q = q.q) && decide (p.bu = q.bu) && decide (p.s = q.s) && decide (p.le = q.le) && decide (p.sp = q.sp) && decide (p.pe = q.pe)) = true) ∧ ((decide (p.g = q.g) && decide (p.q = q.q) && decide (p.bu = q.bu) && decide (p.s = q.s) && decide (p.le = q.le) && decide (p.sp = q.sp) && decide (p.pe = q.pe)) = true → (decide (p.g = q.g) && decide (p.q = q.q) && decide (p.bu = q.bu) && decide (p.s = q.s) && decide (p.le = q.le) && decide (p.sp = q.sp) && decide (p.pe = q.pe)) = true) ∧ ((decide (p.g = q.g) && decide (p.q = q.q) && decide (p.bu = q.bu) && decide (p.s = q.s) && decide (p.le = q.le) && decide (p.sp = q.sp) && decide (p.pe = q.pe) && decide (p.th = q.th)) = true → (decide (p.g = q.g) && decide (p.q = q.q) && decide (p.bu = q.bu) && decide (p.s = q.s) && decide (p.le = q.le) && decide (p.sp = q.sp) && decide (p.pe = q.pe) && decide (p.th = q.th)) = true) ∧ ((decide (p.g = q.g) && decide (p.q = q.q) && decide (p.bu = q.bu) && decide (p.s = q.s) && decide (p.le = q.le) && decide (p.sp = q.sp) && decide (p.pe = q.pe) && decide (p.th = q.th)) = true → (decide (p.g = q.g) && decide (p.q = q.q) && decide (p.bu = q.bu) && decide (p.s = q.s) && decide (p.le = q.le) && decide (p.sp = q.sp) && decide (p.pe = q.pe) && decide (p.th = q.th)) = true) ∧ ((decide (p.g = q.g) && decide (p.q = q.q) && decide (p.bu = q.bu) && decide (p.s = q.s) && decide (p.le = q.le) && decide (p.sp = q.sp) && decide (p.pe = q.pe) && decide (p.th = q.th)) = true → (decide (p.g = q.g) && decide (p.q = q.q) && decide (p.bu = q.bu) && decide (p.s = q.s) && decide (p.le = q.le) && decide (p.sp = q.sp) && decide (p.pe = q.pe) && decide (p.th = q.th)) = true) ∧ ((decide (p.g = q.g) && decide (p.q = q.q) && decide (p.bu = q.bu) && decide (p.s = q.s) && decide (p.le = q.le) && decide (p.sp = q.sp) && decide (p.pe = q.pe) && decide (p.th = q.th)) = true → (decide (p.g = q.g) && decide (p.q = q.q) && decide (p.bu = q.bu) && decide (p.s = q.s) && decide (p.le = q.le) && decide (p.sp = q.sp) && decide (p.pe = q.pe) && decide (p.th = q.th)) = true) ∧ ((decide (p.g = q.g) && decide (p.q = q.q) && decide (p.bu = q.bu) && decide (p.s = q.s) && decide (p.le = q.le) && decide (p.sp = q.sp) && decide (p.pe = q.pe) && decide (p.th = q.th)) = true → (decide (p.g = q.g) && decide (p.q = q.q) && decide (p.bu = q.bu) && decide (p.s = q.s) && decide (p.le = q.le) && decide (p.sp = q.sp) && decide (p.pe = q.pe) && decide (p.th = q.th)) = true) ∧ ∃ (y : Unit), True ∧ (decide (p.g = q.g) && decide (p.q = q.q) && decide (p.bu = q.bu) && decide (p.s = q.s) && decide (p.le = q.le) && decide (p.sp = q.sp) && decide (p.pe = q.pe) && decide (p.th = q.th) && p.em == q.em) = eqP p q))) = sSameP.vc (EV Try.prog [] (invs [(4, inv61 p q)]) noInv) Try.f61 (p, q, ()) := by kernel_rfl
  rw [← e]
  clear e
  simp only [imp_self, true_and, and_true, exists_const]
  simp only [i64R, Int.reduceNeg, decide_eq_true_eq, decide_eq_false_iff_not, Bool.not_eq_true', Bool.not_eq_false']
  try simp only [NilL_eq, pn_fold]
  unfold eqP
  refine ⟨fun h => ?_, fun h => ⟨⟨0, ⟨by omega, by omega, fun j hj => by omega⟩, rfl⟩, fun x hi => ⟨fun hlt => ⟨by omega, by omega, fun hne => ?_, fun he => ⟨by omega, x + 1, ⟨by omega, by omega, fun j hj => ?_⟩, by omega, rfl⟩⟩, fun hge => ?_⟩⟩⟩
  · symm; rw [decide_eq_false_iff_not]; intro e; rw [e] at h; exact h rfl
  · symm; rw [decide_eq_false_iff_not]; intro e; rw [e] at hne; exact hne rfl
  · by_cases e : (j : Int) < x
    · exact hi.2.2 j e
    · have : j = x.toNat := by omega
      rw [this]; exact he
  · have el : p.l = q.l := by
      apply List.ext_getElem (by omega)
      intro i h1 h2
      have := hi.2.2 i (by omega)
      simpa [List.getD_eq_getElem?_getD, h1, h2] using this
    obtain ⟨a0, a1, a2, a3, a4, a5, a6, a7, a8, a9⟩ := p
    obtain ⟨b0, b1, b2, b3, b4, b5, b6, b7, b8, b9⟩ := q
    dsimp only at el ⊢
    subst el
    rw [Bool.eq_iff_iff]
    simp only [Bool.and_eq_true, decide_eq_true_eq, Pool.mk.injEq, beq_iff_eq, true_and, and_assoc]
end Go.Proofs.Ytemffnpliflkgaa
