/-
  Lemmas and contracts on the way to the laws of this seat; each theorem states its own conditions, and there are no others.
-/
import Derived.Test.YtenfpjponaaolaaPA

namespace Go.Proofs.Ytenfpjponaaolaa
open Go
set_option linter.unusedVariables false


set_option maxRecDepth 100000 in
theorem vc39 (n a b : Int) (hx : True) : sWithin.vc (EV Try.prog [] noInv noInv) Try.f39 (n, a, b, ()) := Eq.mp (by kernel_rfl : ((Decidable.decide (a ≤ n) = Bool.true → Decidable.decide (a ≤ n) = Bool.true) ∧ (Decidable.decide (a ≤ n) = Bool.true → Decidable.decide (a ≤ n) = Bool.true) ∧ (Decidable.decide (a ≤ n) = Bool.true → Decidable.decide (a ≤ n) = Bool.true) ∧ ∃ (y : Unit), True ∧ (Decidable.decide (a ≤ n) && Decidable.decide (n ≤ b)) = (Decidable.decide (a ≤ n) && Decidable.decide (n ≤ b))) = sWithin.vc (EV Try.prog [] noInv noInv) Try.f39 (n, a, b, ())) (by
  simp)


set_option maxRecDepth 100000 in
theorem vc37 (n a b : Int) (hx : True) : sWithin.vc (EV Try.prog [] noInv noInv) Try.f37 (n, a, b, ()) := Eq.mp (by kernel_rfl : ((Decidable.decide (a ≤ n) = Bool.true → Decidable.decide (a ≤ n) = Bool.true) ∧ (Decidable.decide (a ≤ n) = Bool.true → Decidable.decide (a ≤ n) = Bool.true) ∧ (Decidable.decide (a ≤ n) = Bool.true → Decidable.decide (a ≤ n) = Bool.true) ∧ ∃ (y : Unit), True ∧ (Decidable.decide (a ≤ n) && Decidable.decide (n ≤ b)) = (Decidable.decide (a ≤ n) && Decidable.decide (n ≤ b))) = sWithin.vc (EV Try.prog [] noInv noInv) Try.f37 (n, a, b, ())) (by
  simp)


set_option maxRecDepth 100000 in
theorem vc13 (p : Pool) (hx : True) : sLimited.vc (EV Try.prog [] noInv noInv) Try.f13 (p, ()) := Eq.mp (by kernel_rfl : (∃ (y : Unit), True ∧ (!Decidable.decide (p.q = (4611686018427387904 : Int))) = !Decidable.decide (p.q = (4611686018427387904 : Int))) = sLimited.vc (EV Try.prog [] noInv noInv) Try.f13 (p, ())) (by
  simp)


set_option maxRecDepth 100000 in
theorem vc19 (p : Pool) (hx : True) : sLimited.vc (EV Try.prog [] noInv noInv) Try.f19 (p, ()) := Eq.mp (by kernel_rfl : (∃ (y : Unit), True ∧ (!Decidable.decide (p.q = (4611686018427387904 : Int))) = !Decidable.decide (p.q = (4611686018427387904 : Int))) = sLimited.vc (EV Try.prog [] noInv noInv) Try.f19 (p, ())) (by
  simp)


set_option maxRecDepth 100000 in
theorem vc36 (p : Pool) (hx : Rates p) : sRates.vc (EV Try.prog [(39, sWithin.spec), (13, sLimited.spec)] noInv noInv) Try.f36 (p, ()) := Eq.mp (by kernel_rfl : (True ∧ ((!!Decidable.decide (p.q = (4611686018427387904 : Int))) = Bool.true → ∃ (y : Unit), True ∧ Decidable.decide (p.bu = (0 : Int)) = Bool.true) ∧ ((!!Decidable.decide (p.q = (4611686018427387904 : Int))) = Bool.false → True ∧ ((Decidable.decide ((1 : Int) ≤ p.q) && Decidable.decide (p.q ≤ (1000000 : Int))) = Bool.true → (Decidable.decide ((1 : Int) ≤ p.q) && Decidable.decide (p.q ≤ (1000000 : Int))) = Bool.true) ∧ ((Decidable.decide ((1 : Int) ≤ p.q) && Decidable.decide (p.q ≤ (1000000 : Int))) = Bool.true → (Decidable.decide ((1 : Int) ≤ p.q) && Decidable.decide (p.q ≤ (1000000 : Int))) = Bool.true) ∧ ((Decidable.decide ((1 : Int) ≤ p.q) && Decidable.decide (p.q ≤ (1000000 : Int))) = Bool.true → (Decidable.decide ((1 : Int) ≤ p.q) && Decidable.decide (p.q ≤ (1000000 : Int))) = Bool.true) ∧ ((Decidable.decide ((1 : Int) ≤ p.q) && Decidable.decide (p.q ≤ (1000000 : Int))) = Bool.true → (Decidable.decide ((1 : Int) ≤ p.q) && Decidable.decide (p.q ≤ (1000000 : Int))) = Bool.true) ∧ ((Decidable.decide ((1 : Int) ≤ p.q) && Decidable.decide (p.q ≤ (1000000 : Int))) = Bool.true → True) ∧ ((Decidable.decide ((1 : Int) ≤ p.q) && Decidable.decide (p.q ≤ (1000000 : Int))) = Bool.true → (Decidable.decide ((1 : Int) ≤ p.q) && Decidable.decide (p.q ≤ (1000000 : Int))) = Bool.true) ∧ ∃ (y : Unit), True ∧ (Decidable.decide ((1 : Int) ≤ p.q) && Decidable.decide (p.q ≤ (1000000 : Int)) && (Decidable.decide ((0 : Int) ≤ p.bu) && Decidable.decide (p.bu ≤ p.q))) = Bool.true)) = sRates.vc (EV Try.prog [(39, sWithin.spec), (13, sLimited.spec)] noInv noInv) Try.f36 (p, ())) (by
  unfold Rates at hx
  grind)

theorem sum_take_succ (l : List Int) (i : Nat) (h : i < l.length) : (l.take (i + 1)).sum = (l.take i).sum + l.getD i 0 := by
  rw [List.take_add_one, List.sum_append]
  simp [List.getD_eq_getElem?_getD, h]
theorem sum_take_nonneg {l : List Int} (h : ∀ x ∈ l, 0 ≤ x) (i : Nat) : 0 ≤ (l.take i).sum := by
  induction l generalizing i with
  | nil => simp
  | cons a r ih =>
    cases i with
    | zero => simp
    | succ i =>
      have := ih (fun x hx => h x (by simp [hx])) i
      have := h a (by simp)
      simp only [List.take_succ_cons, List.sum_cons]; omega
theorem sum_take_le {l : List Int} (h : ∀ x ∈ l, 0 ≤ x) (i : Nat) : (l.take i).sum ≤ l.sum := by
  induction l generalizing i with
  | nil => simp
  | cons a r ih =>
    have hr : ∀ x ∈ r, 0 ≤ x := fun x hx => h x (by simp [hx])
    have h0 := h a (by simp)
    cases i with
    | zero =>
      have := sum_take_nonneg hr r.length
      rw [List.take_length] at this
      simp only [List.take_zero, List.sum_nil, List.sum_cons]; omega
    | succ i =>
      have := ih hr i
      simp only [List.take_succ_cons, List.sum_cons]; omega
theorem get_nonneg {l : List Int} (h : ∀ x ∈ l, 0 ≤ x) (i : Nat) : 0 ≤ l.getD i 0 := by
  rw [List.getD_eq_getElem?_getD]
  cases e : l[i]? with
  | none => simp
  | some x => simpa using h x (List.mem_of_getElem? e)

def inv35 (n : Int) (l : List Int) : Inv where
  X := Nat
  ok := fun i => i ≤ l.length
  sl := fun i => [(9, .int .i64 (i : Int)), (0, .int .i64 (n + (l.take i).sum))]
  hp := fun _ => []
  keep := []
  me := fun i => l.length - i
set_option maxRecDepth 100000 in
theorem vc35 (n : Int) (l : List Int) (hx : Small n l) : sSum.vc (EV Try.prog [] (invs [(2, inv35 n l)]) noInv) Try.f35 (n, l, ()) := Eq.mp (by kernel_rfl : ((∃ (x : Nat), x ≤ l.length ∧ (0 : Int) = (↑x : Int) ∧ n = n + (List.take x l).sum) ∧ ∀ (x : Nat), x ≤ l.length → (Decidable.decide ((↑x : Int) < (↑l.length : Int)) = Bool.true → ((0 : Int) ≤ (↑x : Int) ∧ (↑x : Int) < (↑l.length : Int)) ∧ i64R (n + (List.take x l).sum + l.getD (↑x : Int).toNat (0 : Int)) ∧ i64R ((↑x : Int) + (1 : Int)) ∧ ∃ (x' : Nat), x' ≤ l.length ∧ l.length - x' < l.length - x ∧ (↑x : Int) + (1 : Int) = (↑x' : Int) ∧ n + (List.take x l).sum + l.getD (↑x : Int).toNat (0 : Int) = n + (List.take x' l).sum) ∧ (Decidable.decide ((↑x : Int) < (↑l.length : Int)) = Bool.false → ∃ (y : Unit), True ∧ n + (List.take x l).sum = n + l.sum)) = sSum.vc (EV Try.prog [] (invs [(2, inv35 n l)]) noInv) Try.f35 (n, l, ())) (by
  obtain ⟨h1, h2, h3, h4⟩ := hx
  refine ⟨⟨0, by omega, rfl, by simp⟩, fun i hi => ⟨fun hlt => ?_, fun hge => ⟨(), trivial, ?_⟩⟩⟩
  · simp only [decide_eq_true_eq] at hlt
    have hi' : i < l.length := by omega
    have hs := sum_take_succ l i hi'
    have hb := sum_take_le h2 (i + 1)
    have hb0 := sum_take_nonneg h2 i
    have hx0 := get_nonneg h2 i
    simp only [Int.toNat_natCast, i64R]
    refine ⟨by omega, by omega, by omega, i + 1, by omega, by omega, by omega, by omega⟩
  · simp only [decide_eq_false_iff_not] at hge
    rw [List.take_of_length_le (by omega)])


set_option maxRecDepth 100000 in
theorem vc14 (p : Pool) (hx : Small p.le p.l) : sHeld.vc (EV Try.prog [(35, sSum.spec)] noInv noInv) Try.f14 (p, ()) := Eq.mp (by kernel_rfl : (Small p.le p.l ∧ ∃ (y : Unit), True ∧ p.le + p.l.sum = p.le + p.l.sum) = sHeld.vc (EV Try.prog [(35, sSum.spec)] noInv noInv) Try.f14 (p, ())) (by
  exact ⟨hx, (), trivial, rfl⟩)


set_option maxRecDepth 100000 in
theorem vc44 (p : Pool) (hx : Good p) : sGood.vc (EV Try.prog [(39, sWithin.spec)] noInv noInv) Try.f44 (p, ()) := Eq.mp (by kernel_rfl : (((!p.em) = Bool.true → i64R (p.th + (1 : Int)) ∧ True ∧ ((Decidable.decide ((0 : Int) ≤ p.sp) && Decidable.decide (p.sp ≤ (1099511627776 : Int))) = Bool.true → (Decidable.decide ((0 : Int) ≤ p.sp) && Decidable.decide (p.sp ≤ (1099511627776 : Int))) = Bool.true) ∧ ((Decidable.decide ((0 : Int) ≤ p.sp) && Decidable.decide (p.sp ≤ (1099511627776 : Int))) = Bool.true → (Decidable.decide ((0 : Int) ≤ p.sp) && Decidable.decide (p.sp ≤ (1099511627776 : Int))) = Bool.true) ∧ ((Decidable.decide ((0 : Int) ≤ p.sp) && Decidable.decide (p.sp ≤ (1099511627776 : Int))) = Bool.true → True) ∧ ((Decidable.decide ((0 : Int) ≤ p.sp) && Decidable.decide (p.sp ≤ (1099511627776 : Int))) = Bool.true → (Decidable.decide ((0 : Int) ≤ p.sp) && Decidable.decide (p.sp ≤ (1099511627776 : Int))) = Bool.true) ∧ ((Decidable.decide ((0 : Int) ≤ p.sp) && Decidable.decide (p.sp ≤ (1099511627776 : Int)) && (Decidable.decide ((0 : Int) ≤ p.pe) && Decidable.decide (p.pe ≤ (1099511627776 : Int)))) = Bool.true → (Decidable.decide ((0 : Int) ≤ p.sp) && Decidable.decide (p.sp ≤ (1099511627776 : Int)) && (Decidable.decide ((0 : Int) ≤ p.pe) && Decidable.decide (p.pe ≤ (1099511627776 : Int)))) = Bool.true) ∧ ((Decidable.decide ((0 : Int) ≤ p.sp) && Decidable.decide (p.sp ≤ (1099511627776 : Int)) && (Decidable.decide ((0 : Int) ≤ p.pe) && Decidable.decide (p.pe ≤ (1099511627776 : Int)))) = Bool.true → (Decidable.decide ((0 : Int) ≤ p.sp) && Decidable.decide (p.sp ≤ (1099511627776 : Int)) && (Decidable.decide ((0 : Int) ≤ p.pe) && Decidable.decide (p.pe ≤ (1099511627776 : Int)))) = Bool.true) ∧ ((Decidable.decide ((0 : Int) ≤ p.sp) && Decidable.decide (p.sp ≤ (1099511627776 : Int)) && (Decidable.decide ((0 : Int) ≤ p.pe) && Decidable.decide (p.pe ≤ (1099511627776 : Int)))) = Bool.true → True) ∧ ((Decidable.decide ((0 : Int) ≤ p.sp) && Decidable.decide (p.sp ≤ (1099511627776 : Int)) && (Decidable.decide ((0 : Int) ≤ p.pe) && Decidable.decide (p.pe ≤ (1099511627776 : Int)))) = Bool.true → (Decidable.decide ((0 : Int) ≤ p.sp) && Decidable.decide (p.sp ≤ (1099511627776 : Int)) && (Decidable.decide ((0 : Int) ≤ p.pe) && Decidable.decide (p.pe ≤ (1099511627776 : Int)))) = Bool.true) ∧ ((Decidable.decide ((0 : Int) ≤ p.sp) && Decidable.decide (p.sp ≤ (1099511627776 : Int)) && (Decidable.decide ((0 : Int) ≤ p.pe) && Decidable.decide (p.pe ≤ (1099511627776 : Int))) && (Decidable.decide ((0 : Int) ≤ p.th) && Decidable.decide (p.th ≤ (1099511627776 : Int)))) = Bool.true → (Decidable.decide ((0 : Int) ≤ p.sp) && Decidable.decide (p.sp ≤ (1099511627776 : Int)) && (Decidable.decide ((0 : Int) ≤ p.pe) && Decidable.decide (p.pe ≤ (1099511627776 : Int))) && (Decidable.decide ((0 : Int) ≤ p.th) && Decidable.decide (p.th ≤ (1099511627776 : Int)))) = Bool.true) ∧ ((Decidable.decide ((0 : Int) ≤ p.sp) && Decidable.decide (p.sp ≤ (1099511627776 : Int)) && (Decidable.decide ((0 : Int) ≤ p.pe) && Decidable.decide (p.pe ≤ (1099511627776 : Int))) && (Decidable.decide ((0 : Int) ≤ p.th) && Decidable.decide (p.th ≤ (1099511627776 : Int)))) = Bool.true → (Decidable.decide ((0 : Int) ≤ p.sp) && Decidable.decide (p.sp ≤ (1099511627776 : Int)) && (Decidable.decide ((0 : Int) ≤ p.pe) && Decidable.decide (p.pe ≤ (1099511627776 : Int))) && (Decidable.decide ((0 : Int) ≤ p.th) && Decidable.decide (p.th ≤ (1099511627776 : Int)))) = Bool.true) ∧ ((Decidable.decide ((0 : Int) ≤ p.sp) && Decidable.decide (p.sp ≤ (1099511627776 : Int)) && (Decidable.decide ((0 : Int) ≤ p.pe) && Decidable.decide (p.pe ≤ (1099511627776 : Int))) && (Decidable.decide ((0 : Int) ≤ p.th) && Decidable.decide (p.th ≤ (1099511627776 : Int)))) = Bool.true → (Decidable.decide ((0 : Int) ≤ p.sp) && Decidable.decide (p.sp ≤ (1099511627776 : Int)) && (Decidable.decide ((0 : Int) ≤ p.pe) && Decidable.decide (p.pe ≤ (1099511627776 : Int))) && (Decidable.decide ((0 : Int) ≤ p.th) && Decidable.decide (p.th ≤ (1099511627776 : Int)))) = Bool.true) ∧ ((Decidable.decide ((0 : Int) ≤ p.sp) && Decidable.decide (p.sp ≤ (1099511627776 : Int)) && (Decidable.decide ((0 : Int) ≤ p.pe) && Decidable.decide (p.pe ≤ (1099511627776 : Int))) && (Decidable.decide ((0 : Int) ≤ p.th) && Decidable.decide (p.th ≤ (1099511627776 : Int)))) = Bool.true → (Decidable.decide ((0 : Int) ≤ p.sp) && Decidable.decide (p.sp ≤ (1099511627776 : Int)) && (Decidable.decide ((0 : Int) ≤ p.pe) && Decidable.decide (p.pe ≤ (1099511627776 : Int))) && (Decidable.decide ((0 : Int) ≤ p.th) && Decidable.decide (p.th ≤ (1099511627776 : Int)))) = Bool.true) ∧ ∃ (y : Unit), True ∧ (Decidable.decide ((0 : Int) ≤ p.sp) && Decidable.decide (p.sp ≤ (1099511627776 : Int)) && (Decidable.decide ((0 : Int) ≤ p.pe) && Decidable.decide (p.pe ≤ (1099511627776 : Int))) && (Decidable.decide ((0 : Int) ≤ p.th) && Decidable.decide (p.th ≤ (1099511627776 : Int))) && Decidable.decide (p.th + (1 : Int) ≤ p.pe)) = Bool.true) ∧ ((!p.em) = Bool.false → True ∧ ((Decidable.decide ((0 : Int) ≤ p.sp) && Decidable.decide (p.sp ≤ (1099511627776 : Int))) = Bool.true → (Decidable.decide ((0 : Int) ≤ p.sp) && Decidable.decide (p.sp ≤ (1099511627776 : Int))) = Bool.true) ∧ ((Decidable.decide ((0 : Int) ≤ p.sp) && Decidable.decide (p.sp ≤ (1099511627776 : Int))) = Bool.true → (Decidable.decide ((0 : Int) ≤ p.sp) && Decidable.decide (p.sp ≤ (1099511627776 : Int))) = Bool.true) ∧ ((Decidable.decide ((0 : Int) ≤ p.sp) && Decidable.decide (p.sp ≤ (1099511627776 : Int))) = Bool.true → True) ∧ ((Decidable.decide ((0 : Int) ≤ p.sp) && Decidable.decide (p.sp ≤ (1099511627776 : Int))) = Bool.true → (Decidable.decide ((0 : Int) ≤ p.sp) && Decidable.decide (p.sp ≤ (1099511627776 : Int))) = Bool.true) ∧ ((Decidable.decide ((0 : Int) ≤ p.sp) && Decidable.decide (p.sp ≤ (1099511627776 : Int)) && (Decidable.decide ((0 : Int) ≤ p.pe) && Decidable.decide (p.pe ≤ (1099511627776 : Int)))) = Bool.true → (Decidable.decide ((0 : Int) ≤ p.sp) && Decidable.decide (p.sp ≤ (1099511627776 : Int)) && (Decidable.decide ((0 : Int) ≤ p.pe) && Decidable.decide (p.pe ≤ (1099511627776 : Int)))) = Bool.true) ∧ ((Decidable.decide ((0 : Int) ≤ p.sp) && Decidable.decide (p.sp ≤ (1099511627776 : Int)) && (Decidable.decide ((0 : Int) ≤ p.pe) && Decidable.decide (p.pe ≤ (1099511627776 : Int)))) = Bool.true → (Decidable.decide ((0 : Int) ≤ p.sp) && Decidable.decide (p.sp ≤ (1099511627776 : Int)) && (Decidable.decide ((0 : Int) ≤ p.pe) && Decidable.decide (p.pe ≤ (1099511627776 : Int)))) = Bool.true) ∧ ((Decidable.decide ((0 : Int) ≤ p.sp) && Decidable.decide (p.sp ≤ (1099511627776 : Int)) && (Decidable.decide ((0 : Int) ≤ p.pe) && Decidable.decide (p.pe ≤ (1099511627776 : Int)))) = Bool.true → True) ∧ ((Decidable.decide ((0 : Int) ≤ p.sp) && Decidable.decide (p.sp ≤ (1099511627776 : Int)) && (Decidable.decide ((0 : Int) ≤ p.pe) && Decidable.decide (p.pe ≤ (1099511627776 : Int)))) = Bool.true → (Decidable.decide ((0 : Int) ≤ p.sp) && Decidable.decide (p.sp ≤ (1099511627776 : Int)) && (Decidable.decide ((0 : Int) ≤ p.pe) && Decidable.decide (p.pe ≤ (1099511627776 : Int)))) = Bool.true) ∧ ((Decidable.decide ((0 : Int) ≤ p.sp) && Decidable.decide (p.sp ≤ (1099511627776 : Int)) && (Decidable.decide ((0 : Int) ≤ p.pe) && Decidable.decide (p.pe ≤ (1099511627776 : Int))) && (Decidable.decide ((0 : Int) ≤ p.th) && Decidable.decide (p.th ≤ (1099511627776 : Int)))) = Bool.true → (Decidable.decide ((0 : Int) ≤ p.sp) && Decidable.decide (p.sp ≤ (1099511627776 : Int)) && (Decidable.decide ((0 : Int) ≤ p.pe) && Decidable.decide (p.pe ≤ (1099511627776 : Int))) && (Decidable.decide ((0 : Int) ≤ p.th) && Decidable.decide (p.th ≤ (1099511627776 : Int)))) = Bool.true) ∧ ((Decidable.decide ((0 : Int) ≤ p.sp) && Decidable.decide (p.sp ≤ (1099511627776 : Int)) && (Decidable.decide ((0 : Int) ≤ p.pe) && Decidable.decide (p.pe ≤ (1099511627776 : Int))) && (Decidable.decide ((0 : Int) ≤ p.th) && Decidable.decide (p.th ≤ (1099511627776 : Int)))) = Bool.true → (Decidable.decide ((0 : Int) ≤ p.sp) && Decidable.decide (p.sp ≤ (1099511627776 : Int)) && (Decidable.decide ((0 : Int) ≤ p.pe) && Decidable.decide (p.pe ≤ (1099511627776 : Int))) && (Decidable.decide ((0 : Int) ≤ p.th) && Decidable.decide (p.th ≤ (1099511627776 : Int)))) = Bool.true) ∧ ((Decidable.decide ((0 : Int) ≤ p.sp) && Decidable.decide (p.sp ≤ (1099511627776 : Int)) && (Decidable.decide ((0 : Int) ≤ p.pe) && Decidable.decide (p.pe ≤ (1099511627776 : Int))) && (Decidable.decide ((0 : Int) ≤ p.th) && Decidable.decide (p.th ≤ (1099511627776 : Int)))) = Bool.true → (Decidable.decide ((0 : Int) ≤ p.sp) && Decidable.decide (p.sp ≤ (1099511627776 : Int)) && (Decidable.decide ((0 : Int) ≤ p.pe) && Decidable.decide (p.pe ≤ (1099511627776 : Int))) && (Decidable.decide ((0 : Int) ≤ p.th) && Decidable.decide (p.th ≤ (1099511627776 : Int)))) = Bool.true) ∧ ((Decidable.decide ((0 : Int) ≤ p.sp) && Decidable.decide (p.sp ≤ (1099511627776 : Int)) && (Decidable.decide ((0 : Int) ≤ p.pe) && Decidable.decide (p.pe ≤ (1099511627776 : Int))) && (Decidable.decide ((0 : Int) ≤ p.th) && Decidable.decide (p.th ≤ (1099511627776 : Int)))) = Bool.true → (Decidable.decide ((0 : Int) ≤ p.sp) && Decidable.decide (p.sp ≤ (1099511627776 : Int)) && (Decidable.decide ((0 : Int) ≤ p.pe) && Decidable.decide (p.pe ≤ (1099511627776 : Int))) && (Decidable.decide ((0 : Int) ≤ p.th) && Decidable.decide (p.th ≤ (1099511627776 : Int)))) = Bool.true) ∧ ∃ (y : Unit), True ∧ (Decidable.decide ((0 : Int) ≤ p.sp) && Decidable.decide (p.sp ≤ (1099511627776 : Int)) && (Decidable.decide ((0 : Int) ≤ p.pe) && Decidable.decide (p.pe ≤ (1099511627776 : Int))) && (Decidable.decide ((0 : Int) ≤ p.th) && Decidable.decide (p.th ≤ (1099511627776 : Int))) && Decidable.decide (p.th ≤ p.pe)) = Bool.true)) = sGood.vc (EV Try.prog [(39, sWithin.spec)] noInv noInv) Try.f44 (p, ())) (by
  obtain ⟨_, _, _, _, _, _, _, _, _, _, _, _, h⟩ := hx
  simp only [i64R]
  grind)


set_option maxRecDepth 100000 in
theorem vc45 (l : List Int) (hx : l.length ≤ 1048576) : sClone.vc (EV Try.prog [] noInv noInv) Try.f45 (l, ()) := Eq.mp (by kernel_rfl : (∀ (y : Bool), (y = Bool.true → l = NilL Int) → (y = Bool.true → ∃ (y : Unit), True ∧ NilL Int = l) ∧ (y = Bool.false → (NilL Int).length + l.length ≤ (1099511627776 : Nat) ∧ ∃ (y : Unit), True ∧ NilL Int ++ l = l)) = sClone.vc (EV Try.prog [] noInv noInv) Try.f45 (l, ())) (by
  simp only [NilL_eq]
  intro y hy
  refine ⟨fun h => ⟨(), trivial, (hy h).symm⟩, fun _ => ⟨by simp; omega, (), trivial, rfl⟩⟩)


set_option maxRecDepth 100000 in
theorem vc34 (p : Pool) (hx : p.l.length ≤ 1048576) : sCopied.vc (EV Try.prog [(45, sClone.spec)] noInv noInv) Try.f34 (p, ()) := Eq.mp (by kernel_rfl : (p.l.length ≤ (1048576 : Nat) ∧ ∃ (y : Unit), True ∧ p.g = p.g ∧ p.q = p.q ∧ p.bu = p.bu ∧ p.s = p.s ∧ p.le = p.le ∧ p.sp = p.sp ∧ p.pe = p.pe ∧ p.th = p.th ∧ p.em = p.em ∧ p.l = p.l) = sCopied.vc (EV Try.prog [(45, sClone.spec)] noInv noInv) Try.f34 (p, ())) (by
  simp [hx])
end Go.Proofs.Ytenfpjponaaolaa
