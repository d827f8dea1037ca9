/-
  Lemmas and contracts on the way to the laws of this seat; each theorem states its own conditions, and there are no others.
-/
import Derived.Test.YtenfpjponaaolaaPA

namespace Go.Proofs.Ytenfpjponaaolaa
open Go
set_option linter.unusedVariables false
set_option linter.unusedSimpArgs false
set_option linter.unusedVariables false


set_option maxRecDepth 100000 in
theorem vc39 (n a b : Int) (hx : True) : sWithin.vc (EV Try.prog [] noInv noInv) Try.f39 (n, a, b, ()) := by
  have e : ((decide (a ≤ n) = true → decide (a ≤ n) = true) ∧ (decide (a ≤ n) = true → decide (a ≤ n) = true) ∧ (decide (a ≤ n) = true → decide (a ≤ n) = true) ∧ ∃ (y : Unit), True ∧ (decide (a ≤ n) && decide (n ≤ b)) = (decide (a ≤ n) && decide (n ≤ b))) = sWithin.vc (EV Try.prog [] noInv noInv) Try.f39 (n, a, b, ()) := by kernel_rfl
  rw [← e]
  clear e
  simp


set_option maxRecDepth 100000 in
theorem vc37 (n a b : Int) (hx : True) : sWithin.vc (EV Try.prog [] noInv noInv) Try.f37 (n, a, b, ()) := by
  have e : ((decide (a ≤ n) = true → decide (a ≤ n) = true) ∧ (decide (a ≤ n) = true → decide (a ≤ n) = true) ∧ (decide (a ≤ n) = true → decide (a ≤ n) = true) ∧ ∃ (y : Unit), True ∧ (decide (a ≤ n) && decide (n ≤ b)) = (decide (a ≤ n) && decide (n ≤ b))) = sWithin.vc (EV Try.prog [] noInv noInv) Try.f37 (n, a, b, ()) := by kernel_rfl
  rw [← e]
  clear e
  simp


set_option maxRecDepth 100000 in
theorem vc13 (p : Pool) (hx : True) : sLimited.vc (EV Try.prog [] noInv noInv) Try.f13 (p, ()) := by
  have e : (∃ (y : Unit), True ∧ (!decide (p.q = 4611686018427387904)) = !decide (p.q = 4611686018427387904)) = sLimited.vc (EV Try.prog [] noInv noInv) Try.f13 (p, ()) := by kernel_rfl
  rw [← e]
  clear e
  simp


set_option maxRecDepth 100000 in
theorem vc19 (p : Pool) (hx : True) : sLimited.vc (EV Try.prog [] noInv noInv) Try.f19 (p, ()) := by
  have e : (∃ (y : Unit), True ∧ (!decide (p.q = 4611686018427387904)) = !decide (p.q = 4611686018427387904)) = sLimited.vc (EV Try.prog [] noInv noInv) Try.f19 (p, ()) := by kernel_rfl
  rw [← e]
  clear e
  simp


set_option maxRecDepth 100000 in
theorem vc36 (p : Pool) (hx : Rates p) : sRates.vc (EV Try.prog [(39, sWithin.spec), (13, sLimited.spec)] noInv noInv) Try.f36 (p, ()) := by
  have e : (True ∧ ((!!decide (p.q = 4611686018427387904)) = true → ∃ (y : Unit), True ∧ decide (p.bu = 0) = true) ∧ ((!!decide (p.q = 4611686018427387904)) = false → True ∧ ((decide (1 ≤ p.q) && decide (p.q ≤ 1000000)) = true → (decide (1 ≤ p.q) && decide (p.q ≤ 1000000)) = true) ∧ ((decide (1 ≤ p.q) && decide (p.q ≤ 1000000)) = true → (decide (1 ≤ p.q) && decide (p.q ≤ 1000000)) = true) ∧ ((decide (1 ≤ p.q) && decide (p.q ≤ 1000000)) = true → (decide (1 ≤ p.q) && decide (p.q ≤ 1000000)) = true) ∧ ((decide (1 ≤ p.q) && decide (p.q ≤ 1000000)) = true → (decide (1 ≤ p.q) && decide (p.q ≤ 1000000)) = true) ∧ ((decide (1 ≤ p.q) && decide (p.q ≤ 1000000)) = true → True) ∧ ((decide (1 ≤ p.q) && decide (p.q ≤ 1000000)) = true → (decide (1 ≤ p.q) && decide (p.q ≤ 1000000)) = true) ∧ ∃ (y : Unit), True ∧ (decide (1 ≤ p.q) && decide (p.q ≤ 1000000) && (decide (0 ≤ p.bu) && decide (p.bu ≤ p.q))) = true)) = sRates.vc (EV Try.prog [(39, sWithin.spec), (13, sLimited.spec)] noInv noInv) Try.f36 (p, ()) := by kernel_rfl
  rw [← e]
  clear e
  unfold Rates at hx
  grind

theorem sum_take_succ (l : List Int) (i : Nat) (h : i < l.length) : (l.take (i + 1)).sum = (l.take i).sum + l.getD i 0 := by
  rw [List.take_add_one, List.sum_append]
  simp [List.getD_eq_getElem?_getD, h]
theorem sum_take_nonneg {l : List Int} (h : ∀ x ∈ l, 0 ≤ x) (i : Nat) : 0 ≤ (l.take i).sum := by
  induction l generalizing i with
  | nil => simp
  | cons a r ih =>
    cases i with
    | zero => simp
    | succ i =>
      have := ih (fun x hx => h x (by simp [hx])) i
      have := h a (by simp)
      simp only [List.take_succ_cons, List.sum_cons]; omega
theorem sum_take_le {l : List Int} (h : ∀ x ∈ l, 0 ≤ x) (i : Nat) : (l.take i).sum ≤ l.sum := by
  induction l generalizing i with
  | nil => simp
  | cons a r ih =>
    have hr : ∀ x ∈ r, 0 ≤ x := fun x hx => h x (by simp [hx])
    have h0 := h a (by simp)
    cases i with
    | zero =>
      have := sum_take_nonneg hr r.length
      rw [List.take_length] at this
      simp only [List.take_zero, List.sum_nil, List.sum_cons]; omega
    | succ i =>
      have := ih hr i
      simp only [List.take_succ_cons, List.sum_cons]; omega
theorem get_nonneg {l : List Int} (h : ∀ x ∈ l, 0 ≤ x) (i : Nat) : 0 ≤ l.getD i 0 := by
  rw [List.getD_eq_getElem?_getD]
  cases e : l[i]? with
  | none => simp
  | some x => simpa using h x (List.mem_of_getElem? e)

def inv35 (n : Int) (l : List Int) : Inv where
  X := Nat
  ok := fun i => i ≤ l.length
  sl := fun i => [(9, .int .i64 (i : Int)), (0, .int .i64 (n + (l.take i).sum))]
  hp := fun _ => []
  keep := []
  me := fun i => l.length - i
set_option maxRecDepth 100000 in
theorem vc35 (n : Int) (l : List Int) (hx : Small n l) : sSum.vc (EV Try.prog [] (invs [(2, inv35 n l)]) noInv) Try.f35 (n, l, ()) := by
  have e : ((∃ (x : Nat), x ≤ l.length ∧ 0 = (↑x : Int) ∧ n = n + (List.take x l).sum) ∧ ∀ (x : Nat), x ≤ l.length → (decide ((↑x : Int) < (↑l.length : Int)) = true → (0 ≤ (↑x : Int) ∧ (↑x : Int) < (↑l.length : Int)) ∧ i64R (n + (List.take x l).sum + l.getD (↑x : Int).toNat 0) ∧ i64R ((↑x : Int) + 1) ∧ ∃ (x' : Nat), x' ≤ l.length ∧ l.length - x' < l.length - x ∧ (↑x : Int) + 1 = (↑x' : Int) ∧ n + (List.take x l).sum + l.getD (↑x : Int).toNat 0 = n + (List.take x' l).sum) ∧ (decide ((↑x : Int) < (↑l.length : Int)) = false → ∃ (y : Unit), True ∧ n + (List.take x l).sum = n + l.sum)) = sSum.vc (EV Try.prog [] (invs [(2, inv35 n l)]) noInv) Try.f35 (n, l, ()) := by kernel_rfl
  rw [← e]
  clear e
  obtain ⟨h1, h2, h3, h4⟩ := hx
  refine ⟨⟨0, by omega, rfl, by simp⟩, fun i hi => ⟨fun hlt => ?_, fun hge => ⟨(), trivial, ?_⟩⟩⟩
  · simp only [decide_eq_true_eq] at hlt
    have hi' : i < l.length := by omega
    have hs := sum_take_succ l i hi'
    have hb := sum_take_le h2 (i + 1)
    have hb0 := sum_take_nonneg h2 i
    have hx0 := get_nonneg h2 i
    simp only [Int.toNat_natCast, i64R]
    refine ⟨by omega, by omega, by omega, i + 1, by omega, by omega, by omega, by omega⟩
  · simp only [decide_eq_false_iff_not] at hge
    rw [List.take_of_length_le (by omega)]


set_option maxRecDepth 100000 in
theorem vc14 (p : Pool) (hx : Small p.le p.l) : sHeld.vc (EV Try.prog [(35, sSum.spec)] noInv noInv) Try.f14 (p, ()) := by
  have e : (Small p.le p.l ∧ ∃ (y : Unit), True ∧ p.le + p.l.sum = p.le + p.l.sum) = sHeld.vc (EV Try.prog [(35, sSum.spec)] noInv noInv) Try.f14 (p, ()) := by kernel_rfl
  rw [← e]
  clear e
  exact ⟨hx, (), trivial, rfl⟩


set_option maxRecDepth 100000 in
theorem vc44 (p : Pool) (hx : Good p) : sGood.vc (EV Try.prog [(39, sWithin.spec)] noInv noInv) Try.f44 (p, ()) := by
  have e : (((!p.em) = true → i64R (p.th + 1) ∧ True ∧ ((decide (0 ≤ p.sp) && decide (p.sp ≤ 1099511627776)) = true → (decide (0 ≤ p.sp) && decide (p.sp ≤ 1099511627776)) = true) ∧ ((decide (0 ≤ p.sp) && decide (p.sp ≤ 1099511627776)) = true → (decide (0 ≤ p.sp) && decide (p.sp ≤ 1099511627776)) = true) ∧ ((decide (0 ≤ p.sp) && decide (p.sp ≤ 1099511627776)) = true → True) ∧ ((decide (0 ≤ p.sp) && decide (p.sp ≤ 1099511627776)) = true → (decide (0 ≤ p.sp) && decide (p.sp ≤ 1099511627776)) = true) ∧ ((decide (0 ≤ p.sp) && decide (p.sp ≤ 1099511627776) && (decide (0 ≤ p.pe) && decide (p.pe ≤ 1099511627776))) = true → (decide (0 ≤ p.sp) && decide (p.sp ≤ 1099511627776) && (decide (0 ≤ p.pe) && decide (p.pe ≤ 1099511627776))) = true) ∧ ((decide (0 ≤ p.sp) && decide (p.sp ≤ 1099511627776) && (decide (0 ≤ p.pe) && decide (p.pe ≤ 1099511627776))) = true → (decide (0 ≤ p.sp) && decide (p.sp ≤ 1099511627776) && (decide (0 ≤ p.pe) && decide (p.pe ≤ 1099511627776))) = true) ∧ ((decide (0 ≤ p.sp) && decide (p.sp ≤ 1099511627776) && (decide (0 ≤ p.pe) && decide (p.pe ≤ 1099511627776))) = true → True) ∧ ((decide (0 ≤ p.sp) && decide (p.sp ≤ 1099511627776) && (decide (0 ≤ p.pe) && decide (p.pe ≤ 1099511627776))) = true → (decide (0 ≤ p.sp) && decide (p.sp ≤ 1099511627776) && (decide (0 ≤ p.pe) && decide (p.pe ≤ 1099511627776))) = true) ∧ ((decide (0 ≤ p.sp) && decide (p.sp ≤ 1099511627776) && (decide (0 ≤ p.pe) && decide (p.pe ≤ 1099511627776)) && (decide (0 ≤ p.th) && decide (p.th ≤ 1099511627776))) = true → (decide (0 ≤ p.sp) && decide (p.sp ≤ 1099511627776) && (decide (0 ≤ p.pe) && decide (p.pe ≤ 1099511627776)) && (decide (0 ≤ p.th) && decide (p.th ≤ 1099511627776))) = true) ∧ ((decide (0 ≤ p.sp) && decide (p.sp ≤ 1099511627776) && (decide (0 ≤ p.pe) && decide (p.pe ≤ 1099511627776)) && (decide (0 ≤ p.th) && decide (p.th ≤ 1099511627776))) = true → (decide (0 ≤ p.sp) && decide (p.sp ≤ 1099511627776) && (decide (0 ≤ p.pe) && decide (p.pe ≤ 1099511627776)) && (decide (0 ≤ p.th) && decide (p.th ≤ 1099511627776))) = true) ∧ ((decide (0 ≤ p.sp) && decide (p.sp ≤ 1099511627776) && (decide (0 ≤ p.pe) && decide (p.pe ≤ 1099511627776)) && (decide (0 ≤ p.th) && decide (p.th ≤ 1099511627776))) = true → (decide (0 ≤ p.sp) && decide (p.sp ≤ 1099511627776) && (decide (0 ≤ p.pe) && decide (p.pe ≤ 1099511627776)) && (decide (0 ≤ p.th) && decide (p.th ≤ 1099511627776))) = true) ∧ ((decide (0 ≤ p.sp) && decide (p.sp ≤ 1099511627776) && (decide (0 ≤ p.pe) && decide (p.pe ≤ 1099511627776)) && (decide (0 ≤ p.th) && decide (p.th ≤ 1099511627776))) = true → (decide (0 ≤ p.sp) && decide (p.sp ≤ 1099511627776) && (decide (0 ≤ p.pe) && decide (p.pe ≤ 1099511627776)) && (decide (0 ≤ p.th) && decide (p.th ≤ 1099511627776))) = true) ∧ ∃ (y : Unit), True ∧ (decide (0 ≤ p.sp) && decide (p.sp ≤ 1099511627776) && (decide (0 ≤ p.pe) && decide (p.pe ≤ 1099511627776)) && (decide (0 ≤ p.th) && decide (p.th ≤ 1099511627776)) && decide (p.th + 1 ≤ p.pe)) = true) ∧ ((!p.em) = false → True ∧ ((decide (0 ≤ p.sp) && decide (p.sp ≤ 1099511627776)) = true → (decide (0 ≤ p.sp) && decide (p.sp ≤ 1099511627776)) = true) ∧ ((decide (0 ≤ p.sp) && decide (p.sp ≤ 1099511627776)) = true → (decide (0 ≤ p.sp) && decide (p.sp ≤ 1099511627776)) = true) ∧ ((decide (0 ≤ p.sp) && decide (p.sp ≤ 1099511627776)) = true → True) ∧ ((decide (0 ≤ p.sp) && decide (p.sp ≤ 1099511627776)) = true → (decide (0 ≤ p.sp) && decide (p.sp ≤ 1099511627776)) = true) ∧ ((decide (0 ≤ p.sp) && decide (p.sp ≤ 1099511627776) && (decide (0 ≤ p.pe) && decide (p.pe ≤ 1099511627776))) = true → (decide (0 ≤ p.sp) && decide (p.sp ≤ 1099511627776) && (decide (0 ≤ p.pe) && decide (p.pe ≤ 1099511627776))) = true) ∧ ((decide (0 ≤ p.sp) && decide (p.sp ≤ 1099511627776) && (decide (0 ≤ p.pe) && decide (p.pe ≤ 1099511627776))) = true → (decide (0 ≤ p.sp) && decide (p.sp ≤ 1099511627776) && (decide (0 ≤ p.pe) && decide (p.pe ≤ 1099511627776))) = true) ∧ ((decide (0 ≤ p.sp) && decide (p.sp ≤ 1099511627776) && (decide (0 ≤ p.pe) && decide (p.pe ≤ 1099511627776))) = true → True) ∧ ((decide (0 ≤ p.sp) && decide (p.sp ≤ 1099511627776) && (decide (0 ≤ p.pe) && decide (p.pe ≤ 1099511627776))) = true → (decide (0 ≤ p.sp) && decide (p.sp ≤ 1099511627776) && (decide (0 ≤ p.pe) && decide (p.pe ≤ 1099511627776))) = true) ∧ ((decide (0 ≤ p.sp) && decide (p.sp ≤ 1099511627776) && (decide (0 ≤ p.pe) && decide (p.pe ≤ 1099511627776)) && (decide (0 ≤ p.th) && decide (p.th ≤ 1099511627776))) = true → (decide (0 ≤ p.sp) && decide (p.sp ≤ 1099511627776) && (decide (0 ≤ p.pe) && decide (p.pe ≤ 1099511627776)) && (decide (0 ≤ p.th) && decide (p.th ≤ 1099511627776))) = true) ∧ ((decide (0 ≤ p.sp) && decide (p.sp ≤ 1099511627776) && (decide (0 ≤ p.pe) && decide (p.pe ≤ 1099511627776)) && (decide (0 ≤ p.th) && decide (p.th ≤ 1099511627776))) = true → (decide (0 ≤ p.sp) && decide (p.sp ≤ 1099511627776) && (decide (0 ≤ p.pe) && decide (p.pe ≤ 1099511627776)) && (decide (0 ≤ p.th) && decide (p.th ≤ 1099511627776))) = true) ∧ ((decide (0 ≤ p.sp) && decide (p.sp ≤ 1099511627776) && (decide (0 ≤ p.pe) && decide (p.pe ≤ 1099511627776)) && (decide (0 ≤ p.th) && decide (p.th ≤ 1099511627776))) = true → (decide (0 ≤ p.sp) && decide (p.sp ≤ 1099511627776) && (decide (0 ≤ p.pe) && decide (p.pe ≤ 1099511627776)) && (decide (0 ≤ p.th) && decide (p.th ≤ 1099511627776))) = true) ∧ ((decide (0 ≤ p.sp) && decide (p.sp ≤ 1099511627776) && (decide (0 ≤ p.pe) && decide (p.pe ≤ 1099511627776)) && (decide (0 ≤ p.th) && decide (p.th ≤ 1099511627776))) = true → (decide (0 ≤ p.sp) && decide (p.sp ≤ 1099511627776) && (decide (0 ≤ p.pe) && decide (p.pe ≤ 1099511627776)) && (decide (0 ≤ p.th) && decide (p.th ≤ 1099511627776))) = true) ∧ ∃ (y : Unit), True ∧ (decide (0 ≤ p.sp) && decide (p.sp ≤ 1099511627776) && (decide (0 ≤ p.pe) && decide (p.pe ≤ 1099511627776)) && (decide (0 ≤ p.th) && decide (p.th ≤ 1099511627776)) && decide (p.th ≤ p.pe)) = true)) = sGood.vc (EV Try.prog [(39, sWithin.spec)] noInv noInv) Try.f44 (p, ()) := by kernel_rfl
  rw [← e]
  clear e
  obtain ⟨_, _, _, _, _, _, _, _, _, _, _, _, h⟩ := hx
  simp only [i64R]
  grind


set_option maxRecDepth 100000 in
theorem vc45 (l : List Int) (hx : l.length ≤ 1048576) : sClone.vc (EV Try.prog [] noInv noInv) Try.f45 (l, ()) := by
  have e : (∀ (y : Bool), (y = true → l = NilL Int) → (y = true → ∃ (y : Unit), True ∧ NilL Int = l) ∧ (y = false → (NilL Int).length + l.length ≤ (68719476736 : Nat) ∧ ∃ (y : Unit), True ∧ NilL Int ++ l = l)) = sClone.vc (EV Try.prog [] noInv noInv) Try.f45 (l, ()) := by kernel_rfl
  rw [← e]
  clear e
  simp only [NilL_eq]
  intro y hy
  refine ⟨fun h => ⟨(), trivial, (hy h).symm⟩, fun _ => ⟨by simp; omega, (), trivial, rfl⟩⟩


set_option maxRecDepth 100000 in
theorem vc34 (p : Pool) (hx : p.l.length ≤ 1048576) : sCopied.vc (EV Try.prog [(45, sClone.spec)] noInv noInv) Try.f34 (p, ()) := by
  have e : (p.l.length ≤ (1048576 : Nat) ∧ ∃ (y : Unit), True ∧ p.g = p.g ∧ p.q = p.q ∧ p.bu = p.bu ∧ p.s = p.s ∧ p.le = p.le ∧ p.sp = p.sp ∧ p.pe = p.pe ∧ p.th = p.th ∧ p.em = p.em ∧ p.l = p.l) = sCopied.vc (EV Try.prog [(45, sClone.spec)] noInv noInv) Try.f34 (p, ()) := by kernel_rfl
  rw [← e]
  clear e
  simp [hx]
end Go.Proofs.Ytenfpjponaaolaa
