/-
  Lemmas and contracts on the way to the laws of this seat; each theorem states its own conditions, and there are no others.
-/
import Derived.Test.YtaipgdhaoldhjaaVC

namespace Go.Proofs.Ytaipgdhaoldhjaa
open Go
set_option linter.unusedVariables false
set_option linter.unusedSimpArgs false
set_option linter.unusedVariables false

theorem part_ex {k : Int} {w d : List Int} (hw : InOK w d) : ∀ (n : Nat) (x : List Int), Begun k w d x → (k - x.sum).toNat ≤ n → ∃ y, Part k w d y := by
  intro n
  induction n with
  | zero =>
    intro x hx hn
    have := hx.sum
    exact ⟨x, hx.part (.inl (by omega))⟩
  | succ n ih =>
    intro x hx hn
    have hs := hx.sum
    by_cases e : x.sum = k
    · exact ⟨x, hx.part (.inl e)⟩
    · have hf : FstOK w x d := ⟨hw, hx.len, fun i hi => by
        have := hx.len
        have a := hx.lo i (by omega)
        have b := hx.hi i (by omega)
        have c := hw.dpos i
        omega⟩
      obtain ⟨b, hb⟩ := best_ex hf
      by_cases hb0 : 0 ≤ b
      · have h2 := hx.next hw.heavy (by omega) (hb.best hb0)
        refine ih _ h2 ?_
        have hbb := (hb.best hb0).1
        rw [sum_set (by have := hx.len; omega)]
        omega
      · exact ⟨x, hx.part (.inr (hb.none hb0))⟩
theorem begun_zero {k : Int} {w d : List Int} (hw : InOK w d) (hk : 0 ≤ k) : Begun k w d (List.replicate d.length 0) :=
  ⟨by simp, fun i _ => by rw [nth_repl]; exact Int.le_refl 0, fun i _ => by rw [nth_repl]; exact (hw.dpos i).1, by simpa using hk, fun i j _ _ _ _ hp => by rw [nth_repl] at hp; omega⟩
theorem part_is {k : Int} {w d : List Int} (hw : InOK w d) (hk : 0 ≤ k) : ∃ y, Part k w d y := part_ex hw _ _ (begun_zero hw hk) (Nat.le_refl _)
theorem Begun.fst {k : Int} {w d x : List Int} (hw : InOK w d) (hx : Begun k w d x) : FstOK w x d := ⟨hw, hx.len, fun i hi => by
  have := hx.len
  have a := hx.lo i (by omega)
  have b := hx.hi i (by omega)
  have c := hw.dpos i
  omega⟩
theorem In.sum_le {l : List Int} (h : In 0 65536 l) (hn : l.length ≤ 64) : 0 ≤ l.sum ∧ l.sum ≤ 4194304 := by
  have hp : ∀ i, 0 ≤ nth l i ∧ nth l i ≤ 65536 := fun i => by
    by_cases hi : i < l.length
    · exact h i hi
    · rw [nth_out (by omega)]; omega
  have h0 := sumF_nonneg (f := nth l) (n := l.length) fun j _ => (hp j).1
  have h1 := sumF_le (f := nth l) (g := fun _ => 65536) (n := l.length) fun j _ => (hp j).2
  rw [sumF_const] at h1
  rw [sumF_sum] at h0 h1
  omega
def sDivide : FSp := ⟨_, three pkI pkInts pkInts, fun x => Units x.1 ∧ InOK x.2.1 x.2.2.1, List Int, fun x y => Part x.1 x.2.1 x.2.2.1 y, fun _ _ => .own 101 0, fun _ y => [(101, .rows 3 0 y)], fun x h => part_is h.2 h.1.lo⟩
def sNext : FSp := ⟨_, Sig.dice (one pkI) (fun _ => rfl), fun x => DOK x.1 ∧ x.2.1 ≤ 4611686018427387904, Int × Int, fun x y => (1 ≤ x.2.1 → 0 ≤ y.1 ∧ y.1 < x.2.1) ∧ (x.2.1 < 1 → y.1 = 0) ∧ x.1.2 ≤ y.2 ∧ y.2 ≤ x.1.1.length, fun _ y => .int .i64 y.1, fun x y => [(0, diceO (x.1.1, y.2))], fun x h => ⟨(0, x.1.2), fun h => ⟨Int.le_refl _, by show (0 : Int) < x.2.1; omega⟩, fun _ => rfl, Int.le_refl _, h.1.hi⟩⟩
def sRoll : DS := ⟨_, one pkIntsP, fun _ => True, fun _ => .ptr 100 0, fun x => [(100, diceO (x.1, 0))]⟩
def sLight : DS := ⟨_, one pkInts, fun _ => True, fun x => .bool (decide ((x.1.length : Int) ≤ 600)), nou⟩
def sWeight : FSp := ⟨_, Sig.dice Sig.nil (fun _ => rfl), fun x => DOK x.1, Int × Int, fun x y => 1 ≤ y.1 ∧ y.1 ≤ 10000 ∧ x.1.2 ≤ y.2 ∧ y.2 ≤ x.1.1.length, fun _ y => .int .i64 y.1, fun x y => [(0, diceO (x.1.1, y.2))], fun x h => ⟨(1, x.1.2), by show (1 : Int) ≤ 1; omega, by show (1 : Int) ≤ 10000; omega, Int.le_refl _, h.hi⟩⟩
theorem In.repl {a b c : Int} (n : Nat) (h : a ≤ c ∧ c ≤ b) : In a b (List.replicate n c) := fun i hi => by
  have : i < n := by simpa using hi
  have e : nth (List.replicate n c) i = c := by simp [nth, this]
  rw [e]; exact h
def sWeights : FSp := ⟨_, Sig.dice (one pkI) (fun _ => rfl), fun x => DOK x.1 ∧ 0 ≤ x.2.1 ∧ x.2.1 ≤ 64, List Int × Int, fun x y => (y.1.length : Int) = x.2.1 ∧ In 1 10000 y.1 ∧ x.1.2 ≤ y.2 ∧ y.2 ≤ x.1.1.length, fun _ y => .own 101 0, fun x y => [(0, diceO (x.1.1, y.2)), (101, .rows 3 0 y.1)], fun x h => ⟨(List.replicate x.2.1.toNat 1, x.1.2), by have := h.2.1; simp; omega, In.repl _ (by omega), Int.le_refl _, h.1.hi⟩⟩
def sDraw : FSp := ⟨_, Sig.dice Sig.nil (fun _ => rfl), fun x => DOK x.1, List Int × List Int × Int, fun x y => InOK y.1 y.2.1 ∧ y.1.length ≤ 5 ∧ x.1.2 ≤ y.2.2 ∧ y.2.2 ≤ x.1.1.length, fun _ y => .tup [.own 101 0, .own 103 0], fun x y => [(0, diceO (x.1.1, y.2.2)), (101, .rows 3 0 y.1), (103, .rows 3 0 y.2.1)], fun x h => ⟨([], [], x.1.2), ⟨rfl, by simp, fun i hi => by simp at hi, fun i hi => by simp at hi⟩, by simp, Int.le_refl _, h.hi⟩⟩
def sSame : DS := ⟨_, two pkInts pkInts, fun x => x.1.length ≤ 1048576, fun x => .bool (decide (x.1 = x.2.1)), nou⟩
def sSane : DS := ⟨_, Sig.nil, fun _ => True, fun _ => .bool true, nou⟩
theorem In.snoc {a b c : Int} {l : List Int} (h : In a b l) (hc : a ≤ c ∧ c ≤ b) : In a b (l ++ [c]) := fun i hi => by
  by_cases e : i < l.length
  · have : nth (l ++ [c]) i = nth l i := by simp only [nth, List.getD_eq_getElem?_getD, List.getElem?_append_left e]
    rw [this]; exact h i e
  · have e2 : i = l.length := by simp at hi; omega
    subst e2
    have : nth (l ++ [c]) l.length = c := by simp [nth]
    rw [this]; exact hc
theorem In.nil {a b : Int} : In a b [] := fun i hi => by simp at hi

def inv19 (k : Int) (w d : List Int) (s : St) : Inv where
  X := List Int × Int
  ok := fun x => Begun k w d x.1 ∧ x.1.sum = k - slotI s 17 + x.2 ∧ 0 ≤ x.2 ∧ x.2 ≤ slotI s 17
  sl := fun x => [(18, .int .i64 x.2), (7, .own 101 0)]
  hp := fun x => [(101, .rows 3 0 x.1)]
  keep := []
  me := fun x => (slotI s 17 - x.2).toNat
set_option maxRecDepth 100000 in
theorem vc19 (k : Int) (w d : List Int) (hx : Units k ∧ InOK w d) : sDivide.vc (EV Try.prog [(25, sBegin.spec), (26, sSum.spec), (22, sFirst.spec)] (invsS [(3, inv19 k w d)]) noInv) Try.f19 (k, w, d, ()) := by
  have e : ((Units k ∧ InOK w d) ∧ (∀ (y : List Int), true = true) ∧ ∀ (y : List Int), Begun k w d y → (In 0 65536 y ∧ y.length ≤ (64 : Nat)) ∧ i64R (k - y.sum) ∧ (∃ (x : List Int × Int), (Begun k w d x.1 ∧ x.1.sum = k - (k - y.sum) + x.2 ∧ 0 ≤ x.2 ∧ x.2 ≤ k - y.sum) ∧ 0 = x.2 ∧ y = x.1) ∧ ∀ (x : List Int × Int), Begun k w d x.1 ∧ x.1.sum = k - (k - y.sum) + x.2 ∧ 0 ≤ x.2 ∧ x.2 ≤ k - y.sum → (decide (x.2 < k - y.sum) = true → FstOK w x.1 d ∧ (∀ (y : Int), true = true) ∧ ∀ (y_1 : Int), BestTo w d x.1 d.length y_1 → ((!decide (0 ≤ y_1)) = true → ∃ (y : List Int), Part k w d y ∧ x.1 = y) ∧ ((!decide (0 ≤ y_1)) = false → (0 ≤ Max.max y_1 0 ∧ Max.max y_1 0 < (↑x.1.length : Int)) ∧ i64R (x.1.getD (Max.max y_1 0).toNat (0 : Int) + 1) ∧ (0 ≤ Max.max y_1 0 ∧ Max.max y_1 0 < (↑x.1.length : Int)) ∧ i64R (x.2 + 1) ∧ ∃ (x' : List Int × Int), (Begun k w d x'.1 ∧ x'.1.sum = k - (k - y.sum) + x'.2 ∧ 0 ≤ x'.2 ∧ x'.2 ≤ k - y.sum) ∧ (k - y.sum - x'.2).toNat < (k - y.sum - x.2).toNat ∧ x.2 + 1 = x'.2 ∧ x.1.set (Max.max y_1 0).toNat (x.1.getD (Max.max y_1 0).toNat (0 : Int) + 1) = x'.1)) ∧ (decide (x.2 < k - y.sum) = false → ∃ (y : List Int), Part k w d y ∧ x.1 = y)) = sDivide.vc (EV Try.prog [(25, sBegin.spec), (26, sSum.spec), (22, sFirst.spec)] (invsS [(3, inv19 k w d)]) noInv) Try.f19 (k, w, d, ()) := by kernel_rfl
  rw [← e]
  clear e
  obtain ⟨hk, hw⟩ := hx
  simp only [Prod.forall, Prod.exists, exists_const, implies_true, not_true_eq_false, not_false_eq_true, or_self, or_false, false_or, or_true, true_or, and_false, false_and, forall_const, true_and, and_true, i64R, imp_self, Int.reduceLE, Int.reduceLT, Int.reduceNeg, false_implies, true_implies, decide_eq_true_eq, decide_eq_false_iff_not, Bool.not_eq_true', Bool.not_eq_false', Bool.true_eq_false, Bool.false_eq_true, Bool.and_eq_true, Bool.or_eq_true, NilL_eq, Bool.and_eq_false_iff, Bool.or_eq_false_iff ]
  have hn := hw.n
  refine ⟨⟨hk, hw⟩, fun g hg => ?_⟩
  have k0 := hk.lo
  have k1 := hk.hi
  have hf := hg.fst hw
  have hs := hf.g.sum_le (by have := hg.len; omega)
  have hgs := hg.sum
  refine ⟨⟨hf.g, by have := hg.len; omega⟩, by omega, ⟨g, 0, ⟨hg, by omega, by omega, by omega⟩, rfl, rfl⟩, fun x i hi => ?_⟩
  obtain ⟨hb, hsum, i0, i1⟩ := hi
  refine ⟨fun hlt => ⟨hb.fst hw, fun b hbt => ⟨fun h0 => ⟨x, hb.part (.inr (hbt.none h0)), rfl⟩, fun h0 => ?_⟩⟩, fun hge => ⟨x, hb.part (.inl (by omega)), rfl⟩⟩
  have e : max b 0 = b := by omega
  have hbest := hbt.best h0
  have hbi := hbest.1
  have hxl := hb.len
  have hn2 := hb.next hw.heavy (by omega) hbest
  have hx1 := (hb.fst hw).g b.toNat (by omega)
  have hsx := sum_set (l := x) (i := b.toNat) (by omega) (nth x b.toNat + 1)
  rw [e]
  simp only [nth] at hx1 hn2 hsx
  refine ⟨by omega, by omega, by omega, by omega, _, _, ⟨hn2, ?_, ?_, ?_⟩, ?_, rfl, rfl⟩
  all_goals omega


set_option maxRecDepth 100000 in
theorem vc13 (k : Int) (w d : List Int) (hx : Units k ∧ InOK w d) : sDivide.vc (EV Try.prog [(18, sValid.spec), (19, sDivide.spec)] noInv noInv) Try.f13 (k, w, d, ()) := by
  have e : ((0 ≤ k ∧ k ≤ 65536 ∧ InOK w d) ∧ (false = true → ∃ (y : List Int), Part k w d y ∧ NilL Int = y) ∧ (false = false → (Units k ∧ InOK w d) ∧ (∀ (y : List Int), true = true) ∧ ∀ (y : List Int), Part k w d y → ∃ (y_1 : List Int), Part k w d y_1 ∧ y = y_1)) = sDivide.vc (EV Try.prog [(18, sValid.spec), (19, sDivide.spec)] noInv noInv) Try.f13 (k, w, d, ()) := by kernel_rfl
  rw [← e]
  clear e
  simp only [Prod.forall, Prod.exists, exists_const, implies_true, not_true_eq_false, not_false_eq_true, or_self, or_false, false_or, or_true, true_or, and_false, false_and, forall_const, true_and, and_true, i64R, imp_self, Int.reduceLE, Int.reduceLT, Int.reduceNeg, false_implies, true_implies, decide_eq_true_eq, decide_eq_false_iff_not, Bool.not_eq_true', Bool.not_eq_false', Bool.true_eq_false, Bool.false_eq_true, Bool.and_eq_true, Bool.or_eq_true, NilL_eq, Bool.and_eq_false_iff, Bool.or_eq_false_iff ]
  exact ⟨⟨hx.1.lo, hx.1.hi, hx.2⟩, hx, fun y hy => ⟨y, hy, rfl⟩⟩


set_option maxRecDepth 100000 in
theorem vc11 (L : List Int) (k n : Int) (hx : DOK (L, k) ∧ n ≤ 4611686018427387904) : sNext.vc (EV Try.prog [] noInv noInv) Try.f11 ((L, k), n, ()) := by
  have e : ((decide ((↑L.length : Int) ≤ k) = false → decide ((↑L.length : Int) ≤ k) = false) ∧ (decide ((↑L.length : Int) ≤ k) = false → decide ((↑L.length : Int) ≤ k) = false) ∧ ((decide ((↑L.length : Int) ≤ k) || decide (n < 1)) = true → ∃ (y : Int × Int), ((1 ≤ n → 0 ≤ y.1 ∧ y.1 < n) ∧ (n < 1 → y.1 = 0) ∧ k ≤ y.2 ∧ y.2 ≤ (↑L.length : Int)) ∧ 0 = y.1 ∧ L = L ∧ k = y.2) ∧ ((decide ((↑L.length : Int) ≤ k) || decide (n < 1)) = false → i64R (k + 1) ∧ i64R (k + (1 : Int) - 1) ∧ (0 ≤ k + (1 : Int) - 1 ∧ k + (1 : Int) - 1 < (↑L.length : Int)) ∧ 0 < n ∧ (decide ((L.getD (k + (1 : Int) - 1).toNat 0).tmod n < 0) = true → i64R ((L.getD (k + (1 : Int) - 1).toNat 0).tmod n + n) ∧ ∃ (y : Int × Int), ((1 ≤ n → 0 ≤ y.1 ∧ y.1 < n) ∧ (n < 1 → y.1 = 0) ∧ k ≤ y.2 ∧ y.2 ≤ (↑L.length : Int)) ∧ (L.getD (k + (1 : Int) - 1).toNat 0).tmod n + n = y.1 ∧ L = L ∧ k + 1 = y.2) ∧ (decide ((L.getD (k + (1 : Int) - 1).toNat 0).tmod n < 0) = false → ∃ (y : Int × Int), ((1 ≤ n → 0 ≤ y.1 ∧ y.1 < n) ∧ (n < 1 → y.1 = 0) ∧ k ≤ y.2 ∧ y.2 ≤ (↑L.length : Int)) ∧ (L.getD (k + (1 : Int) - 1).toNat 0).tmod n = y.1 ∧ L = L ∧ k + 1 = y.2))) = sNext.vc (EV Try.prog [] noInv noInv) Try.f11 ((L, k), n, ()) := by kernel_rfl
  rw [← e]
  clear e
  obtain ⟨⟨h1, h2, h3⟩, h4⟩ := hx
  have h1 : 0 ≤ k := h1
  have h2 : k ≤ L.length := h2
  have h3 : L.length ≤ 600 := h3
  have key : 0 < n → ∀ x : Int, -n < x.tmod n ∧ x.tmod n < n := fun h x => ⟨Int.lt_tmod_of_pos x h, Int.tmod_lt_of_pos x h⟩
  refine ⟨fun h => h, fun h => h, fun h => ⟨(0, k), ⟨⟨fun _ => ⟨Int.le_refl _, by simp at h ⊢; omega⟩, fun _ => rfl, Int.le_refl _, h2⟩, rfl, rfl, rfl⟩⟩, fun h => ?_⟩
  have h5 : k < L.length ∧ 1 ≤ n := by simp at h; omega
  have h6 := key (by omega) (L.getD (k + 1 - 1).toNat 0)
  generalize (L.getD (k + 1 - 1).toNat 0).tmod n = x at *
  simp only [i64R]
  refine ⟨by omega, by omega, by omega, by omega, fun h => ⟨by simp at h; omega, (x + n, k + 1), ⟨⟨fun _ => ?_, fun _ => ?_, ?_, ?_⟩, by simp⟩⟩, fun h => ⟨(x, k + 1), ⟨⟨fun _ => ?_, fun _ => ?_, ?_, ?_⟩, by simp⟩⟩⟩
  all_goals (simp at h ⊢; omega)


set_option maxRecDepth 100000 in
theorem vc10 (L : List Int) (hx : True) : sRoll.vc (EV Try.prog [] noInv noInv) Try.f10 (L, ()) := by
  have e : (∃ (y : Unit), True ∧ L = L ∧ (0 : Int) = 0) = sRoll.vc (EV Try.prog [] noInv noInv) Try.f10 (L, ()) := by kernel_rfl
  rw [← e]
  clear e
  simp


set_option maxRecDepth 100000 in
theorem vc8 (L : List Int) (hx : True) : sLight.vc (EV Try.prog [] noInv noInv) Try.f8 (L, ()) := by
  have e : (∃ (y : Unit), True ∧ decide ((↑L.length : Int) ≤ 600) = decide ((↑L.length : Int) ≤ 600)) = sLight.vc (EV Try.prog [] noInv noInv) Try.f8 (L, ()) := by kernel_rfl
  rw [← e]
  clear e
  simp


set_option maxRecDepth 100000 in
theorem vc27 (L : List Int) (k : Int) (hx : DOK (L, k)) : sWeight.vc (EV Try.prog [(11, sNext.spec)] noInv noInv) Try.f27 ((L, k), ()) := by
  have e : ((DOK (L, k) ∧ (1000 : Int) ≤ 4611686018427387904) ∧ (∀ (y : Int × Int), true = true) ∧ ∀ (y : Int × Int), ((1 : Int) ≤ 1000 → 0 ≤ y.1 ∧ y.1 < 1000) ∧ ((1000 : Int) < 1 → y.1 = 0) ∧ k ≤ y.2 ∧ y.2 ≤ (↑L.length : Int) → i64R (1 + y.1) ∧ (DOK (L, y.2) ∧ (8 : Int) ≤ 4611686018427387904) ∧ (∀ (y : Int × Int), true = true) ∧ ∀ (y_1 : Int × Int), ((1 : Int) ≤ 8 → 0 ≤ y_1.1 ∧ y_1.1 < 8) ∧ ((8 : Int) < 1 → y_1.1 = 0) ∧ y.2 ≤ y_1.2 ∧ y_1.2 ≤ (↑L.length : Int) → (0 ≤ y_1.1 ∧ y_1.1 < (↑(1 :: 100 :: 300 :: 10000 :: 50 :: 200 :: 7 :: (1 + y.1) :: NilL Int).length : Int)) ∧ ∃ (y_2 : Int × Int), (1 ≤ y_2.1 ∧ y_2.1 ≤ 10000 ∧ k ≤ y_2.2 ∧ y_2.2 ≤ (↑L.length : Int)) ∧ (1 :: 100 :: 300 :: 10000 :: 50 :: 200 :: 7 :: (1 + y.1) :: NilL Int).getD y_1.1.toNat 0 = y_2.1 ∧ L = L ∧ y_1.2 = y_2.2) = sWeight.vc (EV Try.prog [(11, sNext.spec)] noInv noInv) Try.f27 ((L, k), ()) := by kernel_rfl
  rw [← e]
  clear e
  simp only [Prod.forall, Prod.exists, exists_const, implies_true, not_true_eq_false, not_false_eq_true, or_self, or_false, false_or, or_true, true_or, and_false, false_and, forall_const, true_and, and_true, i64R, imp_self, Int.reduceLE, Int.reduceLT, Int.reduceNeg, false_implies, true_implies, decide_eq_true_eq, decide_eq_false_iff_not, Bool.not_eq_true', Bool.not_eq_false', Bool.true_eq_false, Bool.false_eq_true, Bool.and_eq_true, Bool.or_eq_true, NilL_eq, Bool.and_eq_false_iff, Bool.or_eq_false_iff ]
  have hd : ∀ j : Int, k ≤ j ∧ j ≤ L.length → DOK (L, j) := fun j h => ⟨Int.le_trans hx.lo h.1, h.2, hx.len⟩
  refine ⟨hx, fun a b hab => ⟨by omega, hd _ (by omega), fun c b1 hc => ⟨by simp; omega, _, _, ⟨?_, ?_, ?_, ?_⟩, rfl, rfl⟩⟩⟩
  · have : c.toNat = 0 ∨ c.toNat = 1 ∨ c.toNat = 2 ∨ c.toNat = 3 ∨ c.toNat = 4 ∨ c.toNat = 5 ∨ c.toNat = 6 ∨ c.toNat = 7 := by omega
    rcases this with e | e | e | e | e | e | e | e <;> rw [e] <;> simp <;> omega
  · have : c.toNat = 0 ∨ c.toNat = 1 ∨ c.toNat = 2 ∨ c.toNat = 3 ∨ c.toNat = 4 ∨ c.toNat = 5 ∨ c.toNat = 6 ∨ c.toNat = 7 := by omega
    rcases this with e | e | e | e | e | e | e | e <;> rw [e] <;> simp <;> omega
  · omega
  · omega

def inv20 (L : List Int) (k n : Int) (s : St) : Inv where
  X := List Int × Int × Int
  ok := fun x => (x.1.length : Int) = x.2.2 ∧ In 1 10000 x.1 ∧ k ≤ x.2.1 ∧ x.2.1 ≤ L.length ∧ 0 ≤ x.2.2 ∧ x.2.2 ≤ n
  sl := fun x => [(6, .int .i64 x.2.2), (5, .own 101 0)]
  hp := fun x => [(0, diceO (L, x.2.1)), (101, .rows 3 0 x.1)]
  keep := []
  me := fun x => (n - x.2.2).toNat
set_option maxRecDepth 100000 in
theorem vc20 (L : List Int) (k n : Int) (hx : DOK (L, k) ∧ 0 ≤ n ∧ n ≤ 64) : sWeights.vc (EV Try.prog [(27, sWeight.spec)] (invsS [(3, inv20 L k n)]) noInv) Try.f20 ((L, k), n, ()) := by
  have e : ((∃ (x : List Int × Int × Int), ((↑x.1.length : Int) = x.2.2 ∧ In 1 10000 x.1 ∧ k ≤ x.2.1 ∧ x.2.1 ≤ (↑L.length : Int) ∧ 0 ≤ x.2.2 ∧ x.2.2 ≤ n) ∧ 0 = x.2.2 ∧ L = L ∧ k = x.2.1 ∧ NilL Int = x.1) ∧ ∀ (x : List Int × Int × Int), (↑x.1.length : Int) = x.2.2 ∧ In 1 10000 x.1 ∧ k ≤ x.2.1 ∧ x.2.1 ≤ (↑L.length : Int) ∧ 0 ≤ x.2.2 ∧ x.2.2 ≤ n → (decide (x.2.2 < n) = true → DOK (L, x.2.1) ∧ (∀ (y : Int × Int), true = true) ∧ ∀ (y : Int × Int), 1 ≤ y.1 ∧ y.1 ≤ 10000 ∧ x.2.1 ≤ y.2 ∧ y.2 ≤ (↑L.length : Int) → x.1.length + (y.1 :: NilL Int).length ≤ (68719476736 : Nat) ∧ i64R (x.2.2 + 1) ∧ ∃ (x' : List Int × Int × Int), ((↑x'.1.length : Int) = x'.2.2 ∧ In 1 10000 x'.1 ∧ k ≤ x'.2.1 ∧ x'.2.1 ≤ (↑L.length : Int) ∧ 0 ≤ x'.2.2 ∧ x'.2.2 ≤ n) ∧ (n - x'.2.2).toNat < (n - x.2.2).toNat ∧ x.2.2 + 1 = x'.2.2 ∧ L = L ∧ y.2 = x'.2.1 ∧ x.1 ++ y.1 :: NilL Int = x'.1) ∧ (decide (x.2.2 < n) = false → ∃ (y : List Int × Int), ((↑y.1.length : Int) = n ∧ In 1 10000 y.1 ∧ k ≤ y.2 ∧ y.2 ≤ (↑L.length : Int)) ∧ L = L ∧ x.2.1 = y.2 ∧ x.1 = y.1)) = sWeights.vc (EV Try.prog [(27, sWeight.spec)] (invsS [(3, inv20 L k n)]) noInv) Try.f20 ((L, k), n, ()) := by kernel_rfl
  rw [← e]
  clear e
  obtain ⟨hd, n0, n1⟩ := hx
  simp only [Prod.forall, Prod.exists, exists_const, implies_true, not_true_eq_false, not_false_eq_true, or_self, or_false, false_or, or_true, true_or, and_false, false_and, forall_const, true_and, and_true, i64R, imp_self, Int.reduceLE, Int.reduceLT, Int.reduceNeg, false_implies, true_implies, decide_eq_true_eq, decide_eq_false_iff_not, Bool.not_eq_true', Bool.not_eq_false', Bool.true_eq_false, Bool.false_eq_true, Bool.and_eq_true, Bool.or_eq_true, NilL_eq, Bool.and_eq_false_iff, Bool.or_eq_false_iff ]
  have hk := hd.hi
  have hk : k ≤ (L.length : Int) := hk
  have hdk : ∀ j : Int, k ≤ j ∧ j ≤ L.length → DOK (L, j) := fun j h => ⟨Int.le_trans hd.lo h.1, h.2, hd.len⟩
  refine ⟨⟨[], k, 0, ⟨rfl, In.nil, by omega, by omega, by omega, by omega⟩, rfl, rfl, rfl⟩, fun l j i hi => ?_⟩
  obtain ⟨h1, h2, h3, h4, h5, h6⟩ := hi
  refine ⟨fun hlt => ⟨hdk _ (by omega), fun c j' hc => ⟨by simp; omega, by omega, _, _, _, ⟨by simp; omega, h2.snoc (by omega), ?_, ?_, ?_, ?_⟩, ?_, rfl, rfl, rfl⟩⟩, fun hge => ⟨_, _, ⟨?_, h2, ?_, ?_⟩, rfl, rfl⟩⟩
  all_goals omega

def inv14 (L : List Int) (k : Int) (s : St) : Inv where
  X := List Int × Int × Int
  ok := fun x => (x.1.length : Int) = x.2.2 ∧ In 0 65536 x.1 ∧ k ≤ x.2.1 ∧ x.2.1 ≤ L.length ∧ 0 ≤ x.2.2 ∧ x.2.2 ≤ slotI s 11
  sl := fun x => [(4, .own 101 0), (12, .int .i64 x.2.2), (5, .own 103 0)]
  hp := fun x => [(0, diceO (L, x.2.1)), (101, .rows 3 0 (contI s (s.t 4))), (103, .rows 3 0 x.1)]
  keep := []
  me := fun x => (slotI s 11 - x.2.2).toNat
set_option maxRecDepth 100000 in
theorem vc14 (L : List Int) (k : Int) (hx : DOK (L, k)) : sDraw.vc (EV Try.prog [(11, sNext.spec), (20, sWeights.spec)] (invsS [(4, inv14 L k)]) noInv) Try.f14 ((L, k), ()) := by
  have e : ((DOK (L, k) ∧ (6 : Int) ≤ 4611686018427387904) ∧ (∀ (y : Int × Int), true = true) ∧ ∀ (y : Int × Int), ((1 : Int) ≤ 6 → 0 ≤ y.1 ∧ y.1 < 6) ∧ ((6 : Int) < 1 → y.1 = 0) ∧ k ≤ y.2 ∧ y.2 ≤ (↑L.length : Int) → (DOK (L, y.2) ∧ 0 ≤ y.1 ∧ y.1 ≤ 64) ∧ (∀ (y : List Int × Int), true = true) ∧ ∀ (y_1 : List Int × Int), (↑y_1.1.length : Int) = y.1 ∧ In 1 10000 y_1.1 ∧ y.2 ≤ y_1.2 ∧ y_1.2 ≤ (↑L.length : Int) → (∃ (x : List Int × Int × Int), ((↑x.1.length : Int) = x.2.2 ∧ In 0 65536 x.1 ∧ k ≤ x.2.1 ∧ x.2.1 ≤ (↑L.length : Int) ∧ 0 ≤ x.2.2 ∧ x.2.2 ≤ (↑y_1.1.length : Int)) ∧ 0 = x.2.2 ∧ L = L ∧ y_1.2 = x.2.1 ∧ y_1.1 = y_1.1 ∧ NilL Int = x.1) ∧ ∀ (x : List Int × Int × Int), (↑x.1.length : Int) = x.2.2 ∧ In 0 65536 x.1 ∧ k ≤ x.2.1 ∧ x.2.1 ≤ (↑L.length : Int) ∧ 0 ≤ x.2.2 ∧ x.2.2 ≤ (↑y_1.1.length : Int) → (decide (x.2.2 < (↑y_1.1.length : Int)) = true → (DOK (L, x.2.1) ∧ (40 : Int) ≤ 4611686018427387904) ∧ (∀ (y : Int × Int), true = true) ∧ ∀ (y : Int × Int), ((1 : Int) ≤ 40 → 0 ≤ y.1 ∧ y.1 < 40) ∧ ((40 : Int) < 1 → y.1 = 0) ∧ x.2.1 ≤ y.2 ∧ y.2 ≤ (↑L.length : Int) → (DOK (L, y.2) ∧ (5 : Int) ≤ 4611686018427387904) ∧ (∀ (y : Int × Int), true = true) ∧ ∀ (y_2 : Int × Int), ((1 : Int) ≤ 5 → 0 ≤ y_2.1 ∧ y_2.1 < 5) ∧ ((5 : Int) < 1 → y_2.1 = 0) ∧ y.2 ≤ y_2.2 ∧ y_2.2 ≤ (↑L.length : Int) → (0 ≤ y_2.1 ∧ y_2.1 < (↑(0 :: 3 :: 1000 :: 65536 :: y.1 :: NilL Int).length : Int)) ∧ x.1.length + ((0 :: 3 :: 1000 :: 65536 :: y.1 :: NilL Int).getD y_2.1.toNat 0 :: NilL Int).length ≤ (68719476736 : Nat) ∧ i64R (x.2.2 + 1) ∧ ∃ (x' : List Int × Int × Int), ((↑x'.1.length : Int) = x'.2.2 ∧ In 0 65536 x'.1 ∧ k ≤ x'.2.1 ∧ x'.2.1 ≤ (↑L.length : Int) ∧ 0 ≤ x'.2.2 ∧ x'.2.2 ≤ (↑y_1.1.length : Int)) ∧ ((↑y_1.1.length : Int) - x'.2.2).toNat < ((↑y_1.1.length : Int) - x.2.2).toNat ∧ x.2.2 + 1 = x'.2.2 ∧ L = L ∧ y_2.2 = x'.2.1 ∧ y_1.1 = y_1.1 ∧ x.1 ++ (0 :: 3 :: 1000 :: 65536 :: y.1 :: NilL Int).getD y_2.1.toNat 0 :: NilL Int = x'.1) ∧ (decide (x.2.2 < (↑y_1.1.length : Int)) = false → ∃ (y : List Int × List Int × Int), (InOK y.1 y.2.1 ∧ y.1.length ≤ (5 : Nat) ∧ k ≤ y.2.2 ∧ y.2.2 ≤ (↑L.length : Int)) ∧ L = L ∧ x.2.1 = y.2.2 ∧ y_1.1 = y.1 ∧ x.1 = y.2.1)) = sDraw.vc (EV Try.prog [(11, sNext.spec), (20, sWeights.spec)] (invsS [(4, inv14 L k)]) noInv) Try.f14 ((L, k), ()) := by kernel_rfl
  rw [← e]
  clear e
  simp only [Prod.forall, Prod.exists, exists_const, implies_true, not_true_eq_false, not_false_eq_true, or_self, or_false, false_or, or_true, true_or, and_false, false_and, forall_const, true_and, and_true, i64R, imp_self, Int.reduceLE, Int.reduceLT, Int.reduceNeg, false_implies, true_implies, decide_eq_true_eq, decide_eq_false_iff_not, Bool.not_eq_true', Bool.not_eq_false', Bool.true_eq_false, Bool.false_eq_true, Bool.and_eq_true, Bool.or_eq_true, NilL_eq, Bool.and_eq_false_iff, Bool.or_eq_false_iff ]
  have hk := hx.hi
  have hk : k ≤ (L.length : Int) := hk
  have hdk : ∀ j : Int, k ≤ j ∧ j ≤ L.length → DOK (L, j) := fun j h => ⟨Int.le_trans hx.lo h.1, h.2, hx.len⟩
  refine ⟨hx, fun a b hab => ⟨⟨hdk _ (by omega), by omega, by omega⟩, fun w b1 hw => ⟨⟨[], b1, 0, ⟨rfl, In.nil, by omega, by omega, by omega, by omega⟩, rfl, rfl, rfl⟩, fun l j i hi => ?_⟩⟩⟩
  obtain ⟨h1, h2, h3, h4, h5, h6⟩ := hi
  obtain ⟨w1, w2, w3, w4⟩ := hw
  refine ⟨fun hlt => ⟨hdk _ (by omega), fun c b2 hc => ⟨hdk _ (by omega), fun e b3 he => ⟨by simp; omega, by simp; omega, by omega, _, _, _, ⟨by simp; omega, h2.snoc ?_, ?_, ?_, ?_, ?_⟩, ?_, rfl, rfl, rfl⟩⟩⟩, fun hge => ⟨_, _, _, ⟨⟨by omega, by omega, w2, h2⟩, ?_, ?_, ?_⟩, rfl, rfl, rfl⟩⟩
  · have : e.toNat = 0 ∨ e.toNat = 1 ∨ e.toNat = 2 ∨ e.toNat = 3 ∨ e.toNat = 4 := by omega
    rcases this with h | h | h | h | h <;> rw [h] <;> simp <;> omega
  all_goals omega

def inv12 (a b : List Int) (s : St) : Inv where
  X := Int
  ok := fun i => 0 ≤ i ∧ i ≤ a.length ∧ ∀ j, j < i.toNat → nth a j = nth b j
  sl := fun i => [(5, .int .i64 i)]
  hp := fun _ => []
  keep := []
  me := fun i => (a.length - i).toNat
set_option maxRecDepth 100000 in
theorem vc12 (a b : List Int) (hx : a.length ≤ 1048576) : sSame.vc (EV Try.prog [] (invsS [(4, inv12 a b)]) noInv) Try.f12 (a, b, ()) := by
  have e : (((!decide ((↑a.length : Int) = (↑b.length : Int))) = true → ∃ (y : Unit), True ∧ false = decide (a = b)) ∧ ((!decide ((↑a.length : Int) = (↑b.length : Int))) = false → (∃ (x : Int), (0 ≤ x ∧ x ≤ (↑a.length : Int) ∧ ∀ (j : Nat), j < x.toNat → nth a j = nth b j) ∧ 0 = x) ∧ ∀ (x : Int), (0 ≤ x ∧ x ≤ (↑a.length : Int) ∧ ∀ (j : Nat), j < x.toNat → nth a j = nth b j) → (decide (x < (↑a.length : Int)) = true → (0 ≤ x ∧ x < (↑a.length : Int)) ∧ (0 ≤ x ∧ x < (↑b.length : Int)) ∧ ((!decide (nth a x.toNat = nth b x.toNat)) = true → ∃ (y : Unit), True ∧ false = decide (a = b)) ∧ ((!decide (nth a x.toNat = nth b x.toNat)) = false → i64R (x + 1) ∧ ∃ (x' : Int), (0 ≤ x' ∧ x' ≤ (↑a.length : Int) ∧ ∀ (j : Nat), j < x'.toNat → nth a j = nth b j) ∧ ((↑a.length : Int) - x').toNat < ((↑a.length : Int) - x).toNat ∧ x + 1 = x')) ∧ (decide (x < (↑a.length : Int)) = false → ∃ (y : Unit), True ∧ true = decide (a = b)))) = sSame.vc (EV Try.prog [] (invsS [(4, inv12 a b)]) noInv) Try.f12 (a, b, ()) := by kernel_rfl
  rw [← e]
  clear e
  simp only [Prod.forall, Prod.exists, exists_const, implies_true, not_true_eq_false, not_false_eq_true, or_self, or_false, false_or, or_true, true_or, and_false, false_and, forall_const, true_and, and_true, i64R, imp_self, Int.reduceLE, Int.reduceLT, Int.reduceNeg, false_implies, true_implies, decide_eq_true_eq, decide_eq_false_iff_not, Bool.not_eq_true', Bool.not_eq_false', Bool.true_eq_false, Bool.false_eq_true, Bool.and_eq_true, Bool.or_eq_true, NilL_eq, Bool.and_eq_false_iff, Bool.or_eq_false_iff ]
  refine ⟨fun h => ?_, fun h => ⟨⟨0, ⟨by omega, by omega, fun j hj => by omega⟩, rfl⟩, fun i hi => ?_⟩⟩
  · symm
    rw [decide_eq_false_iff_not]
    intro e; subst e; exact h rfl
  · obtain ⟨h1, h2, h3⟩ := hi
    refine ⟨fun hlt => ⟨by omega, by omega, fun hne => ?_, fun heq => ⟨by omega, i + 1, ⟨by omega, by omega, fun j hj => ?_⟩, by omega, rfl⟩⟩, fun hge => ?_⟩
    · symm
      rw [decide_eq_false_iff_not]
      intro e; subst e; exact hne rfl
    · by_cases e : j = i.toNat
      · subst e; exact heq
      · exact h3 j (by omega)
    · symm
      rw [decide_eq_true_eq]
      exact list_ext (by omega) fun j hj => h3 j (by omega)


set_option maxRecDepth 100000 in
theorem vc9 (u : Unit) (hx : True) : sSane.vc (EV Try.prog [(13, sDivide.spec), (12, sSame.spec)] noInv noInv) Try.f9 () := by
  have e : ((Units 10 ∧ InOK (100 :: 300 :: NilL Int) (50 :: 50 :: NilL Int)) ∧ (∀ (y : List Int), true = true) ∧ ∀ (y : List Int), Part 10 (100 :: 300 :: NilL Int) (50 :: 50 :: NilL Int) y → y.length ≤ (1048576 : Nat) ∧ ∃ (y_1 : Unit), True ∧ decide (y = 2 :: 8 :: NilL Int) = true) = sSane.vc (EV Try.prog [(13, sDivide.spec), (12, sSame.spec)] noInv noInv) Try.f9 () := by kernel_rfl
  rw [← e]
  clear e
  simp only [Prod.forall, Prod.exists, exists_const, implies_true, not_true_eq_false, not_false_eq_true, or_self, or_false, false_or, or_true, true_or, and_false, false_and, forall_const, true_and, and_true, i64R, imp_self, Int.reduceLE, Int.reduceLT, Int.reduceNeg, false_implies, true_implies, decide_eq_true_eq, decide_eq_false_iff_not, Bool.not_eq_true', Bool.not_eq_false', Bool.true_eq_false, Bool.false_eq_true, Bool.and_eq_true, Bool.or_eq_true, NilL_eq, Bool.and_eq_false_iff, Bool.or_eq_false_iff ]
  have hw : InOK [100, 300] [50, 50] := ⟨rfl, by simp, fun i hi => by
    have : i = 0 ∨ i = 1 := by simp at hi; omega
    rcases this with e | e <;> subst e <;> simp [nth], fun i hi => by
    have : i = 0 ∨ i = 1 := by simp at hi; omega
    rcases this with e | e <;> subst e <;> simp [nth]⟩
  have hp : Part 10 [100, 300] [50, 50] [2, 8] := ⟨rfl, fun i hi => by
    have : i = 0 ∨ i = 1 := by simp at hi; omega
    rcases this with e | e <;> subst e <;> simp [nth], fun i hi => by
    have : i = 0 ∨ i = 1 := by simp at hi; omega
    rcases this with e | e <;> subst e <;> simp [nth], by decide, fun i j hi hj hij _ _ => by
    have h1 : i = 0 ∨ i = 1 := by simp at hi; omega
    have h2 : j = 0 ∨ j = 1 := by simp at hj; omega
    unfold Before
    rcases h1 with e | e <;> rcases h2 with e2 | e2 <;> subst e <;> subst e2 <;> simp [nth] at hij ⊢⟩
  refine ⟨⟨⟨by omega, by omega⟩, hw⟩, fun y hy => ?_⟩
  have e := hy.unique hw.heavy hp
  subst e
  exact ⟨by simp, by simp⟩
end Go.Proofs.Ytaipgdhaoldhjaa
