/-
  Lemmas and contracts on the way to the laws of this seat; each theorem states its own conditions, and there are no others.
-/
import Derived.Test.YtaipgdhaoldhjaaVB

namespace Go.Proofs.Ytaipgdhaoldhjaa
open Go
set_option linter.unusedVariables false
set_option linter.unusedSimpArgs false
set_option linter.unusedVariables false

theorem InOK.heavy {w d : List Int} (h : InOK w d) : Heavy w d.length := fun i hi => (h.w i (by have := h.len; omega)).1
theorem nth_out {l : List Int} {i : Nat} (h : l.length ≤ i) : nth l i = 0 := by
  unfold nth; rw [List.getD_eq_getElem?_getD, List.getElem?_eq_none h]; rfl
theorem InOK.wpos {w d : List Int} (h : InOK w d) (i : Nat) : 0 ≤ nth w i ∧ nth w i ≤ 10000 := by
  by_cases hi : i < w.length
  · have := h.w i hi; omega
  · rw [nth_out (by omega)]; omega
theorem InOK.dpos {w d : List Int} (h : InOK w d) (i : Nat) : 0 ≤ nth d i ∧ nth d i ≤ 65536 := by
  by_cases hi : i < d.length
  · have := h.d i hi; omega
  · rw [nth_out (by omega)]; omega
theorem had_pos {w d : List Int} (h : InOK w d) (full : List Bool) (i : Nat) : 0 ≤ had full d i := by
  unfold had; cases isF full i
  · exact Int.le_refl _
  · exact (h.dpos i).1
theorem wgt_pos {w d : List Int} (h : InOK w d) (full : List Bool) (i : Nat) : 0 ≤ wgt full w i ∧ wgt full w i ≤ 10000 := by
  unfold wgt; cases isF full i
  · exact h.wpos i
  · simp
theorem sumF_const (c : Int) (n : Nat) : sumF (fun _ => c) n = n * c := by
  induction n with
  | zero => simp [sumF]
  | succ n ih => simp only [sumF, ih]; rw [show ((n + 1 : Nat) : Int) = (n : Int) + 1 from rfl, Int.add_mul]; omega
theorem wsum_le {w d : List Int} (h : InOK w d) (full : List Bool) {k : Nat} (hk : k ≤ d.length) : 0 ≤ sumF (wgt full w) k ∧ sumF (wgt full w) k ≤ 640000 := by
  refine ⟨sumF_nonneg fun i _ => (wgt_pos h full i).1, ?_⟩
  have h1 := sumF_le (f := wgt full w) (g := fun _ => 10000) (n := k) fun i _ => (wgt_pos h full i).2
  rw [sumF_const] at h1
  have := h.n
  omega
theorem hsum_le {w d : List Int} (h : InOK w d) (full : List Bool) {k : Nat} (hk : k ≤ d.length) : 0 ≤ sumF (had full d) k ∧ sumF (had full d) k ≤ sumF (had full d) d.length :=
  ⟨sumF_nonneg fun i _ => had_pos h full i, sumF_mono (had_pos h full) hk⟩
theorem isF_repl (n i : Nat) : isF (List.replicate n false) i = false := by
  unfold isF; rw [List.getD_eq_getElem?_getD]
  by_cases h : i < n
  · simp [h]
  · simp [h]
theorem nth_repl (n i : Nat) : nth (List.replicate n 0) i = 0 := by
  unfold nth; rw [List.getD_eq_getElem?_getD]
  by_cases h : i < n
  · simp [h]
  · simp [h]
theorem Water.init {total : Int} {w d : List Int} (h : InOK w d) (ht : 0 ≤ total) : Water total w d (List.replicate w.length false) (List.replicate w.length 0) := by
  have hl := h.len
  have z : sumF (had (List.replicate w.length false) d) d.length = 0 := by
    have := sumF_congr (f := had (List.replicate w.length false) d) (g := fun _ => 0) (n := d.length) fun i _ => by unfold had; rw [isF_repl]; rfl
    rw [this, sumF_const]; omega
  exact ⟨by simpa using hl, by simpa using hl, fun i hi hf => (by rw [isF_repl] at hf; cases hf), by omega, fun i hi hf => (by rw [isF_repl] at hf; cases hf)⟩
structure Units (k : Int) : Prop where
  lo : 0 ≤ k
  hi : k ≤ 65536
def sBegin : FSp := ⟨_, three pkI pkInts pkInts, fun x => Units x.1 ∧ InOK x.2.1 x.2.2.1, List Int, fun x y => Begun x.1 x.2.1 x.2.2.1 y, fun _ _ => .own 101 0, fun _ y => [(101, .rows 3 0 y)], fun x h => ⟨List.replicate x.2.2.1.length 0, ⟨by simp, fun i _ => by rw [nth_repl]; exact Int.le_refl 0, fun i _ => by rw [nth_repl]; exact (h.2.dpos i).1, by have := h.1.lo; simpa using this, fun i j _ _ _ _ hp => by rw [nth_repl] at hp; omega⟩⟩⟩
def sSum : DS := ⟨_, one pkInts, fun x => In 0 65536 x.1 ∧ x.1.length ≤ 64, fun x => .int .i64 x.1.sum, nou⟩

def inv25 (k : Int) (w d : List Int) (s : St) : Inv where
  X := List Int × List Bool × Bool
  ok := fun x => Water k w d x.2.1 x.1 ∧ (x.2.2 = false → Flat k w d x.2.1 x.1)
  sl := fun x => [(7, .own 101 0), (8, .own 103 1), (9, .bool x.2.2)]
  hp := fun x => [(101, .rows 3 0 x.1), (103, .rows 4 1 x.2.1)]
  keep := []
  me := fun x => (2 * cnt x.2.1 d.length + if x.2.2 = true then 1 else 0).toNat
def inv25a (k : Int) (w d : List Int) (s : St) : Inv where
  X := Int
  ok := fun i => 0 ≤ i ∧ i ≤ w.length
  sl := fun i => [(7, .own 101 0), (8, .own 103 1), (26, .int .i64 i), (10, .int .i64 (k - sumF (had (contB s (s.t 8)) d) i.toNat)), (11, .int .i64 (sumF (wgt (contB s (s.t 8)) w) i.toNat))]
  hp := fun i => [(101, .rows 3 0 (contI s (s.t 7))), (103, .rows 4 1 (contB s (s.t 8)))]
  keep := []
  me := fun i => (w.length - i).toNat
def inv25b (k : Int) (w d : List Int) (s : St) : Inv where
  X := Int × List Int × List Bool × Bool
  ok := fun x => 0 ≤ x.1 ∧ Pass w d (contB s (s.t 8)) (slotI s 10) (slotI s 11) x.1.toNat x.2.2.1 x.2.1 x.2.2.2
  sl := fun x => [(7, .own 101 0), (8, .own 103 1), (47, .int .i64 x.1), (9, .bool x.2.2.2)]
  hp := fun x => [(101, .rows 3 0 x.2.1), (103, .rows 4 1 x.2.2.1)]
  keep := []
  me := fun x => (w.length - x.1).toNat
set_option maxRecDepth 100000 in
theorem vc25 (k : Int) (w d : List Int) (hx : Units k ∧ InOK w d) : sBegin.vc (EV Try.prog [] (invsS [(4, inv25 k w d), (8, inv25a k w d), (15, inv25b k w d)]) noInv) Try.f25 (k, w, d, ()) := by
  have e : (((0 : Int) ≤ (↑w.length : Int) ∧ (↑w.length : Int) ≤ (↑w.length : Int) ∧ (↑(8 : Nat) : Int) * (↑w.length : Int) ≤ (281474976710656 : Int) ∧ (↑w.length : Int) ≤ (1099511627776 : Int)) ∧ ((0 : Int) ≤ (↑w.length : Int) ∧ (↑w.length : Int) ≤ (↑w.length : Int) ∧ (↑(1 : Nat) : Int) * (↑w.length : Int) ≤ (281474976710656 : Int) ∧ (↑w.length : Int) ≤ (1099511627776 : Int)) ∧ (∃ (x : List Int × List Bool × Bool), (Water k w d x.snd.fst x.fst ∧ (x.snd.snd = Bool.false → Flat k w d x.snd.fst x.fst)) ∧ Bool.true = x.snd.snd ∧ List.replicate (↑w.length : Int).toNat (0 : Int) = x.fst ∧ List.replicate (↑w.length : Int).toNat Bool.false = x.snd.fst) ∧ ∀ (x : List Int × List Bool × Bool), Water k w d x.snd.fst x.fst ∧ (x.snd.snd = Bool.false → Flat k w d x.snd.fst x.fst) → (x.snd.snd = Bool.true → (∃ (x_1 : Int), ((0 : Int) ≤ x_1 ∧ x_1 ≤ (↑w.length : Int)) ∧ (0 : Int) = x_1 ∧ k = k - sumF (had x.snd.fst d) x_1.toNat ∧ (0 : Int) = sumF (wgt x.snd.fst w) x_1.toNat ∧ x.fst = x.fst ∧ x.snd.fst = x.snd.fst) ∧ ∀ (x_1 : Int), (0 : Int) ≤ x_1 ∧ x_1 ≤ (↑w.length : Int) → (Decidable.decide (x_1 < (↑w.length : Int)) = Bool.true → ((0 : Int) ≤ x_1 ∧ x_1 < (↑w.length : Int)) ∧ ((0 : Int) ≤ x_1 ∧ x_1 < (↑x.snd.fst.length : Int)) ∧ (x.snd.fst.getD x_1.toNat Bool.false = Bool.true → ((0 : Int) ≤ x_1 ∧ x_1 < (↑d.length : Int)) ∧ i64R (k - sumF (had x.snd.fst d) x_1.toNat - d.getD x_1.toNat (0 : Int)) ∧ i64R (x_1 + (1 : Int)) ∧ ∃ (x' : Int), ((0 : Int) ≤ x' ∧ x' ≤ (↑w.length : Int)) ∧ ((↑w.length : Int) - x').toNat < ((↑w.length : Int) - x_1).toNat ∧ x_1 + (1 : Int) = x' ∧ k - sumF (had x.snd.fst d) x_1.toNat - d.getD x_1.toNat (0 : Int) = k - sumF (had x.snd.fst d) x'.toNat ∧ sumF (wgt x.snd.fst w) x_1.toNat = sumF (wgt x.snd.fst w) x'.toNat ∧ x.fst = x.fst ∧ x.snd.fst = x.snd.fst) ∧ (x.snd.fst.getD x_1.toNat Bool.false = Bool.false → i64R (sumF (wgt x.snd.fst w) x_1.toNat + w.getD x_1.toNat (0 : Int)) ∧ i64R (x_1 + (1 : Int)) ∧ ∃ (x' : Int), ((0 : Int) ≤ x' ∧ x' ≤ (↑w.length : Int)) ∧ ((↑w.length : Int) - x').toNat < ((↑w.length : Int) - x_1).toNat ∧ x_1 + (1 : Int) = x' ∧ k - sumF (had x.snd.fst d) x_1.toNat = k - sumF (had x.snd.fst d) x'.toNat ∧ sumF (wgt x.snd.fst w) x_1.toNat + w.getD x_1.toNat (0 : Int) = sumF (wgt x.snd.fst w) x'.toNat ∧ x.fst = x.fst ∧ x.snd.fst = x.snd.fst)) ∧ (Decidable.decide (x_1 < (↑w.length : Int)) = Bool.false → (∃ (x_2 : Int × List Int × List Bool × Bool), ((0 : Int) ≤ x_2.fst ∧ Pass w d x.snd.fst (k - sumF (had x.snd.fst d) x_1.toNat) (sumF (wgt x.snd.fst w) x_1.toNat) x_2.fst.toNat x_2.snd.snd.fst x_2.snd.fst x_2.snd.snd.snd) ∧ (0 : Int) = x_2.fst ∧ Bool.false = x_2.snd.snd.snd ∧ x.fst = x_2.snd.fst ∧ x.snd.fst = x_2.snd.snd.fst) ∧ ∀ (x_2 : Int × List Int × List Bool × Bool), (0 : Int) ≤ x_2.fst ∧ Pass w d x.snd.fst (k - sumF (had x.snd.fst d) x_1.toNat) (sumF (wgt x.snd.fst w) x_1.toNat) x_2.fst.toNat x_2.snd.snd.fst x_2.snd.fst x_2.snd.snd.snd → (Decidable.decide (x_2.fst < (↑w.length : Int)) = Bool.true → ((0 : Int) ≤ x_2.fst ∧ x_2.fst < (↑w.length : Int)) ∧ ((0 : Int) ≤ x_2.fst ∧ x_2.fst < (↑x_2.snd.snd.fst.length : Int)) ∧ (x_2.snd.snd.fst.getD x_2.fst.toNat Bool.false = Bool.true → i64R (x_2.fst + (1 : Int)) ∧ ∃ (x' : Int × List Int × List Bool × Bool), ((0 : Int) ≤ x'.fst ∧ Pass w d x.snd.fst (k - sumF (had x.snd.fst d) x_1.toNat) (sumF (wgt x.snd.fst w) x_1.toNat) x'.fst.toNat x'.snd.snd.fst x'.snd.fst x'.snd.snd.snd) ∧ ((↑w.length : Int) - x'.fst).toNat < ((↑w.length : Int) - x_2.fst).toNat ∧ x_2.fst + (1 : Int) = x'.fst ∧ x_2.snd.snd.snd = x'.snd.snd.snd ∧ x_2.snd.fst = x'.snd.fst ∧ x_2.snd.snd.fst = x'.snd.snd.fst) ∧ (x_2.snd.snd.fst.getD x_2.fst.toNat Bool.false = Bool.false → i64R ((k - sumF (had x.snd.fst d) x_1.toNat) * w.getD x_2.fst.toNat (0 : Int)) ∧ ((0 : Int) ≤ (k - sumF (had x.snd.fst d) x_1.toNat) * w.getD x_2.fst.toNat (0 : Int) ∧ (0 : Int) < sumF (wgt x.snd.fst w) x_1.toNat) ∧ i64R ((k - sumF (had x.snd.fst d) x_1.toNat) * w.getD x_2.fst.toNat (0 : Int)) ∧ ((0 : Int) ≤ x_2.fst ∧ x_2.fst < (↑x_2.snd.fst.length : Int)) ∧ ((0 : Int) ≤ x_2.fst ∧ x_2.fst < (↑(x_2.snd.fst.set x_2.fst.toNat ((k - sumF (had x.snd.fst d) x_1.toNat) * w.getD x_2.fst.toNat (0 : Int) / sumF (wgt x.snd.fst w) x_1.toNat)).length : Int)) ∧ ((0 : Int) ≤ x_2.fst ∧ x_2.fst < (↑d.length : Int)) ∧ (Decidable.decide (d.getD x_2.fst.toNat (0 : Int) ≤ (x_2.snd.fst.set x_2.fst.toNat ((k - sumF (had x.snd.fst d) x_1.toNat) * w.getD x_2.fst.toNat (0 : Int) / sumF (wgt x.snd.fst w) x_1.toNat)).getD x_2.fst.toNat (0 : Int)) = Bool.true → ((0 : Int) ≤ x_2.fst ∧ x_2.fst < (↑d.length : Int)) ∧ ((0 : Int) ≤ x_2.fst ∧ x_2.fst < (↑(x_2.snd.fst.set x_2.fst.toNat ((k - sumF (had x.snd.fst d) x_1.toNat) * w.getD x_2.fst.toNat (0 : Int) / sumF (wgt x.snd.fst w) x_1.toNat)).length : Int)) ∧ ((0 : Int) ≤ x_2.fst ∧ x_2.fst < (↑x_2.snd.snd.fst.length : Int)) ∧ i64R (x_2.fst + (1 : Int)) ∧ ∃ (x' : Int × List Int × List Bool × Bool), ((0 : Int) ≤ x'.fst ∧ Pass w d x.snd.fst (k - sumF (had x.snd.fst d) x_1.toNat) (sumF (wgt x.snd.fst w) x_1.toNat) x'.fst.toNat x'.snd.snd.fst x'.snd.fst x'.snd.snd.snd) ∧ ((↑w.length : Int) - x'.fst).toNat < ((↑w.length : Int) - x_2.fst).toNat ∧ x_2.fst + (1 : Int) = x'.fst ∧ Bool.true = x'.snd.snd.snd ∧ (x_2.snd.fst.set x_2.fst.toNat ((k - sumF (had x.snd.fst d) x_1.toNat) * w.getD x_2.fst.toNat (0 : Int) / sumF (wgt x.snd.fst w) x_1.toNat)).set x_2.fst.toNat (d.getD x_2.fst.toNat (0 : Int)) = x'.snd.fst ∧ x_2.snd.snd.fst.set x_2.fst.toNat Bool.true = x'.snd.snd.fst) ∧ (Decidable.decide (d.getD x_2.fst.toNat (0 : Int) ≤ (x_2.snd.fst.set x_2.fst.toNat ((k - sumF (had x.snd.fst d) x_1.toNat) * w.getD x_2.fst.toNat (0 : Int) / sumF (wgt x.snd.fst w) x_1.toNat)).getD x_2.fst.toNat (0 : Int)) = Bool.false → i64R (x_2.fst + (1 : Int)) ∧ ∃ (x' : Int × List Int × List Bool × Bool), ((0 : Int) ≤ x'.fst ∧ Pass w d x.snd.fst (k - sumF (had x.snd.fst d) x_1.toNat) (sumF (wgt x.snd.fst w) x_1.toNat) x'.fst.toNat x'.snd.snd.fst x'.snd.fst x'.snd.snd.snd) ∧ ((↑w.length : Int) - x'.fst).toNat < ((↑w.length : Int) - x_2.fst).toNat ∧ x_2.fst + (1 : Int) = x'.fst ∧ x_2.snd.snd.snd = x'.snd.snd.snd ∧ x_2.snd.fst.set x_2.fst.toNat ((k - sumF (had x.snd.fst d) x_1.toNat) * w.getD x_2.fst.toNat (0 : Int) / sumF (wgt x.snd.fst w) x_1.toNat) = x'.snd.fst ∧ x_2.snd.snd.fst = x'.snd.snd.fst))) ∧ (Decidable.decide (x_2.fst < (↑w.length : Int)) = Bool.false → ∃ (x' : List Int × List Bool × Bool), (Water k w d x'.snd.fst x'.fst ∧ (x'.snd.snd = Bool.false → Flat k w d x'.snd.fst x'.fst)) ∧ ((2 : Int) * cnt x'.snd.fst d.length + if x'.snd.snd = Bool.true then (1 : Int) else (0 : Int)).toNat < ((2 : Int) * cnt x.snd.fst d.length + if x.snd.snd = Bool.true then (1 : Int) else (0 : Int)).toNat ∧ x_2.snd.snd.snd = x'.snd.snd ∧ x_2.snd.fst = x'.fst ∧ x_2.snd.snd.fst = x'.snd.fst))) ∧ (x.snd.snd = Bool.false → ∃ (y : List Int), Begun k w d y ∧ x.fst = y)) = sBegin.vc (EV Try.prog [] (invsS [(4, inv25 k w d), (8, inv25a k w d), (15, inv25b k w d)]) noInv) Try.f25 (k, w, d, ()) := by kernel_rfl
  rw [← e]
  clear e
  obtain ⟨⟨k0, k1⟩, hw⟩ := hx
  simp only [Prod.forall, Prod.exists, exists_const, implies_true, not_true_eq_false, not_false_eq_true, or_self, or_false, false_or, or_true, true_or, and_false, false_and, forall_const, true_and, and_true, i64R, imp_self, Int.reduceLE, Int.reduceLT, Int.reduceNeg, false_implies, true_implies, decide_eq_true_eq, decide_eq_false_iff_not, Bool.not_eq_true', Bool.not_eq_false', Bool.true_eq_false, Bool.false_eq_true, Bool.and_eq_true, Bool.or_eq_true, NilL_eq, Bool.and_eq_false_iff, Bool.or_eq_false_iff ]
  have hl := hw.len
  have hn := hw.n
  refine ⟨by omega, by omega, ⟨List.replicate w.length 0, List.replicate w.length false, true, ⟨Water.init hw k0, fun h => by cases h⟩, rfl, by simp, by simp⟩, fun g F c hx => ?_⟩
  have lf := hx.1.lf
  have lg := hx.1.lg
  have hr := hx.1.r0
  refine ⟨fun hc => ⟨⟨0, by omega, rfl, by simp [sumF], by simp [sumF]⟩, fun i hi => ⟨fun hlt => ⟨by omega, by omega, fun hf => ?_, fun hf => ?_⟩, fun hge => ?_⟩⟩, fun hc => ⟨g, hx.1.begun hw.heavy (fun i => (hw.wpos i).1) (fun i _ => (hw.dpos i).1) (hx.2 hc), rfl⟩⟩
  · have hf' : isF F i.toNat = true := hf
    have e1 : (i + 1).toNat = i.toNat + 1 := by omega
    have h1 := hsum_le hw F (k := i.toNat + 1) (by omega)
    have h0 := hsum_le hw F (k := i.toNat) (by omega)
    have e2 : sumF (had F d) (i.toNat + 1) = sumF (had F d) i.toNat + nth d i.toNat := by
      show sumF (had F d) i.toNat + had F d i.toNat = _
      unfold had; rw [hf']; rfl
    have e3 : sumF (wgt F w) (i.toNat + 1) = sumF (wgt F w) i.toNat := by
      show sumF (wgt F w) i.toNat + wgt F w i.toNat = _
      unfold wgt; rw [hf']; simp
    simp only [nth] at e2
    refine ⟨by omega, by omega, by omega, i + 1, by omega, by omega, rfl, ?_, ?_⟩
    · rw [e1, e2]; omega
    · rw [e1, e3]
  · have hf' : isF F i.toNat = false := hf
    have e1 : (i + 1).toNat = i.toNat + 1 := by omega
    have h1 := wsum_le hw F (k := i.toNat) (by omega)
    have h2 := hw.wpos i.toNat
    have e2 : sumF (had F d) (i.toNat + 1) = sumF (had F d) i.toNat := by
      show sumF (had F d) i.toNat + had F d i.toNat = _
      unfold had; rw [hf']; simp
    have e3 : sumF (wgt F w) (i.toNat + 1) = sumF (wgt F w) i.toNat + nth w i.toNat := by
      show sumF (wgt F w) i.toNat + wgt F w i.toNat = _
      unfold wgt; rw [hf']; rfl
    simp only [nth] at e3 h2
    refine ⟨by omega, by omega, i + 1, by omega, by omega, rfl, ?_, ?_⟩
    · rw [e1, e2]
    · rw [e1, e3]
  · have e : i.toNat = d.length := by omega
    simp only [e]
    have hS := wsum_le hw F (Nat.le_refl d.length)
    have hH := hsum_le hw F (Nat.le_refl d.length)
    have hpos : ∀ j, j < d.length → isF F j = false → 0 < sumF (wgt F w) d.length := fun j hj hf => by
      refine sumF_pos (k := j) (fun i _ => (wgt_pos hw F i).1) hj ?_
      have := hw.heavy j hj
      unfold wgt; rw [hf]; exact this
    have hstop := fun {full given c} => Pass.stop (total := k) (w := w) (d := d) (F := F) (full := full) (g0 := g) (given := given) (c := c) (fun i => (hw.wpos i).1) hx.1 hpos
    have hstart := Pass.start hx.1 (k - sumF (had F d) d.length) (sumF (wgt F w) d.length)
    generalize hR : k - sumF (had F d) d.length = R at *
    generalize hSS : sumF (wgt F w) d.length = S at *
    refine ⟨⟨0, g, F, false, ⟨Int.le_refl 0, hstart⟩, rfl, rfl, rfl, rfl⟩, fun j g' F' c' hP => ?_⟩
    obtain ⟨j0, hP⟩ := hP
    have pf := hP.lf
    have pg := hP.lg
    have pl := hP.le
    refine ⟨fun hj => ⟨by omega, by omega, fun hf => ⟨by omega, j + 1, g', F', c', ⟨by omega, ?_⟩, by omega, rfl, rfl, rfl, rfl⟩, fun hf => ?_⟩, fun hj => ?_⟩
    · have e1 : (j + 1).toNat = j.toNat + 1 := by omega
      rw [e1]
      exact hP.skip (by omega) hf
    · have hf' : isF F' j.toNat = false := hf
      have hF : isF F j.toNat = false := by rw [← hP.later j.toNat (Nat.le_refl _)]; exact hf'
      have hSp := hpos j.toNat (by omega) hF
      have hwj := hw.wpos j.toNat
      have m0 : 0 ≤ R * nth w j.toNat := Int.mul_nonneg (by omega) (by omega)
      have m1 : R * nth w j.toNat ≤ 65536 * 10000 := Int.mul_le_mul (by omega) (by omega) (by omega) (by omega)
      have eg : (g'.set j.toNat (R * nth w j.toNat / S)).getD j.toNat 0 = R * nth w j.toNat / S := by
        have := nth_set (l := g') (i := j.toNat) (by omega) (R * nth w j.toNat / S) j.toNat
        rw [if_pos rfl] at this; exact this
      have e1 : (j + 1).toNat = j.toNat + 1 := by omega
      simp only [nth] at m0 m1 eg
      simp only [List.length_set, List.set_set, eg]
      refine ⟨by omega, ⟨by omega, hSp⟩, by omega, by omega, by omega, by omega, fun hd => ⟨by omega, by omega, by omega, by omega, _, _, _, _, ⟨?_, ?_⟩, ?_, rfl, rfl, rfl, rfl⟩, fun hd => ⟨by omega, _, _, _, _, ⟨?_, ?_⟩, ?_, rfl, rfl, rfl, rfl⟩⟩
      · omega
      · rw [e1]; exact hP.fill (by omega) hf' hd
      · omega
      · omega
      · rw [e1]; exact hP.part (by omega) hf' (by simp only [nth]; omega)
      · omega
    · have ej : j.toNat = d.length := by omega
      rw [ej] at hP
      obtain ⟨s1, s2⟩ := hstop hP
      obtain ⟨l1, l2⟩ := hP.less
      have c0 := cnt_nonneg F' d.length
      refine ⟨g', F', c', ⟨s1, s2⟩, ?_, rfl, rfl, rfl⟩
      rw [if_pos hc]
      split
      · rename_i h; have := l2 h; omega
      · omega

def inv26 (l : List Int) (s : St) : Inv where
  X := Int
  ok := fun i => 0 ≤ i ∧ i ≤ l.length
  sl := fun i => [(8, .int .i64 i), (3, .int .i64 (sumF (nth l) i.toNat))]
  hp := fun _ => []
  keep := []
  me := fun i => (l.length - i).toNat
set_option maxRecDepth 100000 in
theorem vc26 (l : List Int) (hx : In 0 65536 l ∧ l.length ≤ 64) : sSum.vc (EV Try.prog [] (invsS [(3, inv26 l)]) noInv) Try.f26 (l, ()) := by
  have e : ((∃ (x : Int), ((0 : Int) ≤ x ∧ x ≤ (↑l.length : Int)) ∧ (0 : Int) = x ∧ (0 : Int) = sumF (nth l) x.toNat) ∧ ∀ (x : Int), (0 : Int) ≤ x ∧ x ≤ (↑l.length : Int) → (Decidable.decide (x < (↑l.length : Int)) = Bool.true → ((0 : Int) ≤ x ∧ x < (↑l.length : Int)) ∧ i64R (sumF (nth l) x.toNat + l.getD x.toNat (0 : Int)) ∧ i64R (x + (1 : Int)) ∧ ∃ (x' : Int), ((0 : Int) ≤ x' ∧ x' ≤ (↑l.length : Int)) ∧ ((↑l.length : Int) - x').toNat < ((↑l.length : Int) - x).toNat ∧ x + (1 : Int) = x' ∧ sumF (nth l) x.toNat + l.getD x.toNat (0 : Int) = sumF (nth l) x'.toNat) ∧ (Decidable.decide (x < (↑l.length : Int)) = Bool.false → ∃ (y : Unit), True ∧ sumF (nth l) x.toNat = l.sum)) = sSum.vc (EV Try.prog [] (invsS [(3, inv26 l)]) noInv) Try.f26 (l, ()) := by kernel_rfl
  rw [← e]
  clear e
  obtain ⟨hin, hn⟩ := hx
  simp only [Prod.forall, Prod.exists, exists_const, implies_true, not_true_eq_false, not_false_eq_true, or_self, or_false, false_or, or_true, true_or, and_false, false_and, forall_const, true_and, and_true, i64R, imp_self, Int.reduceLE, Int.reduceLT, Int.reduceNeg, false_implies, true_implies, decide_eq_true_eq, decide_eq_false_iff_not, Bool.not_eq_true', Bool.not_eq_false', Bool.true_eq_false, Bool.false_eq_true, Bool.and_eq_true, Bool.or_eq_true, NilL_eq, Bool.and_eq_false_iff, Bool.or_eq_false_iff ]
  have hp : ∀ i, 0 ≤ nth l i ∧ nth l i ≤ 65536 := fun i => by
    by_cases hi : i < l.length
    · exact hin i hi
    · rw [nth_out (by omega)]; omega
  refine ⟨⟨0, by omega, rfl, rfl⟩, fun i hi => ⟨fun hlt => ?_, fun hge => ?_⟩⟩
  · have e1 : (i + 1).toNat = i.toNat + 1 := by omega
    have h0 := sumF_nonneg (f := nth l) (n := i.toNat) fun j _ => (hp j).1
    have h1 := sumF_le (f := nth l) (g := fun _ => 65536) (n := i.toNat) fun j _ => (hp j).2
    rw [sumF_const] at h1
    have h2 := hp i.toNat
    simp only [nth] at h2
    refine ⟨by omega, by omega, by omega, i + 1, by omega, by omega, rfl, ?_⟩
    rw [e1]; rfl
  · have : i.toNat = l.length := by omega
    rw [this, sumF_sum]
end Go.Proofs.Ytaipgdhaoldhjaa
