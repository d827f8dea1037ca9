/-
  Lemmas and contracts on the way to the laws of this seat; each theorem states its own conditions, and there are no others.
-/
import Derived.Test.YtemffnpliflkgaaQD

namespace Go.Proofs.Ytemffnpliflkgaa
open Go
set_option linter.unusedVariables false
set_option linter.unusedSimpArgs false
set_option linter.unusedVariables false

def sTake : DS := ⟨_, two pkPool pkI, fun x => Tame x.1, fun x => .tup [ret (takeG x.1 x.2.1).1, .int .i64 (takeG x.1 x.2.1).2], fun x => row (takeG x.1 x.2.1).1⟩
def sReturn : DS := ⟨_, two pkPool pkI, fun x => Tame x.1, fun x => .tup [ret (returnG x.1 x.2.1).1, .int .i64 (returnG x.1 x.2.1).2], fun x => row (returnG x.1 x.2.1).1⟩
def sSpend : DS := ⟨_, two pkPool pkI, fun x => Tame x.1, fun x => .tup [ret (spendG x.1 x.2.1).1, .int .i64 (spendG x.1 x.2.1).2], fun x => row (spendG x.1 x.2.1).1⟩
def sRefill : DS := ⟨_, one pkPool, fun x => Tame x.1, fun x => .tup [ret (refillG x.1).1, .int .i64 (refillG x.1).2], fun x => row (refillG x.1).1⟩
def sNewP : DS := ⟨_, Sig.cons pkI (Sig.cons pkI (three pkI pkI pkI)), fun x => -1152921504606846976 ≤ x.2.2.1 ∧ x.2.2.1 ≤ 1152921504606846976, fun x => .tup [ret (newG x.1 x.2.1 x.2.2.1 x.2.2.2.1 x.2.2.2.2.1).1, .int .i64 (newG x.1 x.2.1 x.2.2.1 x.2.2.2.1 x.2.2.2.2.1).2], fun x => row (newG x.1 x.2.1 x.2.2.1 x.2.2.2.1 x.2.2.2.2.1).1⟩
def sChange : DS := ⟨_, three pkPool pkI pkI, fun x => Tame x.1 ∧ -1152921504606846976 ≤ x.2.2.1 ∧ x.2.2.1 ≤ 1152921504606846976, fun x => .tup [ret (changeG x.1 x.2.1 x.2.2.1).1, .int .i64 (changeG x.1 x.2.1 x.2.2.1).2], fun x => row (changeG x.1 x.2.1 x.2.2.1).1⟩


set_option maxRecDepth 100000 in
theorem vc141 (p : Pool) (c : Int) (hx : Tame p) : sTake.vc (EV Try.prog [(138, sUse.spec), (139, sCopied.spec), (140, sLimited.spec)] noInv noInv) Try.f141 (p, c, ()) := by
  have e : (Tame p ∧ ((!decide (useI p c = 0)) = true → ∃ (y : Unit), True ∧ 0 = (takeG p c).fst.g ∧ 0 = (takeG p c).fst.q ∧ 0 = (takeG p c).fst.bu ∧ 0 = (takeG p c).fst.s ∧ 0 = (takeG p c).fst.le ∧ 0 = (takeG p c).fst.sp ∧ 0 = (takeG p c).fst.pe ∧ 0 = (takeG p c).fst.th ∧ false = (takeG p c).fst.em ∧ useI p c = (takeG p c).snd ∧ NilL Int = (takeG p c).fst.l) ∧ ((!decide (useI p c = 0)) = false → True ∧ ((!decide (p.q = 4611686018427387904)) = true → (!decide (p.q = 4611686018427387904)) = true) ∧ ((!decide (p.q = 4611686018427387904)) = true → (!decide (p.q = 4611686018427387904)) = true) ∧ ((!decide (p.q = 4611686018427387904)) = true → (!decide (p.q = 4611686018427387904)) = true) ∧ ((!decide (p.q = 4611686018427387904) && decide (p.le = 0)) = true → ∃ (y : Unit), True ∧ 0 = (takeG p c).fst.g ∧ 0 = (takeG p c).fst.q ∧ 0 = (takeG p c).fst.bu ∧ 0 = (takeG p c).fst.s ∧ 0 = (takeG p c).fst.le ∧ 0 = (takeG p c).fst.sp ∧ 0 = (takeG p c).fst.pe ∧ 0 = (takeG p c).fst.th ∧ false = (takeG p c).fst.em ∧ 11 = (takeG p c).snd ∧ NilL Int = (takeG p c).fst.l) ∧ ((!decide (p.q = 4611686018427387904) && decide (p.le = 0)) = false → p.l.length ≤ (1048576 : Nat) ∧ i64R (p.le - Min.min p.s p.le) ∧ (0 ≤ c ∧ c < (↑p.l.length : Int)) ∧ i64R (p.l.getD c.toNat 0 + Min.min p.s p.le) ∧ (0 ≤ c ∧ c < (↑p.l.length : Int)) ∧ ∃ (y : Unit), True ∧ p.g = (takeG p c).fst.g ∧ p.q = (takeG p c).fst.q ∧ p.bu = (takeG p c).fst.bu ∧ p.s = (takeG p c).fst.s ∧ p.le - Min.min p.s p.le = (takeG p c).fst.le ∧ p.sp = (takeG p c).fst.sp ∧ p.pe = (takeG p c).fst.pe ∧ p.th = (takeG p c).fst.th ∧ p.em = (takeG p c).fst.em ∧ 0 = (takeG p c).snd ∧ p.l.set c.toNat (p.l.getD c.toNat 0 + Min.min p.s p.le) = (takeG p c).fst.l))) = sTake.vc (EV Try.prog [(138, sUse.spec), (139, sCopied.spec), (140, sLimited.spec)] noInv noInv) Try.f141 (p, c, ()) := by kernel_rfl
  rw [← e]
  clear e
  simp only [imp_self, true_and, and_true, exists_const, implies_true, gd1, gd2, gd3, gd4, gd5, gd6, NilL_eq ]
  simp only [Prod.forall, Prod.exists, exists_const, implies_true, not_true_eq_false, not_false_eq_true, or_self, or_false, false_or, or_true, true_or, and_false, false_and, forall_const, true_and, and_true, i64R, imp_self, Int.reduceLE, Int.reduceLT, Int.reduceNeg, false_implies, true_implies, decide_eq_true_eq, decide_eq_false_iff_not, Bool.not_eq_true', Bool.not_eq_false', Bool.true_eq_false, Bool.false_eq_true, Bool.and_eq_true, Bool.or_eq_true, NilL_eq, Bool.and_eq_false_iff, Bool.or_eq_false_iff ]
  refine ⟨hx, fun h => ?_, fun h => ⟨fun h2 => ?_, fun h2 => ?_⟩⟩
  · have e : takeG p c = (zeroP, useI p c) := by rw [takeG, if_neg h]
    rw [e]; exact ⟨rfl, rfl, rfl, rfl, rfl, rfl, rfl, rfl, rfl, rfl, rfl⟩
  · have e : takeG p c = (zeroP, 11) := by rw [takeG, if_pos h, takeR, if_pos h2]
    rw [e]; exact ⟨rfl, rfl, rfl, rfl, rfl, rfl, rfl, rfl, rfl, rfl, rfl⟩
  · have e : takeG p c = (tookP p c.toNat, 0) := by rw [takeG, if_pos h, takeR, if_neg (by rintro ⟨a, b⟩; rcases h2 with h2 | h2; exact a h2; exact h2 b)]
    obtain ⟨hg, h4, h5⟩ := use_ok h
    obtain ⟨m, hm, h0, h1, h2, h3⟩ := hg.most
    have hn := hg.n1
    have hr := hg.room h4 h5
    have := hg.s0
    have := hg.s1
    have := hg.sp0
    have := hg.sp1
    have := hg.th0
    have := hg.th1
    have hc : c.toNat < p.l.length := by omega
    have := hx.th
    rw [e]
    exact ⟨by omega, by omega, by omega, by omega, by omega, rfl, rfl, rfl, rfl, rfl, rfl, rfl, rfl, rfl, rfl, rfl⟩


set_option maxRecDepth 100000 in
theorem vc143 (p : Pool) (c : Int) (hx : Tame p) : sTake.vc (EV Try.prog [(142, sUse.spec), (118, sCopied.spec), (57, sLimited.spec)] noInv noInv) Try.f143 (p, c, ()) := by
  have e : (Tame p ∧ ((!decide (useI p c = 0)) = true → ∃ (y : Unit), True ∧ 0 = (takeG p c).fst.g ∧ 0 = (takeG p c).fst.q ∧ 0 = (takeG p c).fst.bu ∧ 0 = (takeG p c).fst.s ∧ 0 = (takeG p c).fst.le ∧ 0 = (takeG p c).fst.sp ∧ 0 = (takeG p c).fst.pe ∧ 0 = (takeG p c).fst.th ∧ false = (takeG p c).fst.em ∧ useI p c = (takeG p c).snd ∧ NilL Int = (takeG p c).fst.l) ∧ ((!decide (useI p c = 0)) = false → True ∧ ((!decide (p.q = 4611686018427387904)) = true → (!decide (p.q = 4611686018427387904)) = true) ∧ ((!decide (p.q = 4611686018427387904)) = true → (!decide (p.q = 4611686018427387904)) = true) ∧ ((!decide (p.q = 4611686018427387904)) = true → (!decide (p.q = 4611686018427387904)) = true) ∧ ((!decide (p.q = 4611686018427387904) && decide (p.le = 0)) = true → ∃ (y : Unit), True ∧ 0 = (takeG p c).fst.g ∧ 0 = (takeG p c).fst.q ∧ 0 = (takeG p c).fst.bu ∧ 0 = (takeG p c).fst.s ∧ 0 = (takeG p c).fst.le ∧ 0 = (takeG p c).fst.sp ∧ 0 = (takeG p c).fst.pe ∧ 0 = (takeG p c).fst.th ∧ false = (takeG p c).fst.em ∧ 11 = (takeG p c).snd ∧ NilL Int = (takeG p c).fst.l) ∧ ((!decide (p.q = 4611686018427387904) && decide (p.le = 0)) = false → p.l.length ≤ (1048576 : Nat) ∧ i64R (p.le - Min.min p.s p.le) ∧ (0 ≤ c ∧ c < (↑p.l.length : Int)) ∧ i64R (p.l.getD c.toNat 0 + Min.min p.s p.le) ∧ (0 ≤ c ∧ c < (↑p.l.length : Int)) ∧ ∃ (y : Unit), True ∧ p.g = (takeG p c).fst.g ∧ p.q = (takeG p c).fst.q ∧ p.bu = (takeG p c).fst.bu ∧ p.s = (takeG p c).fst.s ∧ p.le - Min.min p.s p.le = (takeG p c).fst.le ∧ p.sp = (takeG p c).fst.sp ∧ p.pe = (takeG p c).fst.pe ∧ p.th = (takeG p c).fst.th ∧ p.em = (takeG p c).fst.em ∧ 0 = (takeG p c).snd ∧ p.l.set c.toNat (p.l.getD c.toNat 0 + Min.min p.s p.le) = (takeG p c).fst.l))) = sTake.vc (EV Try.prog [(142, sUse.spec), (118, sCopied.spec), (57, sLimited.spec)] noInv noInv) Try.f143 (p, c, ()) := by kernel_rfl
  rw [← e]
  clear e
  simp only [imp_self, true_and, and_true, exists_const, implies_true, gd1, gd2, gd3, gd4, gd5, gd6, NilL_eq ]
  simp only [Prod.forall, Prod.exists, exists_const, implies_true, not_true_eq_false, not_false_eq_true, or_self, or_false, false_or, or_true, true_or, and_false, false_and, forall_const, true_and, and_true, i64R, imp_self, Int.reduceLE, Int.reduceLT, Int.reduceNeg, false_implies, true_implies, decide_eq_true_eq, decide_eq_false_iff_not, Bool.not_eq_true', Bool.not_eq_false', Bool.true_eq_false, Bool.false_eq_true, Bool.and_eq_true, Bool.or_eq_true, NilL_eq, Bool.and_eq_false_iff, Bool.or_eq_false_iff ]
  refine ⟨hx, fun h => ?_, fun h => ⟨fun h2 => ?_, fun h2 => ?_⟩⟩
  · have e : takeG p c = (zeroP, useI p c) := by rw [takeG, if_neg h]
    rw [e]; exact ⟨rfl, rfl, rfl, rfl, rfl, rfl, rfl, rfl, rfl, rfl, rfl⟩
  · have e : takeG p c = (zeroP, 11) := by rw [takeG, if_pos h, takeR, if_pos h2]
    rw [e]; exact ⟨rfl, rfl, rfl, rfl, rfl, rfl, rfl, rfl, rfl, rfl, rfl⟩
  · have e : takeG p c = (tookP p c.toNat, 0) := by rw [takeG, if_pos h, takeR, if_neg (by rintro ⟨a, b⟩; rcases h2 with h2 | h2; exact a h2; exact h2 b)]
    obtain ⟨hg, h4, h5⟩ := use_ok h
    obtain ⟨m, hm, h0, h1, h2, h3⟩ := hg.most
    have hn := hg.n1
    have hr := hg.room h4 h5
    have := hg.s0
    have := hg.s1
    have := hg.sp0
    have := hg.sp1
    have := hg.th0
    have := hg.th1
    have hc : c.toNat < p.l.length := by omega
    have := hx.th
    rw [e]
    exact ⟨by omega, by omega, by omega, by omega, by omega, rfl, rfl, rfl, rfl, rfl, rfl, rfl, rfl, rfl, rfl, rfl⟩


set_option maxRecDepth 100000 in
theorem vc107 (p : Pool) (c : Int) (hx : Tame p) : sSpend.vc (EV Try.prog [(138, sUse.spec), (139, sCopied.spec), (140, sLimited.spec), (141, sTake.spec)] noInv noInv) Try.f107 (p, c, ()) := by
  have e : (Tame p ∧ ((!decide (useI p c = 0)) = true → ∃ (y : Unit), True ∧ 0 = (spendG p c).fst.g ∧ 0 = (spendG p c).fst.q ∧ 0 = (spendG p c).fst.bu ∧ 0 = (spendG p c).fst.s ∧ 0 = (spendG p c).fst.le ∧ 0 = (spendG p c).fst.sp ∧ 0 = (spendG p c).fst.pe ∧ 0 = (spendG p c).fst.th ∧ false = (spendG p c).fst.em ∧ useI p c = (spendG p c).snd ∧ NilL Int = (spendG p c).fst.l) ∧ ((!decide (useI p c = 0)) = false → p.l.length ≤ (1048576 : Nat) ∧ True ∧ ((!decide (p.q = 4611686018427387904)) = true → (0 ≤ c ∧ c < (↑p.l.length : Int)) ∧ (decide (p.l.getD c.toNat (0 : Int) = 0) = true → Tame p ∧ ((!decide ((takeG p c).snd = 0)) = true → ((!p.em) = true → i64R (p.th + 1) ∧ ∃ (y : Unit), True ∧ p.g = (spendG p c).fst.g ∧ p.q = (spendG p c).fst.q ∧ p.bu = (spendG p c).fst.bu ∧ p.s = (spendG p c).fst.s ∧ p.le = (spendG p c).fst.le ∧ p.sp = (spendG p c).fst.sp ∧ p.pe = (spendG p c).fst.pe ∧ p.th + 1 = (spendG p c).fst.th ∧ true = (spendG p c).fst.em ∧ (takeG p c).snd = (spendG p c).snd ∧ p.l = (spendG p c).fst.l) ∧ ((!p.em) = false → ∃ (y : Unit), True ∧ p.g = (spendG p c).fst.g ∧ p.q = (spendG p c).fst.q ∧ p.bu = (spendG p c).fst.bu ∧ p.s = (spendG p c).fst.s ∧ p.le = (spendG p c).fst.le ∧ p.sp = (spendG p c).fst.sp ∧ p.pe = (spendG p c).fst.pe ∧ p.th = (spendG p c).fst.th ∧ p.em = (spendG p c).fst.em ∧ (takeG p c).snd = (spendG p c).snd ∧ p.l = (spendG p c).fst.l)) ∧ ((!decide ((takeG p c).snd = 0)) = false → (0 ≤ c ∧ c < (↑(takeG p c).fst.l.length : Int)) ∧ i64R ((takeG p c).fst.l.getD c.toNat (0 : Int) - 1) ∧ (0 ≤ c ∧ c < (↑(takeG p c).fst.l.length : Int)) ∧ i64R ((takeG p c).fst.sp + 1) ∧ ∃ (y : Unit), True ∧ (takeG p c).fst.g = (spendG p c).fst.g ∧ (takeG p c).fst.q = (spendG p c).fst.q ∧ (takeG p c).fst.bu = (spendG p c).fst.bu ∧ (takeG p c).fst.s = (spendG p c).fst.s ∧ (takeG p c).fst.le = (spendG p c).fst.le ∧ Min.min ((takeG p c).fst.sp + 1) 1099511627776 = (spendG p c).fst.sp ∧ (takeG p c).fst.pe = (spendG p c).fst.pe ∧ (takeG p c).fst.th = (spendG p c).fst.th ∧ (takeG p c).fst.em = (spendG p c).fst.em ∧ 0 = (spendG p c).snd ∧ (takeG p c).fst.l.set c.toNat ((takeG p c).fst.l.getD c.toNat (0 : Int) - 1) = (spendG p c).fst.l)) ∧ (decide (p.l.getD c.toNat (0 : Int) = 0) = false → (0 ≤ c ∧ c < (↑p.l.length : Int)) ∧ i64R (p.l.getD c.toNat (0 : Int) - 1) ∧ (0 ≤ c ∧ c < (↑p.l.length : Int)) ∧ i64R (p.sp + 1) ∧ ∃ (y : Unit), True ∧ p.g = (spendG p c).fst.g ∧ p.q = (spendG p c).fst.q ∧ p.bu = (spendG p c).fst.bu ∧ p.s = (spendG p c).fst.s ∧ p.le = (spendG p c).fst.le ∧ Min.min (p.sp + 1) 1099511627776 = (spendG p c).fst.sp ∧ p.pe = (spendG p c).fst.pe ∧ p.th = (spendG p c).fst.th ∧ p.em = (spendG p c).fst.em ∧ 0 = (spendG p c).snd ∧ p.l.set c.toNat (p.l.getD c.toNat (0 : Int) - 1) = (spendG p c).fst.l)) ∧ ((!decide (p.q = 4611686018427387904)) = false → i64R (p.sp + 1) ∧ ∃ (y : Unit), True ∧ p.g = (spendG p c).fst.g ∧ p.q = (spendG p c).fst.q ∧ p.bu = (spendG p c).fst.bu ∧ p.s = (spendG p c).fst.s ∧ p.le = (spendG p c).fst.le ∧ Min.min (p.sp + 1) 1099511627776 = (spendG p c).fst.sp ∧ p.pe = (spendG p c).fst.pe ∧ p.th = (spendG p c).fst.th ∧ p.em = (spendG p c).fst.em ∧ 0 = (spendG p c).snd ∧ p.l = (spendG p c).fst.l))) = sSpend.vc (EV Try.prog [(138, sUse.spec), (139, sCopied.spec), (140, sLimited.spec), (141, sTake.spec)] noInv noInv) Try.f107 (p, c, ()) := by kernel_rfl
  rw [← e]
  clear e
  simp only [imp_self, true_and, and_true, exists_const, implies_true, gd1, gd2, gd3, gd4, gd5, gd6, NilL_eq ]
  simp only [Prod.forall, Prod.exists, exists_const, implies_true, not_true_eq_false, not_false_eq_true, or_self, or_false, false_or, or_true, true_or, and_false, false_and, forall_const, true_and, and_true, i64R, imp_self, Int.reduceLE, Int.reduceLT, Int.reduceNeg, false_implies, true_implies, decide_eq_true_eq, decide_eq_false_iff_not, Bool.not_eq_true', Bool.not_eq_false', Bool.true_eq_false, Bool.false_eq_true, Bool.and_eq_true, Bool.or_eq_true, NilL_eq, Bool.and_eq_false_iff, Bool.or_eq_false_iff ]
  refine ⟨hx, fun h => ?_, fun h => ?_⟩
  · have e : spendG p c = (zeroP, useI p c) := by rw [spendG, if_neg h]
    rw [e]; exact ⟨rfl, rfl, rfl, rfl, rfl, rfl, rfl, rfl, rfl, rfl, rfl⟩
  · have e0 : spendG p c = spendR p c.toNat := by rw [spendG, if_pos h]
    obtain ⟨hg, h4, h5⟩ := use_ok h
    obtain ⟨m, hm, h0, h1, h2, h3⟩ := hg.most
    have hn := hg.n1
    have hr := hg.room h4 h5
    have := hg.s0
    have := hg.s1
    have := hg.sp0
    have := hg.sp1
    have := hg.th0
    have := hg.th1
    have hc : c.toNat < p.l.length := by omega
    have := hx.th
    have ht : ∀ {q : Int × Int}, True := fun {_} => trivial
    have eD : ∀ hq : ¬ p.q = 4611686018427387904, p.l.getD c.toNat 0 = 0 → p.le = 0 → spendG p c = (dryP p, 11) := fun a b d => by rw [e0, spendR, if_neg a, if_pos b, if_pos d]
    have eT : ∀ hq : ¬ p.q = 4611686018427387904, p.l.getD c.toNat 0 = 0 → ¬ p.le = 0 → spendG p c = (usedP (tookP p c.toNat) c.toNat, 0) := fun a b d => by rw [e0, spendR, if_neg a, if_pos b, if_neg d]
    have eU : ∀ hq : ¬ p.q = 4611686018427387904, ¬ p.l.getD c.toNat 0 = 0 → spendG p c = (usedP p c.toNat, 0) := fun a b => by rw [e0, spendR, if_neg a, if_neg b]
    have eQ : p.q = 4611686018427387904 → spendG p c = ({ p with sp := min (p.sp + 1) 1099511627776 }, 0) := fun a => by rw [e0, spendR, if_pos a]
    have tk : ¬ p.q = 4611686018427387904 → ¬ p.le = 0 → takeG p c = (tookP p c.toNat, 0) := fun a b => by rw [takeG, if_pos h, takeR, if_neg (fun d => b d.2)]
    have tn : ¬ p.q = 4611686018427387904 → p.le = 0 → takeG p c = (zeroP, 11) := fun a b => by rw [takeG, if_pos h, takeR, if_pos ⟨a, b⟩]
    have d1 : p.em = false → dryP p = { p with em := true, th := p.th + 1 } := fun a => by rw [dryP, if_neg (by rw [a]; simp)]
    have d2 : p.em = true → dryP p = p := fun a => by rw [dryP, if_pos a]
    have gt := hg.took hc
    have gl : (tookP p c.toNat).l.length = p.l.length := by simp [tookP]
    have gr := gt.room (c := c) h4 (by omega)
    have gs : (tookP p c.toNat).sp = p.sp := rfl
    refine ⟨by omega, fun hq => ⟨by omega, fun hl => ⟨hx, fun ht => ?_, fun ht => ?_⟩, fun hl => ?_⟩, fun hq => ?_⟩
    · have hle : p.le = 0 := by
        by_cases a : p.le = 0
        · exact a
        · rw [tk hq a] at ht; exact absurd rfl ht
      rw [eD hq hl hle, tn hq hle]
      refine ⟨fun he => ⟨by omega, ?_⟩, fun he => ?_⟩
      · rw [d1 he]; exact ⟨rfl, rfl, rfl, rfl, rfl, rfl, rfl, rfl, rfl, rfl, rfl⟩
      · rw [d2 he]; exact ⟨rfl, rfl, rfl, rfl, rfl, rfl, rfl, rfl, rfl, rfl, rfl⟩
    · have hle : ¬ p.le = 0 := fun a => by rw [tn hq a] at ht; cases ht
      rw [eT hq hl hle, tk hq hle]
      dsimp only
      exact ⟨by omega, by omega, by omega, by omega, rfl, rfl, rfl, rfl, rfl, rfl, rfl, rfl, rfl, rfl, rfl⟩
    · rw [eU hq hl]
      exact ⟨by omega, by omega, by omega, by omega, rfl, rfl, rfl, rfl, rfl, rfl, rfl, rfl, rfl, rfl, rfl⟩
    · rw [eQ hq]
      exact ⟨by omega, rfl, rfl, rfl, rfl, rfl, rfl, rfl, rfl, rfl, rfl, rfl⟩


set_option maxRecDepth 100000 in
theorem vc108 (p : Pool) (c : Int) (hx : Tame p) : sSpend.vc (EV Try.prog [(142, sUse.spec), (118, sCopied.spec), (57, sLimited.spec), (143, sTake.spec), (62, sRoom.spec)] noInv noInv) Try.f108 (p, c, ()) := by
  have e : (Tame p ∧ ((!decide (useI p c = 0)) = true → ∃ (y : Unit), True ∧ 0 = (spendG p c).fst.g ∧ 0 = (spendG p c).fst.q ∧ 0 = (spendG p c).fst.bu ∧ 0 = (spendG p c).fst.s ∧ 0 = (spendG p c).fst.le ∧ 0 = (spendG p c).fst.sp ∧ 0 = (spendG p c).fst.pe ∧ 0 = (spendG p c).fst.th ∧ false = (spendG p c).fst.em ∧ useI p c = (spendG p c).snd ∧ NilL Int = (spendG p c).fst.l) ∧ ((!decide (useI p c = 0)) = false → p.l.length ≤ (1048576 : Nat) ∧ True ∧ ((!decide (p.q = 4611686018427387904)) = true → Tame p ∧ (decide (roomI p c = 0) = true → ((!p.em) = true → i64R (p.th + 1) ∧ ∃ (y : Unit), True ∧ p.g = (spendG p c).fst.g ∧ p.q = (spendG p c).fst.q ∧ p.bu = (spendG p c).fst.bu ∧ p.s = (spendG p c).fst.s ∧ p.le = (spendG p c).fst.le ∧ p.sp = (spendG p c).fst.sp ∧ p.pe = (spendG p c).fst.pe ∧ p.th + 1 = (spendG p c).fst.th ∧ true = (spendG p c).fst.em ∧ 11 = (spendG p c).snd ∧ p.l = (spendG p c).fst.l) ∧ ((!p.em) = false → ∃ (y : Unit), True ∧ p.g = (spendG p c).fst.g ∧ p.q = (spendG p c).fst.q ∧ p.bu = (spendG p c).fst.bu ∧ p.s = (spendG p c).fst.s ∧ p.le = (spendG p c).fst.le ∧ p.sp = (spendG p c).fst.sp ∧ p.pe = (spendG p c).fst.pe ∧ p.th = (spendG p c).fst.th ∧ p.em = (spendG p c).fst.em ∧ 11 = (spendG p c).snd ∧ p.l = (spendG p c).fst.l)) ∧ (decide (roomI p c = 0) = false → (0 ≤ c ∧ c < (↑p.l.length : Int)) ∧ (decide (p.l.getD c.toNat (0 : Int) = 0) = true → Tame p ∧ (0 ≤ c ∧ c < (↑(takeG p c).fst.l.length : Int)) ∧ i64R ((takeG p c).fst.l.getD c.toNat (0 : Int) - 1) ∧ (0 ≤ c ∧ c < (↑(takeG p c).fst.l.length : Int)) ∧ i64R ((takeG p c).fst.sp + 1) ∧ ∃ (y : Unit), True ∧ (takeG p c).fst.g = (spendG p c).fst.g ∧ (takeG p c).fst.q = (spendG p c).fst.q ∧ (takeG p c).fst.bu = (spendG p c).fst.bu ∧ (takeG p c).fst.s = (spendG p c).fst.s ∧ (takeG p c).fst.le = (spendG p c).fst.le ∧ Min.min ((takeG p c).fst.sp + 1) 1099511627776 = (spendG p c).fst.sp ∧ (takeG p c).fst.pe = (spendG p c).fst.pe ∧ (takeG p c).fst.th = (spendG p c).fst.th ∧ (takeG p c).fst.em = (spendG p c).fst.em ∧ 0 = (spendG p c).snd ∧ (takeG p c).fst.l.set c.toNat ((takeG p c).fst.l.getD c.toNat (0 : Int) - 1) = (spendG p c).fst.l) ∧ (decide (p.l.getD c.toNat (0 : Int) = 0) = false → (0 ≤ c ∧ c < (↑p.l.length : Int)) ∧ i64R (p.l.getD c.toNat (0 : Int) - 1) ∧ (0 ≤ c ∧ c < (↑p.l.length : Int)) ∧ i64R (p.sp + 1) ∧ ∃ (y : Unit), True ∧ p.g = (spendG p c).fst.g ∧ p.q = (spendG p c).fst.q ∧ p.bu = (spendG p c).fst.bu ∧ p.s = (spendG p c).fst.s ∧ p.le = (spendG p c).fst.le ∧ Min.min (p.sp + 1) 1099511627776 = (spendG p c).fst.sp ∧ p.pe = (spendG p c).fst.pe ∧ p.th = (spendG p c).fst.th ∧ p.em = (spendG p c).fst.em ∧ 0 = (spendG p c).snd ∧ p.l.set c.toNat (p.l.getD c.toNat (0 : Int) - 1) = (spendG p c).fst.l))) ∧ ((!decide (p.q = 4611686018427387904)) = false → i64R (p.sp + 1) ∧ ∃ (y : Unit), True ∧ p.g = (spendG p c).fst.g ∧ p.q = (spendG p c).fst.q ∧ p.bu = (spendG p c).fst.bu ∧ p.s = (spendG p c).fst.s ∧ p.le = (spendG p c).fst.le ∧ Min.min (p.sp + 1) 1099511627776 = (spendG p c).fst.sp ∧ p.pe = (spendG p c).fst.pe ∧ p.th = (spendG p c).fst.th ∧ p.em = (spendG p c).fst.em ∧ 0 = (spendG p c).snd ∧ p.l = (spendG p c).fst.l))) = sSpend.vc (EV Try.prog [(142, sUse.spec), (118, sCopied.spec), (57, sLimited.spec), (143, sTake.spec), (62, sRoom.spec)] noInv noInv) Try.f108 (p, c, ()) := by kernel_rfl
  rw [← e]
  clear e
  simp only [imp_self, true_and, and_true, exists_const, implies_true, gd1, gd2, gd3, gd4, gd5, gd6, NilL_eq ]
  simp only [Prod.forall, Prod.exists, exists_const, implies_true, not_true_eq_false, not_false_eq_true, or_self, or_false, false_or, or_true, true_or, and_false, false_and, forall_const, true_and, and_true, i64R, imp_self, Int.reduceLE, Int.reduceLT, Int.reduceNeg, false_implies, true_implies, decide_eq_true_eq, decide_eq_false_iff_not, Bool.not_eq_true', Bool.not_eq_false', Bool.true_eq_false, Bool.false_eq_true, Bool.and_eq_true, Bool.or_eq_true, NilL_eq, Bool.and_eq_false_iff, Bool.or_eq_false_iff ]
  refine ⟨hx, fun h => ?_, fun h => ?_⟩
  · have e : spendG p c = (zeroP, useI p c) := by rw [spendG, if_neg h]
    rw [e]; exact ⟨rfl, rfl, rfl, rfl, rfl, rfl, rfl, rfl, rfl, rfl, rfl⟩
  · have e0 : spendG p c = spendR p c.toNat := by rw [spendG, if_pos h]
    obtain ⟨hg, h4, h5⟩ := use_ok h
    obtain ⟨m, hm, h0, h1, h2, h3⟩ := hg.most
    have hn := hg.n1
    have hr := hg.room h4 h5
    have := hg.s0
    have := hg.s1
    have := hg.sp0
    have := hg.sp1
    have := hg.th0
    have := hg.th1
    have hc : c.toNat < p.l.length := by omega
    have := hx.th
    have ht : ∀ {q : Int × Int}, True := fun {_} => trivial
    have eD : ∀ hq : ¬ p.q = 4611686018427387904, p.l.getD c.toNat 0 = 0 → p.le = 0 → spendG p c = (dryP p, 11) := fun a b d => by rw [e0, spendR, if_neg a, if_pos b, if_pos d]
    have eT : ∀ hq : ¬ p.q = 4611686018427387904, p.l.getD c.toNat 0 = 0 → ¬ p.le = 0 → spendG p c = (usedP (tookP p c.toNat) c.toNat, 0) := fun a b d => by rw [e0, spendR, if_neg a, if_pos b, if_neg d]
    have eU : ∀ hq : ¬ p.q = 4611686018427387904, ¬ p.l.getD c.toNat 0 = 0 → spendG p c = (usedP p c.toNat, 0) := fun a b => by rw [e0, spendR, if_neg a, if_neg b]
    have eQ : p.q = 4611686018427387904 → spendG p c = ({ p with sp := min (p.sp + 1) 1099511627776 }, 0) := fun a => by rw [e0, spendR, if_pos a]
    have tk : ¬ p.q = 4611686018427387904 → ¬ p.le = 0 → takeG p c = (tookP p c.toNat, 0) := fun a b => by rw [takeG, if_pos h, takeR, if_neg (fun d => b d.2)]
    have tn : ¬ p.q = 4611686018427387904 → p.le = 0 → takeG p c = (zeroP, 11) := fun a b => by rw [takeG, if_pos h, takeR, if_pos ⟨a, b⟩]
    have d1 : p.em = false → dryP p = { p with em := true, th := p.th + 1 } := fun a => by rw [dryP, if_neg (by rw [a]; simp)]
    have d2 : p.em = true → dryP p = p := fun a => by rw [dryP, if_pos a]
    have gt := hg.took hc
    have gl : (tookP p c.toNat).l.length = p.l.length := by simp [tookP]
    have gr := gt.room (c := c) h4 (by omega)
    have gs : (tookP p c.toNat).sp = p.sp := rfl
    have er : ¬ p.q = 4611686018427387904 → roomI p c = p.le + p.l.getD c.toNat 0 := fun a => by rw [roomI, if_neg (by omega), if_neg a]
    refine ⟨by omega, fun hq => ⟨hx, fun ht => ?_, fun ht => ⟨by omega, fun hl => ?_, fun hl => ?_⟩⟩, fun hq => ?_⟩
    · rw [er hq] at ht
      rw [eD hq (by omega) (by omega)]
      refine ⟨fun he => ⟨by omega, ?_⟩, fun he => ?_⟩
      · rw [d1 he]; exact ⟨rfl, rfl, rfl, rfl, rfl, rfl, rfl, rfl, rfl, rfl, rfl⟩
      · rw [d2 he]; exact ⟨rfl, rfl, rfl, rfl, rfl, rfl, rfl, rfl, rfl, rfl, rfl⟩
    · rw [er hq] at ht
      have hle : ¬ p.le = 0 := by omega
      rw [eT hq hl hle, tk hq hle]
      dsimp only
      exact ⟨hx, by omega, by omega, by omega, by omega, rfl, rfl, rfl, rfl, rfl, rfl, rfl, rfl, rfl, rfl, rfl⟩
    · rw [eU hq hl]
      exact ⟨by omega, by omega, by omega, by omega, rfl, rfl, rfl, rfl, rfl, rfl, rfl, rfl, rfl, rfl, rfl⟩
    · rw [eQ hq]
      exact ⟨by omega, rfl, rfl, rfl, rfl, rfl, rfl, rfl, rfl, rfl, rfl, rfl⟩


set_option maxRecDepth 100000 in
theorem vc113 (p : Pool) (hx : Tame p) : sRefill.vc (EV Try.prog [(116, sGoodB.spec), (118, sCopied.spec), (57, sLimited.spec), (60, sHeld.spec)] noInv noInv) Try.f113 (p, ()) := by
  have e : (Tame p ∧ ((!goodB p) = true → ∃ (y : Unit), True ∧ 0 = (refillG p).fst.g ∧ 0 = (refillG p).fst.q ∧ 0 = (refillG p).fst.bu ∧ 0 = (refillG p).fst.s ∧ 0 = (refillG p).fst.le ∧ 0 = (refillG p).fst.sp ∧ 0 = (refillG p).fst.pe ∧ 0 = (refillG p).fst.th ∧ false = (refillG p).fst.em ∧ 1 = (refillG p).snd ∧ NilL Int = (refillG p).fst.l) ∧ ((!goodB p) = false → (decide (p.pe = 1099511627776) = true → ∃ (y : Unit), True ∧ 0 = (refillG p).fst.g ∧ 0 = (refillG p).fst.q ∧ 0 = (refillG p).fst.bu ∧ 0 = (refillG p).fst.s ∧ 0 = (refillG p).fst.le ∧ 0 = (refillG p).fst.sp ∧ 0 = (refillG p).fst.pe ∧ 0 = (refillG p).fst.th ∧ false = (refillG p).fst.em ∧ 7 = (refillG p).snd ∧ NilL Int = (refillG p).fst.l) ∧ (decide (p.pe = 1099511627776) = false → p.l.length ≤ (1048576 : Nat) ∧ True ∧ ((!decide (p.q = 4611686018427387904)) = true → i64R (p.q + p.bu) ∧ Small p.le p.l ∧ i64R (p.q + p.bu - (p.le + p.l.sum)) ∧ i64R (p.le + Min.min p.q (p.q + p.bu - (p.le + p.l.sum))) ∧ i64R (p.pe + 1) ∧ ∃ (y : Unit), True ∧ p.g = (refillG p).fst.g ∧ p.q = (refillG p).fst.q ∧ p.bu = (refillG p).fst.bu ∧ p.s = (refillG p).fst.s ∧ p.le + Min.min p.q (p.q + p.bu - (p.le + p.l.sum)) = (refillG p).fst.le ∧ 0 = (refillG p).fst.sp ∧ p.pe + 1 = (refillG p).fst.pe ∧ p.th = (refillG p).fst.th ∧ false = (refillG p).fst.em ∧ 0 = (refillG p).snd ∧ p.l = (refillG p).fst.l) ∧ ((!decide (p.q = 4611686018427387904)) = false → i64R (p.pe + 1) ∧ ∃ (y : Unit), True ∧ p.g = (refillG p).fst.g ∧ p.q = (refillG p).fst.q ∧ p.bu = (refillG p).fst.bu ∧ p.s = (refillG p).fst.s ∧ p.le = (refillG p).fst.le ∧ 0 = (refillG p).fst.sp ∧ p.pe + 1 = (refillG p).fst.pe ∧ p.th = (refillG p).fst.th ∧ false = (refillG p).fst.em ∧ 0 = (refillG p).snd ∧ p.l = (refillG p).fst.l)))) = sRefill.vc (EV Try.prog [(116, sGoodB.spec), (118, sCopied.spec), (57, sLimited.spec), (60, sHeld.spec)] noInv noInv) Try.f113 (p, ()) := by kernel_rfl
  rw [← e]
  clear e
  simp only [imp_self, true_and, and_true, exists_const, implies_true, gd1, gd2, gd3, gd4, gd5, gd6, NilL_eq ]
  simp only [Prod.forall, Prod.exists, exists_const, implies_true, not_true_eq_false, not_false_eq_true, or_self, or_false, false_or, or_true, true_or, and_false, false_and, forall_const, true_and, and_true, i64R, imp_self, Int.reduceLE, Int.reduceLT, Int.reduceNeg, false_implies, true_implies, decide_eq_true_eq, decide_eq_false_iff_not, Bool.not_eq_true', Bool.not_eq_false', Bool.true_eq_false, Bool.false_eq_true, Bool.and_eq_true, Bool.or_eq_true, NilL_eq, Bool.and_eq_false_iff, Bool.or_eq_false_iff ]
  refine ⟨hx, fun h => ?_, fun h => ⟨fun h2 => ?_, fun h2 => ?_⟩⟩
  · have e : refillG p = (zeroP, 1) := by rw [refillG, if_pos h]
    rw [e]; exact ⟨rfl, rfl, rfl, rfl, rfl, rfl, rfl, rfl, rfl, rfl, rfl⟩
  · have e : refillG p = (zeroP, 7) := by rw [refillG, if_neg (by rw [h]; simp), if_pos (by omega)]
    rw [e]; exact ⟨rfl, rfl, rfl, rfl, rfl, rfl, rfl, rfl, rfl, rfl, rfl⟩
  · have e : refillG p = (refillP p, 0) := by rw [refillG, if_neg (by rw [h]; simp), if_neg (by have := (goodB_iff.1 h).pe1; omega)]
    have hg := goodB_iff.1 h
    obtain ⟨m, hm, h0, h1, h2, h3⟩ := hg.most
    have hn := hg.n1
    have hs0 := sum_nonneg h1
    have := hg.pe0
    have := hg.pe1
    rw [e]
    have eP : ∀ hq : ¬ p.q = 4611686018427387904, refillP p = { p with le := p.le + min p.q (p.q + p.bu - (p.le + p.l.sum)), pe := p.pe + 1, sp := 0, em := false } := fun hq => by rw [refillP, if_neg hq]
    have eQ : p.q = 4611686018427387904 → refillP p = { p with pe := p.pe + 1, sp := 0, em := false } := fun hq => by rw [refillP, if_pos hq]
    refine ⟨by omega, fun hq => ?_, fun hq => ?_⟩
    · rw [eP hq]
      exact ⟨by omega, hg.small, by omega, by omega, by omega, rfl, rfl, rfl, rfl, rfl, rfl, rfl, rfl, rfl, rfl, rfl⟩
    · rw [eQ hq]
      exact ⟨by omega, rfl, rfl, rfl, rfl, rfl, rfl, rfl, rfl, rfl, rfl, rfl⟩


set_option maxRecDepth 100000 in
theorem vc115 (g q bu s c : Int) (hx : -1152921504606846976 ≤ bu ∧ bu ≤ 1152921504606846976) : sNewP.vc (EV Try.prog [(147, sWithin.spec), (140, sLimited.spec), (121, sGoodB.spec)] noInv noInv) Try.f115 (g, q, bu, s, c, ()) := by
  have e : (True ∧ ((decide (1 ≤ c) && decide (c ≤ 16)) = true → (0 ≤ c ∧ c ≤ c ∧ (↑(8 : Nat) : Int) * c ≤ 281474976710656 ∧ c ≤ 1099511627776) ∧ True ∧ ((!decide (q = 4611686018427387904)) = true → Tame { g := g, q := q, bu := bu, s := s, le := q, l := List.replicate c.toNat 0, sp := 0, pe := 1, th := 0, em := false : Pool } ∧ ((!goodB { g := g, q := q, bu := bu, s := s, le := q, l := List.replicate c.toNat 0, sp := 0, pe := 1, th := 0, em := false : Pool }) = true → ∃ (y : Unit), True ∧ 0 = (newG g q bu s c).fst.g ∧ 0 = (newG g q bu s c).fst.q ∧ 0 = (newG g q bu s c).fst.bu ∧ 0 = (newG g q bu s c).fst.s ∧ 0 = (newG g q bu s c).fst.le ∧ 0 = (newG g q bu s c).fst.sp ∧ 0 = (newG g q bu s c).fst.pe ∧ 0 = (newG g q bu s c).fst.th ∧ false = (newG g q bu s c).fst.em ∧ 3 = (newG g q bu s c).snd ∧ NilL Int = (newG g q bu s c).fst.l) ∧ ((!goodB { g := g, q := q, bu := bu, s := s, le := q, l := List.replicate c.toNat 0, sp := 0, pe := 1, th := 0, em := false : Pool }) = false → ∃ (y : Unit), True ∧ g = (newG g q bu s c).fst.g ∧ q = (newG g q bu s c).fst.q ∧ bu = (newG g q bu s c).fst.bu ∧ s = (newG g q bu s c).fst.s ∧ q = (newG g q bu s c).fst.le ∧ 0 = (newG g q bu s c).fst.sp ∧ 1 = (newG g q bu s c).fst.pe ∧ 0 = (newG g q bu s c).fst.th ∧ false = (newG g q bu s c).fst.em ∧ 0 = (newG g q bu s c).snd ∧ List.replicate c.toNat 0 = (newG g q bu s c).fst.l)) ∧ ((!decide (q = 4611686018427387904)) = false → Tame { g := g, q := q, bu := bu, s := s, le := 0, l := List.replicate c.toNat 0, sp := 0, pe := 1, th := 0, em := false : Pool } ∧ ((!goodB { g := g, q := q, bu := bu, s := s, le := 0, l := List.replicate c.toNat 0, sp := 0, pe := 1, th := 0, em := false : Pool }) = true → ∃ (y : Unit), True ∧ 0 = (newG g q bu s c).fst.g ∧ 0 = (newG g q bu s c).fst.q ∧ 0 = (newG g q bu s c).fst.bu ∧ 0 = (newG g q bu s c).fst.s ∧ 0 = (newG g q bu s c).fst.le ∧ 0 = (newG g q bu s c).fst.sp ∧ 0 = (newG g q bu s c).fst.pe ∧ 0 = (newG g q bu s c).fst.th ∧ false = (newG g q bu s c).fst.em ∧ 3 = (newG g q bu s c).snd ∧ NilL Int = (newG g q bu s c).fst.l) ∧ ((!goodB { g := g, q := q, bu := bu, s := s, le := 0, l := List.replicate c.toNat 0, sp := 0, pe := 1, th := 0, em := false : Pool }) = false → ∃ (y : Unit), True ∧ g = (newG g q bu s c).fst.g ∧ q = (newG g q bu s c).fst.q ∧ bu = (newG g q bu s c).fst.bu ∧ s = (newG g q bu s c).fst.s ∧ 0 = (newG g q bu s c).fst.le ∧ 0 = (newG g q bu s c).fst.sp ∧ 1 = (newG g q bu s c).fst.pe ∧ 0 = (newG g q bu s c).fst.th ∧ false = (newG g q bu s c).fst.em ∧ 0 = (newG g q bu s c).snd ∧ List.replicate c.toNat 0 = (newG g q bu s c).fst.l))) ∧ ((decide (1 ≤ c) && decide (c ≤ 16)) = false → True ∧ ((!decide (q = 4611686018427387904)) = true → Tame { g := g, q := q, bu := bu, s := s, le := q, l := NilL Int, sp := 0, pe := 1, th := 0, em := false : Pool } ∧ ((!goodB { g := g, q := q, bu := bu, s := s, le := q, l := NilL Int, sp := 0, pe := 1, th := 0, em := false : Pool }) = true → ∃ (y : Unit), True ∧ 0 = (newG g q bu s c).fst.g ∧ 0 = (newG g q bu s c).fst.q ∧ 0 = (newG g q bu s c).fst.bu ∧ 0 = (newG g q bu s c).fst.s ∧ 0 = (newG g q bu s c).fst.le ∧ 0 = (newG g q bu s c).fst.sp ∧ 0 = (newG g q bu s c).fst.pe ∧ 0 = (newG g q bu s c).fst.th ∧ false = (newG g q bu s c).fst.em ∧ 3 = (newG g q bu s c).snd ∧ NilL Int = (newG g q bu s c).fst.l) ∧ ((!goodB { g := g, q := q, bu := bu, s := s, le := q, l := NilL Int, sp := 0, pe := 1, th := 0, em := false : Pool }) = false → ∃ (y : Unit), True ∧ g = (newG g q bu s c).fst.g ∧ q = (newG g q bu s c).fst.q ∧ bu = (newG g q bu s c).fst.bu ∧ s = (newG g q bu s c).fst.s ∧ q = (newG g q bu s c).fst.le ∧ 0 = (newG g q bu s c).fst.sp ∧ 1 = (newG g q bu s c).fst.pe ∧ 0 = (newG g q bu s c).fst.th ∧ false = (newG g q bu s c).fst.em ∧ 0 = (newG g q bu s c).snd ∧ NilL Int = (newG g q bu s c).fst.l)) ∧ ((!decide (q = 4611686018427387904)) = false → Tame { g := g, q := q, bu := bu, s := s, le := 0, l := NilL Int, sp := 0, pe := 1, th := 0, em := false : Pool } ∧ ((!goodB { g := g, q := q, bu := bu, s := s, le := 0, l := NilL Int, sp := 0, pe := 1, th := 0, em := false : Pool }) = true → ∃ (y : Unit), True ∧ 0 = (newG g q bu s c).fst.g ∧ 0 = (newG g q bu s c).fst.q ∧ 0 = (newG g q bu s c).fst.bu ∧ 0 = (newG g q bu s c).fst.s ∧ 0 = (newG g q bu s c).fst.le ∧ 0 = (newG g q bu s c).fst.sp ∧ 0 = (newG g q bu s c).fst.pe ∧ 0 = (newG g q bu s c).fst.th ∧ false = (newG g q bu s c).fst.em ∧ 3 = (newG g q bu s c).snd ∧ NilL Int = (newG g q bu s c).fst.l) ∧ ((!goodB { g := g, q := q, bu := bu, s := s, le := 0, l := NilL Int, sp := 0, pe := 1, th := 0, em := false : Pool }) = false → ∃ (y : Unit), True ∧ g = (newG g q bu s c).fst.g ∧ q = (newG g q bu s c).fst.q ∧ bu = (newG g q bu s c).fst.bu ∧ s = (newG g q bu s c).fst.s ∧ 0 = (newG g q bu s c).fst.le ∧ 0 = (newG g q bu s c).fst.sp ∧ 1 = (newG g q bu s c).fst.pe ∧ 0 = (newG g q bu s c).fst.th ∧ false = (newG g q bu s c).fst.em ∧ 0 = (newG g q bu s c).snd ∧ NilL Int = (newG g q bu s c).fst.l)))) = sNewP.vc (EV Try.prog [(147, sWithin.spec), (140, sLimited.spec), (121, sGoodB.spec)] noInv noInv) Try.f115 (g, q, bu, s, c, ()) := by kernel_rfl
  rw [← e]
  clear e
  simp only [imp_self, true_and, and_true, exists_const, implies_true, gd1, gd2, gd3, gd4, gd5, gd6, NilL_eq ]
  simp only [Prod.forall, Prod.exists, exists_const, implies_true, not_true_eq_false, not_false_eq_true, or_self, or_false, false_or, or_true, true_or, and_false, false_and, forall_const, true_and, and_true, i64R, imp_self, Int.reduceLE, Int.reduceLT, Int.reduceNeg, false_implies, true_implies, decide_eq_true_eq, decide_eq_false_iff_not, Bool.not_eq_true', Bool.not_eq_false', Bool.true_eq_false, Bool.false_eq_true, Bool.and_eq_true, Bool.or_eq_true, NilL_eq, Bool.and_eq_false_iff, Bool.or_eq_false_iff ]
  have eN : ¬ q = 4611686018427387904 → newP g q bu s c.toNat = ⟨g, q, bu, s, q, List.replicate c.toNat 0, 0, 1, 0, false⟩ := fun a => by rw [newP, if_neg a]
  have eQ : q = 4611686018427387904 → newP g q bu s c.toNat = ⟨g, q, bu, s, 0, List.replicate c.toNat 0, 0, 1, 0, false⟩ := fun a => by rw [newP, if_pos a]
  have ok : 1 ≤ c ∧ c ≤ 16 → ∀ P : Pool, newP g q bu s c.toNat = P → goodB P = true → newG g q bu s c = (P, 0) := fun h P e h2 => by rw [newG, if_pos ⟨h.1, h.2, by rw [e]; exact h2⟩, e]
  have no : ∀ P : Pool, newP g q bu s c.toNat = P → goodB P = false → newG g q bu s c = (zeroP, 3) := fun P e h2 => by rw [newG, if_neg (fun h => by rw [e, h2] at h; exact absurd h.2.2 (by simp))]
  have out : ¬ 1 ≤ c ∨ ¬ c ≤ 16 → newG g q bu s c = (zeroP, 3) := fun h => by rw [newG, if_neg (by omega)]
  have ng : ∀ le : Int, goodB ⟨g, q, bu, s, le, [], 0, 1, 0, false⟩ = true → False := fun le h => by
    have h2 : (1 : Nat) ≤ ([] : List Int).length := (goodB_iff.1 h).n0
    simp at h2
  have tm : ∀ (le : Int), 1 ≤ c ∧ c ≤ 16 → Tame ⟨g, q, bu, s, le, List.replicate c.toNat 0, 0, 1, 0, false⟩ := fun le h => tame_new g q bu s le _ hx.1 hx.2 (by rw [List.length_replicate]; omega)
  have t0 : ∀ (le : Int), Tame ⟨g, q, bu, s, le, [], 0, 1, 0, false⟩ := fun le => tame_new g q bu s le _ hx.1 hx.2 (by simp)
  have main : (1 ≤ c ∧ c ≤ 16) → True := fun _ => trivial
  refine ⟨fun h => ⟨by omega, fun hq => ⟨tm _ h, fun h2 => ?_, fun h2 => ?_⟩, fun hq => ⟨tm _ h, fun h2 => ?_, fun h2 => ?_⟩⟩, fun h => ⟨fun hq => ⟨t0 _, fun h2 => ?_, fun h2 => (ng _ h2).elim⟩, fun hq => ⟨t0 _, fun h2 => ?_, fun h2 => (ng _ h2).elim⟩⟩⟩
  · rw [no _ (eN hq) h2]; exact ⟨rfl, rfl, rfl, rfl, rfl, rfl, rfl, rfl, rfl, rfl, rfl⟩
  · rw [ok h _ (eN hq) h2]; exact ⟨rfl, rfl, rfl, rfl, rfl, rfl, rfl, rfl, rfl, rfl, rfl⟩
  · rw [no _ (eQ hq) h2]; exact ⟨rfl, rfl, rfl, rfl, rfl, rfl, rfl, rfl, rfl, rfl, rfl⟩
  · rw [ok h _ (eQ hq) h2]; exact ⟨rfl, rfl, rfl, rfl, rfl, rfl, rfl, rfl, rfl, rfl, rfl⟩
  · rw [out h]; exact ⟨rfl, rfl, rfl, rfl, rfl, rfl, rfl, rfl, rfl, rfl, rfl⟩
  · rw [out h]; exact ⟨rfl, rfl, rfl, rfl, rfl, rfl, rfl, rfl, rfl, rfl, rfl⟩


set_option maxRecDepth 100000 in
theorem vc133 (g q bu s c : Int) (hx : -1152921504606846976 ≤ bu ∧ bu ≤ 1152921504606846976) : sNewP.vc (EV Try.prog [(119, sWithin.spec), (57, sLimited.spec), (116, sGoodB.spec)] noInv noInv) Try.f133 (g, q, bu, s, c, ()) := by
  have e : (True ∧ ((!(decide (1 ≤ c) && decide (c ≤ 16))) = true → ∃ (y : Unit), True ∧ 0 = (newG g q bu s c).fst.g ∧ 0 = (newG g q bu s c).fst.q ∧ 0 = (newG g q bu s c).fst.bu ∧ 0 = (newG g q bu s c).fst.s ∧ 0 = (newG g q bu s c).fst.le ∧ 0 = (newG g q bu s c).fst.sp ∧ 0 = (newG g q bu s c).fst.pe ∧ 0 = (newG g q bu s c).fst.th ∧ false = (newG g q bu s c).fst.em ∧ 3 = (newG g q bu s c).snd ∧ NilL Int = (newG g q bu s c).fst.l) ∧ ((!(decide (1 ≤ c) && decide (c ≤ 16))) = false → (0 ≤ c ∧ c ≤ c ∧ (↑(8 : Nat) : Int) * c ≤ 281474976710656 ∧ c ≤ 1099511627776) ∧ True ∧ ((!decide (q = 4611686018427387904)) = true → Tame { g := g, q := q, bu := bu, s := s, le := q, l := List.replicate c.toNat 0, sp := 0, pe := 1, th := 0, em := false : Pool } ∧ ((!goodB { g := g, q := q, bu := bu, s := s, le := q, l := List.replicate c.toNat 0, sp := 0, pe := 1, th := 0, em := false : Pool }) = true → ∃ (y : Unit), True ∧ 0 = (newG g q bu s c).fst.g ∧ 0 = (newG g q bu s c).fst.q ∧ 0 = (newG g q bu s c).fst.bu ∧ 0 = (newG g q bu s c).fst.s ∧ 0 = (newG g q bu s c).fst.le ∧ 0 = (newG g q bu s c).fst.sp ∧ 0 = (newG g q bu s c).fst.pe ∧ 0 = (newG g q bu s c).fst.th ∧ false = (newG g q bu s c).fst.em ∧ 3 = (newG g q bu s c).snd ∧ NilL Int = (newG g q bu s c).fst.l) ∧ ((!goodB { g := g, q := q, bu := bu, s := s, le := q, l := List.replicate c.toNat 0, sp := 0, pe := 1, th := 0, em := false : Pool }) = false → ∃ (y : Unit), True ∧ g = (newG g q bu s c).fst.g ∧ q = (newG g q bu s c).fst.q ∧ bu = (newG g q bu s c).fst.bu ∧ s = (newG g q bu s c).fst.s ∧ q = (newG g q bu s c).fst.le ∧ 0 = (newG g q bu s c).fst.sp ∧ 1 = (newG g q bu s c).fst.pe ∧ 0 = (newG g q bu s c).fst.th ∧ false = (newG g q bu s c).fst.em ∧ 0 = (newG g q bu s c).snd ∧ List.replicate c.toNat 0 = (newG g q bu s c).fst.l)) ∧ ((!decide (q = 4611686018427387904)) = false → Tame { g := g, q := q, bu := bu, s := s, le := 0, l := List.replicate c.toNat 0, sp := 0, pe := 1, th := 0, em := false : Pool } ∧ ((!goodB { g := g, q := q, bu := bu, s := s, le := 0, l := List.replicate c.toNat 0, sp := 0, pe := 1, th := 0, em := false : Pool }) = true → ∃ (y : Unit), True ∧ 0 = (newG g q bu s c).fst.g ∧ 0 = (newG g q bu s c).fst.q ∧ 0 = (newG g q bu s c).fst.bu ∧ 0 = (newG g q bu s c).fst.s ∧ 0 = (newG g q bu s c).fst.le ∧ 0 = (newG g q bu s c).fst.sp ∧ 0 = (newG g q bu s c).fst.pe ∧ 0 = (newG g q bu s c).fst.th ∧ false = (newG g q bu s c).fst.em ∧ 3 = (newG g q bu s c).snd ∧ NilL Int = (newG g q bu s c).fst.l) ∧ ((!goodB { g := g, q := q, bu := bu, s := s, le := 0, l := List.replicate c.toNat 0, sp := 0, pe := 1, th := 0, em := false : Pool }) = false → ∃ (y : Unit), True ∧ g = (newG g q bu s c).fst.g ∧ q = (newG g q bu s c).fst.q ∧ bu = (newG g q bu s c).fst.bu ∧ s = (newG g q bu s c).fst.s ∧ 0 = (newG g q bu s c).fst.le ∧ 0 = (newG g q bu s c).fst.sp ∧ 1 = (newG g q bu s c).fst.pe ∧ 0 = (newG g q bu s c).fst.th ∧ false = (newG g q bu s c).fst.em ∧ 0 = (newG g q bu s c).snd ∧ List.replicate c.toNat 0 = (newG g q bu s c).fst.l)))) = sNewP.vc (EV Try.prog [(119, sWithin.spec), (57, sLimited.spec), (116, sGoodB.spec)] noInv noInv) Try.f133 (g, q, bu, s, c, ()) := by kernel_rfl
  rw [← e]
  clear e
  simp only [imp_self, true_and, and_true, exists_const, implies_true, gd1, gd2, gd3, gd4, gd5, gd6, NilL_eq ]
  simp only [Prod.forall, Prod.exists, exists_const, implies_true, not_true_eq_false, not_false_eq_true, or_self, or_false, false_or, or_true, true_or, and_false, false_and, forall_const, true_and, and_true, i64R, imp_self, Int.reduceLE, Int.reduceLT, Int.reduceNeg, false_implies, true_implies, decide_eq_true_eq, decide_eq_false_iff_not, Bool.not_eq_true', Bool.not_eq_false', Bool.true_eq_false, Bool.false_eq_true, Bool.and_eq_true, Bool.or_eq_true, NilL_eq, Bool.and_eq_false_iff, Bool.or_eq_false_iff ]
  have eN : ¬ q = 4611686018427387904 → newP g q bu s c.toNat = ⟨g, q, bu, s, q, List.replicate c.toNat 0, 0, 1, 0, false⟩ := fun a => by rw [newP, if_neg a]
  have eQ : q = 4611686018427387904 → newP g q bu s c.toNat = ⟨g, q, bu, s, 0, List.replicate c.toNat 0, 0, 1, 0, false⟩ := fun a => by rw [newP, if_pos a]
  have ok : 1 ≤ c ∧ c ≤ 16 → ∀ P : Pool, newP g q bu s c.toNat = P → goodB P = true → newG g q bu s c = (P, 0) := fun h P e h2 => by rw [newG, if_pos ⟨h.1, h.2, by rw [e]; exact h2⟩, e]
  have no : ∀ P : Pool, newP g q bu s c.toNat = P → goodB P = false → newG g q bu s c = (zeroP, 3) := fun P e h2 => by rw [newG, if_neg (fun h => by rw [e, h2] at h; exact absurd h.2.2 (by simp))]
  have out : ¬ 1 ≤ c ∨ ¬ c ≤ 16 → newG g q bu s c = (zeroP, 3) := fun h => by rw [newG, if_neg (by omega)]
  have ng : ∀ le : Int, goodB ⟨g, q, bu, s, le, [], 0, 1, 0, false⟩ = true → False := fun le h => by
    have h2 : (1 : Nat) ≤ ([] : List Int).length := (goodB_iff.1 h).n0
    simp at h2
  have tm : ∀ (le : Int), 1 ≤ c ∧ c ≤ 16 → Tame ⟨g, q, bu, s, le, List.replicate c.toNat 0, 0, 1, 0, false⟩ := fun le h => tame_new g q bu s le _ hx.1 hx.2 (by rw [List.length_replicate]; omega)
  have t0 : ∀ (le : Int), Tame ⟨g, q, bu, s, le, [], 0, 1, 0, false⟩ := fun le => tame_new g q bu s le _ hx.1 hx.2 (by simp)
  have main : (1 ≤ c ∧ c ≤ 16) → True := fun _ => trivial
  refine ⟨fun h => ?_, fun h => ⟨by omega, fun hq => ⟨tm _ h, fun h2 => ?_, fun h2 => ?_⟩, fun hq => ⟨tm _ h, fun h2 => ?_, fun h2 => ?_⟩⟩⟩
  · rw [out h]; exact ⟨rfl, rfl, rfl, rfl, rfl, rfl, rfl, rfl, rfl, rfl, rfl⟩
  · rw [no _ (eN hq) h2]; exact ⟨rfl, rfl, rfl, rfl, rfl, rfl, rfl, rfl, rfl, rfl, rfl⟩
  · rw [ok h _ (eN hq) h2]; exact ⟨rfl, rfl, rfl, rfl, rfl, rfl, rfl, rfl, rfl, rfl, rfl⟩
  · rw [no _ (eQ hq) h2]; exact ⟨rfl, rfl, rfl, rfl, rfl, rfl, rfl, rfl, rfl, rfl, rfl⟩
  · rw [ok h _ (eQ hq) h2]; exact ⟨rfl, rfl, rfl, rfl, rfl, rfl, rfl, rfl, rfl, rfl, rfl⟩

def inv146 (p : Pool) (q bu : Int) : Inv where
  X := Half
  ok := fun h => HalfOK p p.l.length (p.le + p.l.sum - overI p q bu) h ∧ rem1 p.l.length h = ((chD p q bu).le, (chD p q bu).l)
  sl := fun h => [(9, .int .i64 h.i), (8, .int .i64 h.over)]
  hp := fun h => [(10000, .cells 80 (poolAV (chP p q bu h) (.own 101 0)).flat), (101, .rows 3 0 h.l)]
  keep := [10010]
  me := fun h => (h.i + 1).toNat
set_option maxRecDepth 100000 in
theorem vc146 (p : Pool) (q bu : Int) (hx : Tame p ∧ -1152921504606846976 ≤ bu ∧ bu ≤ 1152921504606846976) : sChange.vc (EV Try.prog [(121, sGoodB.spec), (139, sCopied.spec), (148, sRates.spec), (144, sHeld.spec), (140, sLimited.spec)] (invs [(11, inv146 p q bu)]) noInv) Try.f146 (p, q, bu, ()) := by
  have e : (Tame p ∧ ((!goodB p) = true → ∃ (y : Unit), True ∧ 0 = (changeG p q bu).fst.g ∧ 0 = (changeG p q bu).fst.q ∧ 0 = (changeG p q bu).fst.bu ∧ 0 = (changeG p q bu).fst.s ∧ 0 = (changeG p q bu).fst.le ∧ 0 = (changeG p q bu).fst.sp ∧ 0 = (changeG p q bu).fst.pe ∧ 0 = (changeG p q bu).fst.th ∧ false = (changeG p q bu).fst.em ∧ 1 = (changeG p q bu).snd ∧ NilL Int = (changeG p q bu).fst.l) ∧ ((!goodB p) = false → p.l.length ≤ (1048576 : Nat) ∧ True ∧ ((!ratesI q bu) = true → ∃ (y : Unit), True ∧ 0 = (changeG p q bu).fst.g ∧ 0 = (changeG p q bu).fst.q ∧ 0 = (changeG p q bu).fst.bu ∧ 0 = (changeG p q bu).fst.s ∧ 0 = (changeG p q bu).fst.le ∧ 0 = (changeG p q bu).fst.sp ∧ 0 = (changeG p q bu).fst.pe ∧ 0 = (changeG p q bu).fst.th ∧ false = (changeG p q bu).fst.em ∧ 3 = (changeG p q bu).snd ∧ NilL Int = (changeG p q bu).fst.l) ∧ ((!ratesI q bu) = false → Small p.le p.l ∧ True ∧ ((!decide (q = 4611686018427387904)) = true → i64R (p.le + p.l.sum - q) ∧ i64R (p.le + p.l.sum - q - bu) ∧ (∃ (x : Half), (HalfOK p (↑p.l.length : Int) (p.le + p.l.sum - overI p q bu) x ∧ rem1 p.l.length x = (p.le - Min.min (overI p q bu) p.le, drain p.l.length (overI p q bu - Min.min (overI p q bu) p.le) p.l)) ∧ (↑p.l.length : Int) = x.i ∧ Max.max (p.le + p.l.sum - q - bu) 0 = x.over ∧ p.g = p.g ∧ q = q ∧ bu = bu ∧ p.s = p.s ∧ p.le = x.le ∧ p.sp = p.sp ∧ p.pe = p.pe ∧ p.th = p.th ∧ p.em = p.em ∧ p.l = x.l ∧ (0 : Int) = 0 ∧ (0 : Int) = 0 ∧ (0 : Int) = 0 ∧ (0 : Int) = 0 ∧ (0 : Int) = 0 ∧ (0 : Int) = 0 ∧ (0 : Int) = 0 ∧ (0 : Int) = 0) ∧ ∀ (x : Half), HalfOK p (↑p.l.length : Int) (p.le + p.l.sum - overI p q bu) x ∧ rem1 p.l.length x = (p.le - Min.min (overI p q bu) p.le, drain p.l.length (overI p q bu - Min.min (overI p q bu) p.le) p.l) → (decide (0 ≤ x.i) = true → (decide (x.i < (↑x.l.length : Int)) = true → (0 ≤ x.i ∧ x.i < (↑x.l.length : Int)) ∧ i64R (x.l.getD x.i.toNat 0 - Min.min x.over (x.l.getD x.i.toNat 0)) ∧ i64R (x.over - Min.min x.over (x.l.getD x.i.toNat 0)) ∧ i64R (x.i - 1) ∧ ∃ (x' : Half), (HalfOK p (↑p.l.length : Int) (p.le + p.l.sum - overI p q bu) x' ∧ rem1 p.l.length x' = (p.le - Min.min (overI p q bu) p.le, drain p.l.length (overI p q bu - Min.min (overI p q bu) p.le) p.l)) ∧ (x'.i + 1).toNat < (x.i + 1).toNat ∧ x.i - 1 = x'.i ∧ x.over - Min.min x.over (x.l.getD x.i.toNat 0) = x'.over ∧ p.g = p.g ∧ q = q ∧ bu = bu ∧ p.s = p.s ∧ x.le = x'.le ∧ p.sp = p.sp ∧ p.pe = p.pe ∧ p.th = p.th ∧ p.em = p.em ∧ x.l.set x.i.toNat (x.l.getD x.i.toNat 0 - Min.min x.over (x.l.getD x.i.toNat 0)) = x'.l ∧ (0 : Int) = 0 ∧ (0 : Int) = 0 ∧ (0 : Int) = 0 ∧ (0 : Int) = 0 ∧ (0 : Int) = 0 ∧ (0 : Int) = 0 ∧ (0 : Int) = 0 ∧ (0 : Int) = 0) ∧ (decide (x.i < (↑x.l.length : Int)) = false → i64R (x.le - Min.min x.over x.le) ∧ i64R (x.over - Min.min x.over x.le) ∧ i64R (x.i - 1) ∧ ∃ (x' : Half), (HalfOK p (↑p.l.length : Int) (p.le + p.l.sum - overI p q bu) x' ∧ rem1 p.l.length x' = (p.le - Min.min (overI p q bu) p.le, drain p.l.length (overI p q bu - Min.min (overI p q bu) p.le) p.l)) ∧ (x'.i + 1).toNat < (x.i + 1).toNat ∧ x.i - 1 = x'.i ∧ x.over - Min.min x.over x.le = x'.over ∧ p.g = p.g ∧ q = q ∧ bu = bu ∧ p.s = p.s ∧ x.le - Min.min x.over x.le = x'.le ∧ p.sp = p.sp ∧ p.pe = p.pe ∧ p.th = p.th ∧ p.em = p.em ∧ x.l = x'.l ∧ (0 : Int) = 0 ∧ (0 : Int) = 0 ∧ (0 : Int) = 0 ∧ (0 : Int) = 0 ∧ (0 : Int) = 0 ∧ (0 : Int) = 0 ∧ (0 : Int) = 0 ∧ (0 : Int) = 0)) ∧ (decide (0 ≤ x.i) = false → ∃ (y : Unit), True ∧ p.g = (changeG p q bu).fst.g ∧ q = (changeG p q bu).fst.q ∧ bu = (changeG p q bu).fst.bu ∧ p.s = (changeG p q bu).fst.s ∧ x.le = (changeG p q bu).fst.le ∧ p.sp = (changeG p q bu).fst.sp ∧ p.pe = (changeG p q bu).fst.pe ∧ p.th = (changeG p q bu).fst.th ∧ p.em = (changeG p q bu).fst.em ∧ 0 = (changeG p q bu).snd ∧ x.l = (changeG p q bu).fst.l)) ∧ ((!decide (q = 4611686018427387904)) = false → (∃ (x : Half), (HalfOK p (↑p.l.length : Int) (p.le + p.l.sum - overI p q bu) x ∧ rem1 p.l.length x = (p.le - Min.min (overI p q bu) p.le, drain p.l.length (overI p q bu - Min.min (overI p q bu) p.le) p.l)) ∧ (↑p.l.length : Int) = x.i ∧ p.le + p.l.sum = x.over ∧ p.g = p.g ∧ q = q ∧ bu = bu ∧ p.s = p.s ∧ p.le = x.le ∧ p.sp = p.sp ∧ p.pe = p.pe ∧ p.th = p.th ∧ p.em = p.em ∧ p.l = x.l ∧ (0 : Int) = 0 ∧ (0 : Int) = 0 ∧ (0 : Int) = 0 ∧ (0 : Int) = 0 ∧ (0 : Int) = 0 ∧ (0 : Int) = 0 ∧ (0 : Int) = 0 ∧ (0 : Int) = 0) ∧ ∀ (x : Half), HalfOK p (↑p.l.length : Int) (p.le + p.l.sum - overI p q bu) x ∧ rem1 p.l.length x = (p.le - Min.min (overI p q bu) p.le, drain p.l.length (overI p q bu - Min.min (overI p q bu) p.le) p.l) → (decide (0 ≤ x.i) = true → (decide (x.i < (↑x.l.length : Int)) = true → (0 ≤ x.i ∧ x.i < (↑x.l.length : Int)) ∧ i64R (x.l.getD x.i.toNat 0 - Min.min x.over (x.l.getD x.i.toNat 0)) ∧ i64R (x.over - Min.min x.over (x.l.getD x.i.toNat 0)) ∧ i64R (x.i - 1) ∧ ∃ (x' : Half), (HalfOK p (↑p.l.length : Int) (p.le + p.l.sum - overI p q bu) x' ∧ rem1 p.l.length x' = (p.le - Min.min (overI p q bu) p.le, drain p.l.length (overI p q bu - Min.min (overI p q bu) p.le) p.l)) ∧ (x'.i + 1).toNat < (x.i + 1).toNat ∧ x.i - 1 = x'.i ∧ x.over - Min.min x.over (x.l.getD x.i.toNat 0) = x'.over ∧ p.g = p.g ∧ q = q ∧ bu = bu ∧ p.s = p.s ∧ x.le = x'.le ∧ p.sp = p.sp ∧ p.pe = p.pe ∧ p.th = p.th ∧ p.em = p.em ∧ x.l.set x.i.toNat (x.l.getD x.i.toNat 0 - Min.min x.over (x.l.getD x.i.toNat 0)) = x'.l ∧ (0 : Int) = 0 ∧ (0 : Int) = 0 ∧ (0 : Int) = 0 ∧ (0 : Int) = 0 ∧ (0 : Int) = 0 ∧ (0 : Int) = 0 ∧ (0 : Int) = 0 ∧ (0 : Int) = 0) ∧ (decide (x.i < (↑x.l.length : Int)) = false → i64R (x.le - Min.min x.over x.le) ∧ i64R (x.over - Min.min x.over x.le) ∧ i64R (x.i - 1) ∧ ∃ (x' : Half), (HalfOK p (↑p.l.length : Int) (p.le + p.l.sum - overI p q bu) x' ∧ rem1 p.l.length x' = (p.le - Min.min (overI p q bu) p.le, drain p.l.length (overI p q bu - Min.min (overI p q bu) p.le) p.l)) ∧ (x'.i + 1).toNat < (x.i + 1).toNat ∧ x.i - 1 = x'.i ∧ x.over - Min.min x.over x.le = x'.over ∧ p.g = p.g ∧ q = q ∧ bu = bu ∧ p.s = p.s ∧ x.le - Min.min x.over x.le = x'.le ∧ p.sp = p.sp ∧ p.pe = p.pe ∧ p.th = p.th ∧ p.em = p.em ∧ x.l = x'.l ∧ (0 : Int) = 0 ∧ (0 : Int) = 0 ∧ (0 : Int) = 0 ∧ (0 : Int) = 0 ∧ (0 : Int) = 0 ∧ (0 : Int) = 0 ∧ (0 : Int) = 0 ∧ (0 : Int) = 0)) ∧ (decide (0 ≤ x.i) = false → ∃ (y : Unit), True ∧ p.g = (changeG p q bu).fst.g ∧ q = (changeG p q bu).fst.q ∧ bu = (changeG p q bu).fst.bu ∧ p.s = (changeG p q bu).fst.s ∧ x.le = (changeG p q bu).fst.le ∧ p.sp = (changeG p q bu).fst.sp ∧ p.pe = (changeG p q bu).fst.pe ∧ p.th = (changeG p q bu).fst.th ∧ p.em = (changeG p q bu).fst.em ∧ 0 = (changeG p q bu).snd ∧ x.l = (changeG p q bu).fst.l))))) = sChange.vc (EV Try.prog [(121, sGoodB.spec), (139, sCopied.spec), (148, sRates.spec), (144, sHeld.spec), (140, sLimited.spec)] (invs [(11, inv146 p q bu)]) noInv) Try.f146 (p, q, bu, ()) := by kernel_rfl
  rw [← e]
  clear e
  simp only [imp_self, true_and, and_true, exists_const, implies_true, gd1, gd2, gd3, gd4, gd5, gd6, NilL_eq ]
  simp only [Prod.forall, Prod.exists, exists_const, implies_true, not_true_eq_false, not_false_eq_true, or_self, or_false, false_or, or_true, true_or, and_false, false_and, forall_const, true_and, and_true, i64R, imp_self, Int.reduceLE, Int.reduceLT, Int.reduceNeg, false_implies, true_implies, decide_eq_true_eq, decide_eq_false_iff_not, Bool.not_eq_true', Bool.not_eq_false', Bool.true_eq_false, Bool.false_eq_true, Bool.and_eq_true, Bool.or_eq_true, NilL_eq, Bool.and_eq_false_iff, Bool.or_eq_false_iff ]
  obtain ⟨hx, hb0, hb1⟩ := hx
  have eD : ((chD p q bu).le, (chD p q bu).l) = (p.le - min (overI p q bu) p.le, drain p.l.length (overI p q bu - min (overI p q bu) p.le) p.l) := rfl
  rw [← eD]
  have fin : ∀ x : Half, -1 ≤ x.i → ¬ 0 ≤ x.i → rem1 p.l.length x = ((chD p q bu).le, (chD p q bu).l) → x.le = (chD p q bu).le ∧ x.l = (chD p q bu).l := fun x h0 h1 h => by
    rw [rem_end h0 h1] at h
    exact Prod.mk.inj h
  refine ⟨hx, fun h => ?_, fun h => ?_⟩
  · have e : changeG p q bu = (zeroP, 1) := by rw [changeG, if_pos h]
    rw [e]; exact ⟨rfl, rfl, rfl, rfl, rfl, rfl, rfl, rfl, rfl, rfl, rfl⟩
  have hg := goodB_iff.1 h
  obtain ⟨m, hm, h0, h1, h2, h3⟩ := hg.most
  have hn := hg.n1
  have hs := sum_nonneg h1
  refine ⟨by omega, fun hr => ?_, fun hr => ⟨hg.small, ?_⟩⟩
  · have e : changeG p q bu = (zeroP, 3) := by rw [changeG, if_neg (by rw [h]; simp), if_pos hr]
    rw [e]; exact ⟨rfl, rfl, rfl, rfl, rfl, rfl, rfl, rfl, rfl, rfl, rfl⟩
  have e : changeG p q bu = (chD p q bu, 0) := by rw [changeG, if_neg (by rw [h]; simp), if_neg (by rw [hr]; simp)]
  rw [e]
  obtain ⟨o0, o1, o2⟩ := over_rng hg hr
  have st := half_start hg o0 o1
  have s0 : rem1 p.l.length ⟨p.l.length, overI p q bu, p.le, p.l⟩ = ((chD p q bu).le, (chD p q bu).l) := by rw [rem1, if_pos rfl]; rfl
  have hr2 := ratesI_iff.1 hr
  refine ⟨fun hq => ⟨by omega, by omega, ⟨_, ⟨st, s0⟩, rfl, by rw [overI, if_neg hq], rfl, rfl⟩, ?_⟩, fun hq => ⟨⟨_, ⟨st, s0⟩, rfl, by rw [overI, if_pos hq], rfl, rfl⟩, ?_⟩⟩
  all_goals
    intro x hxx
    obtain ⟨hh, hrem⟩ := hxx
    have hh2 := hh
    obtain ⟨a1, a2, a3, a4, a5, a6, a7, a8, a9⟩ := hh2
    have b1 := get_nonneg a5 x.i.toNat
    have b2 := get_le_sum a5 x.i.toNat
    have b3 := sum_nonneg a5
    refine ⟨fun hi => ⟨fun hl => ⟨by omega, by omega, by omega, by omega, _, ⟨hh.stepL hi hl, by rw [rem_step a6 hi hl]; exact hrem⟩, by dsimp only; omega, rfl, rfl, rfl, rfl⟩, fun hl => ⟨by omega, by omega, by omega, _, ⟨hh.stepE hi hl, by rw [rem_top (by omega)]; exact hrem⟩, by dsimp only; omega, rfl, rfl, rfl, rfl⟩⟩, fun hi => ?_⟩
    obtain ⟨f1, f2⟩ := fin x a1 hi hrem
    exact ⟨rfl, rfl, rfl, rfl, f1, rfl, rfl, rfl, rfl, rfl, f2⟩
end Go.Proofs.Ytemffnpliflkgaa
