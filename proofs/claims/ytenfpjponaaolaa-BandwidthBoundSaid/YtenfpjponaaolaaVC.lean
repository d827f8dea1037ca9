/-
  Lemmas and contracts on the way to the laws of this seat; each theorem states its own conditions, and there are no others.
-/
import Derived.Test.YtenfpjponaaolaaVB

namespace Go.Proofs.Ytenfpjponaaolaa
open Go
set_option linter.unusedVariables false
set_option linter.unusedSimpArgs false
set_option linter.unusedVariables false

def zeroP : Pool := ⟨0, 0, 0, 0, 0, [], 0, 0, 0, false⟩
def refillP (p : Pool) : Pool := { p with le := if p.q = 4611686018427387904 then p.le else p.le + min p.q (p.q + p.bu - (p.le + p.l.sum)), pe := p.pe + 1, sp := 0, em := false }
def tookP (p : Pool) (c : Nat) : Pool := { p with le := p.le - min p.s p.le, l := p.l.set c (p.l.getD c 0 + min p.s p.le) }
def takeR (p : Pool) (c : Nat) : Pool × Int := if p.q ≠ 4611686018427387904 ∧ p.le = 0 then (zeroP, 11) else (tookP p c, 0)
def returnP (p : Pool) (c : Nat) : Pool := { p with le := p.le + p.l.getD c 0, l := p.l.set c 0 }
def usedP (p : Pool) (c : Nat) : Pool := { p with l := p.l.set c (p.l.getD c 0 - 1), sp := min (p.sp + 1) 1099511627776 }
def dryP (p : Pool) : Pool := if p.em then p else { p with em := true, th := p.th + 1 }
def spendR (p : Pool) (c : Nat) : Pool × Int :=
  if p.q = 4611686018427387904 then ({ p with sp := min (p.sp + 1) 1099511627776 }, 0)
  else if p.l.getD c 0 = 0 then (if p.le = 0 then (dryP p, 11) else (usedP (tookP p c) c, 0))
  else (usedP p c, 0)
abbrev At (x : Pool × Int × Unit) : Prop := Good x.1 ∧ 0 ≤ x.2.1 ∧ x.2.1 < x.1.l.length
def sRefill : DS := ⟨_, one pkPool, fun x => Good x.1 ∧ x.1.pe < 1099511627776, fun x => .tup [ret (refillP x.1), .int .i64 0], fun x => row (refillP x.1)⟩
def sTake : DS := ⟨_, two pkPool pkI, At, fun x => .tup [ret (takeR x.1 x.2.1.toNat).1, .int .i64 (takeR x.1 x.2.1.toNat).2], fun x => row (takeR x.1 x.2.1.toNat).1⟩
def sReturn : DS := ⟨_, two pkPool pkI, At, fun x => .tup [ret (returnP x.1 x.2.1.toNat), .int .i64 0], fun x => row (returnP x.1 x.2.1.toNat)⟩
def sSpend : DS := ⟨_, two pkPool pkI, At, fun x => .tup [ret (spendR x.1 x.2.1.toNat).1, .int .i64 (spendR x.1 x.2.1.toNat).2], fun x => row (spendR x.1 x.2.1.toNat).1⟩


set_option maxRecDepth 100000 in
theorem vc12 (p : Pool) (hx : Good p ∧ p.pe < 1099511627776) : sRefill.vc (EV Try.prog [(33, sGood.spec), (34, sCopied.spec), (13, sLimited.spec), (14, sHeld.spec)] noInv noInv) Try.f12 (p, ()) := by
  have e : (Good p ∧ (false = true → ∃ (y : Unit), True ∧ 0 = p.g ∧ 0 = p.q ∧ 0 = p.bu ∧ 0 = p.s ∧ (0 = if p.q = 4611686018427387904 then p.le else p.le + Min.min p.q (p.q + p.bu - (p.le + p.l.sum))) ∧ (0 : Int) = 0 ∧ 0 = p.pe + 1 ∧ 0 = p.th ∧ false = false ∧ (1 : Int) = 0 ∧ NilL Int = p.l) ∧ (false = false → (decide (1099511627776 ≤ p.pe) = true → ∃ (y : Unit), True ∧ 0 = p.g ∧ 0 = p.q ∧ 0 = p.bu ∧ 0 = p.s ∧ (0 = if p.q = 4611686018427387904 then p.le else p.le + Min.min p.q (p.q + p.bu - (p.le + p.l.sum))) ∧ (0 : Int) = 0 ∧ 0 = p.pe + 1 ∧ 0 = p.th ∧ false = false ∧ (7 : Int) = 0 ∧ NilL Int = p.l) ∧ (decide (1099511627776 ≤ p.pe) = false → p.l.length ≤ (1048576 : Nat) ∧ True ∧ ((!decide (p.q = 4611686018427387904)) = true → i64R (p.q + p.bu) ∧ Small p.le p.l ∧ i64R (p.q + p.bu - (p.le + p.l.sum)) ∧ i64R (p.le + Min.min p.q (p.q + p.bu - (p.le + p.l.sum))) ∧ i64R (p.pe + 1) ∧ ∃ (y : Unit), True ∧ p.g = p.g ∧ p.q = p.q ∧ p.bu = p.bu ∧ p.s = p.s ∧ (p.le + Min.min p.q (p.q + p.bu - (p.le + p.l.sum)) = if p.q = 4611686018427387904 then p.le else p.le + Min.min p.q (p.q + p.bu - (p.le + p.l.sum))) ∧ (0 : Int) = 0 ∧ p.pe + 1 = p.pe + 1 ∧ p.th = p.th ∧ false = false ∧ (0 : Int) = 0 ∧ p.l = p.l) ∧ ((!decide (p.q = 4611686018427387904)) = false → i64R (p.pe + 1) ∧ ∃ (y : Unit), True ∧ p.g = p.g ∧ p.q = p.q ∧ p.bu = p.bu ∧ p.s = p.s ∧ (p.le = if p.q = 4611686018427387904 then p.le else p.le + Min.min p.q (p.q + p.bu - (p.le + p.l.sum))) ∧ (0 : Int) = 0 ∧ p.pe + 1 = p.pe + 1 ∧ p.th = p.th ∧ false = false ∧ (0 : Int) = 0 ∧ p.l = p.l)))) = sRefill.vc (EV Try.prog [(33, sGood.spec), (34, sCopied.spec), (13, sLimited.spec), (14, sHeld.spec)] noInv noInv) Try.f12 (p, ()) := by kernel_rfl
  rw [← e]
  clear e
  obtain ⟨hg, hp⟩ := hx
  obtain ⟨m, hm, h0, h1, h2, h3⟩ := hg.most
  have hn := hg.n1
  have hs0 := sum_nonneg h1
  have hsm := hg.small
  have := hg.pe0
  simp only [NilL_eq, i64R, Bool.not_true, Bool.false_eq_true, false_implies, true_implies, true_and, and_true]
  simp [*, -List.getD_eq_getElem?_getD]
  grind


set_option maxRecDepth 100000 in
theorem vc31 (p : Pool) (hx : Good p ∧ p.pe < 1099511627776) : sRefill.vc (EV Try.prog [(18, sGood.spec), (41, sCopied.spec), (19, sLimited.spec), (15, sHeld.spec)] noInv noInv) Try.f31 (p, ()) := by
  have e : (Good p ∧ (false = true → ∃ (y : Unit), True ∧ 0 = p.g ∧ 0 = p.q ∧ 0 = p.bu ∧ 0 = p.s ∧ (0 = if p.q = 4611686018427387904 then p.le else p.le + Min.min p.q (p.q + p.bu - (p.le + p.l.sum))) ∧ (0 : Int) = 0 ∧ 0 = p.pe + 1 ∧ 0 = p.th ∧ false = false ∧ (1 : Int) = 0 ∧ NilL Int = p.l) ∧ (false = false → (decide (p.pe = 1099511627776) = true → ∃ (y : Unit), True ∧ 0 = p.g ∧ 0 = p.q ∧ 0 = p.bu ∧ 0 = p.s ∧ (0 = if p.q = 4611686018427387904 then p.le else p.le + Min.min p.q (p.q + p.bu - (p.le + p.l.sum))) ∧ (0 : Int) = 0 ∧ 0 = p.pe + 1 ∧ 0 = p.th ∧ false = false ∧ (7 : Int) = 0 ∧ NilL Int = p.l) ∧ (decide (p.pe = 1099511627776) = false → p.l.length ≤ (1048576 : Nat) ∧ True ∧ ((!decide (p.q = 4611686018427387904)) = true → i64R (p.q + p.bu) ∧ Small p.le p.l ∧ i64R (p.q + p.bu - (p.le + p.l.sum)) ∧ i64R (p.le + Min.min p.q (p.q + p.bu - (p.le + p.l.sum))) ∧ i64R (p.pe + 1) ∧ ∃ (y : Unit), True ∧ p.g = p.g ∧ p.q = p.q ∧ p.bu = p.bu ∧ p.s = p.s ∧ (p.le + Min.min p.q (p.q + p.bu - (p.le + p.l.sum)) = if p.q = 4611686018427387904 then p.le else p.le + Min.min p.q (p.q + p.bu - (p.le + p.l.sum))) ∧ (0 : Int) = 0 ∧ p.pe + 1 = p.pe + 1 ∧ p.th = p.th ∧ false = false ∧ (0 : Int) = 0 ∧ p.l = p.l) ∧ ((!decide (p.q = 4611686018427387904)) = false → i64R (p.pe + 1) ∧ ∃ (y : Unit), True ∧ p.g = p.g ∧ p.q = p.q ∧ p.bu = p.bu ∧ p.s = p.s ∧ (p.le = if p.q = 4611686018427387904 then p.le else p.le + Min.min p.q (p.q + p.bu - (p.le + p.l.sum))) ∧ (0 : Int) = 0 ∧ p.pe + 1 = p.pe + 1 ∧ p.th = p.th ∧ false = false ∧ (0 : Int) = 0 ∧ p.l = p.l)))) = sRefill.vc (EV Try.prog [(18, sGood.spec), (41, sCopied.spec), (19, sLimited.spec), (15, sHeld.spec)] noInv noInv) Try.f31 (p, ()) := by kernel_rfl
  rw [← e]
  clear e
  obtain ⟨hg, hp⟩ := hx
  obtain ⟨m, hm, h0, h1, h2, h3⟩ := hg.most
  have hn := hg.n1
  have hs0 := sum_nonneg h1
  have hsm := hg.small
  have := hg.pe0
  simp only [NilL_eq, i64R, Bool.not_true, Bool.false_eq_true, false_implies, true_implies, true_and, and_true]
  simp [*, -List.getD_eq_getElem?_getD]
  grind


set_option maxRecDepth 100000 in
theorem vc21 (p : Pool) (c : Int) (hx : Good p ∧ 0 ≤ c ∧ c < p.l.length) : sTake.vc (EV Try.prog [(38, sUsable.spec), (34, sCopied.spec), (13, sLimited.spec)] noInv noInv) Try.f21 (p, c, ()) := by
  have e : ((Good p ∧ 0 ≤ c ∧ c < (↑p.l.length : Int)) ∧ (false = true → ∃ (y : Unit), True ∧ 0 = (takeR p c.toNat).1.g ∧ 0 = (takeR p c.toNat).1.q ∧ 0 = (takeR p c.toNat).1.bu ∧ 0 = (takeR p c.toNat).1.s ∧ 0 = (takeR p c.toNat).1.le ∧ 0 = (takeR p c.toNat).1.sp ∧ 0 = (takeR p c.toNat).1.pe ∧ 0 = (takeR p c.toNat).1.th ∧ false = (takeR p c.toNat).1.em ∧ 0 = (takeR p c.toNat).2 ∧ NilL Int = (takeR p c.toNat).1.l) ∧ (false = false → True ∧ ((!decide (p.q = 4611686018427387904)) = true → (!decide (p.q = 4611686018427387904)) = true) ∧ ((!decide (p.q = 4611686018427387904)) = true → (!decide (p.q = 4611686018427387904)) = true) ∧ ((!decide (p.q = 4611686018427387904)) = true → (!decide (p.q = 4611686018427387904)) = true) ∧ ((!decide (p.q = 4611686018427387904) && decide (p.le = 0)) = true → ∃ (y : Unit), True ∧ 0 = (takeR p c.toNat).1.g ∧ 0 = (takeR p c.toNat).1.q ∧ 0 = (takeR p c.toNat).1.bu ∧ 0 = (takeR p c.toNat).1.s ∧ 0 = (takeR p c.toNat).1.le ∧ 0 = (takeR p c.toNat).1.sp ∧ 0 = (takeR p c.toNat).1.pe ∧ 0 = (takeR p c.toNat).1.th ∧ false = (takeR p c.toNat).1.em ∧ 11 = (takeR p c.toNat).2 ∧ NilL Int = (takeR p c.toNat).1.l) ∧ ((!decide (p.q = 4611686018427387904) && decide (p.le = 0)) = false → p.l.length ≤ (1048576 : Nat) ∧ i64R (p.le - Min.min p.s p.le) ∧ (0 ≤ c ∧ c < (↑p.l.length : Int)) ∧ i64R (p.l.getD c.toNat 0 + Min.min p.s p.le) ∧ (0 ≤ c ∧ c < (↑p.l.length : Int)) ∧ ∃ (y : Unit), True ∧ p.g = (takeR p c.toNat).1.g ∧ p.q = (takeR p c.toNat).1.q ∧ p.bu = (takeR p c.toNat).1.bu ∧ p.s = (takeR p c.toNat).1.s ∧ p.le - Min.min p.s p.le = (takeR p c.toNat).1.le ∧ p.sp = (takeR p c.toNat).1.sp ∧ p.pe = (takeR p c.toNat).1.pe ∧ p.th = (takeR p c.toNat).1.th ∧ p.em = (takeR p c.toNat).1.em ∧ 0 = (takeR p c.toNat).2 ∧ p.l.set c.toNat (p.l.getD c.toNat 0 + Min.min p.s p.le) = (takeR p c.toNat).1.l))) = sTake.vc (EV Try.prog [(38, sUsable.spec), (34, sCopied.spec), (13, sLimited.spec)] noInv noInv) Try.f21 (p, c, ()) := by kernel_rfl
  rw [← e]
  clear e
  obtain ⟨hg, h4, h5⟩ := hx
  obtain ⟨m, hm, h0, h1, h2, h3⟩ := hg.most
  have hn := hg.n1
  have hr := hg.room h4 h5
  have := hg.s0
  have := hg.s1
  simp only [NilL_eq, i64R, Bool.not_true, Bool.false_eq_true, false_implies, true_implies, true_and, and_true]
  simp [*, takeR, tookP, zeroP, -List.getD_eq_getElem?_getD]
  grind


set_option maxRecDepth 100000 in
theorem vc28 (p : Pool) (c : Int) (hx : Good p ∧ 0 ≤ c ∧ c < p.l.length) : sTake.vc (EV Try.prog [(40, sUsable.spec), (41, sCopied.spec), (19, sLimited.spec)] noInv noInv) Try.f28 (p, c, ()) := by
  have e : ((Good p ∧ 0 ≤ c ∧ c < (↑p.l.length : Int)) ∧ (false = true → ∃ (y : Unit), True ∧ 0 = (takeR p c.toNat).1.g ∧ 0 = (takeR p c.toNat).1.q ∧ 0 = (takeR p c.toNat).1.bu ∧ 0 = (takeR p c.toNat).1.s ∧ 0 = (takeR p c.toNat).1.le ∧ 0 = (takeR p c.toNat).1.sp ∧ 0 = (takeR p c.toNat).1.pe ∧ 0 = (takeR p c.toNat).1.th ∧ false = (takeR p c.toNat).1.em ∧ 0 = (takeR p c.toNat).2 ∧ NilL Int = (takeR p c.toNat).1.l) ∧ (false = false → True ∧ ((!decide (p.q = 4611686018427387904)) = true → (!decide (p.q = 4611686018427387904)) = true) ∧ ((!decide (p.q = 4611686018427387904)) = true → (!decide (p.q = 4611686018427387904)) = true) ∧ ((!decide (p.q = 4611686018427387904)) = true → (!decide (p.q = 4611686018427387904)) = true) ∧ ((!decide (p.q = 4611686018427387904) && decide (p.le = 0)) = true → ∃ (y : Unit), True ∧ 0 = (takeR p c.toNat).1.g ∧ 0 = (takeR p c.toNat).1.q ∧ 0 = (takeR p c.toNat).1.bu ∧ 0 = (takeR p c.toNat).1.s ∧ 0 = (takeR p c.toNat).1.le ∧ 0 = (takeR p c.toNat).1.sp ∧ 0 = (takeR p c.toNat).1.pe ∧ 0 = (takeR p c.toNat).1.th ∧ false = (takeR p c.toNat).1.em ∧ 11 = (takeR p c.toNat).2 ∧ NilL Int = (takeR p c.toNat).1.l) ∧ ((!decide (p.q = 4611686018427387904) && decide (p.le = 0)) = false → p.l.length ≤ (1048576 : Nat) ∧ i64R (p.le - Min.min p.s p.le) ∧ (0 ≤ c ∧ c < (↑p.l.length : Int)) ∧ i64R (p.l.getD c.toNat 0 + Min.min p.s p.le) ∧ (0 ≤ c ∧ c < (↑p.l.length : Int)) ∧ ∃ (y : Unit), True ∧ p.g = (takeR p c.toNat).1.g ∧ p.q = (takeR p c.toNat).1.q ∧ p.bu = (takeR p c.toNat).1.bu ∧ p.s = (takeR p c.toNat).1.s ∧ p.le - Min.min p.s p.le = (takeR p c.toNat).1.le ∧ p.sp = (takeR p c.toNat).1.sp ∧ p.pe = (takeR p c.toNat).1.pe ∧ p.th = (takeR p c.toNat).1.th ∧ p.em = (takeR p c.toNat).1.em ∧ 0 = (takeR p c.toNat).2 ∧ p.l.set c.toNat (p.l.getD c.toNat 0 + Min.min p.s p.le) = (takeR p c.toNat).1.l))) = sTake.vc (EV Try.prog [(40, sUsable.spec), (41, sCopied.spec), (19, sLimited.spec)] noInv noInv) Try.f28 (p, c, ()) := by kernel_rfl
  rw [← e]
  clear e
  obtain ⟨hg, h4, h5⟩ := hx
  obtain ⟨m, hm, h0, h1, h2, h3⟩ := hg.most
  have hn := hg.n1
  have hr := hg.room h4 h5
  have := hg.s0
  have := hg.s1
  simp only [NilL_eq, i64R, Bool.not_true, Bool.false_eq_true, false_implies, true_implies, true_and, and_true]
  simp [*, takeR, tookP, zeroP, -List.getD_eq_getElem?_getD]
  grind


set_option maxRecDepth 100000 in
theorem vc23 (p : Pool) (c : Int) (hx : Good p ∧ 0 ≤ c ∧ c < p.l.length) : sReturn.vc (EV Try.prog [(38, sUsable.spec), (34, sCopied.spec)] noInv noInv) Try.f23 (p, c, ()) := by
  have e : ((Good p ∧ 0 ≤ c ∧ c < (↑p.l.length : Int)) ∧ (false = true → ∃ (y : Unit), True ∧ 0 = p.g ∧ 0 = p.q ∧ 0 = p.bu ∧ 0 = p.s ∧ 0 = p.le + p.l.getD c.toNat 0 ∧ 0 = p.sp ∧ 0 = p.pe ∧ 0 = p.th ∧ false = p.em ∧ (0 : Int) = 0 ∧ NilL Int = p.l.set c.toNat 0) ∧ (false = false → p.l.length ≤ (1048576 : Nat) ∧ (0 ≤ c ∧ c < (↑p.l.length : Int)) ∧ i64R (p.le + p.l.getD c.toNat 0) ∧ (0 ≤ c ∧ c < (↑p.l.length : Int)) ∧ ∃ (y : Unit), True ∧ p.g = p.g ∧ p.q = p.q ∧ p.bu = p.bu ∧ p.s = p.s ∧ p.le + p.l.getD c.toNat 0 = p.le + p.l.getD c.toNat 0 ∧ p.sp = p.sp ∧ p.pe = p.pe ∧ p.th = p.th ∧ p.em = p.em ∧ (0 : Int) = 0 ∧ p.l.set c.toNat 0 = p.l.set c.toNat 0)) = sReturn.vc (EV Try.prog [(38, sUsable.spec), (34, sCopied.spec)] noInv noInv) Try.f23 (p, c, ()) := by kernel_rfl
  rw [← e]
  clear e
  obtain ⟨hg, h4, h5⟩ := hx
  obtain ⟨m, hm, h0, h1, h2, h3⟩ := hg.most
  have hn := hg.n1
  have hr := hg.room h4 h5
  simp only [NilL_eq, i64R, Bool.not_true, Bool.false_eq_true, false_implies, true_implies, true_and, and_true]
  simp [*, returnP, -List.getD_eq_getElem?_getD]
  grind


set_option maxRecDepth 100000 in
theorem vc30 (p : Pool) (c : Int) (hx : Good p ∧ 0 ≤ c ∧ c < p.l.length) : sReturn.vc (EV Try.prog [(40, sUsable.spec), (41, sCopied.spec)] noInv noInv) Try.f30 (p, c, ()) := by
  have e : ((Good p ∧ 0 ≤ c ∧ c < (↑p.l.length : Int)) ∧ (false = true → ∃ (y : Unit), True ∧ 0 = p.g ∧ 0 = p.q ∧ 0 = p.bu ∧ 0 = p.s ∧ 0 = p.le + p.l.getD c.toNat 0 ∧ 0 = p.sp ∧ 0 = p.pe ∧ 0 = p.th ∧ false = p.em ∧ (0 : Int) = 0 ∧ NilL Int = p.l.set c.toNat 0) ∧ (false = false → p.l.length ≤ (1048576 : Nat) ∧ (0 ≤ c ∧ c < (↑p.l.length : Int)) ∧ i64R (p.le + p.l.getD c.toNat 0) ∧ (0 ≤ c ∧ c < (↑p.l.length : Int)) ∧ ∃ (y : Unit), True ∧ p.g = p.g ∧ p.q = p.q ∧ p.bu = p.bu ∧ p.s = p.s ∧ p.le + p.l.getD c.toNat 0 = p.le + p.l.getD c.toNat 0 ∧ p.sp = p.sp ∧ p.pe = p.pe ∧ p.th = p.th ∧ p.em = p.em ∧ (0 : Int) = 0 ∧ p.l.set c.toNat 0 = p.l.set c.toNat 0)) = sReturn.vc (EV Try.prog [(40, sUsable.spec), (41, sCopied.spec)] noInv noInv) Try.f30 (p, c, ()) := by kernel_rfl
  rw [← e]
  clear e
  obtain ⟨hg, h4, h5⟩ := hx
  obtain ⟨m, hm, h0, h1, h2, h3⟩ := hg.most
  have hn := hg.n1
  have hr := hg.room h4 h5
  simp only [NilL_eq, i64R, Bool.not_true, Bool.false_eq_true, false_implies, true_implies, true_and, and_true]
  simp [*, returnP, -List.getD_eq_getElem?_getD]
  grind


set_option maxRecDepth 100000 in
theorem vc22 (p : Pool) (c : Int) (hx : Good p ∧ 0 ≤ c ∧ c < p.l.length) : sSpend.vc (EV Try.prog [(38, sUsable.spec), (34, sCopied.spec), (13, sLimited.spec), (21, sTake.spec)] noInv noInv) Try.f22 (p, c, ()) := by
  have e : ((Good p ∧ 0 ≤ c ∧ c < (↑p.l.length : Int)) ∧ (false = true → ∃ (y : Unit), True ∧ 0 = (spendR p c.toNat).1.g ∧ 0 = (spendR p c.toNat).1.q ∧ 0 = (spendR p c.toNat).1.bu ∧ 0 = (spendR p c.toNat).1.s ∧ 0 = (spendR p c.toNat).1.le ∧ 0 = (spendR p c.toNat).1.sp ∧ 0 = (spendR p c.toNat).1.pe ∧ 0 = (spendR p c.toNat).1.th ∧ false = (spendR p c.toNat).1.em ∧ 0 = (spendR p c.toNat).2 ∧ NilL Int = (spendR p c.toNat).1.l) ∧ (false = false → p.l.length ≤ (1048576 : Nat) ∧ True ∧ ((!decide (p.q = 4611686018427387904)) = true → (0 ≤ c ∧ c < (↑p.l.length : Int)) ∧ (decide (p.l.getD c.toNat (0 : Int) = 0) = true → (Good p ∧ 0 ≤ c ∧ c < (↑p.l.length : Int)) ∧ ((!decide ((takeR p c.toNat).2 = 0)) = true → ((!p.em) = true → i64R (p.th + 1) ∧ ∃ (y : Unit), True ∧ p.g = (spendR p c.toNat).1.g ∧ p.q = (spendR p c.toNat).1.q ∧ p.bu = (spendR p c.toNat).1.bu ∧ p.s = (spendR p c.toNat).1.s ∧ p.le = (spendR p c.toNat).1.le ∧ p.sp = (spendR p c.toNat).1.sp ∧ p.pe = (spendR p c.toNat).1.pe ∧ p.th + 1 = (spendR p c.toNat).1.th ∧ true = (spendR p c.toNat).1.em ∧ (takeR p c.toNat).2 = (spendR p c.toNat).2 ∧ p.l = (spendR p c.toNat).1.l) ∧ ((!p.em) = false → ∃ (y : Unit), True ∧ p.g = (spendR p c.toNat).1.g ∧ p.q = (spendR p c.toNat).1.q ∧ p.bu = (spendR p c.toNat).1.bu ∧ p.s = (spendR p c.toNat).1.s ∧ p.le = (spendR p c.toNat).1.le ∧ p.sp = (spendR p c.toNat).1.sp ∧ p.pe = (spendR p c.toNat).1.pe ∧ p.th = (spendR p c.toNat).1.th ∧ p.em = (spendR p c.toNat).1.em ∧ (takeR p c.toNat).2 = (spendR p c.toNat).2 ∧ p.l = (spendR p c.toNat).1.l)) ∧ ((!decide ((takeR p c.toNat).2 = 0)) = false → (0 ≤ c ∧ c < (↑(takeR p c.toNat).1.l.length : Int)) ∧ i64R ((takeR p c.toNat).1.l.getD c.toNat (0 : Int) - 1) ∧ (0 ≤ c ∧ c < (↑(takeR p c.toNat).1.l.length : Int)) ∧ i64R ((takeR p c.toNat).1.sp + 1) ∧ ∃ (y : Unit), True ∧ (takeR p c.toNat).1.g = (spendR p c.toNat).1.g ∧ (takeR p c.toNat).1.q = (spendR p c.toNat).1.q ∧ (takeR p c.toNat).1.bu = (spendR p c.toNat).1.bu ∧ (takeR p c.toNat).1.s = (spendR p c.toNat).1.s ∧ (takeR p c.toNat).1.le = (spendR p c.toNat).1.le ∧ Min.min ((takeR p c.toNat).1.sp + 1) 1099511627776 = (spendR p c.toNat).1.sp ∧ (takeR p c.toNat).1.pe = (spendR p c.toNat).1.pe ∧ (takeR p c.toNat).1.th = (spendR p c.toNat).1.th ∧ (takeR p c.toNat).1.em = (spendR p c.toNat).1.em ∧ 0 = (spendR p c.toNat).2 ∧ (takeR p c.toNat).1.l.set c.toNat ((takeR p c.toNat).1.l.getD c.toNat (0 : Int) - 1) = (spendR p c.toNat).1.l)) ∧ (decide (p.l.getD c.toNat (0 : Int) = 0) = false → (0 ≤ c ∧ c < (↑p.l.length : Int)) ∧ i64R (p.l.getD c.toNat (0 : Int) - 1) ∧ (0 ≤ c ∧ c < (↑p.l.length : Int)) ∧ i64R (p.sp + 1) ∧ ∃ (y : Unit), True ∧ p.g = (spendR p c.toNat).1.g ∧ p.q = (spendR p c.toNat).1.q ∧ p.bu = (spendR p c.toNat).1.bu ∧ p.s = (spendR p c.toNat).1.s ∧ p.le = (spendR p c.toNat).1.le ∧ Min.min (p.sp + 1) 1099511627776 = (spendR p c.toNat).1.sp ∧ p.pe = (spendR p c.toNat).1.pe ∧ p.th = (spendR p c.toNat).1.th ∧ p.em = (spendR p c.toNat).1.em ∧ 0 = (spendR p c.toNat).2 ∧ p.l.set c.toNat (p.l.getD c.toNat (0 : Int) - 1) = (spendR p c.toNat).1.l)) ∧ ((!decide (p.q = 4611686018427387904)) = false → i64R (p.sp + 1) ∧ ∃ (y : Unit), True ∧ p.g = (spendR p c.toNat).1.g ∧ p.q = (spendR p c.toNat).1.q ∧ p.bu = (spendR p c.toNat).1.bu ∧ p.s = (spendR p c.toNat).1.s ∧ p.le = (spendR p c.toNat).1.le ∧ Min.min (p.sp + 1) 1099511627776 = (spendR p c.toNat).1.sp ∧ p.pe = (spendR p c.toNat).1.pe ∧ p.th = (spendR p c.toNat).1.th ∧ p.em = (spendR p c.toNat).1.em ∧ 0 = (spendR p c.toNat).2 ∧ p.l = (spendR p c.toNat).1.l))) = sSpend.vc (EV Try.prog [(38, sUsable.spec), (34, sCopied.spec), (13, sLimited.spec), (21, sTake.spec)] noInv noInv) Try.f22 (p, c, ()) := by kernel_rfl
  rw [← e]
  clear e
  obtain ⟨hg, h4, h5⟩ := hx
  obtain ⟨m, hm, h0, h1, h2, h3⟩ := hg.most
  have hn := hg.n1
  have hr := hg.room h4 h5
  have := hg.s0
  have := hg.s1
  have := hg.sp0
  have := hg.sp1
  have := hg.th0
  have := hg.pe1
  have := hg.th1
  have hc : c.toNat < p.l.length := by omega
  simp only [NilL_eq, i64R, Bool.not_true, Bool.false_eq_true, false_implies, true_implies, true_and, and_true]
  by_cases hq : p.q = 4611686018427387904
  · simp [*, spendR, takeR, tookP, usedP, dryP, zeroP, -List.getD_eq_getElem?_getD] <;> grind
  · by_cases hl : p.l.getD c.toNat 0 = 0
    · by_cases hle : p.le = 0
      · cases hem : p.em <;> simp [*, spendR, takeR, tookP, usedP, dryP, zeroP, -List.getD_eq_getElem?_getD] <;> grind
      · simp [*, spendR, takeR, tookP, usedP, dryP, zeroP, -List.getD_eq_getElem?_getD] <;> grind
    · simp [*, spendR, takeR, tookP, usedP, dryP, zeroP, -List.getD_eq_getElem?_getD] <;> grind


set_option maxRecDepth 100000 in
theorem vc29 (p : Pool) (c : Int) (hx : Good p ∧ 0 ≤ c ∧ c < p.l.length) : sSpend.vc (EV Try.prog [(40, sUsable.spec), (41, sCopied.spec), (19, sLimited.spec), (28, sTake.spec), (42, sRoom.spec)] noInv noInv) Try.f29 (p, c, ()) := by
  have e : ((Good p ∧ 0 ≤ c ∧ c < (↑p.l.length : Int)) ∧ (false = true → ∃ (y : Unit), True ∧ 0 = (spendR p c.toNat).1.g ∧ 0 = (spendR p c.toNat).1.q ∧ 0 = (spendR p c.toNat).1.bu ∧ 0 = (spendR p c.toNat).1.s ∧ 0 = (spendR p c.toNat).1.le ∧ 0 = (spendR p c.toNat).1.sp ∧ 0 = (spendR p c.toNat).1.pe ∧ 0 = (spendR p c.toNat).1.th ∧ false = (spendR p c.toNat).1.em ∧ 0 = (spendR p c.toNat).2 ∧ NilL Int = (spendR p c.toNat).1.l) ∧ (false = false → p.l.length ≤ (1048576 : Nat) ∧ True ∧ ((!decide (p.q = 4611686018427387904)) = true → (Good p ∧ 0 ≤ c ∧ c < (↑p.l.length : Int)) ∧ (decide ((if p.q = 4611686018427387904 then 1099511627776 else p.le + p.l.getD c.toNat 0) = 0) = true → ((!p.em) = true → i64R (p.th + 1) ∧ ∃ (y : Unit), True ∧ p.g = (spendR p c.toNat).1.g ∧ p.q = (spendR p c.toNat).1.q ∧ p.bu = (spendR p c.toNat).1.bu ∧ p.s = (spendR p c.toNat).1.s ∧ p.le = (spendR p c.toNat).1.le ∧ p.sp = (spendR p c.toNat).1.sp ∧ p.pe = (spendR p c.toNat).1.pe ∧ p.th + 1 = (spendR p c.toNat).1.th ∧ true = (spendR p c.toNat).1.em ∧ 11 = (spendR p c.toNat).2 ∧ p.l = (spendR p c.toNat).1.l) ∧ ((!p.em) = false → ∃ (y : Unit), True ∧ p.g = (spendR p c.toNat).1.g ∧ p.q = (spendR p c.toNat).1.q ∧ p.bu = (spendR p c.toNat).1.bu ∧ p.s = (spendR p c.toNat).1.s ∧ p.le = (spendR p c.toNat).1.le ∧ p.sp = (spendR p c.toNat).1.sp ∧ p.pe = (spendR p c.toNat).1.pe ∧ p.th = (spendR p c.toNat).1.th ∧ p.em = (spendR p c.toNat).1.em ∧ 11 = (spendR p c.toNat).2 ∧ p.l = (spendR p c.toNat).1.l)) ∧ (decide ((if p.q = 4611686018427387904 then 1099511627776 else p.le + p.l.getD c.toNat 0) = 0) = false → (0 ≤ c ∧ c < (↑p.l.length : Int)) ∧ (decide (p.l.getD c.toNat (0 : Int) = 0) = true → (Good p ∧ 0 ≤ c ∧ c < (↑p.l.length : Int)) ∧ (0 ≤ c ∧ c < (↑(takeR p c.toNat).1.l.length : Int)) ∧ i64R ((takeR p c.toNat).1.l.getD c.toNat (0 : Int) - 1) ∧ (0 ≤ c ∧ c < (↑(takeR p c.toNat).1.l.length : Int)) ∧ i64R ((takeR p c.toNat).1.sp + 1) ∧ ∃ (y : Unit), True ∧ (takeR p c.toNat).1.g = (spendR p c.toNat).1.g ∧ (takeR p c.toNat).1.q = (spendR p c.toNat).1.q ∧ (takeR p c.toNat).1.bu = (spendR p c.toNat).1.bu ∧ (takeR p c.toNat).1.s = (spendR p c.toNat).1.s ∧ (takeR p c.toNat).1.le = (spendR p c.toNat).1.le ∧ Min.min ((takeR p c.toNat).1.sp + 1) 1099511627776 = (spendR p c.toNat).1.sp ∧ (takeR p c.toNat).1.pe = (spendR p c.toNat).1.pe ∧ (takeR p c.toNat).1.th = (spendR p c.toNat).1.th ∧ (takeR p c.toNat).1.em = (spendR p c.toNat).1.em ∧ 0 = (spendR p c.toNat).2 ∧ (takeR p c.toNat).1.l.set c.toNat ((takeR p c.toNat).1.l.getD c.toNat (0 : Int) - 1) = (spendR p c.toNat).1.l) ∧ (decide (p.l.getD c.toNat (0 : Int) = 0) = false → (0 ≤ c ∧ c < (↑p.l.length : Int)) ∧ i64R (p.l.getD c.toNat (0 : Int) - 1) ∧ (0 ≤ c ∧ c < (↑p.l.length : Int)) ∧ i64R (p.sp + 1) ∧ ∃ (y : Unit), True ∧ p.g = (spendR p c.toNat).1.g ∧ p.q = (spendR p c.toNat).1.q ∧ p.bu = (spendR p c.toNat).1.bu ∧ p.s = (spendR p c.toNat).1.s ∧ p.le = (spendR p c.toNat).1.le ∧ Min.min (p.sp + 1) 1099511627776 = (spendR p c.toNat).1.sp ∧ p.pe = (spendR p c.toNat).1.pe ∧ p.th = (spendR p c.toNat).1.th ∧ p.em = (spendR p c.toNat).1.em ∧ 0 = (spendR p c.toNat).2 ∧ p.l.set c.toNat (p.l.getD c.toNat (0 : Int) - 1) = (spendR p c.toNat).1.l))) ∧ ((!decide (p.q = 4611686018427387904)) = false → i64R (p.sp + 1) ∧ ∃ (y : Unit), True ∧ p.g = (spendR p c.toNat).1.g ∧ p.q = (spendR p c.toNat).1.q ∧ p.bu = (spendR p c.toNat).1.bu ∧ p.s = (spendR p c.toNat).1.s ∧ p.le = (spendR p c.toNat).1.le ∧ Min.min (p.sp + 1) 1099511627776 = (spendR p c.toNat).1.sp ∧ p.pe = (spendR p c.toNat).1.pe ∧ p.th = (spendR p c.toNat).1.th ∧ p.em = (spendR p c.toNat).1.em ∧ 0 = (spendR p c.toNat).2 ∧ p.l = (spendR p c.toNat).1.l))) = sSpend.vc (EV Try.prog [(40, sUsable.spec), (41, sCopied.spec), (19, sLimited.spec), (28, sTake.spec), (42, sRoom.spec)] noInv noInv) Try.f29 (p, c, ()) := by kernel_rfl
  rw [← e]
  clear e
  obtain ⟨hg, h4, h5⟩ := hx
  obtain ⟨m, hm, h0, h1, h2, h3⟩ := hg.most
  have hn := hg.n1
  have hr := hg.room h4 h5
  have := hg.s0
  have := hg.s1
  have := hg.sp0
  have := hg.sp1
  have := hg.th0
  have := hg.pe1
  have := hg.th1
  have hc : c.toNat < p.l.length := by omega
  simp only [NilL_eq, i64R, Bool.not_true, Bool.false_eq_true, false_implies, true_implies, true_and, and_true]
  by_cases hq : p.q = 4611686018427387904
  · simp [*, spendR, takeR, tookP, usedP, dryP, zeroP, -List.getD_eq_getElem?_getD] <;> grind
  · by_cases hl : p.l.getD c.toNat 0 = 0
    · by_cases hle : p.le = 0
      · cases hem : p.em <;> simp [*, spendR, takeR, tookP, usedP, dryP, zeroP, -List.getD_eq_getElem?_getD] <;> grind
      · simp [*, spendR, takeR, tookP, usedP, dryP, zeroP, -List.getD_eq_getElem?_getD] <;> grind
    · simp [*, spendR, takeR, tookP, usedP, dryP, zeroP, -List.getD_eq_getElem?_getD] <;> grind
end Go.Proofs.Ytenfpjponaaolaa
