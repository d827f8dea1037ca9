/-
  Lemmas and contracts on the way to the laws of this seat; each theorem states its own conditions, and there are no others.
-/
import Derived.Test.YtenfpjponaaolaaVF

namespace Go.Proofs.Ytenfpjponaaolaa
open Go
set_option linter.unusedVariables false
set_option linter.unusedSimpArgs false
set_option linter.unusedVariables false

def poolOf (s : St) (id : Nat) : Pool := match cellsAt s id with
  | [.int _ g, .int _ q, .int _ bu, .int _ sl, .int _ le, L, .int _ sp, .int _ pe, .int _ th, em] => match em.asB with
    | some em => ⟨g, q, bu, sl, le, contI s L, sp, pe, th, em⟩
    | none => default
  | _ => default
/-- q is p after i refills. -/
structure Gath (p q : Pool) (i : Int) : Prop where
  good : Good q
  sq : q.q = p.q
  sbu : q.bu = p.bu
  spe : q.pe = p.pe + i
  held : p.q ≠ 4611686018427387904 → q.le + q.l.sum = min (p.le + p.l.sum + i * p.q) (p.q + p.bu)
theorem Gath.step {p q : Pool} {i : Int} (h : Gath p q i) (h0 : 0 ≤ i) (hp : Good p) (hpe : q.pe < 1099511627776) : Gath p (refillP q) (i + 1) := by
  obtain ⟨f1, f2, f3⟩ := refill_facts h.good hpe
  have e := h.spe
  refine ⟨f1, h.sq, h.sbu, by show q.pe + 1 = _; omega, fun hq => ?_⟩
  have h3 := f3 (by rw [h.sq]; exact hq)
  have h4 := h.held hq
  have e1 := h.sq
  have e2 := h.sbu
  show (refillP q).le + q.l.sum = _
  rw [h3, h4, e1, e2, Int.add_mul]
  rcases hp.lim with ⟨a1, _⟩ | ⟨a1, a2, a3, a4, a5, a6, a7, a8⟩
  · exact absurd a1 hq
  · have : 0 ≤ i * p.q := Int.mul_nonneg h0 (by omega)
    omega
theorem Gath.init {p : Pool} (hp : Good p) : Gath p p 0 := ⟨hp, rfl, rfl, by omega, fun hq => by
  rcases hp.lim with ⟨a1, _⟩ | ⟨a1, a2, a3, a4, a5, a6, a7, a8⟩
  · exact absurd a1 hq
  · omega⟩
theorem Good.held0 {p : Pool} (h : Good p) (hq : p.q = 4611686018427387904) : p.le + p.l.sum = 0 := by
  rcases h.lim with ⟨a1, a2, a3, a4⟩ | ⟨a1, _⟩
  · rw [a3, sum_zero a4]; rfl
  · exact absurd hq a1
theorem Good.bounds {p : Pool} (h : Good p) : 0 ≤ p.le ∧ 0 ≤ p.l.sum ∧ p.le + p.l.sum ≤ 2000000 ∧ 0 ≤ p.pe ∧ 0 ≤ p.sp ∧ 0 ≤ p.bu ∧ p.bu ≤ 1000000 ∧ 1 ≤ p.q ∧ p.l.length ≤ 16 ∧ 1 ≤ p.l.length := by
  obtain ⟨m, hm, h0, h1, h2, h3⟩ := h.most
  exact ⟨h0, sum_nonneg h1, by omega, h.pe0, h.sp0, by omega, by omega, by omega, h.n1, h.n0⟩
def sLaw3 : DS := ⟨_, two pkIntsP (pkK .u8), fun x => 0 ≤ x.2.1 ∧ x.2.1 ≤ 255, fun _ => .bool true, nou⟩
def sLaw : DS := ⟨_, one pkIntsP, fun _ => True, fun _ => .bool true, nou⟩

def inv3 (s : St) : Inv where
  X := Pool × Int
  ok := fun x => Gath (poolOf s 40030) x.1 x.2 ∧ 0 ≤ x.2 ∧ x.2 ≤ slotI s 7
  sl := fun x => [(8, .int .i64 x.2)]
  hp := fun x => [(40030, .cells 26 (poolAV (poolOf s 40030) (.irec true 0 (poolOf s 40030).l)).flat), (50010, .cells 26 (poolAV x.1 (.irec true 0 x.1.l)).flat)]
  keep := []
  me := fun x => (9 - x.2).toNat
set_option maxRecDepth 100000 in
theorem vc3 (L : List Int) (n : Int) (hx : 0 ≤ n ∧ n ≤ 255) : sLaw3.vc (EV Try.prog [(8, sLight.spec), (9, sSane.spec), (10, sRoll.spec), (11, sPool.spec), (12, sRefill.spec), (13, sLimited.spec), (14, sHeld.spec), (15, sHeld.spec)] (invsS [(7, inv3)]) noInv) Try.f3 (L, n, ()) := by
  have e : (True ∧ ((!decide ((↑L.length : Int) ≤ 600)) = true → True ∧ ∃ (y : Unit), True ∧ true = true) ∧ ((!decide ((↑L.length : Int) ≤ 600)) = false → True ∧ (DOK (L, 0) ∧ (0 : Int) ≤ 10 ∧ (10 : Int) ≤ 1000) ∧ (∀ (y : Pool × Int), true = true) ∧ ∀ (y : Pool × Int), Made 10 0 y.1 ∧ 0 ≤ y.2 ∧ y.2 ≤ (↑L.length : Int) → (0 : Int) < 9 ∧ i64R (n.tmod 9) ∧ (∃ (x : Pool × Int), (Gath y.1 x.1 x.2 ∧ 0 ≤ x.2 ∧ x.2 ≤ n.tmod 9) ∧ 0 = x.2 ∧ y.1.g = y.1.g ∧ y.1.q = y.1.q ∧ y.1.bu = y.1.bu ∧ y.1.s = y.1.s ∧ y.1.le = y.1.le ∧ y.1.l = y.1.l ∧ y.1.sp = y.1.sp ∧ y.1.pe = y.1.pe ∧ y.1.th = y.1.th ∧ y.1.em = y.1.em ∧ y.1.g = x.1.g ∧ y.1.q = x.1.q ∧ y.1.bu = x.1.bu ∧ y.1.s = x.1.s ∧ y.1.le = x.1.le ∧ y.1.l = x.1.l ∧ y.1.sp = x.1.sp ∧ y.1.pe = x.1.pe ∧ y.1.th = x.1.th ∧ y.1.em = x.1.em) ∧ ∀ (x : Pool × Int), Gath y.1 x.1 x.2 ∧ 0 ≤ x.2 ∧ x.2 ≤ n.tmod 9 → (decide (x.2 < n.tmod 9) = true → (Good x.1 ∧ x.1.pe < 1099511627776) ∧ (false = false → false = false) ∧ (false = false → false = false) ∧ (false = false → false = false) ∧ (false = false → i64R (x.1.pe + 1)) ∧ (false = false → false = false) ∧ (false = false → false = false) ∧ (false = false → false = false) ∧ ((!decide ((0 : Int) = 0) || !decide (x.1.pe + 1 = x.1.pe + 1)) = false → (!decide ((0 : Int) = 0) || !decide (x.1.pe + 1 = x.1.pe + 1)) = false) ∧ ((!decide ((0 : Int) = 0) || !decide (x.1.pe + 1 = x.1.pe + 1)) = false → (!decide ((0 : Int) = 0) || !decide (x.1.pe + 1 = x.1.pe + 1)) = false) ∧ ((!decide ((0 : Int) = 0) || !decide (x.1.pe + 1 = x.1.pe + 1) || false) = false → (!decide ((0 : Int) = 0) || !decide (x.1.pe + 1 = x.1.pe + 1) || false) = false) ∧ ((!decide ((0 : Int) = 0) || !decide (x.1.pe + 1 = x.1.pe + 1) || false) = false → (!decide ((0 : Int) = 0) || !decide (x.1.pe + 1 = x.1.pe + 1) || false) = false) ∧ ((!decide ((0 : Int) = 0) || !decide (x.1.pe + 1 = x.1.pe + 1) || false) = false → (!decide ((0 : Int) = 0) || !decide (x.1.pe + 1 = x.1.pe + 1) || false) = false) ∧ ((!decide ((0 : Int) = 0) || !decide (x.1.pe + 1 = x.1.pe + 1) || false || !decide ((0 : Int) = 0)) = true → ∃ (y : Unit), True ∧ false = true) ∧ ((!decide ((0 : Int) = 0) || !decide (x.1.pe + 1 = x.1.pe + 1) || false || !decide ((0 : Int) = 0)) = false → i64R (x.2 + 1) ∧ ∃ (x' : Pool × Int), (Gath y.1 x'.1 x'.2 ∧ 0 ≤ x'.2 ∧ x'.2 ≤ n.tmod 9) ∧ (9 - x'.2).toNat < (9 - x.2).toNat ∧ x.2 + 1 = x'.2 ∧ y.1.g = y.1.g ∧ y.1.q = y.1.q ∧ y.1.bu = y.1.bu ∧ y.1.s = y.1.s ∧ y.1.le = y.1.le ∧ y.1.l = y.1.l ∧ y.1.sp = y.1.sp ∧ y.1.pe = y.1.pe ∧ y.1.th = y.1.th ∧ y.1.em = y.1.em ∧ x.1.g = x'.1.g ∧ x.1.q = x'.1.q ∧ x.1.bu = x'.1.bu ∧ x.1.s = x'.1.s ∧ (if x.1.q = 4611686018427387904 then x.1.le else x.1.le + Min.min x.1.q (x.1.q + x.1.bu - (x.1.le + x.1.l.sum))) = x'.1.le ∧ x.1.l = x'.1.l ∧ 0 = x'.1.sp ∧ x.1.pe + 1 = x'.1.pe ∧ x.1.th = x'.1.th ∧ false = x'.1.em)) ∧ (decide (x.2 < n.tmod 9) = false → True ∧ ((!!decide (y.1.q = 4611686018427387904)) = true → Small x.1.le x.1.l ∧ (decide (x.1.le + x.1.l.sum = 0) = true → True) ∧ (decide (x.1.le + x.1.l.sum = 0) = true → decide (x.1.le + x.1.l.sum = 0) = true) ∧ ∃ (y : Unit), True ∧ (decide (x.1.le + x.1.l.sum = 0) && true) = true) ∧ ((!!decide (y.1.q = 4611686018427387904)) = false → Small x.1.le x.1.l ∧ Small y.1.le y.1.l ∧ i64R (n.tmod 9 * y.1.q) ∧ i64R (y.1.le + y.1.l.sum + n.tmod 9 * y.1.q) ∧ i64R (y.1.q + y.1.bu) ∧ (decide (x.1.le + x.1.l.sum = Min.min (y.1.le + y.1.l.sum + n.tmod 9 * y.1.q) (y.1.q + y.1.bu)) = true → True) ∧ (decide (x.1.le + x.1.l.sum = Min.min (y.1.le + y.1.l.sum + n.tmod 9 * y.1.q) (y.1.q + y.1.bu)) = true → decide (x.1.le + x.1.l.sum = Min.min (y.1.le + y.1.l.sum + n.tmod 9 * y.1.q) (y.1.q + y.1.bu)) = true) ∧ ∃ (y_1 : Unit), True ∧ (decide (x.1.le + x.1.l.sum = Min.min (y.1.le + y.1.l.sum + n.tmod 9 * y.1.q) (y.1.q + y.1.bu)) && true) = true)))) = sLaw3.vc (EV Try.prog [(8, sLight.spec), (9, sSane.spec), (10, sRoll.spec), (11, sPool.spec), (12, sRefill.spec), (13, sLimited.spec), (14, sHeld.spec), (15, sHeld.spec)] (invsS [(7, inv3)]) noInv) Try.f3 (L, n, ()) := by kernel_rfl
  rw [← e]
  clear e
  have ht : 0 ≤ n.tmod 9 ∧ n.tmod 9 < 9 := ⟨Int.tmod_nonneg _ hx.1, Int.tmod_lt_of_pos _ (by omega)⟩
  generalize n.tmod 9 = K at *
  simp only [Prod.forall, Prod.exists, exists_const, implies_true, not_true_eq_false, not_false_eq_true, or_self, or_false, false_or, or_true, true_or, and_false, false_and, forall_const, true_and, and_true, i64R, imp_self, Int.reduceLE, Int.reduceLT, Int.reduceNeg, false_implies, true_implies, decide_eq_true_eq, decide_eq_false_iff_not, Bool.not_eq_true', Bool.not_eq_false', Bool.true_eq_false, Bool.false_eq_true, Bool.and_eq_true, Bool.or_eq_true, NilL_eq, Bool.and_eq_false_iff, Bool.or_eq_false_iff ]
  refine fun hl => ⟨⟨Int.le_refl 0, by show (0 : Int) ≤ L.length; omega, by show L.length ≤ 600; omega⟩, fun p b hp => ⟨by omega, ?_, fun q i hq => ?_⟩⟩
  · (refine ⟨⟨?_, ?_, ?_, ?_, ?_, ?_, ?_, ?_, ?_, ?_⟩, ?_, ?ok, ?eqs⟩; (case eqs => ((try dsimp only); repeat' (first | with_reducible exact rfl | exact rfl | apply And.intro))); (case ok => exact ⟨Gath.init hp.1.good, by omega, by omega⟩))
  have e1 := hq.1.spe
  have e2 := hp.1.pe
  have e3 := hp.1.q
  have g1 := hp.1.good.bounds
  have g2 := hq.1.good.bounds
  refine ⟨fun hi => ?_, fun hi => ⟨fun hm => ⟨hq.1.good.small, hq.1.good.held0 (by rw [hq.1.sq]; exact hm)⟩, fun hm => ?_⟩⟩
  · have hs := hq.1.step hq.2.1 hp.1.good (by omega)
    refine ⟨⟨hq.1.good, by omega⟩, by omega, by omega, ?_⟩
    (refine ⟨⟨?_, ?_, ?_, ?_, ?_, ?_, ?_, ?_, ?_, ?_⟩, ?_, ?ok, ?me, ?eqs⟩; (case eqs => ((try dsimp only); repeat' (first | with_reducible exact rfl | exact rfl | apply And.intro))); (case me => (show (_ : Nat) < _; omega)); (case ok => exact ⟨hs, by omega, by omega⟩))
  · have h5 := hq.1.held hm
    have e6 : i = K := by omega
    subst e6
    have h6 : 0 ≤ i * p.q := Int.mul_nonneg (by omega) (by omega)
    have h7 : i * p.q ≤ 9 * p.q := Int.mul_le_mul_of_nonneg_right (by omega) (by omega)
    exact ⟨hq.1.good.small, hp.1.good.small, by omega, by omega, by omega, h5⟩
end Go.Proofs.Ytenfpjponaaolaa
