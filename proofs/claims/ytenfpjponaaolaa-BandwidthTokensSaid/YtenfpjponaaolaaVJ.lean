/-
  Lemmas and contracts on the way to the laws of this seat; each theorem states its own conditions, and there are no others.
-/
import Derived.Test.YtenfpjponaaolaaVG

namespace Go.Proofs.Ytenfpjponaaolaa
open Go
set_option linter.unusedVariables false

/-- While all is spent: H at first, s of it spent in i steps. -/
structure Drain (p : Pool) (H i s : Int) : Prop where
  good : Good p
  lim : p.q ≠ 4611686018427387904
  len : p.l.length ≤ 3
  s0 : 0 ≤ s
  i0 : 0 ≤ i
  sum : s + (p.le + p.l.sum) = H
  pot : p.le + p.l.sum = 0 ∨ i ≤ 2 * s + (if p.le = p.le + p.l.sum then 1 else 0)
/-- The first j processors have given back theirs. -/
structure Backed (p : Pool) (h j n : Int) : Prop where
  good : Good p
  lim : p.q ≠ 4611686018427387904
  len : p.l.length = n
  sum : p.le + p.l.sum = h
  j0 : 0 ≤ j
  j1 : j ≤ n
  zero : ∀ k : Nat, (k : Int) < j → p.l.getD k 0 = 0
theorem zero_sum {l : List Int} (h : ∀ k : Nat, k < l.length → l.getD k 0 = 0) : l.sum = 0 := sum_zero fun x hx => by
  obtain ⟨i, hi, rfl⟩ := List.getElem_of_mem hx
  have := h i hi
  rwa [List.getD_eq_getElem?_getD, List.getElem?_eq_getElem hi] at this
theorem Drain.init {p : Pool} (h : Good p) (hq : p.q ≠ 4611686018427387904) (hl : p.l.length ≤ 3) : Drain p (p.le + p.l.sum) 0 0 := ⟨h, hq, hl, Int.le_refl 0, Int.le_refl 0, by omega, .inr (by split <;> omega)⟩
theorem Drain.spend {p : Pool} {H i s : Int} (h : Drain p H i s) {c : Int} (hc : 0 ≤ c ∧ c < p.l.length) (he : (spendR p c.toNat).2 = 0) : Drain (spendR p c.toNat).1 H (i + 1) (s + 1) := by
  obtain ⟨f1, f2, f3, f4, f5, f6, f7⟩ := spend_facts h.good (c := c.toNat) (by omega)
  have hl := h.lim
  have a0 := h.s0
  have a1 := h.i0
  have a2 := h.sum
  have a3 := h.pot
  have a4 := h.len
  rcases f7 with ⟨k, _⟩ | ⟨k, k1, k2, k3, k4⟩ | ⟨k, k1, k2, k3⟩
  · exact absurd k hl
  · have g := h.good.most
    obtain ⟨m, _, g0, g1, _⟩ := g
    have g2 := get_le_sum g1 c.toNat
    refine ⟨f1, by rw [f2]; exact hl, by omega, by omega, by omega, by omega, .inr ?_⟩
    have : i ≤ 2 * s + 1 := by
      rcases a3 with a3 | a3
      · omega
      · split at a3 <;> omega
    split <;> omega
  · rw [k3] at he; simp at he
theorem Backed.init {p : Pool} (h : Good p) (hq : p.q ≠ 4611686018427387904) : Backed p (p.le + p.l.sum) 0 p.l.length := ⟨h, hq, rfl, rfl, Int.le_refl 0, by omega, fun k hk => by omega⟩
theorem Backed.step {p : Pool} {h j n : Int} (b : Backed p h j n) (hj : j < n) : Backed (returnP p j.toNat) h (j + 1) n := by
  have hl := b.len
  have h0 := b.j0
  have hc : j.toNat < p.l.length := by omega
  refine ⟨b.good.back hc, b.lim, by simpa [returnP] using hl, by rw [back_held hc]; exact b.sum, by omega, by omega, fun k hk => ?_⟩
  show (p.l.set j.toNat 0).getD k 0 = 0
  rw [List.getD_eq_getElem?_getD, List.getElem?_set]
  by_cases e : j.toNat = k
  · rw [if_pos e]; simp [hc]
  · rw [if_neg e]
    have := b.zero k (by omega)
    rwa [List.getD_eq_getElem?_getD] at this
theorem Drain.back {p p' : Pool} {H i s n j : Int} (h : Drain p H i s) (hp : p.le = 0) (b : Backed p' (p.le + p.l.sum) j n) (hn : n = p.l.length) (hj : ¬ j < n) : Drain p' H (i + 1) s := by
  have a0 := h.s0
  have a1 := h.i0
  have a2 := h.sum
  have a3 := h.pot
  have a4 := h.len
  have b1 := b.len
  have b2 := b.sum
  have b3 := b.j1
  have z : p'.l.sum = 0 := zero_sum fun k hk => b.zero k (by omega)
  refine ⟨b.good, b.lim, by omega, a0, by omega, by omega, ?_⟩
  by_cases e : p.le + p.l.sum = 0
  · left; omega
  · right
    rw [if_pos (by omega)]
    rcases a3 with a3 | a3
    · omega
    · rw [if_neg (by omega)] at a3; omega
theorem Drain.stop {p : Pool} {H i s : Int} (h : Drain p H i s) (hi : ¬ i < 3 * H + p.l.length + 3) : s = H ∧ (spendR p 0).2 = 11 := by
  have a0 := h.s0
  have a2 := h.sum
  have a3 := h.pot
  have g := h.good.bounds
  obtain ⟨m, _, g0, g1, _⟩ := h.good.most
  have g2 := get_le_sum g1 0
  have e : p.le + p.l.sum = 0 := by
    rcases a3 with a3 | a3
    · exact a3
    · split at a3 <;> omega
  obtain ⟨f1, f2, f3, f4, f5, f6, f7⟩ := spend_facts h.good (c := 0) (by omega)
  refine ⟨by omega, ?_⟩
  rcases f7 with ⟨k, _⟩ | ⟨k, k1, k2, k3, k4⟩ | ⟨k, k1, k2, k3⟩
  · exact absurd k h.lim
  · omega
  · rw [k3]

def inv6 (L : List Int) (s : St) : Inv where
  X := Pool × Int × Int × Int
  ok := fun x => Drain x.1 (slotI s 7) x.2.2.1 x.2.2.2 ∧ DOK (L, x.2.1) ∧ x.2.2.1 ≤ 3 * slotI s 7 + 6
  sl := fun x => [(9, .int .i64 x.2.2.1), (8, .int .i64 x.2.2.2)]
  hp := fun x => [(40010, diceO (L, x.2.1)), (50020, .cells 26 (poolAV x.1 (.own 101 0)).flat), (101, .rows 3 0 x.1.l)]
  keep := []
  me := fun x => (3 * slotI s 7 + 6 - x.2.2.1).toNat
def inv6i (s : St) : Inv where
  X := Pool × Int
  ok := fun x => Backed x.1 ((poolOf s 50020).le + (poolOf s 50020).l.sum) x.2 (slotI s 75)
  sl := fun x => [(76, .int .i64 x.2)]
  hp := fun x => [(50020, .cells 26 (poolAV x.1 (.own 101 0)).flat), (101, .rows 3 0 x.1.l)]
  keep := [40010]
  me := fun x => (slotI s 75 - x.2).toNat
set_option maxRecDepth 100000 in
theorem vc6 (L : List Int) (hx : True) : sLaw.vc (EV Try.prog [(8, sLight.spec), (9, sSane.spec), (10, sRoll.spec), (11, sPool.spec), (16, sNext.spec), (19, sLimited.spec), (15, sHeld.spec), (22, sSpend.spec), (23, sReturn.spec), (25, sRoom.spec)] (invsS [(10, inv6 L), (18, inv6i)]) noInv) Try.f6 (L, ()) := by
  have e : (True ∧ ((!Decidable.decide ((↑L.length : Int) ≤ (600 : Int))) = Bool.true → True ∧ ∃ (y : Unit), True ∧ Bool.true = Bool.true) ∧ ((!Decidable.decide ((↑L.length : Int) ≤ (600 : Int))) = Bool.false → True ∧ (DOK (L, (0 : Int)) ∧ (0 : Int) ≤ (10 : Int) ∧ (10 : Int) ≤ (1000 : Int)) ∧ (∀ (y : Pool × Int), Bool.true = Bool.true) ∧ ∀ (y : Pool × Int), Made (10 : Int) (0 : Int) y.fst ∧ (0 : Int) ≤ y.snd ∧ y.snd ≤ (↑L.length : Int) → True ∧ ((!!Decidable.decide (y.fst.q = (4611686018427387904 : Int))) = Bool.true → (Good { g := y.fst.g, q := y.fst.q, bu := y.fst.bu, s := y.fst.s, le := y.fst.le, l := y.fst.l, sp := y.fst.sp, pe := y.fst.pe, th := y.fst.th, em := y.fst.em : Pool } ∧ (0 : Int) ≤ (0 : Int) ∧ (0 : Int) < (↑y.fst.l.length : Int)) ∧ (Decidable.decide ((spendR { g := y.fst.g, q := y.fst.q, bu := y.fst.bu, s := y.fst.s, le := y.fst.le, l := y.fst.l, sp := y.fst.sp, pe := y.fst.pe, th := y.fst.th, em := y.fst.em : Pool } (Int.toNat (0 : Int))).snd = (0 : Int)) = Bool.true → Decidable.decide ((spendR { g := y.fst.g, q := y.fst.q, bu := y.fst.bu, s := y.fst.s, le := y.fst.le, l := y.fst.l, sp := y.fst.sp, pe := y.fst.pe, th := y.fst.th, em := y.fst.em : Pool } (Int.toNat (0 : Int))).snd = (0 : Int)) = Bool.true) ∧ (Decidable.decide ((spendR { g := y.fst.g, q := y.fst.q, bu := y.fst.bu, s := y.fst.s, le := y.fst.le, l := y.fst.l, sp := y.fst.sp, pe := y.fst.pe, th := y.fst.th, em := y.fst.em : Pool } (Int.toNat (0 : Int))).snd = (0 : Int)) = Bool.true → Good { g := (spendR { g := y.fst.g, q := y.fst.q, bu := y.fst.bu, s := y.fst.s, le := y.fst.le, l := y.fst.l, sp := y.fst.sp, pe := y.fst.pe, th := y.fst.th, em := y.fst.em : Pool } (Int.toNat (0 : Int))).fst.g, q := (spendR { g := y.fst.g, q := y.fst.q, bu := y.fst.bu, s := y.fst.s, le := y.fst.le, l := y.fst.l, sp := y.fst.sp, pe := y.fst.pe, th := y.fst.th, em := y.fst.em : Pool } (Int.toNat (0 : Int))).fst.q, bu := (spendR { g := y.fst.g, q := y.fst.q, bu := y.fst.bu, s := y.fst.s, le := y.fst.le, l := y.fst.l, sp := y.fst.sp, pe := y.fst.pe, th := y.fst.th, em := y.fst.em : Pool } (Int.toNat (0 : Int))).fst.bu, s := (spendR { g := y.fst.g, q := y.fst.q, bu := y.fst.bu, s := y.fst.s, le := y.fst.le, l := y.fst.l, sp := y.fst.sp, pe := y.fst.pe, th := y.fst.th, em := y.fst.em : Pool } (Int.toNat (0 : Int))).fst.s, le := (spendR { g := y.fst.g, q := y.fst.q, bu := y.fst.bu, s := y.fst.s, le := y.fst.le, l := y.fst.l, sp := y.fst.sp, pe := y.fst.pe, th := y.fst.th, em := y.fst.em : Pool } (Int.toNat (0 : Int))).fst.le, l := (spendR { g := y.fst.g, q := y.fst.q, bu := y.fst.bu, s := y.fst.s, le := y.fst.le, l := y.fst.l, sp := y.fst.sp, pe := y.fst.pe, th := y.fst.th, em := y.fst.em : Pool } (Int.toNat (0 : Int))).fst.l, sp := (spendR { g := y.fst.g, q := y.fst.q, bu := y.fst.bu, s := y.fst.s, le := y.fst.le, l := y.fst.l, sp := y.fst.sp, pe := y.fst.pe, th := y.fst.th, em := y.fst.em : Pool } (Int.toNat (0 : Int))).fst.sp, pe := (spendR { g := y.fst.g, q := y.fst.q, bu := y.fst.bu, s := y.fst.s, le := y.fst.le, l := y.fst.l, sp := y.fst.sp, pe := y.fst.pe, th := y.fst.th, em := y.fst.em : Pool } (Int.toNat (0 : Int))).fst.pe, th := (spendR { g := y.fst.g, q := y.fst.q, bu := y.fst.bu, s := y.fst.s, le := y.fst.le, l := y.fst.l, sp := y.fst.sp, pe := y.fst.pe, th := y.fst.th, em := y.fst.em : Pool } (Int.toNat (0 : Int))).fst.th, em := (spendR { g := y.fst.g, q := y.fst.q, bu := y.fst.bu, s := y.fst.s, le := y.fst.le, l := y.fst.l, sp := y.fst.sp, pe := y.fst.pe, th := y.fst.th, em := y.fst.em : Pool } (Int.toNat (0 : Int))).fst.em : Pool } ∧ (0 : Int) ≤ (0 : Int) ∧ (0 : Int) < (↑(spendR { g := y.fst.g, q := y.fst.q, bu := y.fst.bu, s := y.fst.s, le := y.fst.le, l := y.fst.l, sp := y.fst.sp, pe := y.fst.pe, th := y.fst.th, em := y.fst.em : Pool } (Int.toNat (0 : Int))).fst.l.length : Int)) ∧ (Decidable.decide ((spendR { g := y.fst.g, q := y.fst.q, bu := y.fst.bu, s := y.fst.s, le := y.fst.le, l := y.fst.l, sp := y.fst.sp, pe := y.fst.pe, th := y.fst.th, em := y.fst.em : Pool } (Int.toNat (0 : Int))).snd = (0 : Int)) = Bool.true → Decidable.decide ((spendR { g := y.fst.g, q := y.fst.q, bu := y.fst.bu, s := y.fst.s, le := y.fst.le, l := y.fst.l, sp := y.fst.sp, pe := y.fst.pe, th := y.fst.th, em := y.fst.em : Pool } (Int.toNat (0 : Int))).snd = (0 : Int)) = Bool.true) ∧ (Decidable.decide ((spendR { g := y.fst.g, q := y.fst.q, bu := y.fst.bu, s := y.fst.s, le := y.fst.le, l := y.fst.l, sp := y.fst.sp, pe := y.fst.pe, th := y.fst.th, em := y.fst.em : Pool } (Int.toNat (0 : Int))).snd = (0 : Int)) = Bool.true → Decidable.decide ((spendR { g := y.fst.g, q := y.fst.q, bu := y.fst.bu, s := y.fst.s, le := y.fst.le, l := y.fst.l, sp := y.fst.sp, pe := y.fst.pe, th := y.fst.th, em := y.fst.em : Pool } (Int.toNat (0 : Int))).snd = (0 : Int)) = Bool.true) ∧ ((Decidable.decide ((spendR { g := y.fst.g, q := y.fst.q, bu := y.fst.bu, s := y.fst.s, le := y.fst.le, l := y.fst.l, sp := y.fst.sp, pe := y.fst.pe, th := y.fst.th, em := y.fst.em : Pool } (Int.toNat (0 : Int))).snd = (0 : Int)) && Decidable.decide ((if (spendR { g := y.fst.g, q := y.fst.q, bu := y.fst.bu, s := y.fst.s, le := y.fst.le, l := y.fst.l, sp := y.fst.sp, pe := y.fst.pe, th := y.fst.th, em := y.fst.em : Pool } (Int.toNat (0 : Int))).fst.q = (4611686018427387904 : Int) then (1099511627776 : Int) else (spendR { g := y.fst.g, q := y.fst.q, bu := y.fst.bu, s := y.fst.s, le := y.fst.le, l := y.fst.l, sp := y.fst.sp, pe := y.fst.pe, th := y.fst.th, em := y.fst.em : Pool } (Int.toNat (0 : Int))).fst.le + (spendR { g := y.fst.g, q := y.fst.q, bu := y.fst.bu, s := y.fst.s, le := y.fst.le, l := y.fst.l, sp := y.fst.sp, pe := y.fst.pe, th := y.fst.th, em := y.fst.em : Pool } (Int.toNat (0 : Int))).fst.l.getD (Int.toNat (0 : Int)) (0 : Int)) = (1099511627776 : Int))) = Bool.true → True) ∧ ((Decidable.decide ((spendR { g := y.fst.g, q := y.fst.q, bu := y.fst.bu, s := y.fst.s, le := y.fst.le, l := y.fst.l, sp := y.fst.sp, pe := y.fst.pe, th := y.fst.th, em := y.fst.em : Pool } (Int.toNat (0 : Int))).snd = (0 : Int)) && Decidable.decide ((if (spendR { g := y.fst.g, q := y.fst.q, bu := y.fst.bu, s := y.fst.s, le := y.fst.le, l := y.fst.l, sp := y.fst.sp, pe := y.fst.pe, th := y.fst.th, em := y.fst.em : Pool } (Int.toNat (0 : Int))).fst.q = (4611686018427387904 : Int) then (1099511627776 : Int) else (spendR { g := y.fst.g, q := y.fst.q, bu := y.fst.bu, s := y.fst.s, le := y.fst.le, l := y.fst.l, sp := y.fst.sp, pe := y.fst.pe, th := y.fst.th, em := y.fst.em : Pool } (Int.toNat (0 : Int))).fst.le + (spendR { g := y.fst.g, q := y.fst.q, bu := y.fst.bu, s := y.fst.s, le := y.fst.le, l := y.fst.l, sp := y.fst.sp, pe := y.fst.pe, th := y.fst.th, em := y.fst.em : Pool } (Int.toNat (0 : Int))).fst.l.getD (Int.toNat (0 : Int)) (0 : Int)) = (1099511627776 : Int))) = Bool.true → (Decidable.decide ((spendR { g := y.fst.g, q := y.fst.q, bu := y.fst.bu, s := y.fst.s, le := y.fst.le, l := y.fst.l, sp := y.fst.sp, pe := y.fst.pe, th := y.fst.th, em := y.fst.em : Pool } (Int.toNat (0 : Int))).snd = (0 : Int)) && Decidable.decide ((if (spendR { g := y.fst.g, q := y.fst.q, bu := y.fst.bu, s := y.fst.s, le := y.fst.le, l := y.fst.l, sp := y.fst.sp, pe := y.fst.pe, th := y.fst.th, em := y.fst.em : Pool } (Int.toNat (0 : Int))).fst.q = (4611686018427387904 : Int) then (1099511627776 : Int) else (spendR { g := y.fst.g, q := y.fst.q, bu := y.fst.bu, s := y.fst.s, le := y.fst.le, l := y.fst.l, sp := y.fst.sp, pe := y.fst.pe, th := y.fst.th, em := y.fst.em : Pool } (Int.toNat (0 : Int))).fst.le + (spendR { g := y.fst.g, q := y.fst.q, bu := y.fst.bu, s := y.fst.s, le := y.fst.le, l := y.fst.l, sp := y.fst.sp, pe := y.fst.pe, th := y.fst.th, em := y.fst.em : Pool } (Int.toNat (0 : Int))).fst.l.getD (Int.toNat (0 : Int)) (0 : Int)) = (1099511627776 : Int))) = Bool.true) ∧ ∃ (y_1 : Unit), True ∧ (Decidable.decide ((spendR { g := y.fst.g, q := y.fst.q, bu := y.fst.bu, s := y.fst.s, le := y.fst.le, l := y.fst.l, sp := y.fst.sp, pe := y.fst.pe, th := y.fst.th, em := y.fst.em : Pool } (Int.toNat (0 : Int))).snd = (0 : Int)) && Decidable.decide ((if (spendR { g := y.fst.g, q := y.fst.q, bu := y.fst.bu, s := y.fst.s, le := y.fst.le, l := y.fst.l, sp := y.fst.sp, pe := y.fst.pe, th := y.fst.th, em := y.fst.em : Pool } (Int.toNat (0 : Int))).fst.q = (4611686018427387904 : Int) then (1099511627776 : Int) else (spendR { g := y.fst.g, q := y.fst.q, bu := y.fst.bu, s := y.fst.s, le := y.fst.le, l := y.fst.l, sp := y.fst.sp, pe := y.fst.pe, th := y.fst.th, em := y.fst.em : Pool } (Int.toNat (0 : Int))).fst.le + (spendR { g := y.fst.g, q := y.fst.q, bu := y.fst.bu, s := y.fst.s, le := y.fst.le, l := y.fst.l, sp := y.fst.sp, pe := y.fst.pe, th := y.fst.th, em := y.fst.em : Pool } (Int.toNat (0 : Int))).fst.l.getD (Int.toNat (0 : Int)) (0 : Int)) = (1099511627776 : Int)) && Bool.true) = Bool.true) ∧ ((!!Decidable.decide (y.fst.q = (4611686018427387904 : Int))) = Bool.false → Small y.fst.le y.fst.l ∧ (∃ (x : Pool × Int × Int × Int), (Drain x.fst (y.fst.le + y.fst.l.sum) x.snd.snd.fst x.snd.snd.snd ∧ DOK (L, x.snd.fst) ∧ x.snd.snd.fst ≤ (3 : Int) * (y.fst.le + y.fst.l.sum) + (6 : Int)) ∧ (0 : Int) = x.snd.snd.fst ∧ (0 : Int) = x.snd.snd.snd ∧ L = L ∧ y.snd = x.snd.fst ∧ y.fst.g = x.fst.g ∧ y.fst.q = x.fst.q ∧ y.fst.bu = x.fst.bu ∧ y.fst.s = x.fst.s ∧ y.fst.le = x.fst.le ∧ y.fst.sp = x.fst.sp ∧ y.fst.pe = x.fst.pe ∧ y.fst.th = x.fst.th ∧ y.fst.em = x.fst.em ∧ y.fst.l = x.fst.l) ∧ ∀ (x : Pool × Int × Int × Int), Drain x.fst (y.fst.le + y.fst.l.sum) x.snd.snd.fst x.snd.snd.snd ∧ DOK (L, x.snd.fst) ∧ x.snd.snd.fst ≤ (3 : Int) * (y.fst.le + y.fst.l.sum) + (6 : Int) → i64R ((3 : Int) * (y.fst.le + y.fst.l.sum)) ∧ i64R ((3 : Int) * (y.fst.le + y.fst.l.sum) + (↑x.fst.l.length : Int)) ∧ i64R ((3 : Int) * (y.fst.le + y.fst.l.sum) + (↑x.fst.l.length : Int) + (3 : Int)) ∧ (Decidable.decide (x.snd.snd.fst < (3 : Int) * (y.fst.le + y.fst.l.sum) + (↑x.fst.l.length : Int) + (3 : Int)) = Bool.true → (DOK (L, x.snd.fst) ∧ (↑x.fst.l.length : Int) ≤ (4611686018427387904 : Int)) ∧ (∀ (y : Int × Int), Bool.true = Bool.true) ∧ ∀ (y_1 : Int × Int), ((1 : Int) ≤ (↑x.fst.l.length : Int) → (0 : Int) ≤ y_1.fst ∧ y_1.fst < (↑x.fst.l.length : Int)) ∧ ((↑x.fst.l.length : Int) < (1 : Int) → y_1.fst = (0 : Int)) ∧ x.snd.fst ≤ y_1.snd ∧ y_1.snd ≤ (↑L.length : Int) → (Good { g := x.fst.g, q := x.fst.q, bu := x.fst.bu, s := x.fst.s, le := x.fst.le, l := x.fst.l, sp := x.fst.sp, pe := x.fst.pe, th := x.fst.th, em := x.fst.em : Pool } ∧ (0 : Int) ≤ y_1.fst ∧ y_1.fst < (↑x.fst.l.length : Int)) ∧ (Decidable.decide ((spendR { g := x.fst.g, q := x.fst.q, bu := x.fst.bu, s := x.fst.s, le := x.fst.le, l := x.fst.l, sp := x.fst.sp, pe := x.fst.pe, th := x.fst.th, em := x.fst.em : Pool } y_1.fst.toNat).snd = (0 : Int)) = Bool.true → i64R (x.snd.snd.snd + (1 : Int)) ∧ i64R (x.snd.snd.fst + (1 : Int)) ∧ ∃ (x' : Pool × Int × Int × Int), (Drain x'.fst (y.fst.le + y.fst.l.sum) x'.snd.snd.fst x'.snd.snd.snd ∧ DOK (L, x'.snd.fst) ∧ x'.snd.snd.fst ≤ (3 : Int) * (y.fst.le + y.fst.l.sum) + (6 : Int)) ∧ ((3 : Int) * (y.fst.le + y.fst.l.sum) + (6 : Int) - x'.snd.snd.fst).toNat < ((3 : Int) * (y.fst.le + y.fst.l.sum) + (6 : Int) - x.snd.snd.fst).toNat ∧ x.snd.snd.fst + (1 : Int) = x'.snd.snd.fst ∧ x.snd.snd.snd + (1 : Int) = x'.snd.snd.snd ∧ L = L ∧ y_1.snd = x'.snd.fst ∧ (spendR { g := x.fst.g, q := x.fst.q, bu := x.fst.bu, s := x.fst.s, le := x.fst.le, l := x.fst.l, sp := x.fst.sp, pe := x.fst.pe, th := x.fst.th, em := x.fst.em : Pool } y_1.fst.toNat).fst.g = x'.fst.g ∧ (spendR { g := x.fst.g, q := x.fst.q, bu := x.fst.bu, s := x.fst.s, le := x.fst.le, l := x.fst.l, sp := x.fst.sp, pe := x.fst.pe, th := x.fst.th, em := x.fst.em : Pool } y_1.fst.toNat).fst.q = x'.fst.q ∧ (spendR { g := x.fst.g, q := x.fst.q, bu := x.fst.bu, s := x.fst.s, le := x.fst.le, l := x.fst.l, sp := x.fst.sp, pe := x.fst.pe, th := x.fst.th, em := x.fst.em : Pool } y_1.fst.toNat).fst.bu = x'.fst.bu ∧ (spendR { g := x.fst.g, q := x.fst.q, bu := x.fst.bu, s := x.fst.s, le := x.fst.le, l := x.fst.l, sp := x.fst.sp, pe := x.fst.pe, th := x.fst.th, em := x.fst.em : Pool } y_1.fst.toNat).fst.s = x'.fst.s ∧ (spendR { g := x.fst.g, q := x.fst.q, bu := x.fst.bu, s := x.fst.s, le := x.fst.le, l := x.fst.l, sp := x.fst.sp, pe := x.fst.pe, th := x.fst.th, em := x.fst.em : Pool } y_1.fst.toNat).fst.le = x'.fst.le ∧ (spendR { g := x.fst.g, q := x.fst.q, bu := x.fst.bu, s := x.fst.s, le := x.fst.le, l := x.fst.l, sp := x.fst.sp, pe := x.fst.pe, th := x.fst.th, em := x.fst.em : Pool } y_1.fst.toNat).fst.sp = x'.fst.sp ∧ (spendR { g := x.fst.g, q := x.fst.q, bu := x.fst.bu, s := x.fst.s, le := x.fst.le, l := x.fst.l, sp := x.fst.sp, pe := x.fst.pe, th := x.fst.th, em := x.fst.em : Pool } y_1.fst.toNat).fst.pe = x'.fst.pe ∧ (spendR { g := x.fst.g, q := x.fst.q, bu := x.fst.bu, s := x.fst.s, le := x.fst.le, l := x.fst.l, sp := x.fst.sp, pe := x.fst.pe, th := x.fst.th, em := x.fst.em : Pool } y_1.fst.toNat).fst.th = x'.fst.th ∧ (spendR { g := x.fst.g, q := x.fst.q, bu := x.fst.bu, s := x.fst.s, le := x.fst.le, l := x.fst.l, sp := x.fst.sp, pe := x.fst.pe, th := x.fst.th, em := x.fst.em : Pool } y_1.fst.toNat).fst.em = x'.fst.em ∧ (spendR { g := x.fst.g, q := x.fst.q, bu := x.fst.bu, s := x.fst.s, le := x.fst.le, l := x.fst.l, sp := x.fst.sp, pe := x.fst.pe, th := x.fst.th, em := x.fst.em : Pool } y_1.fst.toNat).fst.l = x'.fst.l) ∧ (Decidable.decide ((spendR { g := x.fst.g, q := x.fst.q, bu := x.fst.bu, s := x.fst.s, le := x.fst.le, l := x.fst.l, sp := x.fst.sp, pe := x.fst.pe, th := x.fst.th, em := x.fst.em : Pool } y_1.fst.toNat).snd = (0 : Int)) = Bool.false → (∃ (x_1 : Pool × Int), Backed x_1.fst (x.fst.le + x.fst.l.sum) x_1.snd (↑x.fst.l.length : Int) ∧ (0 : Int) = x_1.snd ∧ x.fst.g = x_1.fst.g ∧ x.fst.q = x_1.fst.q ∧ x.fst.bu = x_1.fst.bu ∧ x.fst.s = x_1.fst.s ∧ x.fst.le = x_1.fst.le ∧ x.fst.sp = x_1.fst.sp ∧ x.fst.pe = x_1.fst.pe ∧ x.fst.th = x_1.fst.th ∧ x.fst.em = x_1.fst.em ∧ x.fst.l = x_1.fst.l ∧ L = L ∧ y_1.snd = y_1.snd) ∧ ∀ (x_1 : Pool × Int), Backed x_1.fst (x.fst.le + x.fst.l.sum) x_1.snd (↑x.fst.l.length : Int) → (Decidable.decide (x_1.snd < (↑x.fst.l.length : Int)) = Bool.true → (Good { g := x_1.fst.g, q := x_1.fst.q, bu := x_1.fst.bu, s := x_1.fst.s, le := x_1.fst.le, l := x_1.fst.l, sp := x_1.fst.sp, pe := x_1.fst.pe, th := x_1.fst.th, em := x_1.fst.em : Pool } ∧ (0 : Int) ≤ x_1.snd ∧ x_1.snd < (↑x_1.fst.l.length : Int)) ∧ (Bool.true = Bool.true → i64R (x_1.snd + (1 : Int)) ∧ ∃ (x' : Pool × Int), Backed x'.fst (x.fst.le + x.fst.l.sum) x'.snd (↑x.fst.l.length : Int) ∧ ((↑x.fst.l.length : Int) - x'.snd).toNat < ((↑x.fst.l.length : Int) - x_1.snd).toNat ∧ x_1.snd + (1 : Int) = x'.snd ∧ x_1.fst.g = x'.fst.g ∧ x_1.fst.q = x'.fst.q ∧ x_1.fst.bu = x'.fst.bu ∧ x_1.fst.s = x'.fst.s ∧ x_1.fst.le + x_1.fst.l.getD x_1.snd.toNat (0 : Int) = x'.fst.le ∧ x_1.fst.sp = x'.fst.sp ∧ x_1.fst.pe = x'.fst.pe ∧ x_1.fst.th = x'.fst.th ∧ x_1.fst.em = x'.fst.em ∧ x_1.fst.l.set x_1.snd.toNat (0 : Int) = x'.fst.l ∧ L = L ∧ y_1.snd = y_1.snd) ∧ (Bool.true = Bool.false → i64R (x_1.snd + (1 : Int)) ∧ ∃ (x' : Pool × Int), Backed x'.fst (x.fst.le + x.fst.l.sum) x'.snd (↑x.fst.l.length : Int) ∧ ((↑x.fst.l.length : Int) - x'.snd).toNat < ((↑x.fst.l.length : Int) - x_1.snd).toNat ∧ x_1.snd + (1 : Int) = x'.snd ∧ x_1.fst.g = x'.fst.g ∧ x_1.fst.q = x'.fst.q ∧ x_1.fst.bu = x'.fst.bu ∧ x_1.fst.s = x'.fst.s ∧ x_1.fst.le = x'.fst.le ∧ x_1.fst.sp = x'.fst.sp ∧ x_1.fst.pe = x'.fst.pe ∧ x_1.fst.th = x'.fst.th ∧ x_1.fst.em = x'.fst.em ∧ x_1.fst.l = x'.fst.l ∧ L = L ∧ y_1.snd = y_1.snd)) ∧ (Decidable.decide (x_1.snd < (↑x.fst.l.length : Int)) = Bool.false → i64R (x.snd.snd.fst + (1 : Int)) ∧ ∃ (x' : Pool × Int × Int × Int), (Drain x'.fst (y.fst.le + y.fst.l.sum) x'.snd.snd.fst x'.snd.snd.snd ∧ DOK (L, x'.snd.fst) ∧ x'.snd.snd.fst ≤ (3 : Int) * (y.fst.le + y.fst.l.sum) + (6 : Int)) ∧ ((3 : Int) * (y.fst.le + y.fst.l.sum) + (6 : Int) - x'.snd.snd.fst).toNat < ((3 : Int) * (y.fst.le + y.fst.l.sum) + (6 : Int) - x.snd.snd.fst).toNat ∧ x.snd.snd.fst + (1 : Int) = x'.snd.snd.fst ∧ x.snd.snd.snd = x'.snd.snd.snd ∧ L = L ∧ y_1.snd = x'.snd.fst ∧ x_1.fst.g = x'.fst.g ∧ x_1.fst.q = x'.fst.q ∧ x_1.fst.bu = x'.fst.bu ∧ x_1.fst.s = x'.fst.s ∧ x_1.fst.le = x'.fst.le ∧ x_1.fst.sp = x'.fst.sp ∧ x_1.fst.pe = x'.fst.pe ∧ x_1.fst.th = x'.fst.th ∧ x_1.fst.em = x'.fst.em ∧ x_1.fst.l = x'.fst.l))) ∧ (Decidable.decide (x.snd.snd.fst < (3 : Int) * (y.fst.le + y.fst.l.sum) + (↑x.fst.l.length : Int) + (3 : Int)) = Bool.false → (Good { g := x.fst.g, q := x.fst.q, bu := x.fst.bu, s := x.fst.s, le := x.fst.le, l := x.fst.l, sp := x.fst.sp, pe := x.fst.pe, th := x.fst.th, em := x.fst.em : Pool } ∧ (0 : Int) ≤ (0 : Int) ∧ (0 : Int) < (↑x.fst.l.length : Int)) ∧ (Decidable.decide (x.snd.snd.snd = y.fst.le + y.fst.l.sum) = Bool.true → Decidable.decide (x.snd.snd.snd = y.fst.le + y.fst.l.sum) = Bool.true) ∧ (Decidable.decide (x.snd.snd.snd = y.fst.le + y.fst.l.sum) = Bool.true → Decidable.decide (x.snd.snd.snd = y.fst.le + y.fst.l.sum) = Bool.true) ∧ ((Decidable.decide (x.snd.snd.snd = y.fst.le + y.fst.l.sum) && Decidable.decide ((spendR { g := x.fst.g, q := x.fst.q, bu := x.fst.bu, s := x.fst.s, le := x.fst.le, l := x.fst.l, sp := x.fst.sp, pe := x.fst.pe, th := x.fst.th, em := x.fst.em : Pool } (Int.toNat (0 : Int))).snd = (11 : Int))) = Bool.true → True) ∧ ((Decidable.decide (x.snd.snd.snd = y.fst.le + y.fst.l.sum) && Decidable.decide ((spendR { g := x.fst.g, q := x.fst.q, bu := x.fst.bu, s := x.fst.s, le := x.fst.le, l := x.fst.l, sp := x.fst.sp, pe := x.fst.pe, th := x.fst.th, em := x.fst.em : Pool } (Int.toNat (0 : Int))).snd = (11 : Int))) = Bool.true → (Decidable.decide (x.snd.snd.snd = y.fst.le + y.fst.l.sum) && Decidable.decide ((spendR { g := x.fst.g, q := x.fst.q, bu := x.fst.bu, s := x.fst.s, le := x.fst.le, l := x.fst.l, sp := x.fst.sp, pe := x.fst.pe, th := x.fst.th, em := x.fst.em : Pool } (Int.toNat (0 : Int))).snd = (11 : Int))) = Bool.true) ∧ ∃ (y_1 : Unit), True ∧ (Decidable.decide (x.snd.snd.snd = y.fst.le + y.fst.l.sum) && Decidable.decide ((spendR { g := x.fst.g, q := x.fst.q, bu := x.fst.bu, s := x.fst.s, le := x.fst.le, l := x.fst.l, sp := x.fst.sp, pe := x.fst.pe, th := x.fst.th, em := x.fst.em : Pool } (Int.toNat (0 : Int))).snd = (11 : Int)) && Bool.true) = Bool.true)))) = sLaw.vc (EV Try.prog [(8, sLight.spec), (9, sSane.spec), (10, sRoll.spec), (11, sPool.spec), (16, sNext.spec), (19, sLimited.spec), (15, sHeld.spec), (22, sSpend.spec), (23, sReturn.spec), (25, sRoom.spec)] (invsS [(10, inv6 L), (18, inv6i)]) noInv) Try.f6 (L, ()) := by kernel_rfl
  rw [← e]
  clear e
  simp only [Prod.forall, Prod.exists, exists_const, implies_true, not_true_eq_false, not_false_eq_true, or_self, or_false, false_or, or_true, true_or, and_false, false_and, forall_const, true_and, and_true, i64R, imp_self, Int.reduceLE, Int.reduceLT, Int.reduceNeg, false_implies, true_implies, decide_eq_true_eq, decide_eq_false_iff_not, Bool.not_eq_true', Bool.not_eq_false', Bool.true_eq_false, Bool.false_eq_true, Bool.and_eq_true, Bool.or_eq_true, NilL_eq, Bool.and_eq_false_iff, Bool.or_eq_false_iff ]
  intro hl
  have hd : ∀ j : Int, 0 ≤ j ∧ j ≤ L.length → DOK (L, j) := fun j h => ⟨h.1, h.2, by show L.length ≤ 600; omega⟩
  refine ⟨hd _ (by omega), fun p b hp => ⟨fun hq => ?_, fun hq => ?_⟩⟩
  · have hg := hp.1.good
    have g1 := hg.bounds
    obtain ⟨f1, f2, f3, f4, f5, f6, f7⟩ := spend_facts hg (c := 0) (by omega)
    rcases f7 with ⟨k, k2, _⟩ | ⟨k, _⟩ | ⟨k, _⟩
    · exact ⟨⟨hg, by omega⟩, fun _ => ⟨f1, by show (0 : Int) < ((spendR p 0).1.l.length : Nat); omega⟩, k2, by show (if (spendR p 0).1.q = _ then _ else _) = _; rw [f2, if_pos k]⟩
    · exact absurd hq k
    · exact absurd hq k
  · have hg := hp.1.good
    have g1 := hg.bounds
    have hlen := hp.1.len
    refine ⟨hg.small, ?_, fun q k i s hx => ?_⟩
    · (refine ⟨⟨?_, ?_, ?_, ?_, ?_, ?_, ?_, ?_, ?_, ?_⟩, ?_, ?_, ?_, ?ok, ?eqs⟩; (case eqs => ((try dsimp only); repeat' (first | with_reducible exact rfl | exact rfl | apply And.intro))); (case ok => exact ⟨Drain.init hg hq hlen, hd _ (by omega), by omega⟩))
    obtain ⟨hD, hk, hi⟩ := hx
    have k0 := hk.lo
    have k1 := hk.hi
    have k0 : 0 ≤ k := k0
    have k1 : k ≤ L.length := k1
    have d0 := hD.len
    have d1 := hD.good.bounds
    have d2 := hD.i0
    have d3 := hD.s0
    have d4 := hD.sum
    refine ⟨by omega, by omega, by omega, fun h1 => ⟨⟨hk, by omega⟩, fun c k' hc => ⟨⟨hD.good, by omega⟩, fun he => ⟨by omega, by omega, ?_⟩, fun he => ⟨?_, fun r j hb => ⟨fun hj => ⟨⟨hb.good, by have := hb.len; have := hb.j0; omega⟩, by have := hb.j0; omega, ?_⟩, fun hj => ⟨by omega, ?_⟩⟩⟩⟩⟩, fun h1 => ⟨⟨hD.good, by omega⟩, hD.stop h1⟩⟩
    · (refine ⟨⟨?_, ?_, ?_, ?_, ?_, ?_, ?_, ?_, ?_, ?_⟩, ?_, ?_, ?_, ?ok, ?me, ?eqs⟩; (case eqs => ((try dsimp only); repeat' (first | with_reducible exact rfl | exact rfl | apply And.intro))); (case me => (show (_ : Nat) < _; omega)); (case ok => exact ⟨hD.spend (by omega) he, hd _ (by omega), by omega⟩))
    · (refine ⟨⟨?_, ?_, ?_, ?_, ?_, ?_, ?_, ?_, ?_, ?_⟩, ?_, ?ok, ?eqs⟩; (case eqs => ((try dsimp only); repeat' (first | with_reducible exact rfl | exact rfl | apply And.intro))); (case ok => exact Backed.init hD.good hD.lim))
    · (refine ⟨⟨?_, ?_, ?_, ?_, ?_, ?_, ?_, ?_, ?_, ?_⟩, ?_, ?ok, ?me, ?eqs⟩; (case eqs => ((try dsimp only); repeat' (first | with_reducible exact rfl | exact rfl | apply And.intro))); (case me => (show (_ : Nat) < _; omega)); (case ok => exact hb.step hj))
    · have hp0 : q.le = 0 := by
        obtain ⟨f1, f2, f3, f4, f5, f6, f7⟩ := spend_facts hD.good (c := c.toNat) (by omega)
        rcases f7 with ⟨k, k2, _⟩ | ⟨k, _, k2, _⟩ | ⟨k, k2, _⟩
        · exact absurd k2 he
        · exact absurd k2 he
        · exact k2
      (refine ⟨⟨?_, ?_, ?_, ?_, ?_, ?_, ?_, ?_, ?_, ?_⟩, ?_, ?_, ?_, ?ok, ?me, ?eqs⟩; (case eqs => ((try dsimp only); repeat' (first | with_reducible exact rfl | exact rfl | apply And.intro))); (case me => (show (_ : Nat) < _; omega)); (case ok => exact ⟨hD.back hp0 hb rfl hj, hd _ (by omega), by omega⟩))
end Go.Proofs.Ytenfpjponaaolaa
