/-
  Lemmas and contracts on the way to the laws of this seat; each theorem states its own conditions, and there are no others.
-/
import Derived.Test.YtgaeomkjpcpogaaVE

namespace Go.Proofs.Ytgaeomkjpcpogaa
open Go
set_option linter.unusedVariables false
set_option linter.unusedSimpArgs false
set_option linter.unusedVariables false

def sLaw : DS := ⟨_, one pkIntsP, fun _ => True, fun _ => .bool true, nou⟩
theorem okAt {p : List (List Stp)} (hv : ValidP p) {r : Run} (h0 : 0 ≤ r.p) (h1 : r.p < p.length) {i : Int} (i0 : 0 ≤ i) (i1 : i < (runP p r).length) (hk : (st (runP p r) i.toNat).k = 1) : 1 ≤ (st (runP p r) i.toNat).n := by
  have ho : okStp p.length (st (runP p r) i.toNat) := (hv.2 r.p.toNat (by omega)).2.2 i.toNat (by unfold runP at *; omega)
  have ho2 := ho.2
  rw [hk] at ho2
  have ho3 : okTicks (st (runP p r) i.toNat) = true := ho2
  simp [okTicks, inb] at ho3
  omega
theorem at_snd {p : List (List Stp)} (hv : ValidP p) {r : Run} (t0 : 1 ≤ r.t) (t1 : r.t ≤ 2147483647) (h0 : 0 ≤ r.p) (h1 : r.p < p.length) {i : Int} (i0 : 0 ≤ i) (i1 : i ≤ (runP p r).length) : SndP p (atR p r i) := by
  refine ⟨t0, t1, h0, h1, ?_⟩
  by_cases e : i = (runP p r).length
  · refine .inl ⟨?_, e, ?_, rfl⟩
    · show (if i = (runP p r).length then (4 : Int) else 0) = 4
      rw [if_pos e]
    · show (if i = (runP p r).length then (0 : Int) else _) = 0
      rw [if_pos e]
  · refine .inr ?_
    have hs : (atR p r i).s = 0 := by
      show (if i = (runP p r).length then (4 : Int) else 0) = 0
      rw [if_neg e]
    have hl : (atR p r i).l = if (st (runP p r) i.toNat).k = 1 then (st (runP p r) i.toNat).n else 0 := by
      show (if i = (runP p r).length then (0 : Int) else _) = _
      rw [if_neg e]
    have hc : cur p (atR p r i) = st (runP p r) i.toNat := rfl
    have hr : runP p (atR p r i) = runP p r := rfl
    have ha : (atR p r i).a = i := rfl
    have hu : (atR p r i).u = 0 := rfl
    rw [hs, hl, hc, hr, ha, hu]
    refine ⟨by omega, by omega, i0, by omega, by omega, by omega, .inl rfl, ?_⟩
    by_cases hk : (st (runP p r) i.toNat).k = 1
    · rw [if_pos hk]
      exact .inl ⟨hk, okAt hv h0 h1 i0 (by omega) hk, Int.le_refl _⟩
    · rw [if_neg hk]
      exact .inr ⟨hk, rfl⟩
theorem nxt_snd {p : List (List Stp)} {r : Run} (h : ValidP p ∧ SndP p r) (h4 : r.s ≠ 4) : SndP p (nxtR p r) := by
  have hg := go_at h h4
  obtain ⟨hv, h1, h2, h3, h5, h6⟩ := h
  refine at_snd hv h1 h2 h3 h5 ?_ ?_
  · unfold nxtI; split <;> omega
  · unfold nxtI; split <;> omega
theorem start_ok {p : List (List Stp)} {t k : Int} (hv : ValidP p) (ht : 1 ≤ t ∧ t ≤ 2147483647) (hk : 0 ≤ k ∧ k < p.length) : startE p t k = 0 := by
  rw [startE, if_pos (validB_of hv), if_pos hk, if_pos ht]
theorem start_is {p : List (List Stp)} {t k : Int} (hv : ValidP p) (ht : 1 ≤ t ∧ t ≤ 2147483647) (hk : 0 ≤ k ∧ k < p.length) : startR p t k = atR p ⟨t, k, 0, 0, 0, 0⟩ 0 := by
  rw [startR, if_pos (start_ok hv ht hk)]
theorem start_snd {p : List (List Stp)} {t k : Int} (hv : ValidP p) (ht : 1 ≤ t ∧ t ≤ 2147483647) (hk : 0 ≤ k ∧ k < p.length) : SndP p (startR p t k) := by
  rw [start_is hv ht hk]
  exact at_snd hv ht.1 ht.2 hk.1 hk.2 (by omega) (by omega)
theorem next_snd {p : List (List Stp)} {r : Run} (h : chkE p r = 0) : SndP p (nextR p r) ∧ (nextR p r).t = r.t ∧ (nextR p r).p = r.p := by
  rw [nextR, if_pos h]
  exact ⟨nxt_snd (chk0.1 h).1 (chk0.1 h).2, rfl, rfl⟩
theorem unit_ok {p : List (List Stp)} {r : Run} (h : unitE p r = 0) : chkE p r = 0 ∧ r.s = 0 ∧ (cur p r).k = 1 := by
  unfold unitE at h
  by_cases h1 : chkE p r = 0
  · rw [if_pos h1] at h
    by_cases h2 : r.s = 0 ∧ (cur p r).k = 1
    · exact ⟨h1, h2⟩
    · rw [if_neg h2] at h; omega
  · rw [if_neg h1] at h; exact absurd h h1
theorem unit_snd {p : List (List Stp)} {r : Run} (h : unitE p r = 0) : SndP p (unitR p r) ∧ (unitR p r).t = r.t ∧ (unitR p r).p = r.p := by
  obtain ⟨h1, h2, h3⟩ := unit_ok h
  have hc := chk0.1 h1
  rw [unitR, if_pos h]
  by_cases e : r.l - 1 = 0
  · rw [if_pos e]
    exact ⟨nxt_snd hc.1 hc.2, rfl, rfl⟩
  · rw [if_neg e]
    refine ⟨?_, rfl, rfl⟩
    obtain ⟨⟨hv, g1, g2, g3, g4, g5⟩, g6⟩ := hc
    refine ⟨g1, g2, g3, g4, .inr ?_⟩
    rcases g5 with g5 | ⟨a1, a2, a3, a4, a5, a6, a7, a8⟩
    · exact absurd g5.1 g6
    · refine ⟨a1, a2, a3, a4, a5, a6, a7, .inl ⟨h3, ?_⟩⟩
      rcases a8 with a8 | a8
      · show 1 ≤ r.l - 1 ∧ r.l - 1 ≤ (cur p r).n
        omega
      · exact absurd h3 a8.1
theorem wait_ok {p : List (List Stp)} {r : Run} {s u : Int} (h : waitE p r s u = 0) : chkE p r = 0 ∧ (1 ≤ s ∧ s ≤ 3) ∧ (0 ≤ u ∧ u ≤ 1048576) ∧ (u = 0 ∨ s = 1) := by
  unfold waitE at h
  by_cases h1 : chkE p r = 0
  · rw [if_pos h1] at h
    by_cases h2 : (1 ≤ s ∧ s ≤ 3) ∧ (0 ≤ u ∧ u ≤ 1048576) ∧ (u = 0 ∨ s = 1)
    · exact ⟨h1, h2⟩
    · rw [if_neg h2] at h; omega
  · rw [if_neg h1] at h; exact absurd h h1
theorem wait_snd {p : List (List Stp)} {r : Run} {s u : Int} (h : waitE p r s u = 0) : SndP p (waitR p r s u) ∧ (waitR p r s u).t = r.t ∧ (waitR p r s u).p = r.p := by
  obtain ⟨h1, h2, h3, h4⟩ := wait_ok h
  have hc := chk0.1 h1
  rw [waitR, if_pos h]
  refine ⟨?_, rfl, rfl⟩
  obtain ⟨⟨hv, g1, g2, g3, g4, g5⟩, g6⟩ := hc
  refine ⟨g1, g2, g3, g4, .inr ?_⟩
  rcases g5 with g5 | ⟨a1, a2, a3, a4, a5, a6, a7, a8⟩
  · exact absurd g5.1 g6
  · exact ⟨by show 0 ≤ s; omega, by show s ≤ 3; omega, a3, a4, h3.1, h3.2, h4, a8⟩
theorem wake_snd {p : List (List Stp)} {r : Run} {n : Int} (h : ValidP p ∧ SndP p r) : SndP p (wakeR p r n) ∧ (wakeR p r n).t = r.t ∧ (wakeR p r n).p = r.p := by
  unfold wakeR
  by_cases e : wakeB p r n = true
  · rw [if_pos e]
    have e2 := e
    unfold wakeB at e2
    rw [Bool.and_eq_true, Bool.and_eq_true, decide_eq_true_eq] at e2
    exact ⟨nxt_snd h (by omega), rfl, rfl⟩
  · rw [if_neg e]
    exact ⟨h.2, rfl, rfl⟩
def sLaw5 : DS := ⟨_, three pkIntsP pkI pkI, fun _ => True, fun _ => .bool true, nou⟩

def inv4 (L : List Int) (s : St) : Inv where
  X := Run × Int × Int
  ok := fun x => SndP (contP s (s.t 4)) x.1 ∧ 0 ≤ x.2.1 ∧ x.2.1 ≤ 20 ∧ DOK (L, x.2.2)
  sl := fun x => [(7, .int .i64 x.2.1), (4, .own 101 4)]
  hp := fun x => [(40010, diceO (L, x.2.2)), (101, .rows 31 4 (contP s (s.t 4))), (60120, .cells 34 [.int .i64 x.1.t, .int .i64 x.1.p, .int .i64 x.1.a, .int .i64 x.1.l, .int .i64 x.1.s, .int .i64 x.1.u])]
  keep := []
  me := fun x => (20 - x.2.1).toNat
set_option maxRecDepth 100000 in
theorem vc4 (L : List Int) (hx : True) : sLaw.vc (EV Try.prog [(13, sLight.spec), (12, sSane.spec), (8, sRoll.spec), (14, sProgs.spec), (9, sNext.spec), (11, sStart.spec), (17, sWait.spec), (19, sWake.spec), (15, sNextR.spec), (16, sUnit.spec), (18, sPick.spec), (20, sSound.spec)] (invsS [(9, inv4 L)]) noInv) Try.f4 (L, ()) := by
  have e : (True ∧ ((!Decidable.decide ((↑L.length : Int) ≤ (600 : Int))) = Bool.true → True ∧ ∃ (y : Unit), True ∧ Bool.true = Bool.true) ∧ ((!Decidable.decide ((↑L.length : Int) ≤ (600 : Int))) = Bool.false → True ∧ DOK (L, (0 : Int)) ∧ (∀ (y : List (List Stp) × Int), Bool.true = Bool.true) ∧ ∀ (y : List (List Stp) × Int), ValidP y.fst ∧ (1 : Nat) ≤ y.fst.length ∧ (0 : Int) ≤ y.snd ∧ y.snd ≤ (↑L.length : Int) → (DOK (L, y.snd) ∧ (9 : Int) ≤ (4611686018427387904 : Int)) ∧ (∀ (y : Int × Int), Bool.true = Bool.true) ∧ ∀ (y_1 : Int × Int), ((1 : Int) ≤ (9 : Int) → (0 : Int) ≤ y_1.fst ∧ y_1.fst < (9 : Int)) ∧ ((9 : Int) < (1 : Int) → y_1.fst = (0 : Int)) ∧ y.snd ≤ y_1.snd ∧ y_1.snd ≤ (↑L.length : Int) → i64R ((1 : Int) + y_1.fst) ∧ (DOK (L, y_1.snd) ∧ (↑y.fst.length : Int) ≤ (4611686018427387904 : Int)) ∧ (∀ (y : Int × Int), Bool.true = Bool.true) ∧ ∀ (y_2 : Int × Int), ((1 : Int) ≤ (↑y.fst.length : Int) → (0 : Int) ≤ y_2.fst ∧ y_2.fst < (↑y.fst.length : Int)) ∧ ((↑y.fst.length : Int) < (1 : Int) → y_2.fst = (0 : Int)) ∧ y_1.snd ≤ y_2.snd ∧ y_2.snd ≤ (↑L.length : Int) → True ∧ ((!Decidable.decide (startE y.fst ((1 : Int) + y_1.fst) y_2.fst = (0 : Int))) = Bool.true → ∃ (y : Unit), True ∧ Bool.false = Bool.true) ∧ ((!Decidable.decide (startE y.fst ((1 : Int) + y_1.fst) y_2.fst = (0 : Int))) = Bool.false → (∃ (x : Run × Int × Int), (SndP y.fst x.fst ∧ (0 : Int) ≤ x.snd.fst ∧ x.snd.fst ≤ (20 : Int) ∧ DOK (L, x.snd.snd)) ∧ (0 : Int) = x.snd.fst ∧ L = L ∧ y_2.snd = x.snd.snd ∧ y.fst = y.fst ∧ (startR y.fst ((1 : Int) + y_1.fst) y_2.fst).t = x.fst.t ∧ (startR y.fst ((1 : Int) + y_1.fst) y_2.fst).p = x.fst.p ∧ (startR y.fst ((1 : Int) + y_1.fst) y_2.fst).a = x.fst.a ∧ (startR y.fst ((1 : Int) + y_1.fst) y_2.fst).l = x.fst.l ∧ (startR y.fst ((1 : Int) + y_1.fst) y_2.fst).s = x.fst.s ∧ (startR y.fst ((1 : Int) + y_1.fst) y_2.fst).u = x.fst.u) ∧ ∀ (x : Run × Int × Int), SndP y.fst x.fst ∧ (0 : Int) ≤ x.snd.fst ∧ x.snd.fst ≤ (20 : Int) ∧ DOK (L, x.snd.snd) → (Decidable.decide (x.snd.fst < (20 : Int)) = Bool.true → True ∧ (DOK (L, x.snd.snd) ∧ (4 : Int) ≤ (4611686018427387904 : Int)) ∧ (∀ (y : Int × Int), Bool.true = Bool.true) ∧ ∀ (y_3 : Int × Int), ((1 : Int) ≤ (4 : Int) → (0 : Int) ≤ y_3.fst ∧ y_3.fst < (4 : Int)) ∧ ((4 : Int) < (1 : Int) → y_3.fst = (0 : Int)) ∧ x.snd.snd ≤ y_3.snd ∧ y_3.snd ≤ (↑L.length : Int) → (Decidable.decide (y_3.fst = (0 : Int)) = Bool.true → True ∧ ((!Decidable.decide (unitE y.fst x.fst = (0 : Int))) = Bool.true → i64R (x.snd.fst + (1 : Int)) ∧ ∃ (x' : Run × Int × Int), (SndP y.fst x'.fst ∧ (0 : Int) ≤ x'.snd.fst ∧ x'.snd.fst ≤ (20 : Int) ∧ DOK (L, x'.snd.snd)) ∧ ((20 : Int) - x'.snd.fst).toNat < ((20 : Int) - x.snd.fst).toNat ∧ x.snd.fst + (1 : Int) = x'.snd.fst ∧ L = L ∧ y_3.snd = x'.snd.snd ∧ y.fst = y.fst ∧ x.fst.t = x'.fst.t ∧ x.fst.p = x'.fst.p ∧ x.fst.a = x'.fst.a ∧ x.fst.l = x'.fst.l ∧ x.fst.s = x'.fst.s ∧ x.fst.u = x'.fst.u) ∧ ((!Decidable.decide (unitE y.fst x.fst = (0 : Int))) = Bool.false → True ∧ ((!soundB y.fst (unitR y.fst x.fst)) = Bool.false → (!soundB y.fst (unitR y.fst x.fst)) = Bool.false) ∧ ((!soundB y.fst (unitR y.fst x.fst)) = Bool.false → (!soundB y.fst (unitR y.fst x.fst)) = Bool.false) ∧ ((!soundB y.fst (unitR y.fst x.fst)) = Bool.false → (!soundB y.fst (unitR y.fst x.fst)) = Bool.false) ∧ ((!soundB y.fst (unitR y.fst x.fst)) = Bool.false → (!soundB y.fst (unitR y.fst x.fst)) = Bool.false) ∧ ((!soundB y.fst (unitR y.fst x.fst)) = Bool.false → (!soundB y.fst (unitR y.fst x.fst)) = Bool.false) ∧ ((!soundB y.fst (unitR y.fst x.fst) || !Decidable.decide ((unitR y.fst x.fst).t = x.fst.t)) = Bool.false → (!soundB y.fst (unitR y.fst x.fst) || !Decidable.decide ((unitR y.fst x.fst).t = x.fst.t)) = Bool.false) ∧ ((!soundB y.fst (unitR y.fst x.fst) || !Decidable.decide ((unitR y.fst x.fst).t = x.fst.t)) = Bool.false → (!soundB y.fst (unitR y.fst x.fst) || !Decidable.decide ((unitR y.fst x.fst).t = x.fst.t)) = Bool.false) ∧ ((!soundB y.fst (unitR y.fst x.fst) || !Decidable.decide ((unitR y.fst x.fst).t = x.fst.t)) = Bool.false → (!soundB y.fst (unitR y.fst x.fst) || !Decidable.decide ((unitR y.fst x.fst).t = x.fst.t)) = Bool.false) ∧ ((!soundB y.fst (unitR y.fst x.fst) || !Decidable.decide ((unitR y.fst x.fst).t = x.fst.t)) = Bool.false → (!soundB y.fst (unitR y.fst x.fst) || !Decidable.decide ((unitR y.fst x.fst).t = x.fst.t)) = Bool.false) ∧ ((!soundB y.fst (unitR y.fst x.fst) || !Decidable.decide ((unitR y.fst x.fst).t = x.fst.t)) = Bool.false → (!soundB y.fst (unitR y.fst x.fst) || !Decidable.decide ((unitR y.fst x.fst).t = x.fst.t)) = Bool.false) ∧ ((!soundB y.fst (unitR y.fst x.fst) || !Decidable.decide ((unitR y.fst x.fst).t = x.fst.t) || !Decidable.decide ((unitR y.fst x.fst).p = x.fst.p)) = Bool.true → ∃ (y : Unit), True ∧ Bool.false = Bool.true) ∧ ((!soundB y.fst (unitR y.fst x.fst) || !Decidable.decide ((unitR y.fst x.fst).t = x.fst.t) || !Decidable.decide ((unitR y.fst x.fst).p = x.fst.p)) = Bool.false → i64R (x.snd.fst + (1 : Int)) ∧ ∃ (x' : Run × Int × Int), (SndP y.fst x'.fst ∧ (0 : Int) ≤ x'.snd.fst ∧ x'.snd.fst ≤ (20 : Int) ∧ DOK (L, x'.snd.snd)) ∧ ((20 : Int) - x'.snd.fst).toNat < ((20 : Int) - x.snd.fst).toNat ∧ x.snd.fst + (1 : Int) = x'.snd.fst ∧ L = L ∧ y_3.snd = x'.snd.snd ∧ y.fst = y.fst ∧ (unitR y.fst x.fst).t = x'.fst.t ∧ (unitR y.fst x.fst).p = x'.fst.p ∧ (unitR y.fst x.fst).a = x'.fst.a ∧ (unitR y.fst x.fst).l = x'.fst.l ∧ (unitR y.fst x.fst).s = x'.fst.s ∧ (unitR y.fst x.fst).u = x'.fst.u))) ∧ (Decidable.decide (y_3.fst = (0 : Int)) = Bool.false → (Decidable.decide (y_3.fst = (1 : Int)) = Bool.true → (DOK (L, y_3.snd) ∧ (5 : Int) ≤ (4611686018427387904 : Int)) ∧ (∀ (y : Int × Int), Bool.true = Bool.true) ∧ ∀ (y_4 : Int × Int), ((1 : Int) ≤ (5 : Int) → (0 : Int) ≤ y_4.fst ∧ y_4.fst < (5 : Int)) ∧ ((5 : Int) < (1 : Int) → y_4.fst = (0 : Int)) ∧ y_3.snd ≤ y_4.snd ∧ y_4.snd ≤ (↑L.length : Int) → (DOK (L, y_4.snd) ∧ (1 : Nat) ≤ ((0 : Int) :: (0 : Int) :: (4 : Int) :: NilL Int).length ∧ ((0 : Int) :: (0 : Int) :: (4 : Int) :: NilL Int).length ≤ (1000 : Nat)) ∧ (∀ (y : Int × Int), Bool.true = Bool.true) ∧ ∀ (y_5 : Int × Int), y_5.fst ∈ (0 : Int) :: (0 : Int) :: (4 : Int) :: NilL Int ∧ y_4.snd ≤ y_5.snd ∧ y_5.snd ≤ (↑L.length : Int) → True ∧ ((!Decidable.decide (waitE y.fst x.fst y_4.fst y_5.fst = (0 : Int))) = Bool.true → i64R (x.snd.fst + (1 : Int)) ∧ ∃ (x' : Run × Int × Int), (SndP y.fst x'.fst ∧ (0 : Int) ≤ x'.snd.fst ∧ x'.snd.fst ≤ (20 : Int) ∧ DOK (L, x'.snd.snd)) ∧ ((20 : Int) - x'.snd.fst).toNat < ((20 : Int) - x.snd.fst).toNat ∧ x.snd.fst + (1 : Int) = x'.snd.fst ∧ L = L ∧ y_5.snd = x'.snd.snd ∧ y.fst = y.fst ∧ x.fst.t = x'.fst.t ∧ x.fst.p = x'.fst.p ∧ x.fst.a = x'.fst.a ∧ x.fst.l = x'.fst.l ∧ x.fst.s = x'.fst.s ∧ x.fst.u = x'.fst.u) ∧ ((!Decidable.decide (waitE y.fst x.fst y_4.fst y_5.fst = (0 : Int))) = Bool.false → True ∧ ((!soundB y.fst (waitR y.fst x.fst y_4.fst y_5.fst)) = Bool.false → (!soundB y.fst (waitR y.fst x.fst y_4.fst y_5.fst)) = Bool.false) ∧ ((!soundB y.fst (waitR y.fst x.fst y_4.fst y_5.fst)) = Bool.false → (!soundB y.fst (waitR y.fst x.fst y_4.fst y_5.fst)) = Bool.false) ∧ ((!soundB y.fst (waitR y.fst x.fst y_4.fst y_5.fst)) = Bool.false → (!soundB y.fst (waitR y.fst x.fst y_4.fst y_5.fst)) = Bool.false) ∧ ((!soundB y.fst (waitR y.fst x.fst y_4.fst y_5.fst)) = Bool.false → (!soundB y.fst (waitR y.fst x.fst y_4.fst y_5.fst)) = Bool.false) ∧ ((!soundB y.fst (waitR y.fst x.fst y_4.fst y_5.fst)) = Bool.false → (!soundB y.fst (waitR y.fst x.fst y_4.fst y_5.fst)) = Bool.false) ∧ ((!soundB y.fst (waitR y.fst x.fst y_4.fst y_5.fst) || !Decidable.decide ((waitR y.fst x.fst y_4.fst y_5.fst).t = x.fst.t)) = Bool.false → (!soundB y.fst (waitR y.fst x.fst y_4.fst y_5.fst) || !Decidable.decide ((waitR y.fst x.fst y_4.fst y_5.fst).t = x.fst.t)) = Bool.false) ∧ ((!soundB y.fst (waitR y.fst x.fst y_4.fst y_5.fst) || !Decidable.decide ((waitR y.fst x.fst y_4.fst y_5.fst).t = x.fst.t)) = Bool.false → (!soundB y.fst (waitR y.fst x.fst y_4.fst y_5.fst) || !Decidable.decide ((waitR y.fst x.fst y_4.fst y_5.fst).t = x.fst.t)) = Bool.false) ∧ ((!soundB y.fst (waitR y.fst x.fst y_4.fst y_5.fst) || !Decidable.decide ((waitR y.fst x.fst y_4.fst y_5.fst).t = x.fst.t)) = Bool.false → (!soundB y.fst (waitR y.fst x.fst y_4.fst y_5.fst) || !Decidable.decide ((waitR y.fst x.fst y_4.fst y_5.fst).t = x.fst.t)) = Bool.false) ∧ ((!soundB y.fst (waitR y.fst x.fst y_4.fst y_5.fst) || !Decidable.decide ((waitR y.fst x.fst y_4.fst y_5.fst).t = x.fst.t)) = Bool.false → (!soundB y.fst (waitR y.fst x.fst y_4.fst y_5.fst) || !Decidable.decide ((waitR y.fst x.fst y_4.fst y_5.fst).t = x.fst.t)) = Bool.false) ∧ ((!soundB y.fst (waitR y.fst x.fst y_4.fst y_5.fst) || !Decidable.decide ((waitR y.fst x.fst y_4.fst y_5.fst).t = x.fst.t)) = Bool.false → (!soundB y.fst (waitR y.fst x.fst y_4.fst y_5.fst) || !Decidable.decide ((waitR y.fst x.fst y_4.fst y_5.fst).t = x.fst.t)) = Bool.false) ∧ ((!soundB y.fst (waitR y.fst x.fst y_4.fst y_5.fst) || !Decidable.decide ((waitR y.fst x.fst y_4.fst y_5.fst).t = x.fst.t) || !Decidable.decide ((waitR y.fst x.fst y_4.fst y_5.fst).p = x.fst.p)) = Bool.true → ∃ (y : Unit), True ∧ Bool.false = Bool.true) ∧ ((!soundB y.fst (waitR y.fst x.fst y_4.fst y_5.fst) || !Decidable.decide ((waitR y.fst x.fst y_4.fst y_5.fst).t = x.fst.t) || !Decidable.decide ((waitR y.fst x.fst y_4.fst y_5.fst).p = x.fst.p)) = Bool.false → i64R (x.snd.fst + (1 : Int)) ∧ ∃ (x' : Run × Int × Int), (SndP y.fst x'.fst ∧ (0 : Int) ≤ x'.snd.fst ∧ x'.snd.fst ≤ (20 : Int) ∧ DOK (L, x'.snd.snd)) ∧ ((20 : Int) - x'.snd.fst).toNat < ((20 : Int) - x.snd.fst).toNat ∧ x.snd.fst + (1 : Int) = x'.snd.fst ∧ L = L ∧ y_5.snd = x'.snd.snd ∧ y.fst = y.fst ∧ (waitR y.fst x.fst y_4.fst y_5.fst).t = x'.fst.t ∧ (waitR y.fst x.fst y_4.fst y_5.fst).p = x'.fst.p ∧ (waitR y.fst x.fst y_4.fst y_5.fst).a = x'.fst.a ∧ (waitR y.fst x.fst y_4.fst y_5.fst).l = x'.fst.l ∧ (waitR y.fst x.fst y_4.fst y_5.fst).s = x'.fst.s ∧ (waitR y.fst x.fst y_4.fst y_5.fst).u = x'.fst.u))) ∧ (Decidable.decide (y_3.fst = (1 : Int)) = Bool.false → (Decidable.decide (y_3.fst = (2 : Int)) = Bool.true → (DOK (L, y_3.snd) ∧ (6 : Int) ≤ (4611686018427387904 : Int)) ∧ (∀ (y : Int × Int), Bool.true = Bool.true) ∧ ∀ (y_4 : Int × Int), ((1 : Int) ≤ (6 : Int) → (0 : Int) ≤ y_4.fst ∧ y_4.fst < (6 : Int)) ∧ ((6 : Int) < (1 : Int) → y_4.fst = (0 : Int)) ∧ y_3.snd ≤ y_4.snd ∧ y_4.snd ≤ (↑L.length : Int) → True ∧ (Bool.false = Bool.true → i64R (x.snd.fst + (1 : Int)) ∧ ∃ (x' : Run × Int × Int), (SndP y.fst x'.fst ∧ (0 : Int) ≤ x'.snd.fst ∧ x'.snd.fst ≤ (20 : Int) ∧ DOK (L, x'.snd.snd)) ∧ ((20 : Int) - x'.snd.fst).toNat < ((20 : Int) - x.snd.fst).toNat ∧ x.snd.fst + (1 : Int) = x'.snd.fst ∧ L = L ∧ y_4.snd = x'.snd.snd ∧ y.fst = y.fst ∧ x.fst.t = x'.fst.t ∧ x.fst.p = x'.fst.p ∧ x.fst.a = x'.fst.a ∧ x.fst.l = x'.fst.l ∧ x.fst.s = x'.fst.s ∧ x.fst.u = x'.fst.u) ∧ (Bool.false = Bool.false → True ∧ ((!soundB y.fst (wakeR y.fst x.fst y_4.fst)) = Bool.false → (!soundB y.fst (wakeR y.fst x.fst y_4.fst)) = Bool.false) ∧ ((!soundB y.fst (wakeR y.fst x.fst y_4.fst)) = Bool.false → (!soundB y.fst (wakeR y.fst x.fst y_4.fst)) = Bool.false) ∧ ((!soundB y.fst (wakeR y.fst x.fst y_4.fst)) = Bool.false → (!soundB y.fst (wakeR y.fst x.fst y_4.fst)) = Bool.false) ∧ ((!soundB y.fst (wakeR y.fst x.fst y_4.fst)) = Bool.false → (!soundB y.fst (wakeR y.fst x.fst y_4.fst)) = Bool.false) ∧ ((!soundB y.fst (wakeR y.fst x.fst y_4.fst)) = Bool.false → (!soundB y.fst (wakeR y.fst x.fst y_4.fst)) = Bool.false) ∧ ((!soundB y.fst (wakeR y.fst x.fst y_4.fst) || !Decidable.decide ((wakeR y.fst x.fst y_4.fst).t = x.fst.t)) = Bool.false → (!soundB y.fst (wakeR y.fst x.fst y_4.fst) || !Decidable.decide ((wakeR y.fst x.fst y_4.fst).t = x.fst.t)) = Bool.false) ∧ ((!soundB y.fst (wakeR y.fst x.fst y_4.fst) || !Decidable.decide ((wakeR y.fst x.fst y_4.fst).t = x.fst.t)) = Bool.false → (!soundB y.fst (wakeR y.fst x.fst y_4.fst) || !Decidable.decide ((wakeR y.fst x.fst y_4.fst).t = x.fst.t)) = Bool.false) ∧ ((!soundB y.fst (wakeR y.fst x.fst y_4.fst) || !Decidable.decide ((wakeR y.fst x.fst y_4.fst).t = x.fst.t)) = Bool.false → (!soundB y.fst (wakeR y.fst x.fst y_4.fst) || !Decidable.decide ((wakeR y.fst x.fst y_4.fst).t = x.fst.t)) = Bool.false) ∧ ((!soundB y.fst (wakeR y.fst x.fst y_4.fst) || !Decidable.decide ((wakeR y.fst x.fst y_4.fst).t = x.fst.t)) = Bool.false → (!soundB y.fst (wakeR y.fst x.fst y_4.fst) || !Decidable.decide ((wakeR y.fst x.fst y_4.fst).t = x.fst.t)) = Bool.false) ∧ ((!soundB y.fst (wakeR y.fst x.fst y_4.fst) || !Decidable.decide ((wakeR y.fst x.fst y_4.fst).t = x.fst.t)) = Bool.false → (!soundB y.fst (wakeR y.fst x.fst y_4.fst) || !Decidable.decide ((wakeR y.fst x.fst y_4.fst).t = x.fst.t)) = Bool.false) ∧ ((!soundB y.fst (wakeR y.fst x.fst y_4.fst) || !Decidable.decide ((wakeR y.fst x.fst y_4.fst).t = x.fst.t) || !Decidable.decide ((wakeR y.fst x.fst y_4.fst).p = x.fst.p)) = Bool.true → ∃ (y : Unit), True ∧ Bool.false = Bool.true) ∧ ((!soundB y.fst (wakeR y.fst x.fst y_4.fst) || !Decidable.decide ((wakeR y.fst x.fst y_4.fst).t = x.fst.t) || !Decidable.decide ((wakeR y.fst x.fst y_4.fst).p = x.fst.p)) = Bool.false → i64R (x.snd.fst + (1 : Int)) ∧ ∃ (x' : Run × Int × Int), (SndP y.fst x'.fst ∧ (0 : Int) ≤ x'.snd.fst ∧ x'.snd.fst ≤ (20 : Int) ∧ DOK (L, x'.snd.snd)) ∧ ((20 : Int) - x'.snd.fst).toNat < ((20 : Int) - x.snd.fst).toNat ∧ x.snd.fst + (1 : Int) = x'.snd.fst ∧ L = L ∧ y_4.snd = x'.snd.snd ∧ y.fst = y.fst ∧ (wakeR y.fst x.fst y_4.fst).t = x'.fst.t ∧ (wakeR y.fst x.fst y_4.fst).p = x'.fst.p ∧ (wakeR y.fst x.fst y_4.fst).a = x'.fst.a ∧ (wakeR y.fst x.fst y_4.fst).l = x'.fst.l ∧ (wakeR y.fst x.fst y_4.fst).s = x'.fst.s ∧ (wakeR y.fst x.fst y_4.fst).u = x'.fst.u))) ∧ (Decidable.decide (y_3.fst = (2 : Int)) = Bool.false → ((!Decidable.decide (chkE y.fst x.fst = (0 : Int))) = Bool.true → i64R (x.snd.fst + (1 : Int)) ∧ ∃ (x' : Run × Int × Int), (SndP y.fst x'.fst ∧ (0 : Int) ≤ x'.snd.fst ∧ x'.snd.fst ≤ (20 : Int) ∧ DOK (L, x'.snd.snd)) ∧ ((20 : Int) - x'.snd.fst).toNat < ((20 : Int) - x.snd.fst).toNat ∧ x.snd.fst + (1 : Int) = x'.snd.fst ∧ L = L ∧ y_3.snd = x'.snd.snd ∧ y.fst = y.fst ∧ x.fst.t = x'.fst.t ∧ x.fst.p = x'.fst.p ∧ x.fst.a = x'.fst.a ∧ x.fst.l = x'.fst.l ∧ x.fst.s = x'.fst.s ∧ x.fst.u = x'.fst.u) ∧ ((!Decidable.decide (chkE y.fst x.fst = (0 : Int))) = Bool.false → True ∧ ((!soundB y.fst (nextR y.fst x.fst)) = Bool.false → (!soundB y.fst (nextR y.fst x.fst)) = Bool.false) ∧ ((!soundB y.fst (nextR y.fst x.fst)) = Bool.false → (!soundB y.fst (nextR y.fst x.fst)) = Bool.false) ∧ ((!soundB y.fst (nextR y.fst x.fst)) = Bool.false → (!soundB y.fst (nextR y.fst x.fst)) = Bool.false) ∧ ((!soundB y.fst (nextR y.fst x.fst)) = Bool.false → (!soundB y.fst (nextR y.fst x.fst)) = Bool.false) ∧ ((!soundB y.fst (nextR y.fst x.fst)) = Bool.false → (!soundB y.fst (nextR y.fst x.fst)) = Bool.false) ∧ ((!soundB y.fst (nextR y.fst x.fst) || !Decidable.decide ((nextR y.fst x.fst).t = x.fst.t)) = Bool.false → (!soundB y.fst (nextR y.fst x.fst) || !Decidable.decide ((nextR y.fst x.fst).t = x.fst.t)) = Bool.false) ∧ ((!soundB y.fst (nextR y.fst x.fst) || !Decidable.decide ((nextR y.fst x.fst).t = x.fst.t)) = Bool.false → (!soundB y.fst (nextR y.fst x.fst) || !Decidable.decide ((nextR y.fst x.fst).t = x.fst.t)) = Bool.false) ∧ ((!soundB y.fst (nextR y.fst x.fst) || !Decidable.decide ((nextR y.fst x.fst).t = x.fst.t)) = Bool.false → (!soundB y.fst (nextR y.fst x.fst) || !Decidable.decide ((nextR y.fst x.fst).t = x.fst.t)) = Bool.false) ∧ ((!soundB y.fst (nextR y.fst x.fst) || !Decidable.decide ((nextR y.fst x.fst).t = x.fst.t)) = Bool.false → (!soundB y.fst (nextR y.fst x.fst) || !Decidable.decide ((nextR y.fst x.fst).t = x.fst.t)) = Bool.false) ∧ ((!soundB y.fst (nextR y.fst x.fst) || !Decidable.decide ((nextR y.fst x.fst).t = x.fst.t)) = Bool.false → (!soundB y.fst (nextR y.fst x.fst) || !Decidable.decide ((nextR y.fst x.fst).t = x.fst.t)) = Bool.false) ∧ ((!soundB y.fst (nextR y.fst x.fst) || !Decidable.decide ((nextR y.fst x.fst).t = x.fst.t) || !Decidable.decide ((nextR y.fst x.fst).p = x.fst.p)) = Bool.true → ∃ (y : Unit), True ∧ Bool.false = Bool.true) ∧ ((!soundB y.fst (nextR y.fst x.fst) || !Decidable.decide ((nextR y.fst x.fst).t = x.fst.t) || !Decidable.decide ((nextR y.fst x.fst).p = x.fst.p)) = Bool.false → i64R (x.snd.fst + (1 : Int)) ∧ ∃ (x' : Run × Int × Int), (SndP y.fst x'.fst ∧ (0 : Int) ≤ x'.snd.fst ∧ x'.snd.fst ≤ (20 : Int) ∧ DOK (L, x'.snd.snd)) ∧ ((20 : Int) - x'.snd.fst).toNat < ((20 : Int) - x.snd.fst).toNat ∧ x.snd.fst + (1 : Int) = x'.snd.fst ∧ L = L ∧ y_3.snd = x'.snd.snd ∧ y.fst = y.fst ∧ (nextR y.fst x.fst).t = x'.fst.t ∧ (nextR y.fst x.fst).p = x'.fst.p ∧ (nextR y.fst x.fst).a = x'.fst.a ∧ (nextR y.fst x.fst).l = x'.fst.l ∧ (nextR y.fst x.fst).s = x'.fst.s ∧ (nextR y.fst x.fst).u = x'.fst.u)))))) ∧ (Decidable.decide (x.snd.fst < (20 : Int)) = Bool.false → True ∧ ∃ (y : Unit), True ∧ Bool.true = Bool.true)))) = sLaw.vc (EV Try.prog [(13, sLight.spec), (12, sSane.spec), (8, sRoll.spec), (14, sProgs.spec), (9, sNext.spec), (11, sStart.spec), (17, sWait.spec), (19, sWake.spec), (15, sNextR.spec), (16, sUnit.spec), (18, sPick.spec), (20, sSound.spec)] (invsS [(9, inv4 L)]) noInv) Try.f4 (L, ()) := by kernel_rfl
  rw [← e]
  clear e
  simp only [Prod.forall, Prod.exists, exists_const, implies_true, not_true_eq_false, not_false_eq_true, or_self, or_false, false_or, or_true, true_or, and_false, false_and, forall_const, true_and, and_true, i64R, imp_self, Int.reduceLE, Int.reduceLT, Int.reduceNeg, false_implies, true_implies, decide_eq_true_eq, decide_eq_false_iff_not, Bool.not_eq_true', Bool.not_eq_false', Bool.true_eq_false, Bool.false_eq_true, Bool.and_eq_true, Bool.or_eq_true, NilL_eq, Bool.and_eq_false_iff, Bool.or_eq_false_iff ]
  intro hl
  have hd : ∀ j : Int, 0 ≤ j → j ≤ L.length → DOK (L, j) := fun j h1 h2 => ⟨h1, h2, by show L.length ≤ 600; omega⟩
  refine ⟨hd 0 (by omega) (by omega), fun P b hP => ⟨hd _ (by omega) (by omega), fun a1 b1 h1 => ⟨by omega, ⟨hd _ (by omega) (by omega), by have := hP.1.1; omega⟩, fun a2 b2 h2 => ?_⟩⟩⟩
  have ht : 1 ≤ 1 + a1 ∧ 1 + a1 ≤ 2147483647 := by omega
  have hk : 0 ≤ a2 ∧ a2 < P.length := h2.1 (by omega)
  have e := start_ok hP.1 ht hk
  have hs := start_snd hP.1 ht hk
  refine ⟨fun h => h e, fun _ => ⟨⟨startR P (1 + a1) a2, 0, b2, ⟨hs, by omega, by omega, hd _ (by omega) (by omega)⟩, rfl, rfl, rfl, rfl, rfl, rfl, rfl, rfl⟩, fun r i k hr hi => ⟨hr.2.2.2, fun q k2 hq => ?_⟩⟩⟩
  obtain ⟨hr, i0, i1, hk0⟩ := hr
  have k0 : 0 ≤ k := hk0.lo
  have fin : ∀ (r' : Run) (k : Int), SndP P r' → 0 ≤ k → k ≤ L.length → (-9223372036854775808 ≤ i + 1 ∧ i + 1 ≤ 9223372036854775807) ∧ ∃ (x : Run) (y z : Int), (SndP P x ∧ 0 ≤ y ∧ y ≤ 20 ∧ DOK (L, z)) ∧ (20 - y).toNat < (20 - i).toNat ∧ i + 1 = y ∧ k = z ∧ r'.t = x.t ∧ r'.p = x.p ∧ r'.a = x.a ∧ r'.l = x.l ∧ r'.s = x.s ∧ r'.u = x.u := fun r' k h1 h2 h3 =>
    ⟨by omega, r', i + 1, k, ⟨h1, by omega, by omega, hd _ h2 h3⟩, by omega, rfl, rfl, rfl, rfl, rfl, rfl, rfl, rfl⟩
  have bad : ∀ (r' : Run), SndP P r' ∧ r'.t = r.t ∧ r'.p = r.p → (soundB P r' = false ∨ ¬ r'.t = r.t) ∨ ¬ r'.p = r.p → False := fun r' h hb => by
    rcases hb with (hb | hb) | hb
    · rw [soundB_iff.2 ⟨hP.1, h.1⟩] at hb; cases hb
    · exact hb h.2.1
    · exact hb h.2.2
  refine ⟨fun _ => ⟨fun _ => fin r k2 hr (by omega) (by omega), fun h => ⟨bad _ (unit_snd h), fun _ => fin _ k2 (unit_snd h).1 (by omega) (by omega)⟩⟩, fun _ => ⟨fun _ => ⟨hd _ (by omega) (by omega), fun x y hxy => ⟨⟨hd _ (by omega) (by omega), by simp, by simp⟩, fun u v huv => ⟨fun _ => fin r v hr (by omega) (by omega), fun h => ⟨bad _ (wait_snd h), fun _ => fin _ v (wait_snd h).1 (by omega) (by omega)⟩⟩⟩⟩, fun _ => ⟨fun _ => ⟨hd _ (by omega) (by omega), fun x y hxy => ⟨bad _ (wake_snd ⟨hP.1, hr⟩), fun _ => fin _ y (wake_snd ⟨hP.1, hr⟩).1 (by omega) (by omega)⟩⟩, fun _ => ⟨fun _ => fin r k2 hr (by omega) (by omega), fun h => ⟨bad _ (next_snd h), fun _ => fin _ k2 (next_snd h).1 (by omega) (by omega)⟩⟩⟩⟩⟩
end Go.Proofs.Ytgaeomkjpcpogaa
