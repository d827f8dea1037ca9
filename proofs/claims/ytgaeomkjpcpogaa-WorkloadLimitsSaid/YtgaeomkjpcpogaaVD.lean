/-
  Lemmas and contracts on the way to the laws of this seat; each theorem states its own conditions, and there are no others.
-/
import Derived.Test.YtgaeomkjpcpogaaVC

namespace Go.Proofs.Ytgaeomkjpcpogaa
open Go
set_option linter.unusedVariables false
set_option linter.unusedSimpArgs false
set_option linter.unusedVariables false

noncomputable def sNextR : DS := ⟨_, two pkProgs pkRun, fun _ => True, fun x => .tup [runV (nextR x.1 x.2.1), .int .i64 (chkE x.1 x.2.1)], nou⟩
noncomputable def sUnit : DS := ⟨_, two pkProgs pkRun, fun _ => True, fun x => .tup [runV (unitR x.1 x.2.1), .int .i64 (unitE x.1 x.2.1)], nou⟩
noncomputable def sWait : DS := ⟨_, four pkProgs pkRun pkI pkI, fun _ => True, fun x => .tup [runV (waitR x.1 x.2.1 x.2.2.1 x.2.2.2.1), .int .i64 (waitE x.1 x.2.1 x.2.2.1 x.2.2.2.1)], nou⟩
noncomputable def sWake : DS := ⟨_, three pkProgs pkRun pkI, fun _ => True, fun x => .tup [runV (wakeR x.1 x.2.1 x.2.2.1), .bool (wakeB x.1 x.2.1 x.2.2.1)], nou⟩
noncomputable def sCur : DS := ⟨_, two pkProgs pkRun, fun _ => True, fun x => .tup [stpV (curS x.1 x.2.1), .bool (curB x.1 x.2.1)], nou⟩
noncomputable def sEager : DS := ⟨_, two pkProgs pkRun, fun _ => True, fun x => .bool (eagerB x.1 x.2.1), nou⟩
theorem left_ok {p : List (List Stp)} {r : Run} (h : ValidP p ∧ SndP p r) (h4 : r.s ≠ 4) (hk : (cur p r).k = 1) : 1 ≤ r.l ∧ r.l ≤ 1048576 := by
  have hg := go_at h h4
  obtain ⟨hv, h1, h2, h3, h5, h6⟩ := h
  have ho : okStp p.length (cur p r) := (hv.2 r.p.toNat (by omega)).2.2 r.a.toNat (by have := hg.2.2.2.1; have := hg.2.2.1; unfold runP at *; omega)
  have ho2 := ho.2
  rw [hk] at ho2
  have ho3 : okTicks (cur p r) = true := ho2
  simp [okTicks, inb] at ho3
  rcases h6 with h6 | h6
  · exact absurd h6.1 h4
  · rcases h6.2.2.2.2.2.2.2 with h7 | h7
    · omega
    · exact absurd hk h7.1


set_option maxRecDepth 100000 in
theorem vc15 (p : List (List Stp)) (r : Run) (hx : True) : sNextR.vc (EV Try.prog [(29, sChk.spec), (30, sNxt.spec)] noInv noInv) Try.f15 (p, r, ()) := by
  have e : (True ∧ ((!decide (chkE p r = 0)) = true → ∃ (y : Unit), True ∧ 0 = (nextR p r).t ∧ 0 = (nextR p r).p ∧ 0 = (nextR p r).a ∧ 0 = (nextR p r).l ∧ 0 = (nextR p r).s ∧ 0 = (nextR p r).u ∧ chkE p r = chkE p r) ∧ ((!decide (chkE p r = 0)) = false → (0 ≤ r.p ∧ r.p < (↑p.length : Int) ∧ 0 ≤ r.a ∧ r.a < (↑(runP p r).length : Int) ∧ (runP p r).length ≤ (64 : Nat)) ∧ ∃ (y : Unit), True ∧ r.t = (nextR p r).t ∧ r.p = (nextR p r).p ∧ (if (st (runP p r) r.a.toNat).k = 11 then 0 else r.a + 1) = (nextR p r).a ∧ (if (if (st (runP p r) r.a.toNat).k = 11 then 0 else r.a + 1) = (↑(runP p r).length : Int) then 0 else if (st (runP p r) (if (st (runP p r) r.a.toNat).k = 11 then 0 else r.a + 1).toNat).k = 1 then (st (runP p r) (if (st (runP p r) r.a.toNat).k = 11 then 0 else r.a + 1).toNat).n else 0) = (nextR p r).l ∧ (if (if (st (runP p r) r.a.toNat).k = 11 then 0 else r.a + 1) = (↑(runP p r).length : Int) then 4 else 0) = (nextR p r).s ∧ 0 = (nextR p r).u ∧ 0 = chkE p r)) = sNextR.vc (EV Try.prog [(29, sChk.spec), (30, sNxt.spec)] noInv noInv) Try.f15 (p, r, ()) := by kernel_rfl
  rw [← e]
  clear e
  simp only [Prod.forall, Prod.exists, exists_const, implies_true, not_true_eq_false, not_false_eq_true, or_self, or_false, false_or, or_true, true_or, and_false, false_and, forall_const, true_and, and_true, i64R, imp_self, Int.reduceLE, Int.reduceLT, Int.reduceNeg, false_implies, true_implies, decide_eq_true_eq, decide_eq_false_iff_not, Bool.not_eq_true', Bool.not_eq_false', Bool.true_eq_false, Bool.false_eq_true, Bool.and_eq_true, Bool.or_eq_true, NilL_eq, Bool.and_eq_false_iff, Bool.or_eq_false_iff ]
  have key : chkE p r = 0 → _ := fun h => go_at (chk0.1 h).1 (chk0.1 h).2
  by_cases h : chkE p r = 0
  · have e : nextR p r = nxtR p r := by simp [nextR, h]
    have := key h
    refine ⟨fun h2 => absurd h h2, fun _ => ⟨this, ?_⟩⟩
    rw [e]
    (repeat' apply And.intro) <;> first | rfl | exact h.symm
  · have e : nextR p r = zR := by simp [nextR, h]
    simp [e, h, zR]


set_option maxRecDepth 100000 in
theorem vc16 (p : List (List Stp)) (r : Run) (hx : True) : sUnit.vc (EV Try.prog [(29, sChk.spec), (30, sNxt.spec)] noInv noInv) Try.f16 (p, r, ()) := by
  have e : (True ∧ ((!decide (chkE p r = 0)) = true → ∃ (y : Unit), True ∧ 0 = (unitR p r).t ∧ 0 = (unitR p r).p ∧ 0 = (unitR p r).a ∧ 0 = (unitR p r).l ∧ 0 = (unitR p r).s ∧ 0 = (unitR p r).u ∧ chkE p r = unitE p r) ∧ ((!decide (chkE p r = 0)) = false → ((!decide (r.s = 0)) = false → (!decide (r.s = 0)) = false) ∧ ((!decide (r.s = 0)) = false → (!decide (r.s = 0)) = false) ∧ ((!decide (r.s = 0)) = false → (!decide (r.s = 0)) = false) ∧ ((!decide (r.s = 0)) = false → 0 ≤ r.p ∧ r.p < (↑p.length : Int)) ∧ ((!decide (r.s = 0)) = false → (!decide (r.s = 0)) = false) ∧ ((!decide (r.s = 0)) = false → (!decide (r.s = 0)) = false) ∧ ((!decide (r.s = 0)) = false → (!decide (r.s = 0)) = false) ∧ ((!decide (r.s = 0)) = false → (!decide (r.s = 0)) = false) ∧ ((!decide (r.s = 0)) = false → (!decide (r.s = 0)) = false) ∧ ((!decide (r.s = 0)) = false → 0 ≤ r.a ∧ r.a < (↑(p.getD r.p.toNat (NilL Stp)).length : Int)) ∧ ((!decide (r.s = 0)) = false → (!decide (r.s = 0)) = false) ∧ ((!decide (r.s = 0)) = false → (!decide (r.s = 0)) = false) ∧ ((!decide (r.s = 0)) = false → (!decide (r.s = 0)) = false) ∧ ((!decide (r.s = 0)) = false → (!decide (r.s = 0)) = false) ∧ ((!decide (r.s = 0) || !decide (((p.getD r.p.toNat (NilL Stp)).getD r.a.toNat { k := 0, n := 0, a := 0, t := 0 : Stp }).k = 1)) = true → ∃ (y : Unit), True ∧ 0 = (unitR p r).t ∧ 0 = (unitR p r).p ∧ 0 = (unitR p r).a ∧ 0 = (unitR p r).l ∧ 0 = (unitR p r).s ∧ 0 = (unitR p r).u ∧ 9 = unitE p r) ∧ ((!decide (r.s = 0) || !decide (((p.getD r.p.toNat (NilL Stp)).getD r.a.toNat { k := 0, n := 0, a := 0, t := 0 : Stp }).k = 1)) = false → i64R (r.l - 1) ∧ (decide (r.l - (1 : Int) = 0) = true → (0 ≤ r.p ∧ r.p < (↑p.length : Int) ∧ 0 ≤ r.a ∧ r.a < (↑(runP p { t := r.t, p := r.p, a := r.a, l := r.l - 1, s := r.s, u := r.u : Run }).length : Int) ∧ (runP p { t := r.t, p := r.p, a := r.a, l := r.l - 1, s := r.s, u := r.u : Run }).length ≤ (64 : Nat)) ∧ ∃ (y : Unit), True ∧ r.t = (unitR p r).t ∧ r.p = (unitR p r).p ∧ (if (st (runP p { t := r.t, p := r.p, a := r.a, l := r.l - 1, s := r.s, u := r.u : Run }) r.a.toNat).k = 11 then 0 else r.a + 1) = (unitR p r).a ∧ (if (if (st (runP p { t := r.t, p := r.p, a := r.a, l := r.l - 1, s := r.s, u := r.u : Run }) r.a.toNat).k = 11 then 0 else r.a + 1) = (↑(runP p { t := r.t, p := r.p, a := r.a, l := r.l - 1, s := r.s, u := r.u : Run }).length : Int) then 0 else if (st (runP p { t := r.t, p := r.p, a := r.a, l := r.l - 1, s := r.s, u := r.u : Run }) (if (st (runP p { t := r.t, p := r.p, a := r.a, l := r.l - 1, s := r.s, u := r.u : Run }) r.a.toNat).k = 11 then 0 else r.a + 1).toNat).k = 1 then (st (runP p { t := r.t, p := r.p, a := r.a, l := r.l - 1, s := r.s, u := r.u : Run }) (if (st (runP p { t := r.t, p := r.p, a := r.a, l := r.l - 1, s := r.s, u := r.u : Run }) r.a.toNat).k = 11 then 0 else r.a + 1).toNat).n else 0) = (unitR p r).l ∧ (if (if (st (runP p { t := r.t, p := r.p, a := r.a, l := r.l - 1, s := r.s, u := r.u : Run }) r.a.toNat).k = 11 then 0 else r.a + 1) = (↑(runP p { t := r.t, p := r.p, a := r.a, l := r.l - 1, s := r.s, u := r.u : Run }).length : Int) then 4 else 0) = (unitR p r).s ∧ 0 = (unitR p r).u ∧ 0 = unitE p r) ∧ (decide (r.l - (1 : Int) = 0) = false → ∃ (y : Unit), True ∧ r.t = (unitR p r).t ∧ r.p = (unitR p r).p ∧ r.a = (unitR p r).a ∧ r.l - 1 = (unitR p r).l ∧ r.s = (unitR p r).s ∧ r.u = (unitR p r).u ∧ 0 = unitE p r)))) = sUnit.vc (EV Try.prog [(29, sChk.spec), (30, sNxt.spec)] noInv noInv) Try.f16 (p, r, ()) := by kernel_rfl
  rw [← e]
  clear e
  have e1 : ∀ k, p.getD k (NilL Stp) = pr p k := fun _ => rfl
  have e2 : ∀ (l : List Stp) k, l.getD k ⟨0, 0, 0, 0⟩ = st l k := fun _ _ => rfl
  try simp only [e1, e2]
  clear e1 e2
  simp only [Prod.forall, Prod.exists, exists_const, implies_true, not_true_eq_false, not_false_eq_true, or_self, or_false, false_or, or_true, true_or, and_false, false_and, forall_const, true_and, and_true, i64R, imp_self, Int.reduceLE, Int.reduceLT, Int.reduceNeg, false_implies, true_implies, decide_eq_true_eq, decide_eq_false_iff_not, Bool.not_eq_true', Bool.not_eq_false', Bool.true_eq_false, Bool.false_eq_true, Bool.and_eq_true, Bool.or_eq_true, NilL_eq, Bool.and_eq_false_iff, Bool.or_eq_false_iff ]
  have key : chkE p r = 0 → _ := fun h => go_at (chk0.1 h).1 (chk0.1 h).2
  by_cases h : chkE p r = 0
  · have hk := key h
    have hk' : 0 ≤ r.a ∧ r.a < (pr p r.p.toNat).length := ⟨hk.2.2.1, hk.2.2.2.1⟩
    refine ⟨fun h2 => absurd h h2, fun _ => ⟨fun _ => by omega, fun _ => by omega, fun h2 => ?_, fun h2 => ?_⟩⟩
    · have h3 : ¬ (r.s = 0 ∧ (cur p r).k = 1) := by
        show ¬ (r.s = 0 ∧ (st (pr p r.p.toNat) r.a.toNat).k = 1)
        omega
      have e : unitE p r = 9 := by simp only [unitE, if_pos h, if_neg h3]
      have e2 : unitR p r = zR := by simp [unitR, e]
      rw [e, e2]
      (repeat' apply And.intro) <;> rfl
    · have h3 : r.s = 0 ∧ (cur p r).k = 1 := h2
      have e : unitE p r = 0 := by simp only [unitE, if_pos h, if_pos h3]
      have hl := left_ok (chk0.1 h).1 (chk0.1 h).2 h3.2
      refine ⟨by omega, fun h4 => ⟨hk, ?_⟩, fun h4 => ?_⟩
      · have e2 : unitR p r = nxtR p r := by simp [unitR, e, h4]
        rw [e, e2]
        (repeat' apply And.intro) <;> rfl
      · have e2 : unitR p r = ⟨r.t, r.p, r.a, r.l - 1, r.s, r.u⟩ := by simp [unitR, e, h4]
        rw [e, e2]
        (repeat' apply And.intro) <;> first | rfl | assumption
  · have e : unitE p r = chkE p r := by simp only [unitE, if_neg h]
    have e2 : unitR p r = zR := by simp only [unitR, e, if_neg h]
    refine ⟨fun _ => ?_, fun h2 => absurd h2 h⟩
    rw [e, e2]
    (repeat' apply And.intro) <;> rfl


set_option maxRecDepth 100000 in
theorem vc17 (p : List (List Stp)) (r : Run) (s u : Int) (hx : True) : sWait.vc (EV Try.prog [(29, sChk.spec), (26, sIn.spec)] noInv noInv) Try.f17 (p, r, s, u, ()) := by
  have e : (True ∧ ((!decide (chkE p r = 0)) = true → ∃ (y : Unit), True ∧ 0 = (waitR p r s u).t ∧ 0 = (waitR p r s u).p ∧ 0 = (waitR p r s u).a ∧ 0 = (waitR p r s u).l ∧ 0 = (waitR p r s u).s ∧ 0 = (waitR p r s u).u ∧ chkE p r = waitE p r s u) ∧ ((!decide (chkE p r = 0)) = false → True ∧ ((!inb s 1 3) = false → (!inb s 1 3) = false) ∧ ((!inb s 1 3) = false → True) ∧ ((!inb s 1 3) = false → (!inb s 1 3) = false) ∧ ((!inb s 1 3) = false → (!inb s 1 3) = false) ∧ ((!inb s 1 3 || !inb u 0 1048576) = false → (!inb s 1 3 || !inb u 0 1048576) = false) ∧ ((!inb s 1 3 || !inb u 0 1048576) = false → (!inb s 1 3 || !inb u 0 1048576) = false) ∧ ((!(!inb s 1 3 || !inb u 0 1048576) && !decide (u = 0)) = true → (!(!inb s 1 3 || !inb u 0 1048576) && !decide (u = 0)) = true) ∧ ((!inb s 1 3 || !inb u 0 1048576) = false → (!inb s 1 3 || !inb u 0 1048576) = false) ∧ ((!inb s 1 3 || !inb u 0 1048576) = false → (!decide (u = 0)) = true → (!(!inb s 1 3 || !inb u 0 1048576) && !decide (u = 0)) = true) ∧ ((!inb s 1 3 || !inb u 0 1048576) = false → (!inb s 1 3 || !inb u 0 1048576) = false) ∧ ((!inb s 1 3 || !inb u 0 1048576 || !decide (u = 0) && !decide (s = 1)) = true → ∃ (y : Unit), True ∧ 0 = (waitR p r s u).t ∧ 0 = (waitR p r s u).p ∧ 0 = (waitR p r s u).a ∧ 0 = (waitR p r s u).l ∧ 0 = (waitR p r s u).s ∧ 0 = (waitR p r s u).u ∧ 3 = waitE p r s u) ∧ ((!inb s 1 3 || !inb u 0 1048576 || !decide (u = 0) && !decide (s = 1)) = false → ∃ (y : Unit), True ∧ r.t = (waitR p r s u).t ∧ r.p = (waitR p r s u).p ∧ r.a = (waitR p r s u).a ∧ r.l = (waitR p r s u).l ∧ s = (waitR p r s u).s ∧ u = (waitR p r s u).u ∧ 0 = waitE p r s u))) = sWait.vc (EV Try.prog [(29, sChk.spec), (26, sIn.spec)] noInv noInv) Try.f17 (p, r, s, u, ()) := by kernel_rfl
  rw [← e]
  clear e
  simp only [Prod.forall, Prod.exists, exists_const, implies_true, not_true_eq_false, not_false_eq_true, or_self, or_false, false_or, or_true, true_or, and_false, false_and, forall_const, true_and, and_true, i64R, imp_self, Int.reduceLE, Int.reduceLT, Int.reduceNeg, false_implies, true_implies, decide_eq_true_eq, decide_eq_false_iff_not, Bool.not_eq_true', Bool.not_eq_false', Bool.true_eq_false, Bool.false_eq_true, Bool.and_eq_true, Bool.or_eq_true, NilL_eq, Bool.and_eq_false_iff, Bool.or_eq_false_iff ]
  simp only [inb, Bool.and_eq_true, decide_eq_true_eq, Bool.and_eq_false_iff, decide_eq_false_iff_not]
  by_cases h : chkE p r = 0
  · by_cases h2 : (1 ≤ s ∧ s ≤ 3) ∧ (0 ≤ u ∧ u ≤ 1048576) ∧ (u = 0 ∨ s = 1)
    · have e : waitE p r s u = 0 := by simp only [waitE, if_pos h, if_pos h2]
      have e2 : waitR p r s u = ⟨r.t, r.p, r.a, r.l, s, u⟩ := by simp only [waitR, if_pos e]
      rw [e, e2]
      (repeat' (first | refine And.intro ?_ ?_ | intro _)) <;> first | rfl | omega | assumption | (exfalso; omega)
    · have e : waitE p r s u = 3 := by simp only [waitE, if_pos h, if_neg h2]
      have e2 : waitR p r s u = zR := by simp [waitR, e]
      rw [e, e2]
      (repeat' (first | refine And.intro ?_ ?_ | intro _)) <;> first | rfl | omega | assumption | (exfalso; omega)
  · have e : waitE p r s u = chkE p r := by simp only [waitE, if_neg h]
    have e2 : waitR p r s u = zR := by simp only [waitR, e, if_neg h]
    rw [e, e2]
    (repeat' (first | refine And.intro ?_ ?_ | intro _)) <;> first | rfl | omega | assumption | (exfalso; omega)


set_option maxRecDepth 100000 in
theorem vc19 (p : List (List Stp)) (r : Run) (n : Int) (hx : True) : sWake.vc (EV Try.prog [(20, sSound.spec), (30, sNxt.spec)] noInv noInv) Try.f19 (p, r, n, ()) := by
  have e : (True ∧ ((!soundB p r) = false → (!soundB p r) = false) ∧ ((!soundB p r) = false → (!soundB p r) = false) ∧ ((!soundB p r) = false → (!soundB p r) = false) ∧ ((!soundB p r || !decide (r.s = 1)) = false → (!soundB p r || !decide (r.s = 1)) = false) ∧ ((!soundB p r || !decide (r.s = 1)) = false → (!soundB p r || !decide (r.s = 1)) = false) ∧ ((!soundB p r || !decide (r.s = 1)) = false → (!soundB p r || !decide (r.s = 1)) = false) ∧ ((!soundB p r || !decide (r.s = 1)) = false → (!soundB p r || !decide (r.s = 1)) = false) ∧ ((!soundB p r || !decide (r.s = 1) || decide (n < r.u)) = true → ∃ (y : Unit), True ∧ r.t = (wakeR p r n).t ∧ r.p = (wakeR p r n).p ∧ r.a = (wakeR p r n).a ∧ r.l = (wakeR p r n).l ∧ r.s = (wakeR p r n).s ∧ r.u = (wakeR p r n).u ∧ false = wakeB p r n) ∧ ((!soundB p r || !decide (r.s = 1) || decide (n < r.u)) = false → (0 ≤ r.p ∧ r.p < (↑p.length : Int) ∧ 0 ≤ r.a ∧ r.a < (↑(runP p r).length : Int) ∧ (runP p r).length ≤ (64 : Nat)) ∧ ∃ (y : Unit), True ∧ r.t = (wakeR p r n).t ∧ r.p = (wakeR p r n).p ∧ (if (st (runP p r) r.a.toNat).k = 11 then 0 else r.a + 1) = (wakeR p r n).a ∧ (if (if (st (runP p r) r.a.toNat).k = 11 then 0 else r.a + 1) = (↑(runP p r).length : Int) then 0 else if (st (runP p r) (if (st (runP p r) r.a.toNat).k = 11 then 0 else r.a + 1).toNat).k = 1 then (st (runP p r) (if (st (runP p r) r.a.toNat).k = 11 then 0 else r.a + 1).toNat).n else 0) = (wakeR p r n).l ∧ (if (if (st (runP p r) r.a.toNat).k = 11 then 0 else r.a + 1) = (↑(runP p r).length : Int) then 4 else 0) = (wakeR p r n).s ∧ 0 = (wakeR p r n).u ∧ true = wakeB p r n)) = sWake.vc (EV Try.prog [(20, sSound.spec), (30, sNxt.spec)] noInv noInv) Try.f19 (p, r, n, ()) := by kernel_rfl
  rw [← e]
  clear e
  simp only [Prod.forall, Prod.exists, exists_const, implies_true, not_true_eq_false, not_false_eq_true, or_self, or_false, false_or, or_true, true_or, and_false, false_and, forall_const, true_and, and_true, i64R, imp_self, Int.reduceLE, Int.reduceLT, Int.reduceNeg, false_implies, true_implies, decide_eq_true_eq, decide_eq_false_iff_not, Bool.not_eq_true', Bool.not_eq_false', Bool.true_eq_false, Bool.false_eq_true, Bool.and_eq_true, Bool.or_eq_true, NilL_eq, Bool.and_eq_false_iff, Bool.or_eq_false_iff ]
  refine ⟨fun h => ?_, fun h => ?_⟩
  · have e : wakeB p r n = false := by
      unfold wakeB
      rcases h with (h | h) | h
      · rw [h]; rfl
      · simp [h]
      · have : ¬ r.u ≤ n := by omega
        simp [this]
    have e2 : wakeR p r n = r := by simp [wakeR, e]
    rw [e, e2]
    (repeat' apply And.intro) <;> rfl
  · have e : wakeB p r n = true := by
      unfold wakeB
      have : r.u ≤ n := by omega
      simp [h.1.1, h.1.2, this]
    have e2 : wakeR p r n = nxtR p r := by simp [wakeR, e]
    have hg := go_at (soundB_iff.1 h.1.1) (by have := h.1.2; omega)
    rw [e, e2]
    refine ⟨hg, ?_⟩
    (repeat' apply And.intro) <;> rfl


set_option maxRecDepth 100000 in
theorem vc21 (p : List (List Stp)) (r : Run) (hx : True) : sEager.vc (EV Try.prog [(20, sSound.spec)] noInv noInv) Try.f21 (p, r, ()) := by
  have e : (True ∧ (soundB p r = true → soundB p r = true) ∧ (soundB p r = true → soundB p r = true) ∧ (soundB p r = true → soundB p r = true) ∧ ((soundB p r && !decide (r.s = 0)) = true → (soundB p r && !decide (r.s = 0)) = true) ∧ ((soundB p r && !decide (r.s = 0)) = true → (soundB p r && !decide (r.s = 0)) = true) ∧ (soundB p r = true → soundB p r = true) ∧ (soundB p r = true → decide (r.s = 0) = false → (soundB p r && !decide (r.s = 0)) = true) ∧ (soundB p r = true → soundB p r = true) ∧ ∃ (y : Unit), True ∧ (soundB p r && (decide (r.s = 0) || decide (r.s = 3))) = (soundB p r && (decide (r.s = 0) || decide (r.s = 3)))) = sEager.vc (EV Try.prog [(20, sSound.spec)] noInv noInv) Try.f21 (p, r, ()) := by kernel_rfl
  rw [← e]
  clear e
  simp only [Prod.forall, Prod.exists, exists_const, implies_true, not_true_eq_false, not_false_eq_true, or_self, or_false, false_or, or_true, true_or, and_false, false_and, forall_const, true_and, and_true, i64R, imp_self, Int.reduceLE, Int.reduceLT, Int.reduceNeg, false_implies, true_implies, decide_eq_true_eq, decide_eq_false_iff_not, Bool.not_eq_true', Bool.not_eq_false', Bool.true_eq_false, Bool.false_eq_true, Bool.and_eq_true, Bool.or_eq_true, NilL_eq, Bool.and_eq_false_iff, Bool.or_eq_false_iff ]
  exact fun h1 h2 => ⟨h1, h2⟩


set_option maxRecDepth 100000 in
theorem vc24 (p : List (List Stp)) (r : Run) (hx : True) : sCur.vc (EV Try.prog [(20, sSound.spec)] noInv noInv) Try.f24 (p, r, ()) := by
  have e : (True ∧ ((!soundB p r) = false → (!soundB p r) = false) ∧ ((!soundB p r) = false → (!soundB p r) = false) ∧ ((!soundB p r) = false → (!soundB p r) = false) ∧ ((!soundB p r || decide (r.s = 4)) = true → ∃ (y : Unit), True ∧ 0 = (curS p r).k ∧ 0 = (curS p r).n ∧ 0 = (curS p r).a ∧ 0 = (curS p r).t ∧ false = curB p r) ∧ ((!soundB p r || decide (r.s = 4)) = false → (0 ≤ r.p ∧ r.p < (↑p.length : Int)) ∧ (0 ≤ r.a ∧ r.a < (↑(p.getD r.p.toNat (NilL Stp)).length : Int)) ∧ ∃ (y : Unit), True ∧ ((p.getD r.p.toNat (NilL Stp)).getD r.a.toNat { k := 0, n := 0, a := 0, t := 0 : Stp }).k = (curS p r).k ∧ ((p.getD r.p.toNat (NilL Stp)).getD r.a.toNat { k := 0, n := 0, a := 0, t := 0 : Stp }).n = (curS p r).n ∧ ((p.getD r.p.toNat (NilL Stp)).getD r.a.toNat { k := 0, n := 0, a := 0, t := 0 : Stp }).a = (curS p r).a ∧ ((p.getD r.p.toNat (NilL Stp)).getD r.a.toNat { k := 0, n := 0, a := 0, t := 0 : Stp }).t = (curS p r).t ∧ true = curB p r)) = sCur.vc (EV Try.prog [(20, sSound.spec)] noInv noInv) Try.f24 (p, r, ()) := by kernel_rfl
  rw [← e]
  clear e
  have e1 : ∀ k, p.getD k (NilL Stp) = pr p k := fun _ => rfl
  have e2 : ∀ (l : List Stp) k, l.getD k ⟨0, 0, 0, 0⟩ = st l k := fun _ _ => rfl
  try simp only [e1, e2]
  clear e1 e2
  simp only [Prod.forall, Prod.exists, exists_const, implies_true, not_true_eq_false, not_false_eq_true, or_self, or_false, false_or, or_true, true_or, and_false, false_and, forall_const, true_and, and_true, i64R, imp_self, Int.reduceLE, Int.reduceLT, Int.reduceNeg, false_implies, true_implies, decide_eq_true_eq, decide_eq_false_iff_not, Bool.not_eq_true', Bool.not_eq_false', Bool.true_eq_false, Bool.false_eq_true, Bool.and_eq_true, Bool.or_eq_true, NilL_eq, Bool.and_eq_false_iff, Bool.or_eq_false_iff ]
  refine ⟨fun h => ?_, fun h => ?_⟩
  · have e : curB p r = false := by
      unfold curB
      rcases h with h | h
      · rw [h]; rfl
      · simp [h]
    have e2 : curS p r = ⟨0, 0, 0, 0⟩ := by simp [curS, e]
    rw [e, e2]
    (repeat' apply And.intro) <;> rfl
  · have e : curB p r = true := by
      unfold curB
      simp [h.1, h.2]
    have e2 : curS p r = cur p r := by simp [curS, e]
    have hg := go_at (soundB_iff.1 h.1) h.2
    rw [e, e2]
    refine ⟨⟨hg.1, hg.2.1⟩, ⟨hg.2.2.1, hg.2.2.2.1⟩, ?_⟩
    (repeat' apply And.intro) <;> rfl
end Go.Proofs.Ytgaeomkjpcpogaa
