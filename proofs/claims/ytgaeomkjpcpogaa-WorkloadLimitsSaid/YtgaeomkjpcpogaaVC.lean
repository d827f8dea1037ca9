/-
  Lemmas and contracts on the way to the laws of this seat; each theorem states its own conditions, and there are no others.
-/
import Derived.Test.YtgaeomkjpcpogaaPB

namespace Go.Proofs.Ytgaeomkjpcpogaa
open Go
set_option linter.unusedVariables false
set_option linter.unusedSimpArgs false
set_option linter.unusedVariables false

noncomputable def sSnd : DS := ⟨_, two pkProgs pkRun, fun x => x.1.length ≤ 32 ∧ ∀ k, k < x.1.length → (pr x.1 k).length ≤ 64, fun x => .bool (sndB x.1 x.2.1), nou⟩
noncomputable def sSound : DS := ⟨_, two pkProgs pkRun, fun _ => True, fun x => .bool (soundB x.1 x.2.1), nou⟩
def sAt : DS := ⟨_, three pkProgs pkRun pkI, fun x => 0 ≤ x.2.1.p ∧ x.2.1.p < x.1.length ∧ 0 ≤ x.2.2.1 ∧ x.2.2.1 ≤ (runP x.1 x.2.1).length, fun x => runV (atR x.1 x.2.1 x.2.2.1), nou⟩
def sNxt : DS := ⟨_, two pkProgs pkRun, fun x => 0 ≤ x.2.1.p ∧ x.2.1.p < x.1.length ∧ 0 ≤ x.2.1.a ∧ x.2.1.a < (runP x.1 x.2.1).length ∧ (runP x.1 x.2.1).length ≤ 64, fun x => runV (nxtR x.1 x.2.1), nou⟩
noncomputable def sChk : DS := ⟨_, two pkProgs pkRun, fun _ => True, fun x => .int .i64 (chkE x.1 x.2.1), nou⟩
noncomputable def sStart : DS := ⟨_, three pkProgs pkI pkI, fun _ => True, fun x => .tup [runV (startR x.1 x.2.1 x.2.2.1), .int .i64 (startE x.1 x.2.1 x.2.2.1)], nou⟩


set_option maxRecDepth 100000 in
theorem vc31 (p : List (List Stp)) (r : Run) (hx : p.length ≤ 32 ∧ ∀ k, k < p.length → (pr p k).length ≤ 64) : sSnd.vc (EV Try.prog [(26, sIn.spec)] noInv noInv) Try.f31 (p, r, ()) := by
  have e : (True ∧ ((!inb r.t 1 2147483647) = false → (!inb r.t 1 2147483647) = false) ∧ ((!inb r.t 1 2147483647) = false → (!inb r.t 1 2147483647) = false) ∧ ((!inb r.t 1 2147483647) = false → (!inb r.t 1 2147483647) = false) ∧ ((!inb r.t 1 2147483647) = false → i64R ((↑p.length : Int) - 1)) ∧ ((!inb r.t 1 2147483647) = false → (!inb r.t 1 2147483647) = false) ∧ ((!inb r.t 1 2147483647) = false → (!inb r.t 1 2147483647) = false) ∧ ((!inb r.t 1 2147483647) = false → True) ∧ ((!inb r.t 1 2147483647) = false → (!inb r.t 1 2147483647) = false) ∧ ((!inb r.t 1 2147483647) = false → (!inb r.t 1 2147483647) = false) ∧ ((!inb r.t 1 2147483647 || !inb r.p 0 ((↑p.length : Int) - 1)) = false → (!inb r.t 1 2147483647 || !inb r.p 0 ((↑p.length : Int) - 1)) = false) ∧ ((!inb r.t 1 2147483647 || !inb r.p 0 ((↑p.length : Int) - 1)) = false → (!inb r.t 1 2147483647 || !inb r.p 0 ((↑p.length : Int) - 1)) = false) ∧ ((!inb r.t 1 2147483647 || !inb r.p 0 ((↑p.length : Int) - 1)) = false → True) ∧ ((!inb r.t 1 2147483647 || !inb r.p 0 ((↑p.length : Int) - 1)) = false → (!inb r.t 1 2147483647 || !inb r.p 0 ((↑p.length : Int) - 1)) = false) ∧ ((!inb r.t 1 2147483647 || !inb r.p 0 ((↑p.length : Int) - 1)) = false → (!inb r.t 1 2147483647 || !inb r.p 0 ((↑p.length : Int) - 1)) = false) ∧ ((!inb r.t 1 2147483647 || !inb r.p 0 ((↑p.length : Int) - 1) || !inb r.s 0 4) = true → ∃ (y : Unit), True ∧ false = sndB p r) ∧ ((!inb r.t 1 2147483647 || !inb r.p 0 ((↑p.length : Int) - 1) || !inb r.s 0 4) = false → (0 ≤ r.p ∧ r.p < (↑p.length : Int)) ∧ (decide (r.s = 4) = true → (decide (r.a = (↑(p.getD r.p.toNat (NilL Stp)).length : Int)) = true → decide (r.a = (↑(p.getD r.p.toNat (NilL Stp)).length : Int)) = true) ∧ (decide (r.a = (↑(p.getD r.p.toNat (NilL Stp)).length : Int)) = true → decide (r.a = (↑(p.getD r.p.toNat (NilL Stp)).length : Int)) = true) ∧ (decide (r.a = (↑(p.getD r.p.toNat (NilL Stp)).length : Int)) = true → decide (r.a = (↑(p.getD r.p.toNat (NilL Stp)).length : Int)) = true) ∧ ((decide (r.a = (↑(p.getD r.p.toNat (NilL Stp)).length : Int)) && decide (r.l = 0)) = true → (decide (r.a = (↑(p.getD r.p.toNat (NilL Stp)).length : Int)) && decide (r.l = 0)) = true) ∧ ((decide (r.a = (↑(p.getD r.p.toNat (NilL Stp)).length : Int)) && decide (r.l = 0)) = true → (decide (r.a = (↑(p.getD r.p.toNat (NilL Stp)).length : Int)) && decide (r.l = 0)) = true) ∧ ((decide (r.a = (↑(p.getD r.p.toNat (NilL Stp)).length : Int)) && decide (r.l = 0)) = true → (decide (r.a = (↑(p.getD r.p.toNat (NilL Stp)).length : Int)) && decide (r.l = 0)) = true) ∧ ∃ (y : Unit), True ∧ (decide (r.a = (↑(p.getD r.p.toNat (NilL Stp)).length : Int)) && decide (r.l = 0) && decide (r.u = 0)) = sndB p r) ∧ (decide (r.s = 4) = false → i64R ((↑(p.getD r.p.toNat (NilL Stp)).length : Int) - 1) ∧ True ∧ ((!inb r.a 0 ((↑(p.getD r.p.toNat (NilL Stp)).length : Int) - 1)) = false → (!inb r.a 0 ((↑(p.getD r.p.toNat (NilL Stp)).length : Int) - 1)) = false) ∧ ((!inb r.a 0 ((↑(p.getD r.p.toNat (NilL Stp)).length : Int) - 1)) = false → (!inb r.a 0 ((↑(p.getD r.p.toNat (NilL Stp)).length : Int) - 1)) = false) ∧ ((!inb r.a 0 ((↑(p.getD r.p.toNat (NilL Stp)).length : Int) - 1)) = false → True) ∧ ((!inb r.a 0 ((↑(p.getD r.p.toNat (NilL Stp)).length : Int) - 1)) = false → (!inb r.a 0 ((↑(p.getD r.p.toNat (NilL Stp)).length : Int) - 1)) = false) ∧ ((!inb r.a 0 ((↑(p.getD r.p.toNat (NilL Stp)).length : Int) - 1)) = false → (!inb r.a 0 ((↑(p.getD r.p.toNat (NilL Stp)).length : Int) - 1)) = false) ∧ ((!inb r.a 0 ((↑(p.getD r.p.toNat (NilL Stp)).length : Int) - 1) || !inb r.u 0 1048576) = false → (!inb r.a 0 ((↑(p.getD r.p.toNat (NilL Stp)).length : Int) - 1) || !inb r.u 0 1048576) = false) ∧ ((!inb r.a 0 ((↑(p.getD r.p.toNat (NilL Stp)).length : Int) - 1) || !inb r.u 0 1048576) = false → (!inb r.a 0 ((↑(p.getD r.p.toNat (NilL Stp)).length : Int) - 1) || !inb r.u 0 1048576) = false) ∧ ((!inb r.a 0 ((↑(p.getD r.p.toNat (NilL Stp)).length : Int) - 1) || !inb r.u 0 1048576) = false → (!inb r.a 0 ((↑(p.getD r.p.toNat (NilL Stp)).length : Int) - 1) || !inb r.u 0 1048576) = false) ∧ ((!(!inb r.a 0 ((↑(p.getD r.p.toNat (NilL Stp)).length : Int) - 1) || !inb r.u 0 1048576) && !decide (r.u = 0)) = true → (!(!inb r.a 0 ((↑(p.getD r.p.toNat (NilL Stp)).length : Int) - 1) || !inb r.u 0 1048576) && !decide (r.u = 0)) = true) ∧ ((!(!inb r.a 0 ((↑(p.getD r.p.toNat (NilL Stp)).length : Int) - 1) || !inb r.u 0 1048576) && !decide (r.u = 0)) = true → (!(!inb r.a 0 ((↑(p.getD r.p.toNat (NilL Stp)).length : Int) - 1) || !inb r.u 0 1048576) && !decide (r.u = 0)) = true) ∧ ((!inb r.a 0 ((↑(p.getD r.p.toNat (NilL Stp)).length : Int) - 1) || !inb r.u 0 1048576) = false → (!inb r.a 0 ((↑(p.getD r.p.toNat (NilL Stp)).length : Int) - 1) || !inb r.u 0 1048576) = false) ∧ ((!inb r.a 0 ((↑(p.getD r.p.toNat (NilL Stp)).length : Int) - 1) || !inb r.u 0 1048576) = false → (!decide (r.u = 0)) = true → (!(!inb r.a 0 ((↑(p.getD r.p.toNat (NilL Stp)).length : Int) - 1) || !inb r.u 0 1048576) && !decide (r.u = 0)) = true) ∧ ((!inb r.a 0 ((↑(p.getD r.p.toNat (NilL Stp)).length : Int) - 1) || !inb r.u 0 1048576) = false → (!inb r.a 0 ((↑(p.getD r.p.toNat (NilL Stp)).length : Int) - 1) || !inb r.u 0 1048576) = false) ∧ ((!inb r.a 0 ((↑(p.getD r.p.toNat (NilL Stp)).length : Int) - 1) || !inb r.u 0 1048576 || !decide (r.u = 0) && !decide (r.s = 1)) = true → ∃ (y : Unit), True ∧ false = sndB p r) ∧ ((!inb r.a 0 ((↑(p.getD r.p.toNat (NilL Stp)).length : Int) - 1) || !inb r.u 0 1048576 || !decide (r.u = 0) && !decide (r.s = 1)) = false → (0 ≤ r.a ∧ r.a < (↑(p.getD r.p.toNat (NilL Stp)).length : Int)) ∧ (decide (((p.getD r.p.toNat (NilL Stp)).getD r.a.toNat { k := 0, n := 0, a := 0, t := 0 : Stp }).k = 1) = true → True ∧ ∃ (y : Unit), True ∧ inb r.l 1 ((p.getD r.p.toNat (NilL Stp)).getD r.a.toNat { k := 0, n := 0, a := 0, t := 0 : Stp }).n = sndB p r) ∧ (decide (((p.getD r.p.toNat (NilL Stp)).getD r.a.toNat { k := 0, n := 0, a := 0, t := 0 : Stp }).k = 1) = false → ∃ (y : Unit), True ∧ decide (r.l = 0) = sndB p r))))) = sSnd.vc (EV Try.prog [(26, sIn.spec)] noInv noInv) Try.f31 (p, r, ()) := by kernel_rfl
  rw [← e]
  clear e
  have e1 : ∀ k, p.getD k (NilL Stp) = pr p k := fun _ => rfl
  have e2 : ∀ (l : List Stp) k, l.getD k ⟨0, 0, 0, 0⟩ = st l k := fun _ _ => rfl
  try simp only [e1, e2]
  clear e1 e2
  simp only [Prod.forall, Prod.exists, exists_const, implies_true, not_true_eq_false, not_false_eq_true, or_self, or_false, false_or, or_true, true_or, and_false, false_and, forall_const, true_and, and_true, i64R, imp_self, Int.reduceLE, Int.reduceLT, Int.reduceNeg, false_implies, true_implies, decide_eq_true_eq, decide_eq_false_iff_not, Bool.not_eq_true', Bool.not_eq_false', Bool.true_eq_false, Bool.false_eq_true, Bool.and_eq_true, Bool.or_eq_true, NilL_eq, Bool.and_eq_false_iff, Bool.or_eq_false_iff ]
  obtain ⟨h1, h2⟩ := hx
  have h3 : 0 ≤ r.p → r.p < p.length → (pr p r.p.toNat).length ≤ 64 := fun a b => h2 _ (by omega)
  have key := sndB_iff (p := p) (r := r)
  simp only [SndP, runP, cur] at key
  generalize sndB p r = b at *
  clear h2
  generalize (pr p r.p.toNat).length = n at *
  generalize (st (pr p r.p.toNat) r.a.toNat).n = m at *
  generalize (st (pr p r.p.toNat) r.a.toNat).k = k at *
  simp only [inb, Bool.and_eq_true, decide_eq_true_eq, Bool.and_eq_false_iff, decide_eq_false_iff_not]
  cases b <;> simp only [Bool.false_eq_true, false_iff, true_iff, Bool.and_eq_true, decide_eq_true_eq, Bool.and_eq_false_iff, decide_eq_false_iff_not] at *
  all_goals (repeat' (first | refine And.intro ?_ ?_ | intro _)) <;> (first | omega | trivial)


set_option maxRecDepth 100000 in
theorem vc20 (p : List (List Stp)) (r : Run) (hx : True) : sSound.vc (EV Try.prog [(10, sValid.spec), (31, sSnd.spec)] noInv noInv) Try.f20 (p, r, ()) := by
  have e : (True ∧ (validB p = true → validB p = true) ∧ (validB p = true → validB p = true) ∧ (validB p = true → p.length ≤ (32 : Nat) ∧ ∀ (k : Nat), k < p.length → (pr p k).length ≤ (64 : Nat)) ∧ (validB p = true → validB p = true) ∧ ∃ (y : Unit), True ∧ (validB p && sndB p r) = (validB p && sndB p r)) = sSound.vc (EV Try.prog [(10, sValid.spec), (31, sSnd.spec)] noInv noInv) Try.f20 (p, r, ()) := by kernel_rfl
  rw [← e]
  clear e
  have e1 : ∀ k, p.getD k (NilL Stp) = pr p k := fun _ => rfl
  have e2 : ∀ (l : List Stp) k, l.getD k ⟨0, 0, 0, 0⟩ = st l k := fun _ _ => rfl
  try simp only [e1, e2]
  clear e1 e2
  simp only [Prod.forall, Prod.exists, exists_const, implies_true, not_true_eq_false, not_false_eq_true, or_self, or_false, false_or, or_true, true_or, and_false, false_and, forall_const, true_and, and_true, i64R, imp_self, Int.reduceLE, Int.reduceLT, Int.reduceNeg, false_implies, true_implies, decide_eq_true_eq, decide_eq_false_iff_not, Bool.not_eq_true', Bool.not_eq_false', Bool.true_eq_false, Bool.false_eq_true, Bool.and_eq_true, Bool.or_eq_true, NilL_eq, Bool.and_eq_false_iff, Bool.or_eq_false_iff ]
  exact fun hv => ⟨((validB_iff p).1 hv).1, fun k hk => (((validB_iff p).1 hv).2 k hk).2.1⟩


set_option maxRecDepth 100000 in
theorem vc27 (p : List (List Stp)) (r : Run) (i : Int) (hx : 0 ≤ r.p ∧ r.p < p.length ∧ 0 ≤ i ∧ i ≤ (runP p r).length) : sAt.vc (EV Try.prog [] noInv noInv) Try.f27 (p, r, i, ()) := by
  have e : (((0 : Int) ≤ r.p ∧ r.p < (↑p.length : Int)) ∧ (decide (i = (↑(p.getD r.p.toNat (NilL Stp)).length : Int)) = true → ∃ (y : Unit), True ∧ r.t = r.t ∧ r.p = r.p ∧ i = i ∧ ((0 : Int) = if i = (↑(runP p r).length : Int) then (0 : Int) else if (st (runP p r) i.toNat).k = (1 : Int) then (st (runP p r) i.toNat).n else (0 : Int)) ∧ ((4 : Int) = if i = (↑(runP p r).length : Int) then (4 : Int) else (0 : Int)) ∧ (0 : Int) = (0 : Int)) ∧ (decide (i = (↑(p.getD r.p.toNat (NilL Stp)).length : Int)) = false → ((0 : Int) ≤ i ∧ i < (↑(p.getD r.p.toNat (NilL Stp)).length : Int)) ∧ (decide (((p.getD r.p.toNat (NilL Stp)).getD i.toNat { k := (0 : Int), n := (0 : Int), a := (0 : Int), t := (0 : Int) : Stp }).k = (1 : Int)) = true → ((0 : Int) ≤ i ∧ i < (↑(p.getD r.p.toNat (NilL Stp)).length : Int)) ∧ ∃ (y : Unit), True ∧ r.t = r.t ∧ r.p = r.p ∧ i = i ∧ (((p.getD r.p.toNat (NilL Stp)).getD i.toNat { k := (0 : Int), n := (0 : Int), a := (0 : Int), t := (0 : Int) : Stp }).n = if i = (↑(runP p r).length : Int) then (0 : Int) else if (st (runP p r) i.toNat).k = (1 : Int) then (st (runP p r) i.toNat).n else (0 : Int)) ∧ ((0 : Int) = if i = (↑(runP p r).length : Int) then (4 : Int) else (0 : Int)) ∧ (0 : Int) = (0 : Int)) ∧ (decide (((p.getD r.p.toNat (NilL Stp)).getD i.toNat { k := (0 : Int), n := (0 : Int), a := (0 : Int), t := (0 : Int) : Stp }).k = (1 : Int)) = false → ∃ (y : Unit), True ∧ r.t = r.t ∧ r.p = r.p ∧ i = i ∧ ((0 : Int) = if i = (↑(runP p r).length : Int) then (0 : Int) else if (st (runP p r) i.toNat).k = (1 : Int) then (st (runP p r) i.toNat).n else (0 : Int)) ∧ ((0 : Int) = if i = (↑(runP p r).length : Int) then (4 : Int) else (0 : Int)) ∧ (0 : Int) = (0 : Int)))) = sAt.vc (EV Try.prog [] noInv noInv) Try.f27 (p, r, i, ()) := by kernel_rfl
  rw [← e]
  clear e
  have e1 : ∀ k, p.getD k (NilL Stp) = pr p k := fun _ => rfl
  have e2 : ∀ (l : List Stp) k, l.getD k ⟨0, 0, 0, 0⟩ = st l k := fun _ _ => rfl
  try simp only [e1, e2]
  clear e1 e2
  simp only [Prod.forall, Prod.exists, exists_const, implies_true, not_true_eq_false, not_false_eq_true, or_self, or_false, false_or, or_true, true_or, and_false, false_and, forall_const, true_and, and_true, i64R, imp_self, Int.reduceLE, Int.reduceLT, Int.reduceNeg, false_implies, true_implies, decide_eq_true_eq, decide_eq_false_iff_not, Bool.not_eq_true', Bool.not_eq_false', Bool.true_eq_false, Bool.false_eq_true, Bool.and_eq_true, Bool.or_eq_true, NilL_eq, Bool.and_eq_false_iff, Bool.or_eq_false_iff ]
  simp only [runP] at *
  grind


set_option maxRecDepth 100000 in
theorem vc30 (p : List (List Stp)) (r : Run) (hx : 0 ≤ r.p ∧ r.p < p.length ∧ 0 ≤ r.a ∧ r.a < (runP p r).length ∧ (runP p r).length ≤ 64) : sNxt.vc (EV Try.prog [(27, sAt.spec)] noInv noInv) Try.f30 (p, r, ()) := by
  have e : (((0 : Int) ≤ r.p ∧ r.p < (↑p.length : Int)) ∧ ((0 : Int) ≤ r.a ∧ r.a < (↑(p.getD r.p.toNat (NilL Stp)).length : Int)) ∧ (decide (((p.getD r.p.toNat (NilL Stp)).getD r.a.toNat { k := (0 : Int), n := (0 : Int), a := (0 : Int), t := (0 : Int) : Stp }).k = (11 : Int)) = true → ((0 : Int) ≤ r.p ∧ r.p < (↑p.length : Int) ∧ (0 : Int) ≤ (0 : Int) ∧ (0 : Int) ≤ (↑(runP p r).length : Int)) ∧ ∃ (y : Unit), True ∧ r.t = r.t ∧ r.p = r.p ∧ ((0 : Int) = if (st (runP p r) r.a.toNat).k = (11 : Int) then (0 : Int) else r.a + (1 : Int)) ∧ ((if (0 : Int) = (↑(runP p r).length : Int) then (0 : Int) else if (st (runP p r) (Int.toNat (0 : Int))).k = (1 : Int) then (st (runP p r) (Int.toNat (0 : Int))).n else (0 : Int)) = if (if (st (runP p r) r.a.toNat).k = (11 : Int) then (0 : Int) else r.a + (1 : Int)) = (↑(runP p r).length : Int) then (0 : Int) else if (st (runP p r) (if (st (runP p r) r.a.toNat).k = (11 : Int) then (0 : Int) else r.a + (1 : Int)).toNat).k = (1 : Int) then (st (runP p r) (if (st (runP p r) r.a.toNat).k = (11 : Int) then (0 : Int) else r.a + (1 : Int)).toNat).n else (0 : Int)) ∧ ((if (0 : Int) = (↑(runP p r).length : Int) then (4 : Int) else (0 : Int)) = if (if (st (runP p r) r.a.toNat).k = (11 : Int) then (0 : Int) else r.a + (1 : Int)) = (↑(runP p r).length : Int) then (4 : Int) else (0 : Int)) ∧ (0 : Int) = (0 : Int)) ∧ (decide (((p.getD r.p.toNat (NilL Stp)).getD r.a.toNat { k := (0 : Int), n := (0 : Int), a := (0 : Int), t := (0 : Int) : Stp }).k = (11 : Int)) = false → i64R (r.a + (1 : Int)) ∧ ((0 : Int) ≤ r.p ∧ r.p < (↑p.length : Int) ∧ (0 : Int) ≤ r.a + (1 : Int) ∧ r.a + (1 : Int) ≤ (↑(runP p r).length : Int)) ∧ ∃ (y : Unit), True ∧ r.t = r.t ∧ r.p = r.p ∧ (r.a + (1 : Int) = if (st (runP p r) r.a.toNat).k = (11 : Int) then (0 : Int) else r.a + (1 : Int)) ∧ ((if r.a + (1 : Int) = (↑(runP p r).length : Int) then (0 : Int) else if (st (runP p r) (r.a + (1 : Int)).toNat).k = (1 : Int) then (st (runP p r) (r.a + (1 : Int)).toNat).n else (0 : Int)) = if (if (st (runP p r) r.a.toNat).k = (11 : Int) then (0 : Int) else r.a + (1 : Int)) = (↑(runP p r).length : Int) then (0 : Int) else if (st (runP p r) (if (st (runP p r) r.a.toNat).k = (11 : Int) then (0 : Int) else r.a + (1 : Int)).toNat).k = (1 : Int) then (st (runP p r) (if (st (runP p r) r.a.toNat).k = (11 : Int) then (0 : Int) else r.a + (1 : Int)).toNat).n else (0 : Int)) ∧ ((if r.a + (1 : Int) = (↑(runP p r).length : Int) then (4 : Int) else (0 : Int)) = if (if (st (runP p r) r.a.toNat).k = (11 : Int) then (0 : Int) else r.a + (1 : Int)) = (↑(runP p r).length : Int) then (4 : Int) else (0 : Int)) ∧ (0 : Int) = (0 : Int))) = sNxt.vc (EV Try.prog [(27, sAt.spec)] noInv noInv) Try.f30 (p, r, ()) := by kernel_rfl
  rw [← e]
  clear e
  have e1 : ∀ k, p.getD k (NilL Stp) = pr p k := fun _ => rfl
  have e2 : ∀ (l : List Stp) k, l.getD k ⟨0, 0, 0, 0⟩ = st l k := fun _ _ => rfl
  try simp only [e1, e2]
  clear e1 e2
  simp only [Prod.forall, Prod.exists, exists_const, implies_true, not_true_eq_false, not_false_eq_true, or_self, or_false, false_or, or_true, true_or, and_false, false_and, forall_const, true_and, and_true, i64R, imp_self, Int.reduceLE, Int.reduceLT, Int.reduceNeg, false_implies, true_implies, decide_eq_true_eq, decide_eq_false_iff_not, Bool.not_eq_true', Bool.not_eq_false', Bool.true_eq_false, Bool.false_eq_true, Bool.and_eq_true, Bool.or_eq_true, NilL_eq, Bool.and_eq_false_iff, Bool.or_eq_false_iff ]
  simp only [runP] at *
  grind


set_option maxRecDepth 100000 in
theorem vc29 (p : List (List Stp)) (r : Run) (hx : True) : sChk.vc (EV Try.prog [(20, sSound.spec)] noInv noInv) Try.f29 (p, r, ()) := by
  have e : (True ∧ ((!soundB p r) = true → ∃ (y : Unit), True ∧ 1 = chkE p r) ∧ ((!soundB p r) = false → (decide (r.s = 4) = true → ∃ (y : Unit), True ∧ 9 = chkE p r) ∧ (decide (r.s = 4) = false → ∃ (y : Unit), True ∧ 0 = chkE p r))) = sChk.vc (EV Try.prog [(20, sSound.spec)] noInv noInv) Try.f29 (p, r, ()) := by kernel_rfl
  rw [← e]
  clear e
  have e1 : ∀ k, p.getD k (NilL Stp) = pr p k := fun _ => rfl
  have e2 : ∀ (l : List Stp) k, l.getD k ⟨0, 0, 0, 0⟩ = st l k := fun _ _ => rfl
  try simp only [e1, e2]
  clear e1 e2
  simp only [Prod.forall, Prod.exists, exists_const, implies_true, not_true_eq_false, not_false_eq_true, or_self, or_false, false_or, or_true, true_or, and_false, false_and, forall_const, true_and, and_true, i64R, imp_self, Int.reduceLE, Int.reduceLT, Int.reduceNeg, false_implies, true_implies, decide_eq_true_eq, decide_eq_false_iff_not, Bool.not_eq_true', Bool.not_eq_false', Bool.true_eq_false, Bool.false_eq_true, Bool.and_eq_true, Bool.or_eq_true, NilL_eq, Bool.and_eq_false_iff, Bool.or_eq_false_iff ]
  simp only [chkE]
  grind


set_option maxRecDepth 100000 in
theorem vc11 (p : List (List Stp)) (t k : Int) (hx : True) : sStart.vc (EV Try.prog [(10, sValid.spec), (26, sIn.spec), (27, sAt.spec)] noInv noInv) Try.f11 (p, t, k, ()) := by
  have e : (True ∧ ((!validB p) = true → ∃ (y : Unit), True ∧ 0 = (startR p t k).t ∧ 0 = (startR p t k).p ∧ 0 = (startR p t k).a ∧ 0 = (startR p t k).l ∧ 0 = (startR p t k).s ∧ 0 = (startR p t k).u ∧ 1 = startE p t k) ∧ ((!validB p) = false → i64R ((↑p.length : Int) - 1) ∧ True ∧ ((!inb k 0 ((↑p.length : Int) - 1)) = true → ∃ (y : Unit), True ∧ 0 = (startR p t k).t ∧ 0 = (startR p t k).p ∧ 0 = (startR p t k).a ∧ 0 = (startR p t k).l ∧ 0 = (startR p t k).s ∧ 0 = (startR p t k).u ∧ 4 = startE p t k) ∧ ((!inb k 0 ((↑p.length : Int) - 1)) = false → True ∧ ((!inb t 1 2147483647) = true → ∃ (y : Unit), True ∧ 0 = (startR p t k).t ∧ 0 = (startR p t k).p ∧ 0 = (startR p t k).a ∧ 0 = (startR p t k).l ∧ 0 = (startR p t k).s ∧ 0 = (startR p t k).u ∧ 3 = startE p t k) ∧ ((!inb t 1 2147483647) = false → (0 ≤ k ∧ k < (↑p.length : Int) ∧ (0 : Int) ≤ 0 ∧ 0 ≤ (↑(runP p { t := t, p := k, a := 0, l := 0, s := 0, u := 0 : Run }).length : Int)) ∧ ∃ (y : Unit), True ∧ t = (startR p t k).t ∧ k = (startR p t k).p ∧ 0 = (startR p t k).a ∧ (if 0 = (↑(runP p { t := t, p := k, a := 0, l := 0, s := 0, u := 0 : Run }).length : Int) then 0 else if (st (runP p { t := t, p := k, a := 0, l := 0, s := 0, u := 0 : Run }) (Int.toNat 0)).k = 1 then (st (runP p { t := t, p := k, a := 0, l := 0, s := 0, u := 0 : Run }) (Int.toNat 0)).n else 0) = (startR p t k).l ∧ (if 0 = (↑(runP p { t := t, p := k, a := 0, l := 0, s := 0, u := 0 : Run }).length : Int) then 4 else 0) = (startR p t k).s ∧ 0 = (startR p t k).u ∧ 0 = startE p t k)))) = sStart.vc (EV Try.prog [(10, sValid.spec), (26, sIn.spec), (27, sAt.spec)] noInv noInv) Try.f11 (p, t, k, ()) := by kernel_rfl
  rw [← e]
  clear e
  have e1 : ∀ k, p.getD k (NilL Stp) = pr p k := fun _ => rfl
  have e2 : ∀ (l : List Stp) k, l.getD k ⟨0, 0, 0, 0⟩ = st l k := fun _ _ => rfl
  try simp only [e1, e2]
  clear e1 e2
  simp only [Prod.forall, Prod.exists, exists_const, implies_true, not_true_eq_false, not_false_eq_true, or_self, or_false, false_or, or_true, true_or, and_false, false_and, forall_const, true_and, and_true, i64R, imp_self, Int.reduceLE, Int.reduceLT, Int.reduceNeg, false_implies, true_implies, decide_eq_true_eq, decide_eq_false_iff_not, Bool.not_eq_true', Bool.not_eq_false', Bool.true_eq_false, Bool.false_eq_true, Bool.and_eq_true, Bool.or_eq_true, NilL_eq, Bool.and_eq_false_iff, Bool.or_eq_false_iff ]
  have hv : validB p = true → p.length ≤ 32 := fun h => ((validB_iff p).1 h).1
  simp only [startR, startE, inb, Bool.and_eq_true, decide_eq_true_eq, Bool.and_eq_false_iff, decide_eq_false_iff_not]
  refine ⟨fun h => ?_, fun h => ⟨⟨by have := hv h; omega, by have := hv h; omega⟩, fun h2 => ?_, fun h2 => ⟨fun h3 => ?_, fun h3 => ?_⟩⟩⟩
  · simp [h, zR]
  · have : ¬ (0 ≤ k ∧ k < p.length) := by omega
    simp [h, this, zR]
  · have h4 : 0 ≤ k ∧ k < p.length := by omega
    have : ¬ (1 ≤ t ∧ t ≤ 2147483647) := by omega
    simp [h, this, h4, zR]
  · have h4 : 0 ≤ k ∧ k < p.length := by omega
    simp [h, h3, h4, atR]
end Go.Proofs.Ytgaeomkjpcpogaa
