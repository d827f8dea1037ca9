/-
  Lemmas and contracts on the way to the laws of this seat; each theorem states its own conditions, and there are no others.
-/
import Derived.Test.YtglkagaammnojaaPC

namespace Go.Proofs.Ytglkagaammnojaa
open Go
set_option linter.unusedVariables false
set_option linter.unusedSimpArgs false
set_option linter.unusedVariables false

def getFn81 : AV → Option Int
  | .fn (.func 81) [] [.ipt false [.int .i64 a] 0] => some a
  | _ => none
def pkFn81 : PK Int where
  get := getFn81
  put := fun a => .fn (.func 81) [] [.ipt false [.int .i64 a] 0]
  ok := fun v a h w S μ x _ hx => by
    unfold getFn81 at h
    split at h
    · cases h; exact hx
    · cases h
def sSound : DS := ⟨_, one pkCnd, fun _ => True, fun x => .bool (soundB x.1), nou⟩
def sScoreI : DS := ⟨_, two pkCnd pkI, fun x => SoundC x.1 ∧ 0 ≤ x.2.1 ∧ x.2.1 ≤ 16777216, fun x => .int .i64 (scoreI x.1 x.2.1), nou⟩
def sScore : DS := ⟨_, two pkCnd pkI, fun _ => True, fun x => .tup [.int .i64 (scN x.1 x.2.1), .int .i64 (scE x.1 x.2.1)], nou⟩
def sCv : DS := ⟨_, two pkTree pkCnds, fun x => WfN x.1.1, fun x => .bool (cvB x.1.1 x.1.2 x.2.1), nou⟩
def sWith : DS := ⟨_, three pkTree pkCnds pkI, fun x => ChkP x.1.1 x.1.2 ∧ x.2.1.length ≤ 128, fun _ => .own 101 4, fun x => [(101, .rows 40 4 (withL x.1.1 x.2.1 x.2.2.1))]⟩
def sDiff : DS := ⟨_, three pkCnd pkCnd pkPeek, fun x => (SoundC x.1 ∧ SoundC x.2.1) ∧ 0 ≤ x.2.2.1 ∧ x.2.2.1 ≤ 16777216, fun x => .int .i64 (scoreI x.1 x.2.2.1 - scoreI x.2.1 x.2.2.1), nou⟩
def sMaxC : DS := ⟨_, two pkCnds pkFn81, fun x => (1 ≤ x.1.length ∧ x.1.length ≤ 128 ∧ ∀ i, i < x.1.length → SoundC (cn x.1 i)) ∧ 0 ≤ x.2.1 ∧ x.2.1 ≤ 16777216, fun x => cndV (maxC x.1 x.2.1), nou⟩
def sVic : DS := ⟨_, four pkTree pkCnds pkI pkI, fun x => WfN x.1.1, fun x => .tup [cndV (vicC x.1.1 x.1.2 x.2.1 x.2.2.1 x.2.2.2.1), .int .i64 (vicE x.1.1 x.1.2 x.2.1 x.2.2.1 x.2.2.2.1)], nou⟩
def sVicP : DS := ⟨_, four pkTree pkCnds pkI pkI, fun x => WfN x.1.1, fun x => .tup [.int .i64 (vicC x.1.1 x.1.2 x.2.1 x.2.2.1 x.2.2.2.1).proc, .int .i64 (vicE x.1.1 x.1.2 x.2.1 x.2.2.1 x.2.2.2.1)], nou⟩
def sDec : DS := ⟨_, five pkTree pkCnds pkInts pkI pkI, fun x => WfN x.1.1 ∧ x.2.2.1.length ≤ 9223372036854775807, fun x => .tup [.agg [.int .i64 (vicC x.1.1 x.1.2 x.2.1 x.2.2.2.1 x.2.2.2.2.1).proc, .own 101 0, .int .i64 (decG x.1.1 x.1.2 x.2.1 x.2.2.1 x.2.2.2.1 x.2.2.2.2.1)], .int .i64 (vicE x.1.1 x.1.2 x.2.1 x.2.2.2.1 x.2.2.2.2.1)], fun x => [(101, .rows 3 0 (decP x.1.1 x.1.2 x.2.1 x.2.2.1 x.2.2.2.1 x.2.2.2.2.1))]⟩
def sFreed : DS := ⟨_, two pkCnds pkInts, fun x => (x.1.length ≤ 1024 ∧ ∀ i, i < x.1.length → 0 ≤ (cn x.1 i).pages ∧ (cn x.1 i).pages ≤ 1099511627776) ∧ x.2.1.length ≤ 9223372036854775807, fun x => .int .i64 (frd x.1 x.2.1 x.1.length), nou⟩
def sBelow : DS := ⟨_, three pkTree pkI pkI, fun _ => True, fun x => .bool (memB (ancR x.1.1 x.1.2 x.2.1) x.2.2.1), nou⟩


set_option maxRecDepth 100000 in
theorem vc49 (c : Cnd) (hx : True) : sSound.vc (EV Try.prog [] noInv noInv) Try.f49 (c, ()) := by
  have e : ((Decidable.decide ((0 : Int) ≤ c.pages) = Bool.true → Decidable.decide ((0 : Int) ≤ c.pages) = Bool.true) ∧ (Decidable.decide ((0 : Int) ≤ c.pages) = Bool.true → Decidable.decide ((0 : Int) ≤ c.pages) = Bool.true) ∧ (Decidable.decide ((0 : Int) ≤ c.pages) = Bool.true → Decidable.decide ((0 : Int) ≤ c.pages) = Bool.true) ∧ ((Decidable.decide ((0 : Int) ≤ c.pages) && Decidable.decide (c.pages ≤ (16777216 : Int))) = Bool.true → (Decidable.decide ((0 : Int) ≤ c.pages) && Decidable.decide (c.pages ≤ (16777216 : Int))) = Bool.true) ∧ ((Decidable.decide ((0 : Int) ≤ c.pages) && Decidable.decide (c.pages ≤ (16777216 : Int))) = Bool.true → (Decidable.decide ((0 : Int) ≤ c.pages) && Decidable.decide (c.pages ≤ (16777216 : Int))) = Bool.true) ∧ ((Decidable.decide ((0 : Int) ≤ c.pages) && Decidable.decide (c.pages ≤ (16777216 : Int))) = Bool.true → (Decidable.decide ((0 : Int) ≤ c.pages) && Decidable.decide (c.pages ≤ (16777216 : Int))) = Bool.true) ∧ ((Decidable.decide ((0 : Int) ≤ c.pages) && Decidable.decide (c.pages ≤ (16777216 : Int)) && Decidable.decide ((-1000 : Int) ≤ c.adj)) = Bool.true → (Decidable.decide ((0 : Int) ≤ c.pages) && Decidable.decide (c.pages ≤ (16777216 : Int)) && Decidable.decide ((-1000 : Int) ≤ c.adj)) = Bool.true) ∧ ((Decidable.decide ((0 : Int) ≤ c.pages) && Decidable.decide (c.pages ≤ (16777216 : Int)) && Decidable.decide ((-1000 : Int) ≤ c.adj)) = Bool.true → (Decidable.decide ((0 : Int) ≤ c.pages) && Decidable.decide (c.pages ≤ (16777216 : Int)) && Decidable.decide ((-1000 : Int) ≤ c.adj)) = Bool.true) ∧ ((Decidable.decide ((0 : Int) ≤ c.pages) && Decidable.decide (c.pages ≤ (16777216 : Int)) && Decidable.decide ((-1000 : Int) ≤ c.adj)) = Bool.true → (Decidable.decide ((0 : Int) ≤ c.pages) && Decidable.decide (c.pages ≤ (16777216 : Int)) && Decidable.decide ((-1000 : Int) ≤ c.adj)) = Bool.true) ∧ ∃ (y : Unit), True ∧ (Decidable.decide ((0 : Int) ≤ c.pages) && Decidable.decide (c.pages ≤ (16777216 : Int)) && Decidable.decide ((-1000 : Int) ≤ c.adj) && Decidable.decide (c.adj ≤ (1000 : Int))) = soundB c) = sSound.vc (EV Try.prog [] noInv noInv) Try.f49 (c, ()) := by kernel_rfl
  rw [← e]
  clear e
  simp only [imp_self, true_and, and_true, exists_const, implies_true, gd1, gd2, gd3, gd4, gd5, gd6, NilL_eq ]
  rfl


set_option maxRecDepth 100000 in
theorem vc50 (c : Cnd) (t : Int) (hx : SoundC c ∧ 0 ≤ t ∧ t ≤ 16777216) : sScoreI.vc (EV Try.prog [] noInv noInv) Try.f50 (c, t, ()) := by
  have e : (i64R (c.adj * t) ∧ i64R (c.adj * t) ∧ (0 : Int) < (1000 : Int) ∧ (Decidable.decide ((c.adj * t).tmod (1000 : Int) < (0 : Int)) = Bool.true → i64R ((c.adj * t).tdiv (1000 : Int) - (1 : Int)) ∧ i64R (c.pages + ((c.adj * t).tdiv (1000 : Int) - (1 : Int))) ∧ ∃ (y : Unit), True ∧ c.pages + ((c.adj * t).tdiv (1000 : Int) - (1 : Int)) = scoreI c t) ∧ (Decidable.decide ((c.adj * t).tmod (1000 : Int) < (0 : Int)) = Bool.false → i64R (c.pages + (c.adj * t).tdiv (1000 : Int)) ∧ ∃ (y : Unit), True ∧ c.pages + (c.adj * t).tdiv (1000 : Int) = scoreI c t)) = sScoreI.vc (EV Try.prog [] noInv noInv) Try.f50 (c, t, ()) := by kernel_rfl
  rw [← e]
  clear e
  simp only [imp_self, true_and, and_true, exists_const, implies_true, gd1, gd2, gd3, gd4, gd5, gd6, NilL_eq ]
  simp only [Prod.forall, Prod.exists, exists_const, implies_true, not_true_eq_false, not_false_eq_true, or_self, or_false, false_or, or_true, true_or, and_false, false_and, forall_const, true_and, and_true, i64R, imp_self, Int.reduceLE, Int.reduceLT, Int.reduceNeg, false_implies, true_implies, decide_eq_true_eq, decide_eq_false_iff_not, Bool.not_eq_true', Bool.not_eq_false', Bool.true_eq_false, Bool.false_eq_true, Bool.and_eq_true, Bool.or_eq_true, NilL_eq, Bool.and_eq_false_iff, Bool.or_eq_false_iff ]
  obtain ⟨h1, t0, t1⟩ := hx
  have h2 := score_in h1 t0 t1
  have h3 := floor1000 (c.adj * t)
  have h4 := h1.p0
  have h5 := h1.p1
  unfold scoreI
  refine ⟨by omega, by omega, fun h => ?_, fun h => ?_⟩
  · rw [if_pos h] at h3
    omega
  · rw [if_neg h] at h3
    omega


set_option maxRecDepth 100000 in
theorem vc21 (c : Cnd) (t : Int) (hx : True) : sScore.vc (EV Try.prog [(49, sSound.spec), (50, sScoreI.spec)] noInv noInv) Try.f21 (c, t, ()) := by
  have e : (True ∧ ((!soundB c) = Bool.true → ∃ (y : Unit), True ∧ (0 : Int) = scN c t ∧ (1 : Int) = scE c t) ∧ ((!soundB c) = Bool.false → (Decidable.decide (t < (0 : Int)) = Bool.false → Decidable.decide (t < (0 : Int)) = Bool.false) ∧ (Decidable.decide (t < (0 : Int)) = Bool.false → Decidable.decide (t < (0 : Int)) = Bool.false) ∧ ((Decidable.decide (t < (0 : Int)) || Decidable.decide ((16777216 : Int) < t)) = Bool.true → ∃ (y : Unit), True ∧ (0 : Int) = scN c t ∧ (3 : Int) = scE c t) ∧ ((Decidable.decide (t < (0 : Int)) || Decidable.decide ((16777216 : Int) < t)) = Bool.false → (SoundC c ∧ (0 : Int) ≤ t ∧ t ≤ (16777216 : Int)) ∧ ∃ (y : Unit), True ∧ scoreI c t = scN c t ∧ (0 : Int) = scE c t))) = sScore.vc (EV Try.prog [(49, sSound.spec), (50, sScoreI.spec)] noInv noInv) Try.f21 (c, t, ()) := by kernel_rfl
  rw [← e]
  clear e
  simp only [imp_self, true_and, and_true, exists_const, implies_true, gd1, gd2, gd3, gd4, gd5, gd6, NilL_eq ]
  simp only [Prod.forall, Prod.exists, exists_const, implies_true, not_true_eq_false, not_false_eq_true, or_self, or_false, false_or, or_true, true_or, and_false, false_and, forall_const, true_and, and_true, i64R, imp_self, Int.reduceLE, Int.reduceLT, Int.reduceNeg, false_implies, true_implies, decide_eq_true_eq, decide_eq_false_iff_not, Bool.not_eq_true', Bool.not_eq_false', Bool.true_eq_false, Bool.false_eq_true, Bool.and_eq_true, Bool.or_eq_true, NilL_eq, Bool.and_eq_false_iff, Bool.or_eq_false_iff ]
  refine ⟨fun h => ?_, fun h => ⟨fun h2 => ?_, fun h2 => ?_⟩⟩
  · have e : scE c t = 1 := by rw [scE, if_pos h]
    rw [scN, e]; exact ⟨rfl, rfl⟩
  · have e : scE c t = 3 := by rw [scE, if_neg (by rw [h]; simp), if_pos h2]
    rw [scN, e]; exact ⟨rfl, rfl⟩
  · have e : scE c t = 0 := by rw [scE, if_neg (by rw [h]; simp), if_neg (by omega)]
    rw [scN, e]; exact ⟨⟨soundB_iff.1 h, by omega, by omega⟩, rfl, rfl⟩

def inv54 (l : List Nod) (cs : List Cnd) : Inv where
  X := Int
  ok := fun i => 0 ≤ i ∧ i ≤ cs.length ∧ ∀ j : Nat, (j : Int) < i → cv1 l cs j = true
  sl := fun i => [(19, .int .i64 i)]
  hp := fun _ => []
  keep := [10000]
  me := fun i => (cs.length - i).toNat
set_option maxRecDepth 100000 in
theorem vc54 (l : List Nod) (n : Int) (cs : List Cnd) (hx : WfN l) : sCv.vc (EV Try.prog [(71, sChkP.spec), (72, sFFind.spec), (49, sSound.spec)] (invs [(4, inv54 l cs)]) noInv) Try.f54 ((l, n), cs, ()) := by
  have e : (WfN l ∧ ((!chkB l n) = Bool.false → (!chkB l n) = Bool.false) ∧ ((!chkB l n) = Bool.false → (!chkB l n) = Bool.false) ∧ ((!chkB l n) = Bool.false → (!chkB l n) = Bool.false) ∧ ((!chkB l n || Decidable.decide ((128 : Int) < (↑cs.length : Int))) = Bool.true → ∃ (y : Unit), True ∧ Bool.false = cvB l n cs) ∧ ((!chkB l n || Decidable.decide ((128 : Int) < (↑cs.length : Int))) = Bool.false → (∃ (x : Int), ((0 : Int) ≤ x ∧ x ≤ (↑cs.length : Int) ∧ ∀ (j : Nat), (↑j : Int) < x → cv1 l cs j = Bool.true) ∧ (0 : Int) = x ∧ l = l ∧ n = n) ∧ ∀ (x : Int), ((0 : Int) ≤ x ∧ x ≤ (↑cs.length : Int) ∧ ∀ (j : Nat), (↑j : Int) < x → cv1 l cs j = Bool.true) → (Decidable.decide (x < (↑cs.length : Int)) = Bool.true → ((0 : Int) ≤ x ∧ x < (↑cs.length : Int)) ∧ l.length ≤ (9223372036854775807 : Nat) ∧ ((!hasB l (cs.getD x.toNat { proc := (0 : Int), group := (0 : Int), pages := (0 : Int), adj := (0 : Int) : Cnd }).group) = Bool.false → (!hasB l (cs.getD x.toNat { proc := (0 : Int), group := (0 : Int), pages := (0 : Int), adj := (0 : Int) : Cnd }).group) = Bool.false) ∧ ((!hasB l (cs.getD x.toNat { proc := (0 : Int), group := (0 : Int), pages := (0 : Int), adj := (0 : Int) : Cnd }).group) = Bool.false → (!hasB l (cs.getD x.toNat { proc := (0 : Int), group := (0 : Int), pages := (0 : Int), adj := (0 : Int) : Cnd }).group) = Bool.false) ∧ ((!hasB l (cs.getD x.toNat { proc := (0 : Int), group := (0 : Int), pages := (0 : Int), adj := (0 : Int) : Cnd }).group) = Bool.false → (!hasB l (cs.getD x.toNat { proc := (0 : Int), group := (0 : Int), pages := (0 : Int), adj := (0 : Int) : Cnd }).group) = Bool.false) ∧ ((!hasB l (cs.getD x.toNat { proc := (0 : Int), group := (0 : Int), pages := (0 : Int), adj := (0 : Int) : Cnd }).group || Decidable.decide ((cs.getD x.toNat { proc := (0 : Int), group := (0 : Int), pages := (0 : Int), adj := (0 : Int) : Cnd }).proc < (1 : Int))) = Bool.false → (!hasB l (cs.getD x.toNat { proc := (0 : Int), group := (0 : Int), pages := (0 : Int), adj := (0 : Int) : Cnd }).group || Decidable.decide ((cs.getD x.toNat { proc := (0 : Int), group := (0 : Int), pages := (0 : Int), adj := (0 : Int) : Cnd }).proc < (1 : Int))) = Bool.false) ∧ ((!hasB l (cs.getD x.toNat { proc := (0 : Int), group := (0 : Int), pages := (0 : Int), adj := (0 : Int) : Cnd }).group || Decidable.decide ((cs.getD x.toNat { proc := (0 : Int), group := (0 : Int), pages := (0 : Int), adj := (0 : Int) : Cnd }).proc < (1 : Int))) = Bool.false → (!hasB l (cs.getD x.toNat { proc := (0 : Int), group := (0 : Int), pages := (0 : Int), adj := (0 : Int) : Cnd }).group || Decidable.decide ((cs.getD x.toNat { proc := (0 : Int), group := (0 : Int), pages := (0 : Int), adj := (0 : Int) : Cnd }).proc < (1 : Int))) = Bool.false) ∧ ((!(!hasB l (cs.getD x.toNat { proc := (0 : Int), group := (0 : Int), pages := (0 : Int), adj := (0 : Int) : Cnd }).group || Decidable.decide ((cs.getD x.toNat { proc := (0 : Int), group := (0 : Int), pages := (0 : Int), adj := (0 : Int) : Cnd }).proc < (1 : Int))) && Decidable.decide ((0 : Int) < x)) = Bool.true → (!(!hasB l (cs.getD x.toNat { proc := (0 : Int), group := (0 : Int), pages := (0 : Int), adj := (0 : Int) : Cnd }).group || Decidable.decide ((cs.getD x.toNat { proc := (0 : Int), group := (0 : Int), pages := (0 : Int), adj := (0 : Int) : Cnd }).proc < (1 : Int))) && Decidable.decide ((0 : Int) < x)) = Bool.true) ∧ ((!(!hasB l (cs.getD x.toNat { proc := (0 : Int), group := (0 : Int), pages := (0 : Int), adj := (0 : Int) : Cnd }).group || Decidable.decide ((cs.getD x.toNat { proc := (0 : Int), group := (0 : Int), pages := (0 : Int), adj := (0 : Int) : Cnd }).proc < (1 : Int))) && Decidable.decide ((0 : Int) < x)) = Bool.true → (!(!hasB l (cs.getD x.toNat { proc := (0 : Int), group := (0 : Int), pages := (0 : Int), adj := (0 : Int) : Cnd }).group || Decidable.decide ((cs.getD x.toNat { proc := (0 : Int), group := (0 : Int), pages := (0 : Int), adj := (0 : Int) : Cnd }).proc < (1 : Int))) && Decidable.decide ((0 : Int) < x)) = Bool.true) ∧ ((!(!hasB l (cs.getD x.toNat { proc := (0 : Int), group := (0 : Int), pages := (0 : Int), adj := (0 : Int) : Cnd }).group || Decidable.decide ((cs.getD x.toNat { proc := (0 : Int), group := (0 : Int), pages := (0 : Int), adj := (0 : Int) : Cnd }).proc < (1 : Int))) && Decidable.decide ((0 : Int) < x)) = Bool.true → i64R (x - (1 : Int))) ∧ ((!(!hasB l (cs.getD x.toNat { proc := (0 : Int), group := (0 : Int), pages := (0 : Int), adj := (0 : Int) : Cnd }).group || Decidable.decide ((cs.getD x.toNat { proc := (0 : Int), group := (0 : Int), pages := (0 : Int), adj := (0 : Int) : Cnd }).proc < (1 : Int))) && Decidable.decide ((0 : Int) < x)) = Bool.true → (!(!hasB l (cs.getD x.toNat { proc := (0 : Int), group := (0 : Int), pages := (0 : Int), adj := (0 : Int) : Cnd }).group || Decidable.decide ((cs.getD x.toNat { proc := (0 : Int), group := (0 : Int), pages := (0 : Int), adj := (0 : Int) : Cnd }).proc < (1 : Int))) && Decidable.decide ((0 : Int) < x)) = Bool.true) ∧ ((!(!hasB l (cs.getD x.toNat { proc := (0 : Int), group := (0 : Int), pages := (0 : Int), adj := (0 : Int) : Cnd }).group || Decidable.decide ((cs.getD x.toNat { proc := (0 : Int), group := (0 : Int), pages := (0 : Int), adj := (0 : Int) : Cnd }).proc < (1 : Int))) && Decidable.decide ((0 : Int) < x)) = Bool.true → (!(!hasB l (cs.getD x.toNat { proc := (0 : Int), group := (0 : Int), pages := (0 : Int), adj := (0 : Int) : Cnd }).group || Decidable.decide ((cs.getD x.toNat { proc := (0 : Int), group := (0 : Int), pages := (0 : Int), adj := (0 : Int) : Cnd }).proc < (1 : Int))) && Decidable.decide ((0 : Int) < x)) = Bool.true) ∧ ((!(!hasB l (cs.getD x.toNat { proc := (0 : Int), group := (0 : Int), pages := (0 : Int), adj := (0 : Int) : Cnd }).group || Decidable.decide ((cs.getD x.toNat { proc := (0 : Int), group := (0 : Int), pages := (0 : Int), adj := (0 : Int) : Cnd }).proc < (1 : Int))) && Decidable.decide ((0 : Int) < x)) = Bool.true → (0 : Int) ≤ x - (1 : Int) ∧ x - (1 : Int) < (↑cs.length : Int)) ∧ ((!(!hasB l (cs.getD x.toNat { proc := (0 : Int), group := (0 : Int), pages := (0 : Int), adj := (0 : Int) : Cnd }).group || Decidable.decide ((cs.getD x.toNat { proc := (0 : Int), group := (0 : Int), pages := (0 : Int), adj := (0 : Int) : Cnd }).proc < (1 : Int))) && Decidable.decide ((0 : Int) < x)) = Bool.true → (!(!hasB l (cs.getD x.toNat { proc := (0 : Int), group := (0 : Int), pages := (0 : Int), adj := (0 : Int) : Cnd }).group || Decidable.decide ((cs.getD x.toNat { proc := (0 : Int), group := (0 : Int), pages := (0 : Int), adj := (0 : Int) : Cnd }).proc < (1 : Int))) && Decidable.decide ((0 : Int) < x)) = Bool.true) ∧ ((!(!hasB l (cs.getD x.toNat { proc := (0 : Int), group := (0 : Int), pages := (0 : Int), adj := (0 : Int) : Cnd }).group || Decidable.decide ((cs.getD x.toNat { proc := (0 : Int), group := (0 : Int), pages := (0 : Int), adj := (0 : Int) : Cnd }).proc < (1 : Int))) && Decidable.decide ((0 : Int) < x)) = Bool.true → (!(!hasB l (cs.getD x.toNat { proc := (0 : Int), group := (0 : Int), pages := (0 : Int), adj := (0 : Int) : Cnd }).group || Decidable.decide ((cs.getD x.toNat { proc := (0 : Int), group := (0 : Int), pages := (0 : Int), adj := (0 : Int) : Cnd }).proc < (1 : Int))) && Decidable.decide ((0 : Int) < x)) = Bool.true) ∧ ((!(!hasB l (cs.getD x.toNat { proc := (0 : Int), group := (0 : Int), pages := (0 : Int), adj := (0 : Int) : Cnd }).group || Decidable.decide ((cs.getD x.toNat { proc := (0 : Int), group := (0 : Int), pages := (0 : Int), adj := (0 : Int) : Cnd }).proc < (1 : Int))) && Decidable.decide ((0 : Int) < x)) = Bool.true → (!(!hasB l (cs.getD x.toNat { proc := (0 : Int), group := (0 : Int), pages := (0 : Int), adj := (0 : Int) : Cnd }).group || Decidable.decide ((cs.getD x.toNat { proc := (0 : Int), group := (0 : Int), pages := (0 : Int), adj := (0 : Int) : Cnd }).proc < (1 : Int))) && Decidable.decide ((0 : Int) < x)) = Bool.true) ∧ ((!(!hasB l (cs.getD x.toNat { proc := (0 : Int), group := (0 : Int), pages := (0 : Int), adj := (0 : Int) : Cnd }).group || Decidable.decide ((cs.getD x.toNat { proc := (0 : Int), group := (0 : Int), pages := (0 : Int), adj := (0 : Int) : Cnd }).proc < (1 : Int))) && Decidable.decide ((0 : Int) < x)) = Bool.true → (!(!hasB l (cs.getD x.toNat { proc := (0 : Int), group := (0 : Int), pages := (0 : Int), adj := (0 : Int) : Cnd }).group || Decidable.decide ((cs.getD x.toNat { proc := (0 : Int), group := (0 : Int), pages := (0 : Int), adj := (0 : Int) : Cnd }).proc < (1 : Int))) && Decidable.decide ((0 : Int) < x)) = Bool.true) ∧ ((!hasB l (cs.getD x.toNat { proc := (0 : Int), group := (0 : Int), pages := (0 : Int), adj := (0 : Int) : Cnd }).group || Decidable.decide ((cs.getD x.toNat { proc := (0 : Int), group := (0 : Int), pages := (0 : Int), adj := (0 : Int) : Cnd }).proc < (1 : Int))) = Bool.false → (!hasB l (cs.getD x.toNat { proc := (0 : Int), group := (0 : Int), pages := (0 : Int), adj := (0 : Int) : Cnd }).group || Decidable.decide ((cs.getD x.toNat { proc := (0 : Int), group := (0 : Int), pages := (0 : Int), adj := (0 : Int) : Cnd }).proc < (1 : Int))) = Bool.false) ∧ ((!hasB l (cs.getD x.toNat { proc := (0 : Int), group := (0 : Int), pages := (0 : Int), adj := (0 : Int) : Cnd }).group || Decidable.decide ((cs.getD x.toNat { proc := (0 : Int), group := (0 : Int), pages := (0 : Int), adj := (0 : Int) : Cnd }).proc < (1 : Int))) = Bool.false → Decidable.decide ((0 : Int) < x) = Bool.true → (!(!hasB l (cs.getD x.toNat { proc := (0 : Int), group := (0 : Int), pages := (0 : Int), adj := (0 : Int) : Cnd }).group || Decidable.decide ((cs.getD x.toNat { proc := (0 : Int), group := (0 : Int), pages := (0 : Int), adj := (0 : Int) : Cnd }).proc < (1 : Int))) && Decidable.decide ((0 : Int) < x)) = Bool.true) ∧ ((!hasB l (cs.getD x.toNat { proc := (0 : Int), group := (0 : Int), pages := (0 : Int), adj := (0 : Int) : Cnd }).group || Decidable.decide ((cs.getD x.toNat { proc := (0 : Int), group := (0 : Int), pages := (0 : Int), adj := (0 : Int) : Cnd }).proc < (1 : Int))) = Bool.false → (!hasB l (cs.getD x.toNat { proc := (0 : Int), group := (0 : Int), pages := (0 : Int), adj := (0 : Int) : Cnd }).group || Decidable.decide ((cs.getD x.toNat { proc := (0 : Int), group := (0 : Int), pages := (0 : Int), adj := (0 : Int) : Cnd }).proc < (1 : Int))) = Bool.false) ∧ ((!hasB l (cs.getD x.toNat { proc := (0 : Int), group := (0 : Int), pages := (0 : Int), adj := (0 : Int) : Cnd }).group || Decidable.decide ((cs.getD x.toNat { proc := (0 : Int), group := (0 : Int), pages := (0 : Int), adj := (0 : Int) : Cnd }).proc < (1 : Int)) || Decidable.decide ((0 : Int) < x) && Decidable.decide ((cs.getD x.toNat { proc := (0 : Int), group := (0 : Int), pages := (0 : Int), adj := (0 : Int) : Cnd }).proc ≤ (cs.getD (x - (1 : Int)).toNat { proc := (0 : Int), group := (0 : Int), pages := (0 : Int), adj := (0 : Int) : Cnd }).proc)) = Bool.false → (!hasB l (cs.getD x.toNat { proc := (0 : Int), group := (0 : Int), pages := (0 : Int), adj := (0 : Int) : Cnd }).group || Decidable.decide ((cs.getD x.toNat { proc := (0 : Int), group := (0 : Int), pages := (0 : Int), adj := (0 : Int) : Cnd }).proc < (1 : Int)) || Decidable.decide ((0 : Int) < x) && Decidable.decide ((cs.getD x.toNat { proc := (0 : Int), group := (0 : Int), pages := (0 : Int), adj := (0 : Int) : Cnd }).proc ≤ (cs.getD (x - (1 : Int)).toNat { proc := (0 : Int), group := (0 : Int), pages := (0 : Int), adj := (0 : Int) : Cnd }).proc)) = Bool.false) ∧ ((!hasB l (cs.getD x.toNat { proc := (0 : Int), group := (0 : Int), pages := (0 : Int), adj := (0 : Int) : Cnd }).group || Decidable.decide ((cs.getD x.toNat { proc := (0 : Int), group := (0 : Int), pages := (0 : Int), adj := (0 : Int) : Cnd }).proc < (1 : Int)) || Decidable.decide ((0 : Int) < x) && Decidable.decide ((cs.getD x.toNat { proc := (0 : Int), group := (0 : Int), pages := (0 : Int), adj := (0 : Int) : Cnd }).proc ≤ (cs.getD (x - (1 : Int)).toNat { proc := (0 : Int), group := (0 : Int), pages := (0 : Int), adj := (0 : Int) : Cnd }).proc)) = Bool.false → True) ∧ ((!hasB l (cs.getD x.toNat { proc := (0 : Int), group := (0 : Int), pages := (0 : Int), adj := (0 : Int) : Cnd }).group || Decidable.decide ((cs.getD x.toNat { proc := (0 : Int), group := (0 : Int), pages := (0 : Int), adj := (0 : Int) : Cnd }).proc < (1 : Int)) || Decidable.decide ((0 : Int) < x) && Decidable.decide ((cs.getD x.toNat { proc := (0 : Int), group := (0 : Int), pages := (0 : Int), adj := (0 : Int) : Cnd }).proc ≤ (cs.getD (x - (1 : Int)).toNat { proc := (0 : Int), group := (0 : Int), pages := (0 : Int), adj := (0 : Int) : Cnd }).proc)) = Bool.false → (!hasB l (cs.getD x.toNat { proc := (0 : Int), group := (0 : Int), pages := (0 : Int), adj := (0 : Int) : Cnd }).group || Decidable.decide ((cs.getD x.toNat { proc := (0 : Int), group := (0 : Int), pages := (0 : Int), adj := (0 : Int) : Cnd }).proc < (1 : Int)) || Decidable.decide ((0 : Int) < x) && Decidable.decide ((cs.getD x.toNat { proc := (0 : Int), group := (0 : Int), pages := (0 : Int), adj := (0 : Int) : Cnd }).proc ≤ (cs.getD (x - (1 : Int)).toNat { proc := (0 : Int), group := (0 : Int), pages := (0 : Int), adj := (0 : Int) : Cnd }).proc)) = Bool.false) ∧ ((!hasB l (cs.getD x.toNat { proc := (0 : Int), group := (0 : Int), pages := (0 : Int), adj := (0 : Int) : Cnd }).group || Decidable.decide ((cs.getD x.toNat { proc := (0 : Int), group := (0 : Int), pages := (0 : Int), adj := (0 : Int) : Cnd }).proc < (1 : Int)) || Decidable.decide ((0 : Int) < x) && Decidable.decide ((cs.getD x.toNat { proc := (0 : Int), group := (0 : Int), pages := (0 : Int), adj := (0 : Int) : Cnd }).proc ≤ (cs.getD (x - (1 : Int)).toNat { proc := (0 : Int), group := (0 : Int), pages := (0 : Int), adj := (0 : Int) : Cnd }).proc)) = Bool.false → (!hasB l (cs.getD x.toNat { proc := (0 : Int), group := (0 : Int), pages := (0 : Int), adj := (0 : Int) : Cnd }).group || Decidable.decide ((cs.getD x.toNat { proc := (0 : Int), group := (0 : Int), pages := (0 : Int), adj := (0 : Int) : Cnd }).proc < (1 : Int)) || Decidable.decide ((0 : Int) < x) && Decidable.decide ((cs.getD x.toNat { proc := (0 : Int), group := (0 : Int), pages := (0 : Int), adj := (0 : Int) : Cnd }).proc ≤ (cs.getD (x - (1 : Int)).toNat { proc := (0 : Int), group := (0 : Int), pages := (0 : Int), adj := (0 : Int) : Cnd }).proc)) = Bool.false) ∧ ((!hasB l (cs.getD x.toNat { proc := (0 : Int), group := (0 : Int), pages := (0 : Int), adj := (0 : Int) : Cnd }).group || Decidable.decide ((cs.getD x.toNat { proc := (0 : Int), group := (0 : Int), pages := (0 : Int), adj := (0 : Int) : Cnd }).proc < (1 : Int)) || Decidable.decide ((0 : Int) < x) && Decidable.decide ((cs.getD x.toNat { proc := (0 : Int), group := (0 : Int), pages := (0 : Int), adj := (0 : Int) : Cnd }).proc ≤ (cs.getD (x - (1 : Int)).toNat { proc := (0 : Int), group := (0 : Int), pages := (0 : Int), adj := (0 : Int) : Cnd }).proc) || !soundB (cs.getD x.toNat { proc := (0 : Int), group := (0 : Int), pages := (0 : Int), adj := (0 : Int) : Cnd })) = Bool.true → ∃ (y : Unit), True ∧ Bool.false = cvB l n cs) ∧ ((!hasB l (cs.getD x.toNat { proc := (0 : Int), group := (0 : Int), pages := (0 : Int), adj := (0 : Int) : Cnd }).group || Decidable.decide ((cs.getD x.toNat { proc := (0 : Int), group := (0 : Int), pages := (0 : Int), adj := (0 : Int) : Cnd }).proc < (1 : Int)) || Decidable.decide ((0 : Int) < x) && Decidable.decide ((cs.getD x.toNat { proc := (0 : Int), group := (0 : Int), pages := (0 : Int), adj := (0 : Int) : Cnd }).proc ≤ (cs.getD (x - (1 : Int)).toNat { proc := (0 : Int), group := (0 : Int), pages := (0 : Int), adj := (0 : Int) : Cnd }).proc) || !soundB (cs.getD x.toNat { proc := (0 : Int), group := (0 : Int), pages := (0 : Int), adj := (0 : Int) : Cnd })) = Bool.false → i64R (x + (1 : Int)) ∧ ∃ (x' : Int), ((0 : Int) ≤ x' ∧ x' ≤ (↑cs.length : Int) ∧ ∀ (j : Nat), (↑j : Int) < x' → cv1 l cs j = Bool.true) ∧ ((↑cs.length : Int) - x').toNat < ((↑cs.length : Int) - x).toNat ∧ x + (1 : Int) = x' ∧ l = l ∧ n = n)) ∧ (Decidable.decide (x < (↑cs.length : Int)) = Bool.false → ∃ (y : Unit), True ∧ Bool.true = cvB l n cs))) = sCv.vc (EV Try.prog [(71, sChkP.spec), (72, sFFind.spec), (49, sSound.spec)] (invs [(4, inv54 l cs)]) noInv) Try.f54 ((l, n), cs, ()) := by kernel_rfl
  rw [← e]
  clear e
  simp only [imp_self, true_and, and_true, exists_const, implies_true, gd1, gd2, gd3, gd4, gd5, gd6, NilL_eq ]
  simp only [cn_fold]
  have no : ∀ {P : Prop}, (cvB l n cs = true → P) → ¬ P → false = cvB l n cs := fun h1 h2 => by
    cases e : cvB l n cs
    · rfl
    · exact absurd (h1 e) h2
  refine ⟨hx, fun h => ?_, fun h => ?_⟩
  · simp only [Bool.or_eq_true, Bool.not_eq_true', decide_eq_true_eq] at h
    rcases h with h | h
    · exact no (fun hh => (cvB_all.1 hh).1) (by rw [h]; simp)
    · exact no (fun hh => (cvB_all.1 hh).2.1) (by omega)
  · simp only [Bool.or_eq_false_iff, Bool.not_eq_false', decide_eq_false_iff_not] at h
    refine ⟨⟨0, ⟨by omega, by omega, fun j hj => by omega⟩, rfl⟩, fun x hi => ⟨fun hlt0 => ?_, fun hge0 => ?_⟩⟩
    · have hlt : x < cs.length := of_decide_eq_true hlt0
      have hl := (chkB_iff.1 h.1).len2
      have hc : cv1 l cs x.toNat = !(!hasB l (cn cs x.toNat).group || decide ((cn cs x.toNat).proc < 1) || decide (0 < x) && decide ((cn cs x.toNat).proc ≤ (cn cs (x - 1).toNat).proc) || !soundB (cn cs x.toNat)) := by
        unfold cv1
        have e1 : (x - 1).toNat = x.toNat - 1 := by omega
        rw [e1, Bool.eq_iff_iff]
        simp only [Bool.and_eq_true, Bool.or_eq_true, Bool.not_eq_true', Bool.or_eq_false_iff, Bool.and_eq_false_iff, decide_eq_true_eq, decide_eq_false_iff_not, Bool.not_eq_false']
        constructor
        · rintro ⟨⟨⟨h1, h2⟩, h3⟩, h4⟩
          exact ⟨⟨⟨h1, by omega⟩, by omega⟩, h4⟩
        · rintro ⟨⟨⟨h1, h2⟩, h3⟩, h4⟩
          exact ⟨⟨⟨h1, by omega⟩, by omega⟩, h4⟩
      refine ⟨by omega, by omega, fun _ => by simp only [i64R]; omega, fun hb => ?_, fun hb => ?_, fun hb => ⟨by simp only [i64R]; omega, x + 1, ⟨by omega, by omega, fun j hj => ?_⟩, by omega, rfl⟩⟩
      · simp only [Bool.and_eq_true] at hb
        have : 0 < x := of_decide_eq_true hb.2
        omega
      · have hb2 : cv1 l cs x.toNat = false := by rw [hc]; exact congrArg (!·) hb
        exact no (fun hh => (cvB_all.1 hh).2.2 x.toNat (by omega)) (by rw [hb2]; simp)
      · have hb2 : cv1 l cs x.toNat = true := by rw [hc]; exact congrArg (!·) hb
        by_cases e : (j : Int) < x
        · exact hi.2.2 j e
        · have : j = x.toNat := by omega
          rw [this]; exact hb2
    · have hge : ¬ x < cs.length := of_decide_eq_false hge0
      symm
      exact cvB_all.2 ⟨h.1, by omega, fun i hi2 => hi.2.2 i (by omega)⟩

def inv59 (l : List Nod) (cs : List Cnd) (g : Int) (s : St) : Inv where
  X := Int
  ok := fun i => 0 ≤ i ∧ i ≤ cs.length
  sl := fun i => [(16, .int .i64 i), (8, .own 101 4), (7, .own 103 0)]
  hp := fun i => [(101, .rows 40 4 (withL l (cs.take i.toNat) g)), (103, .rows 3 0 (contI s (s.t 7)))]
  keep := [10000]
  me := fun i => (cs.length - i).toNat
set_option maxRecDepth 100000 in
theorem vc59 (l : List Nod) (n : Int) (cs : List Cnd) (g : Int) (hx : ChkP l n ∧ cs.length ≤ 128) : sWith.vc (EV Try.prog [(74, sFSub.spec), (57, sHasI.spec)] (invsS [(4, inv59 l cs g)]) noInv) Try.f59 ((l, n), cs, g, ()) := by
  have e : (ChkP l n ∧ (∀ (y : List Int), Bool.true = Bool.true) ∧ ∀ (y : List Int), Sub l g y → (∃ (x : Int), ((0 : Int) ≤ x ∧ x ≤ (↑cs.length : Int)) ∧ (0 : Int) = x ∧ NilL Cnd = withL l (List.take x.toNat cs) g ∧ y = y ∧ l = l ∧ n = n) ∧ ∀ (x : Int), (0 : Int) ≤ x ∧ x ≤ (↑cs.length : Int) → (Decidable.decide (x < (↑cs.length : Int)) = Bool.true → ((0 : Int) ≤ x ∧ x < (↑cs.length : Int)) ∧ ((!Decidable.decide ((cs.getD x.toNat { proc := (0 : Int), group := (0 : Int), pages := (0 : Int), adj := (0 : Int) : Cnd }).adj = (-1000 : Int))) = Bool.true → (!Decidable.decide ((cs.getD x.toNat { proc := (0 : Int), group := (0 : Int), pages := (0 : Int), adj := (0 : Int) : Cnd }).adj = (-1000 : Int))) = Bool.true) ∧ ((!Decidable.decide ((cs.getD x.toNat { proc := (0 : Int), group := (0 : Int), pages := (0 : Int), adj := (0 : Int) : Cnd }).adj = (-1000 : Int))) = Bool.true → (!Decidable.decide ((cs.getD x.toNat { proc := (0 : Int), group := (0 : Int), pages := (0 : Int), adj := (0 : Int) : Cnd }).adj = (-1000 : Int))) = Bool.true) ∧ ((!Decidable.decide ((cs.getD x.toNat { proc := (0 : Int), group := (0 : Int), pages := (0 : Int), adj := (0 : Int) : Cnd }).adj = (-1000 : Int))) = Bool.true → (!Decidable.decide ((cs.getD x.toNat { proc := (0 : Int), group := (0 : Int), pages := (0 : Int), adj := (0 : Int) : Cnd }).adj = (-1000 : Int))) = Bool.true) ∧ ((!Decidable.decide ((cs.getD x.toNat { proc := (0 : Int), group := (0 : Int), pages := (0 : Int), adj := (0 : Int) : Cnd }).adj = (-1000 : Int))) = Bool.true → y.length ≤ (9223372036854775807 : Nat)) ∧ ((!Decidable.decide ((cs.getD x.toNat { proc := (0 : Int), group := (0 : Int), pages := (0 : Int), adj := (0 : Int) : Cnd }).adj = (-1000 : Int))) = Bool.true → (!Decidable.decide ((cs.getD x.toNat { proc := (0 : Int), group := (0 : Int), pages := (0 : Int), adj := (0 : Int) : Cnd }).adj = (-1000 : Int))) = Bool.true) ∧ ((!Decidable.decide ((cs.getD x.toNat { proc := (0 : Int), group := (0 : Int), pages := (0 : Int), adj := (0 : Int) : Cnd }).adj = (-1000 : Int)) && memB y (cs.getD x.toNat { proc := (0 : Int), group := (0 : Int), pages := (0 : Int), adj := (0 : Int) : Cnd }).group) = Bool.true → (withL l (List.take x.toNat cs) g).length + (cs.getD x.toNat { proc := (0 : Int), group := (0 : Int), pages := (0 : Int), adj := (0 : Int) : Cnd } :: NilL Cnd).length ≤ (68719476736 : Nat) ∧ i64R (x + (1 : Int)) ∧ ∃ (x' : Int), ((0 : Int) ≤ x' ∧ x' ≤ (↑cs.length : Int)) ∧ ((↑cs.length : Int) - x').toNat < ((↑cs.length : Int) - x).toNat ∧ x + (1 : Int) = x' ∧ withL l (List.take x.toNat cs) g ++ cs.getD x.toNat { proc := (0 : Int), group := (0 : Int), pages := (0 : Int), adj := (0 : Int) : Cnd } :: NilL Cnd = withL l (List.take x'.toNat cs) g ∧ y = y ∧ l = l ∧ n = n) ∧ ((!Decidable.decide ((cs.getD x.toNat { proc := (0 : Int), group := (0 : Int), pages := (0 : Int), adj := (0 : Int) : Cnd }).adj = (-1000 : Int)) && memB y (cs.getD x.toNat { proc := (0 : Int), group := (0 : Int), pages := (0 : Int), adj := (0 : Int) : Cnd }).group) = Bool.false → i64R (x + (1 : Int)) ∧ ∃ (x' : Int), ((0 : Int) ≤ x' ∧ x' ≤ (↑cs.length : Int)) ∧ ((↑cs.length : Int) - x').toNat < ((↑cs.length : Int) - x).toNat ∧ x + (1 : Int) = x' ∧ withL l (List.take x.toNat cs) g = withL l (List.take x'.toNat cs) g ∧ y = y ∧ l = l ∧ n = n)) ∧ (Decidable.decide (x < (↑cs.length : Int)) = Bool.false → ∃ (y : Unit), True ∧ withL l (List.take x.toNat cs) g = withL l cs g)) = sWith.vc (EV Try.prog [(74, sFSub.spec), (57, sHasI.spec)] (invsS [(4, inv59 l cs g)]) noInv) Try.f59 ((l, n), cs, g, ()) := by kernel_rfl
  rw [← e]
  clear e
  simp only [imp_self, true_and, and_true, exists_const, implies_true, gd1, gd2, gd3, gd4, gd5, gd6, NilL_eq ]
  simp only [Prod.forall, Prod.exists, exists_const, implies_true, not_true_eq_false, not_false_eq_true, or_self, or_false, false_or, or_true, true_or, and_false, false_and, forall_const, true_and, and_true, i64R, imp_self, Int.reduceLE, Int.reduceLT, Int.reduceNeg, false_implies, true_implies, decide_eq_true_eq, decide_eq_false_iff_not, Bool.not_eq_true', Bool.not_eq_false', Bool.true_eq_false, Bool.false_eq_true, Bool.and_eq_true, Bool.or_eq_true, NilL_eq, Bool.and_eq_false_iff, Bool.or_eq_false_iff ]
  simp only [cn_fold]
  obtain ⟨hc, hl⟩ := hx
  refine ⟨hc, fun y hy => ⟨⟨0, by omega, rfl, by simp [withL]⟩, fun x hi => ⟨fun hlt => ⟨by omega, fun _ => ?_, fun hm => ⟨?_, by omega, x + 1, by omega, by omega, rfl, ?_⟩, fun hm => ⟨by omega, x + 1, by omega, by omega, rfl, ?_⟩⟩, fun hge => by rw [List.take_of_length_le (by omega)]⟩⟩⟩
  · have h1 : y ⊆ ids l := fun g' hg => by
      have h2 := (hy.2 g').1 hg
      by_cases c : g' ∈ ids l
      · exact c
      · rw [upT_none c] at h2; cases h2
    have := nodup_le hy.1 h1
    have h3 := hc.len2
    simp only [ids, List.length_map] at this
    omega
  · have h1 := List.length_filter_le (mayB l g) (cs.take x.toNat)
    simp only [List.length_take] at h1
    unfold withL
    simp only [List.length_cons, List.length_nil]; omega
  all_goals have e : (x + 1).toNat = x.toNat + 1 := by omega
  all_goals rw [e, withL_take (by omega)]
  all_goals have em : memB y (cn cs x.toNat).group = memB (upT l (cn cs x.toNat).group) g := Bool.eq_iff_iff.2 (memB_iff.trans ((hy.2 _).trans memB_iff.symm))
  · rw [em] at hm
    have : mayB l g (cn cs x.toNat) = true := by unfold mayB; rw [hm.2]; simp [hm.1]
    rw [if_pos this]
  · rw [em] at hm
    have : mayB l g (cn cs x.toNat) = false := by
      unfold mayB
      rcases hm with h | h
      · simp [h]
      · simp [h]
    rw [this]; simp


set_option maxRecDepth 100000 in
theorem vc81 (a b : Cnd) (t : Int) (hx : (SoundC a ∧ SoundC b) ∧ 0 ≤ t ∧ t ≤ 16777216) : sDiff.vc (EV Try.prog [(50, sScoreI.spec)] noInv noInv) Try.f81 (a, b, t, ()) := by
  have e : ((SoundC a ∧ (0 : Int) ≤ t ∧ t ≤ (16777216 : Int)) ∧ (SoundC b ∧ (0 : Int) ≤ t ∧ t ≤ (16777216 : Int)) ∧ i64R (scoreI a t - scoreI b t) ∧ ∃ (y : Unit), True ∧ scoreI a t - scoreI b t = scoreI a t - scoreI b t) = sDiff.vc (EV Try.prog [(50, sScoreI.spec)] noInv noInv) Try.f81 (a, b, t, ()) := by kernel_rfl
  rw [← e]
  clear e
  simp only [imp_self, true_and, and_true, exists_const, implies_true, gd1, gd2, gd3, gd4, gd5, gd6, NilL_eq ]
  have h1 := (score_in hx.1.1 hx.2.1 hx.2.2).2
  have h2 := (score_in hx.1.2 hx.2.1 hx.2.2).2
  refine ⟨⟨hx.1.1, hx.2⟩, ⟨hx.1.2, hx.2⟩, by simp only [i64R]; omega⟩

def inv80 (cs : List Cnd) (t : Int) : Inv where
  X := Int
  ok := fun i => 1 ≤ i ∧ i ≤ cs.length
  sl := fun i => [(6, .int .i64 i)]
  hp := fun i => [(40030, .cells 40 [.int .i64 (mx cs t (i - 1).toNat).proc, .int .i64 (mx cs t (i - 1).toNat).group, .int .i64 (mx cs t (i - 1).toNat).pages, .int .i64 (mx cs t (i - 1).toNat).adj])]
  keep := [10000]
  me := fun i => (cs.length - i).toNat
set_option maxRecDepth 100000 in
theorem vc80 (cs : List Cnd) (t : Int) (hx : (1 ≤ cs.length ∧ cs.length ≤ 128 ∧ ∀ i, i < cs.length → SoundC (cn cs i)) ∧ 0 ≤ t ∧ t ≤ 16777216) : sMaxC.vc (EV Try.prog [(81, sDiff.spec)] (invs [(5, inv80 cs t)]) noInv) Try.f80 (cs, t, ()) := by
  have e : ((Decidable.decide ((↑cs.length : Int) < (1 : Int)) = Bool.true → "op" = "" ∧ False) ∧ (Decidable.decide ((↑cs.length : Int) < (1 : Int)) = Bool.false → ((0 : Int) ≤ (0 : Int) ∧ (0 : Int) < (↑cs.length : Int)) ∧ (∃ (x : Int), ((1 : Int) ≤ x ∧ x ≤ (↑cs.length : Int)) ∧ (1 : Int) = x ∧ (cs.getD (Int.toNat (0 : Int)) { proc := (0 : Int), group := (0 : Int), pages := (0 : Int), adj := (0 : Int) : Cnd }).proc = (mx cs t (x - (1 : Int)).toNat).proc ∧ (cs.getD (Int.toNat (0 : Int)) { proc := (0 : Int), group := (0 : Int), pages := (0 : Int), adj := (0 : Int) : Cnd }).group = (mx cs t (x - (1 : Int)).toNat).group ∧ (cs.getD (Int.toNat (0 : Int)) { proc := (0 : Int), group := (0 : Int), pages := (0 : Int), adj := (0 : Int) : Cnd }).pages = (mx cs t (x - (1 : Int)).toNat).pages ∧ (cs.getD (Int.toNat (0 : Int)) { proc := (0 : Int), group := (0 : Int), pages := (0 : Int), adj := (0 : Int) : Cnd }).adj = (mx cs t (x - (1 : Int)).toNat).adj ∧ (0 : Int) = (0 : Int) ∧ (0 : Int) = (0 : Int) ∧ (0 : Int) = (0 : Int) ∧ (0 : Int) = (0 : Int)) ∧ ∀ (x : Int), (1 : Int) ≤ x ∧ x ≤ (↑cs.length : Int) → (Decidable.decide (x < (↑cs.length : Int)) = Bool.true → ((0 : Int) ≤ x ∧ x < (↑cs.length : Int)) ∧ ((SoundC (cs.getD x.toNat { proc := (0 : Int), group := (0 : Int), pages := (0 : Int), adj := (0 : Int) : Cnd }) ∧ SoundC (mx cs t (x - (1 : Int)).toNat)) ∧ (0 : Int) ≤ t ∧ t ≤ (16777216 : Int)) ∧ (Decidable.decide ((0 : Int) < scoreI (cs.getD x.toNat { proc := (0 : Int), group := (0 : Int), pages := (0 : Int), adj := (0 : Int) : Cnd }) t - scoreI (mx cs t (x - (1 : Int)).toNat) t) = Bool.true → ((0 : Int) ≤ x ∧ x < (↑cs.length : Int)) ∧ i64R (x + (1 : Int)) ∧ ∃ (x' : Int), ((1 : Int) ≤ x' ∧ x' ≤ (↑cs.length : Int)) ∧ ((↑cs.length : Int) - x').toNat < ((↑cs.length : Int) - x).toNat ∧ x + (1 : Int) = x' ∧ (cs.getD x.toNat { proc := (0 : Int), group := (0 : Int), pages := (0 : Int), adj := (0 : Int) : Cnd }).proc = (mx cs t (x' - (1 : Int)).toNat).proc ∧ (cs.getD x.toNat { proc := (0 : Int), group := (0 : Int), pages := (0 : Int), adj := (0 : Int) : Cnd }).group = (mx cs t (x' - (1 : Int)).toNat).group ∧ (cs.getD x.toNat { proc := (0 : Int), group := (0 : Int), pages := (0 : Int), adj := (0 : Int) : Cnd }).pages = (mx cs t (x' - (1 : Int)).toNat).pages ∧ (cs.getD x.toNat { proc := (0 : Int), group := (0 : Int), pages := (0 : Int), adj := (0 : Int) : Cnd }).adj = (mx cs t (x' - (1 : Int)).toNat).adj ∧ (0 : Int) = (0 : Int) ∧ (0 : Int) = (0 : Int) ∧ (0 : Int) = (0 : Int) ∧ (0 : Int) = (0 : Int)) ∧ (Decidable.decide ((0 : Int) < scoreI (cs.getD x.toNat { proc := (0 : Int), group := (0 : Int), pages := (0 : Int), adj := (0 : Int) : Cnd }) t - scoreI (mx cs t (x - (1 : Int)).toNat) t) = Bool.false → i64R (x + (1 : Int)) ∧ ∃ (x' : Int), ((1 : Int) ≤ x' ∧ x' ≤ (↑cs.length : Int)) ∧ ((↑cs.length : Int) - x').toNat < ((↑cs.length : Int) - x).toNat ∧ x + (1 : Int) = x' ∧ (mx cs t (x - (1 : Int)).toNat).proc = (mx cs t (x' - (1 : Int)).toNat).proc ∧ (mx cs t (x - (1 : Int)).toNat).group = (mx cs t (x' - (1 : Int)).toNat).group ∧ (mx cs t (x - (1 : Int)).toNat).pages = (mx cs t (x' - (1 : Int)).toNat).pages ∧ (mx cs t (x - (1 : Int)).toNat).adj = (mx cs t (x' - (1 : Int)).toNat).adj ∧ (0 : Int) = (0 : Int) ∧ (0 : Int) = (0 : Int) ∧ (0 : Int) = (0 : Int) ∧ (0 : Int) = (0 : Int))) ∧ (Decidable.decide (x < (↑cs.length : Int)) = Bool.false → ∃ (y : Unit), True ∧ (mx cs t (x - (1 : Int)).toNat).proc = (maxC cs t).proc ∧ (mx cs t (x - (1 : Int)).toNat).group = (maxC cs t).group ∧ (mx cs t (x - (1 : Int)).toNat).pages = (maxC cs t).pages ∧ (mx cs t (x - (1 : Int)).toNat).adj = (maxC cs t).adj))) = sMaxC.vc (EV Try.prog [(81, sDiff.spec)] (invs [(5, inv80 cs t)]) noInv) Try.f80 (cs, t, ()) := by kernel_rfl
  rw [← e]
  clear e
  simp only [imp_self, true_and, and_true, exists_const, implies_true, gd1, gd2, gd3, gd4, gd5, gd6, NilL_eq ]
  simp only [Prod.forall, Prod.exists, exists_const, implies_true, not_true_eq_false, not_false_eq_true, or_self, or_false, false_or, or_true, true_or, and_false, false_and, forall_const, true_and, and_true, i64R, imp_self, Int.reduceLE, Int.reduceLT, Int.reduceNeg, false_implies, true_implies, decide_eq_true_eq, decide_eq_false_iff_not, Bool.not_eq_true', Bool.not_eq_false', Bool.true_eq_false, Bool.false_eq_true, Bool.and_eq_true, Bool.or_eq_true, NilL_eq, Bool.and_eq_false_iff, Bool.or_eq_false_iff ]
  simp only [cn_fold]
  obtain ⟨⟨l1, l2, hs⟩, t0, t1⟩ := hx
  have hmx : ∀ i, i < cs.length → SoundC (mx cs t i) := fun i => by
    induction i with
    | zero => exact fun h => hs 0 h
    | succ i ih =>
      intro h
      rw [mx]
      split
      · exact hs _ h
      · exact ih (by omega)
  have e0 : Int.toNat 0 = 0 := rfl
  refine ⟨fun h => by omega, fun _ => ⟨by omega, ⟨1, by omega, rfl, rfl, rfl, rfl, rfl⟩, fun x hi => ⟨fun hlt => ?_, fun hge => ?_⟩⟩⟩
  · have e : (x + 1 - 1).toNat = (x - 1).toNat + 1 := by omega
    have e2 : x.toNat = (x - 1).toNat + 1 := by omega
    refine ⟨by omega, ⟨⟨hs _ (by omega), hmx _ (by omega)⟩, t0, t1⟩, fun hb => ⟨by omega, by omega, x + 1, by omega, by omega, rfl, ?_⟩, fun hb => ⟨by omega, x + 1, by omega, by omega, rfl, ?_⟩⟩
    · have : mx cs t (x + 1 - 1).toNat = cn cs x.toNat := by rw [e, mx, ← e2, if_pos (by omega)]
      rw [this]; exact ⟨rfl, rfl, rfl, rfl⟩
    · have : mx cs t (x + 1 - 1).toNat = mx cs t (x - 1).toNat := by rw [e, mx, ← e2, if_neg (by omega)]
      rw [this]; exact ⟨rfl, rfl, rfl, rfl⟩
  · have : maxC cs t = mx cs t (x - 1).toNat := by
      unfold maxC
      congr 1; omega
    rw [this]; exact ⟨rfl, rfl, rfl, rfl⟩


set_option maxRecDepth 100000 in
theorem vc48 (l : List Nod) (n : Int) (cs : List Cnd) (g t : Int) (hx : WfN l) : sVic.vc (EV Try.prog [(54, sCv.spec), (72, sFFind.spec), (59, sWith.spec), (80, sMaxC.spec)] noInv noInv) Try.f48 ((l, n), cs, g, t, ()) := by
  have e : (WfN l ∧ ((!cvB l n cs) = Bool.true → ∃ (y : Unit), True ∧ (0 : Int) = (vicC l n cs g t).proc ∧ (0 : Int) = (vicC l n cs g t).group ∧ (0 : Int) = (vicC l n cs g t).pages ∧ (0 : Int) = (vicC l n cs g t).adj ∧ (1 : Int) = vicE l n cs g t) ∧ ((!cvB l n cs) = Bool.false → l.length ≤ (9223372036854775807 : Nat) ∧ ((!hasB l g) = Bool.true → ∃ (y : Unit), True ∧ (0 : Int) = (vicC l n cs g t).proc ∧ (0 : Int) = (vicC l n cs g t).group ∧ (0 : Int) = (vicC l n cs g t).pages ∧ (0 : Int) = (vicC l n cs g t).adj ∧ (4 : Int) = vicE l n cs g t) ∧ ((!hasB l g) = Bool.false → (Decidable.decide (t < (0 : Int)) = Bool.false → Decidable.decide (t < (0 : Int)) = Bool.false) ∧ (Decidable.decide (t < (0 : Int)) = Bool.false → Decidable.decide (t < (0 : Int)) = Bool.false) ∧ ((Decidable.decide (t < (0 : Int)) || Decidable.decide ((16777216 : Int) < t)) = Bool.true → ∃ (y : Unit), True ∧ (0 : Int) = (vicC l n cs g t).proc ∧ (0 : Int) = (vicC l n cs g t).group ∧ (0 : Int) = (vicC l n cs g t).pages ∧ (0 : Int) = (vicC l n cs g t).adj ∧ (3 : Int) = vicE l n cs g t) ∧ ((Decidable.decide (t < (0 : Int)) || Decidable.decide ((16777216 : Int) < t)) = Bool.false → (ChkP l n ∧ cs.length ≤ (128 : Nat)) ∧ (Decidable.decide ((↑(withL l cs g).length : Int) = (0 : Int)) = Bool.true → ∃ (y : Unit), True ∧ (0 : Int) = (vicC l n cs g t).proc ∧ (0 : Int) = (vicC l n cs g t).group ∧ (0 : Int) = (vicC l n cs g t).pages ∧ (0 : Int) = (vicC l n cs g t).adj ∧ (21 : Int) = vicE l n cs g t) ∧ (Decidable.decide ((↑(withL l cs g).length : Int) = (0 : Int)) = Bool.false → (((1 : Nat) ≤ (withL l cs g).length ∧ (withL l cs g).length ≤ (128 : Nat) ∧ ∀ (i : Nat), i < (withL l cs g).length → SoundC (cn (withL l cs g) i)) ∧ (0 : Int) ≤ t ∧ t ≤ (16777216 : Int)) ∧ ∃ (y : Unit), True ∧ (maxC (withL l cs g) t).proc = (vicC l n cs g t).proc ∧ (maxC (withL l cs g) t).group = (vicC l n cs g t).group ∧ (maxC (withL l cs g) t).pages = (vicC l n cs g t).pages ∧ (maxC (withL l cs g) t).adj = (vicC l n cs g t).adj ∧ (0 : Int) = vicE l n cs g t))))) = sVic.vc (EV Try.prog [(54, sCv.spec), (72, sFFind.spec), (59, sWith.spec), (80, sMaxC.spec)] noInv noInv) Try.f48 ((l, n), cs, g, t, ()) := by kernel_rfl
  rw [← e]
  clear e
  simp only [imp_self, true_and, and_true, exists_const, implies_true, gd1, gd2, gd3, gd4, gd5, gd6, NilL_eq ]
  simp only [Prod.forall, Prod.exists, exists_const, implies_true, not_true_eq_false, not_false_eq_true, or_self, or_false, false_or, or_true, true_or, and_false, false_and, forall_const, true_and, and_true, i64R, imp_self, Int.reduceLE, Int.reduceLT, Int.reduceNeg, false_implies, true_implies, decide_eq_true_eq, decide_eq_false_iff_not, Bool.not_eq_true', Bool.not_eq_false', Bool.true_eq_false, Bool.false_eq_true, Bool.and_eq_true, Bool.or_eq_true, NilL_eq, Bool.and_eq_false_iff, Bool.or_eq_false_iff ]
  have bad : ∀ k : Int, k ≠ 0 → vicE l n cs g t = k → 0 = (vicC l n cs g t).proc ∧ 0 = (vicC l n cs g t).group ∧ 0 = (vicC l n cs g t).pages ∧ 0 = (vicC l n cs g t).adj ∧ k = vicE l n cs g t := fun k hk h => by
    have : vicC l n cs g t = cz := by rw [vicC, if_neg (by rw [h]; exact hk)]
    rw [this, h]; exact ⟨rfl, rfl, rfl, rfl, rfl⟩
  refine ⟨hx, fun h => bad 1 (by omega) (by rw [vicE, if_pos h]), fun h => ?_⟩
  obtain ⟨hc, ho⟩ := cvB_iff.1 h
  have n1 : ¬ cvB l n cs = false := by rw [h]; simp
  refine ⟨hx.len, fun h2 => bad 4 (by omega) (by rw [vicE, if_neg n1, if_pos h2]), fun h2 => ?_⟩
  have n2 : ¬ hasB l g = false := by rw [h2]; simp
  refine ⟨fun h3 => bad 3 (by omega) (by rw [vicE, if_neg n1, if_neg n2, if_pos h3]), fun h3 => ⟨⟨hc, ho.len⟩, fun h4 => bad 21 (by omega) (by rw [vicE, if_neg n1, if_neg n2, if_neg (by omega), if_pos (by omega)]), fun h4 => ?_⟩⟩
  have e0 : vicE l n cs g t = 0 := by rw [vicE, if_neg n1, if_neg n2, if_neg (by omega), if_neg (by omega)]
  have hl := List.length_filter_le (mayB l g) cs
  refine ⟨⟨⟨by omega, by have := ho.len; unfold withL; omega, fun i hi => ho.snd_mem (withL_sub (cn_mem hi)).1⟩, by omega, by omega⟩, ?_⟩
  rw [e0]
  have : vicC l n cs g t = maxC (withL l cs g) t := by rw [vicC, if_pos e0]
  rw [this]; exact ⟨rfl, rfl, rfl, rfl, rfl⟩


set_option maxRecDepth 100000 in
theorem vc19 (l : List Nod) (n : Int) (cs : List Cnd) (g t : Int) (hx : WfN l) : sVicP.vc (EV Try.prog [(48, sVic.spec)] noInv noInv) Try.f19 ((l, n), cs, g, t, ()) := by
  have e : (WfN l ∧ ∃ (y : Unit), True ∧ (vicC l n cs g t).proc = (vicC l n cs g t).proc ∧ vicE l n cs g t = vicE l n cs g t) = sVicP.vc (EV Try.prog [(48, sVic.spec)] noInv noInv) Try.f19 ((l, n), cs, g, t, ()) := by kernel_rfl
  rw [← e]
  clear e
  simp only [imp_self, true_and, and_true, exists_const, implies_true, gd1, gd2, gd3, gd4, gd5, gd6, NilL_eq ]
  exact hx

def inv27a (l : List Nod) (n : Int) (cs : List Cnd) (tg : List Int) (g t : Int) : Inv where
  X := Int × Int
  ok := fun x => 0 ≤ x.1 ∧ x.1 ≤ (upT l (vicC l n cs g t).group).length ∧ walkG tg g ((upT l (vicC l n cs g t).group).drop x.1.toNat) x.2 = decG l n cs tg g t
  sl := fun x => [(42, .int .i64 x.1), (40, .own 103 0)]
  hp := fun x => [(50060, .cells 52 [.int .i64 (vicC l n cs g t).proc, .own 101 0, .int .i64 x.2]), (101, .rows 3 0 [(vicC l n cs g t).proc]), (103, .rows 3 0 (upT l (vicC l n cs g t).group))]
  keep := [10000, 10010, 20080]
  me := fun x => ((upT l (vicC l n cs g t).group).length - x.1).toNat
def inv27j (l : List Nod) (n : Int) (cs : List Cnd) (tg : List Int) (g t : Int) : Inv where
  X := Int
  ok := fun x => x = decG l n cs tg g t
  sl := fun x => []
  hp := fun x => [(50060, .cells 52 [.int .i64 (vicC l n cs g t).proc, .own 101 0, .int .i64 x]), (101, .rows 3 0 [(vicC l n cs g t).proc])]
  keep := [10000, 10010, 20080]
  me := fun x => 0
def inv27b (l : List Nod) (n : Int) (cs : List Cnd) (tg : List Int) (g t : Int) : Inv where
  X := Int
  ok := fun i => 0 ≤ i ∧ i ≤ (withL l cs (decG l n cs tg g t)).length
  sl := fun i => [(66, .int .i64 i), (64, .own 105 4)]
  hp := fun i => [(50060, .cells 52 [.int .i64 (vicC l n cs g t).proc, .own 107 0, .int .i64 (decG l n cs tg g t)]), (107, .rows 3 0 (((withL l cs (decG l n cs tg g t)).take i.toNat).map (·.proc))), (105, .rows 40 4 (withL l cs (decG l n cs tg g t)))]
  keep := [10000, 10010, 20080]
  me := fun i => ((withL l cs (decG l n cs tg g t)).length - i).toNat
set_option maxRecDepth 100000 in
theorem vc27 (l : List Nod) (n : Int) (cs : List Cnd) (tg : List Int) (g t : Int) (hx : WfN l ∧ tg.length ≤ 9223372036854775807) : sDec.vc (EV Try.prog [(48, sVic.spec), (58, sFAnc.spec), (57, sHasI.spec), (59, sWith.spec)] (invs [(6, inv27a l n cs tg g t), (16, inv27b l n cs tg g t)]) (invs [(12, inv27j l n cs tg g t)])) Try.f27 ((l, n), cs, tg, g, t, ()) := by
  have e : (WfN l ∧ ((!Decidable.decide (vicE l n cs g t = (0 : Int))) = Bool.true → ∃ (y : Unit), True ∧ (0 : Int) = (vicC l n cs g t).proc ∧ (0 : Int) = decG l n cs tg g t ∧ vicE l n cs g t = vicE l n cs g t ∧ NilL Int = decP l n cs tg g t) ∧ ((!Decidable.decide (vicE l n cs g t = (0 : Int))) = Bool.false → (ChkP l n ∧ (∃ (x : Int × Int), ((0 : Int) ≤ x.fst ∧ x.fst ≤ (↑(upT l (vicC l n cs g t).group).length : Int) ∧ walkG tg g (List.drop x.fst.toNat (upT l (vicC l n cs g t).group)) x.snd = decG l n cs tg g t) ∧ (0 : Int) = x.fst ∧ (vicC l n cs g t).proc = (vicC l n cs g t).proc ∧ (0 : Int) = x.snd ∧ (vicC l n cs g t).proc :: NilL Int = (vicC l n cs g t).proc :: NilL Int ∧ upT l (vicC l n cs g t).group = upT l (vicC l n cs g t).group ∧ l = l ∧ n = n ∧ (0 : Int) = (0 : Int) ∧ (0 : Int) = (0 : Int) ∧ (vicC l n cs g t).proc = (vicC l n cs g t).proc ∧ (vicC l n cs g t).group = (vicC l n cs g t).group ∧ (vicC l n cs g t).pages = (vicC l n cs g t).pages ∧ (vicC l n cs g t).adj = (vicC l n cs g t).adj) ∧ ∀ (x : Int × Int), (0 : Int) ≤ x.fst ∧ x.fst ≤ (↑(upT l (vicC l n cs g t).group).length : Int) ∧ walkG tg g (List.drop x.fst.toNat (upT l (vicC l n cs g t).group)) x.snd = decG l n cs tg g t → (Decidable.decide (x.fst < (↑(upT l (vicC l n cs g t).group).length : Int)) = Bool.true → ((0 : Int) ≤ x.fst ∧ x.fst < (↑(upT l (vicC l n cs g t).group).length : Int)) ∧ tg.length ≤ (9223372036854775807 : Nat) ∧ (memB tg ((upT l (vicC l n cs g t).group).getD x.fst.toNat (0 : Int)) = Bool.true → (Decidable.decide ((upT l (vicC l n cs g t).group).getD x.fst.toNat (0 : Int) = g) = Bool.true → ∃ (x_1 : Int), x_1 = decG l n cs tg g t ∧ (vicC l n cs g t).proc = (vicC l n cs g t).proc ∧ (upT l (vicC l n cs g t).group).getD x.fst.toNat (0 : Int) = x_1 ∧ (vicC l n cs g t).proc :: NilL Int = (vicC l n cs g t).proc :: NilL Int ∧ l = l ∧ n = n ∧ (0 : Int) = (0 : Int) ∧ (0 : Int) = (0 : Int) ∧ (vicC l n cs g t).proc = (vicC l n cs g t).proc ∧ (vicC l n cs g t).group = (vicC l n cs g t).group ∧ (vicC l n cs g t).pages = (vicC l n cs g t).pages ∧ (vicC l n cs g t).adj = (vicC l n cs g t).adj) ∧ (Decidable.decide ((upT l (vicC l n cs g t).group).getD x.fst.toNat (0 : Int) = g) = Bool.false → i64R (x.fst + (1 : Int)) ∧ ∃ (x' : Int × Int), ((0 : Int) ≤ x'.fst ∧ x'.fst ≤ (↑(upT l (vicC l n cs g t).group).length : Int) ∧ walkG tg g (List.drop x'.fst.toNat (upT l (vicC l n cs g t).group)) x'.snd = decG l n cs tg g t) ∧ ((↑(upT l (vicC l n cs g t).group).length : Int) - x'.fst).toNat < ((↑(upT l (vicC l n cs g t).group).length : Int) - x.fst).toNat ∧ x.fst + (1 : Int) = x'.fst ∧ (vicC l n cs g t).proc = (vicC l n cs g t).proc ∧ (upT l (vicC l n cs g t).group).getD x.fst.toNat (0 : Int) = x'.snd ∧ (vicC l n cs g t).proc :: NilL Int = (vicC l n cs g t).proc :: NilL Int ∧ upT l (vicC l n cs g t).group = upT l (vicC l n cs g t).group ∧ l = l ∧ n = n ∧ (0 : Int) = (0 : Int) ∧ (0 : Int) = (0 : Int) ∧ (vicC l n cs g t).proc = (vicC l n cs g t).proc ∧ (vicC l n cs g t).group = (vicC l n cs g t).group ∧ (vicC l n cs g t).pages = (vicC l n cs g t).pages ∧ (vicC l n cs g t).adj = (vicC l n cs g t).adj)) ∧ (memB tg ((upT l (vicC l n cs g t).group).getD x.fst.toNat (0 : Int)) = Bool.false → (Decidable.decide ((upT l (vicC l n cs g t).group).getD x.fst.toNat (0 : Int) = g) = Bool.true → ∃ (x_1 : Int), x_1 = decG l n cs tg g t ∧ (vicC l n cs g t).proc = (vicC l n cs g t).proc ∧ x.snd = x_1 ∧ (vicC l n cs g t).proc :: NilL Int = (vicC l n cs g t).proc :: NilL Int ∧ l = l ∧ n = n ∧ (0 : Int) = (0 : Int) ∧ (0 : Int) = (0 : Int) ∧ (vicC l n cs g t).proc = (vicC l n cs g t).proc ∧ (vicC l n cs g t).group = (vicC l n cs g t).group ∧ (vicC l n cs g t).pages = (vicC l n cs g t).pages ∧ (vicC l n cs g t).adj = (vicC l n cs g t).adj) ∧ (Decidable.decide ((upT l (vicC l n cs g t).group).getD x.fst.toNat (0 : Int) = g) = Bool.false → i64R (x.fst + (1 : Int)) ∧ ∃ (x' : Int × Int), ((0 : Int) ≤ x'.fst ∧ x'.fst ≤ (↑(upT l (vicC l n cs g t).group).length : Int) ∧ walkG tg g (List.drop x'.fst.toNat (upT l (vicC l n cs g t).group)) x'.snd = decG l n cs tg g t) ∧ ((↑(upT l (vicC l n cs g t).group).length : Int) - x'.fst).toNat < ((↑(upT l (vicC l n cs g t).group).length : Int) - x.fst).toNat ∧ x.fst + (1 : Int) = x'.fst ∧ (vicC l n cs g t).proc = (vicC l n cs g t).proc ∧ x.snd = x'.snd ∧ (vicC l n cs g t).proc :: NilL Int = (vicC l n cs g t).proc :: NilL Int ∧ upT l (vicC l n cs g t).group = upT l (vicC l n cs g t).group ∧ l = l ∧ n = n ∧ (0 : Int) = (0 : Int) ∧ (0 : Int) = (0 : Int) ∧ (vicC l n cs g t).proc = (vicC l n cs g t).proc ∧ (vicC l n cs g t).group = (vicC l n cs g t).group ∧ (vicC l n cs g t).pages = (vicC l n cs g t).pages ∧ (vicC l n cs g t).adj = (vicC l n cs g t).adj))) ∧ (Decidable.decide (x.fst < (↑(upT l (vicC l n cs g t).group).length : Int)) = Bool.false → ∃ (x_1 : Int), x_1 = decG l n cs tg g t ∧ (vicC l n cs g t).proc = (vicC l n cs g t).proc ∧ x.snd = x_1 ∧ (vicC l n cs g t).proc :: NilL Int = (vicC l n cs g t).proc :: NilL Int ∧ l = l ∧ n = n ∧ (0 : Int) = (0 : Int) ∧ (0 : Int) = (0 : Int) ∧ (vicC l n cs g t).proc = (vicC l n cs g t).proc ∧ (vicC l n cs g t).group = (vicC l n cs g t).group ∧ (vicC l n cs g t).pages = (vicC l n cs g t).pages ∧ (vicC l n cs g t).adj = (vicC l n cs g t).adj)) ∧ ∀ (x : Int), x = decG l n cs tg g t → (Decidable.decide (x = (0 : Int)) = Bool.true → ∃ (y : Unit), True ∧ (vicC l n cs g t).proc = (vicC l n cs g t).proc ∧ x = decG l n cs tg g t ∧ (0 : Int) = vicE l n cs g t ∧ (vicC l n cs g t).proc :: NilL Int = decP l n cs tg g t) ∧ (Decidable.decide (x = (0 : Int)) = Bool.false → (ChkP l n ∧ cs.length ≤ (128 : Nat)) ∧ (∃ (x_1 : Int), ((0 : Int) ≤ x_1 ∧ x_1 ≤ (↑(withL l cs (decG l n cs tg g t)).length : Int)) ∧ (0 : Int) = x_1 ∧ (vicC l n cs g t).proc = (vicC l n cs g t).proc ∧ x = decG l n cs tg g t ∧ NilL Int = List.map (fun (x : Cnd) ↦ x.proc) (List.take x_1.toNat (withL l cs (decG l n cs tg g t))) ∧ withL l cs x = withL l cs (decG l n cs tg g t) ∧ l = l ∧ n = n ∧ (0 : Int) = (0 : Int) ∧ (0 : Int) = (0 : Int) ∧ (vicC l n cs g t).proc = (vicC l n cs g t).proc ∧ (vicC l n cs g t).group = (vicC l n cs g t).group ∧ (vicC l n cs g t).pages = (vicC l n cs g t).pages ∧ (vicC l n cs g t).adj = (vicC l n cs g t).adj) ∧ ∀ (x_1 : Int), (0 : Int) ≤ x_1 ∧ x_1 ≤ (↑(withL l cs (decG l n cs tg g t)).length : Int) → (Decidable.decide (x_1 < (↑(withL l cs x).length : Int)) = Bool.true → ((0 : Int) ≤ x_1 ∧ x_1 < (↑(withL l cs (decG l n cs tg g t)).length : Int)) ∧ (List.map (fun (x : Cnd) ↦ x.proc) (List.take x_1.toNat (withL l cs (decG l n cs tg g t)))).length + (((withL l cs (decG l n cs tg g t)).getD x_1.toNat { proc := (0 : Int), group := (0 : Int), pages := (0 : Int), adj := (0 : Int) : Cnd }).proc :: NilL Int).length ≤ (68719476736 : Nat) ∧ i64R (x_1 + (1 : Int)) ∧ ∃ (x' : Int), ((0 : Int) ≤ x' ∧ x' ≤ (↑(withL l cs (decG l n cs tg g t)).length : Int)) ∧ ((↑(withL l cs (decG l n cs tg g t)).length : Int) - x').toNat < ((↑(withL l cs (decG l n cs tg g t)).length : Int) - x_1).toNat ∧ x_1 + (1 : Int) = x' ∧ (vicC l n cs g t).proc = (vicC l n cs g t).proc ∧ decG l n cs tg g t = decG l n cs tg g t ∧ List.map (fun (x : Cnd) ↦ x.proc) (List.take x_1.toNat (withL l cs (decG l n cs tg g t))) ++ ((withL l cs (decG l n cs tg g t)).getD x_1.toNat { proc := (0 : Int), group := (0 : Int), pages := (0 : Int), adj := (0 : Int) : Cnd }).proc :: NilL Int = List.map (fun (x : Cnd) ↦ x.proc) (List.take x'.toNat (withL l cs (decG l n cs tg g t))) ∧ withL l cs (decG l n cs tg g t) = withL l cs (decG l n cs tg g t) ∧ l = l ∧ n = n ∧ (0 : Int) = (0 : Int) ∧ (0 : Int) = (0 : Int) ∧ (vicC l n cs g t).proc = (vicC l n cs g t).proc ∧ (vicC l n cs g t).group = (vicC l n cs g t).group ∧ (vicC l n cs g t).pages = (vicC l n cs g t).pages ∧ (vicC l n cs g t).adj = (vicC l n cs g t).adj) ∧ (Decidable.decide (x_1 < (↑(withL l cs x).length : Int)) = Bool.false → ∃ (y : Unit), True ∧ (vicC l n cs g t).proc = (vicC l n cs g t).proc ∧ decG l n cs tg g t = decG l n cs tg g t ∧ (0 : Int) = vicE l n cs g t ∧ List.map (fun (x : Cnd) ↦ x.proc) (List.take x_1.toNat (withL l cs (decG l n cs tg g t))) = decP l n cs tg g t)))) = sDec.vc (EV Try.prog [(48, sVic.spec), (58, sFAnc.spec), (57, sHasI.spec), (59, sWith.spec)] (invs [(6, inv27a l n cs tg g t), (16, inv27b l n cs tg g t)]) (invs [(12, inv27j l n cs tg g t)])) Try.f27 ((l, n), cs, tg, g, t, ()) := by kernel_rfl
  rw [← e]
  clear e
  simp only [imp_self, true_and, and_true, exists_const, implies_true, gd1, gd2, gd3, gd4, gd5, gd6, NilL_eq ]
  simp only [Prod.forall, Prod.exists, exists_const, implies_true, not_true_eq_false, not_false_eq_true, or_self, or_false, false_or, or_true, true_or, and_false, false_and, forall_const, true_and, and_true, i64R, imp_self, Int.reduceLE, Int.reduceLT, Int.reduceNeg, false_implies, true_implies, decide_eq_true_eq, decide_eq_false_iff_not, Bool.not_eq_true', Bool.not_eq_false', Bool.true_eq_false, Bool.false_eq_true, Bool.and_eq_true, Bool.or_eq_true, NilL_eq, Bool.and_eq_false_iff, Bool.or_eq_false_iff ]
  simp only [cn_fold]
  obtain ⟨hw, htg⟩ := hx
  refine ⟨hw, fun h => ?_, fun h => ?_⟩
  · have e1 : vicC l n cs g t = cz := by rw [vicC, if_neg h]
    have e2 : decG l n cs tg g t = 0 := by rw [decG, if_neg h]
    have e3 : decP l n cs tg g t = [] := by rw [decP, if_neg h]
    rw [e1, e2, e3]; exact ⟨rfl, rfl, rfl⟩
  · obtain ⟨hc, ho, hg, ht, hl, hv⟩ := vic_ok h
    have eG : decG l n cs tg g t = walkG tg g (upT l (vicC l n cs g t).group) 0 := by rw [decG, if_pos h]
    have hwl : (withL l cs (decG l n cs tg g t)).length ≤ 128 := by
      have := List.length_filter_le (mayB l (decG l n cs tg g t)) cs
      have := ho.len
      unfold withL; omega
    have hup : (upT l (vicC l n cs g t).group).length ≤ 64 := by
      have h1 : ∀ (l : List Nod) (g : Int), (up l g).length ≤ l.length := by
        intro l
        induction l with
        | nil => intro g; simp [up]
        | cons a r ih =>
          intro g
          rw [up]
          split
          · have := ih a.parent; simp; omega
          · have := ih g; simp; omega
      have h2 := h1 l.reverse (vicC l n cs g t).group
      have h3 := hc.len2
      simp only [List.length_reverse] at h2
      unfold upT; omega
    generalize upT l (vicC l n cs g t).group = A at eG hup ⊢
    refine ⟨⟨hc, ⟨0, 0, ⟨by omega, by omega, by rw [eG]; rfl⟩, rfl, rfl⟩, fun i b hi => ⟨fun hlt => ?_, fun hge => ⟨_, rfl, ?_⟩⟩⟩, fun x hx => ⟨fun h0 => ⟨hx, h.symm, ?_⟩, fun h0 => ⟨⟨hc, ho.len⟩, ⟨0, by omega, rfl, hx, rfl, by rw [hx]⟩, fun y hy => ⟨fun hlt => ?_, fun hge => ⟨h.symm, ?_⟩⟩⟩⟩⟩
    · have hi3 := hi.2.2
      rw [drop_step (by omega), walkG] at hi3
      have e1 : (i + 1).toNat = i.toNat + 1 := by omega
      refine ⟨by omega, htg, fun hm => ⟨fun he => ⟨_, rfl, ?_⟩, fun he => ⟨by omega, i + 1, _, ⟨by omega, by omega, ?_⟩, by omega, rfl, rfl⟩⟩, fun hm => ⟨fun he => ⟨_, rfl, ?_⟩, fun he => ⟨by omega, i + 1, _, ⟨by omega, by omega, ?_⟩, by omega, rfl, rfl⟩⟩⟩
      · rw [if_pos he, if_pos hm] at hi3; exact hi3
      · rw [if_neg he, if_pos hm] at hi3; rw [e1]; exact hi3
      · rw [if_pos he, if_neg (by rw [hm]; simp)] at hi3; exact hi3
      · rw [if_neg he, if_neg (by rw [hm]; simp)] at hi3; rw [e1]; exact hi3
    · have hi3 := hi.2.2
      rw [List.drop_eq_nil_of_le (by omega)] at hi3
      exact hi3
    · rw [decP, if_pos h, if_pos (by rw [← hx]; exact h0)]
    · rw [hx] at hlt
      have e1 : (y + 1).toNat = y.toNat + 1 := by omega
      refine ⟨by omega, by simp; omega, by omega, y + 1, by omega, by omega, rfl, ?_⟩
      rw [e1, map_take_snoc (by omega)]
    · rw [hx] at hge
      rw [decP, if_pos h, if_neg (by rw [← hx]; exact h0), List.take_of_length_le (by omega)]

def inv26 (cs : List Cnd) (ps : List Int) : Inv where
  X := Int
  ok := fun i => 0 ≤ i ∧ i ≤ cs.length
  sl := fun i => [(10, .int .i64 i), (5, .int .i64 (frd cs ps i.toNat))]
  hp := fun _ => []
  keep := []
  me := fun i => (cs.length - i).toNat
set_option maxRecDepth 100000 in
theorem vc26 (cs : List Cnd) (ps : List Int) (hx : (cs.length ≤ 1024 ∧ ∀ i, i < cs.length → 0 ≤ (cn cs i).pages ∧ (cn cs i).pages ≤ 1099511627776) ∧ ps.length ≤ 9223372036854775807) : sFreed.vc (EV Try.prog [(57, sHasI.spec)] (invs [(3, inv26 cs ps)]) noInv) Try.f26 (cs, ps, ()) := by
  have e : ((∃ (x : Int), ((0 : Int) ≤ x ∧ x ≤ (↑cs.length : Int)) ∧ (0 : Int) = x ∧ (0 : Int) = frd cs ps x.toNat) ∧ ∀ (x : Int), (0 : Int) ≤ x ∧ x ≤ (↑cs.length : Int) → (Decidable.decide (x < (↑cs.length : Int)) = Bool.true → ((0 : Int) ≤ x ∧ x < (↑cs.length : Int)) ∧ ps.length ≤ (9223372036854775807 : Nat) ∧ (memB ps (cs.getD x.toNat { proc := (0 : Int), group := (0 : Int), pages := (0 : Int), adj := (0 : Int) : Cnd }).proc = Bool.true → i64R (frd cs ps x.toNat + (cs.getD x.toNat { proc := (0 : Int), group := (0 : Int), pages := (0 : Int), adj := (0 : Int) : Cnd }).pages) ∧ i64R (x + (1 : Int)) ∧ ∃ (x' : Int), ((0 : Int) ≤ x' ∧ x' ≤ (↑cs.length : Int)) ∧ ((↑cs.length : Int) - x').toNat < ((↑cs.length : Int) - x).toNat ∧ x + (1 : Int) = x' ∧ frd cs ps x.toNat + (cs.getD x.toNat { proc := (0 : Int), group := (0 : Int), pages := (0 : Int), adj := (0 : Int) : Cnd }).pages = frd cs ps x'.toNat) ∧ (memB ps (cs.getD x.toNat { proc := (0 : Int), group := (0 : Int), pages := (0 : Int), adj := (0 : Int) : Cnd }).proc = Bool.false → i64R (x + (1 : Int)) ∧ ∃ (x' : Int), ((0 : Int) ≤ x' ∧ x' ≤ (↑cs.length : Int)) ∧ ((↑cs.length : Int) - x').toNat < ((↑cs.length : Int) - x).toNat ∧ x + (1 : Int) = x' ∧ frd cs ps x.toNat = frd cs ps x'.toNat)) ∧ (Decidable.decide (x < (↑cs.length : Int)) = Bool.false → ∃ (y : Unit), True ∧ frd cs ps x.toNat = frd cs ps cs.length)) = sFreed.vc (EV Try.prog [(57, sHasI.spec)] (invs [(3, inv26 cs ps)]) noInv) Try.f26 (cs, ps, ()) := by kernel_rfl
  rw [← e]
  clear e
  simp only [imp_self, true_and, and_true, exists_const, implies_true, gd1, gd2, gd3, gd4, gd5, gd6, NilL_eq ]
  simp only [Prod.forall, Prod.exists, exists_const, implies_true, not_true_eq_false, not_false_eq_true, or_self, or_false, false_or, or_true, true_or, and_false, false_and, forall_const, true_and, and_true, i64R, imp_self, Int.reduceLE, Int.reduceLT, Int.reduceNeg, false_implies, true_implies, decide_eq_true_eq, decide_eq_false_iff_not, Bool.not_eq_true', Bool.not_eq_false', Bool.true_eq_false, Bool.false_eq_true, Bool.and_eq_true, Bool.or_eq_true, NilL_eq, Bool.and_eq_false_iff, Bool.or_eq_false_iff ]
  simp only [cn_fold]
  obtain ⟨⟨l1, h1⟩, l2⟩ := hx
  refine ⟨⟨0, by omega, rfl, rfl⟩, fun x hi => ⟨fun hlt => ?_, fun hge => ?_⟩⟩
  · have e : (x + 1).toNat = x.toNat + 1 := by omega
    have h2 := frd_bound (ps := ps) h1 x.toNat (by omega)
    have h3 := h1 x.toNat (by omega)
    refine ⟨by omega, l2, fun hm => ⟨by omega, by omega, x + 1, by omega, by omega, rfl, ?_⟩, fun hm => ⟨by omega, x + 1, by omega, by omega, rfl, ?_⟩⟩
    · rw [e, frd, if_pos hm]
    · rw [e, frd, if_neg (by rw [hm]; simp), Int.add_zero]
  · have e : x.toNat = cs.length := by omega
    rw [e]


set_option maxRecDepth 100000 in
theorem vc20 (l : List Nod) (n : Int) (a b : Int) (hx : True) : sBelow.vc (EV Try.prog [(41, sAnc.spec), (28, sHasI.spec)] noInv noInv) Try.f20 ((l, n), a, b, ()) := by
  have e : (True ∧ (ancR l n a).length ≤ (9223372036854775807 : Nat) ∧ ∃ (y : Unit), True ∧ memB (ancR l n a) b = memB (ancR l n a) b) = sBelow.vc (EV Try.prog [(41, sAnc.spec), (28, sHasI.spec)] noInv noInv) Try.f20 ((l, n), a, b, ()) := by kernel_rfl
  rw [← e]
  clear e
  simp only [imp_self, true_and, and_true, exists_const, implies_true, gd1, gd2, gd3, gd4, gd5, gd6, NilL_eq ]
  have h : (ancR l n a).length ≤ 64 := by
    unfold ancR
    split
    · rename_i h
      obtain ⟨h1, h2⟩ := hasR_iff.1 h
      obtain ⟨i, hi, e⟩ := ids_mem.1 h2
      have := h1.up_len hi
      rw [e] at this; omega
    · simp
  omega
end Go.Proofs.Ytglkagaammnojaa
