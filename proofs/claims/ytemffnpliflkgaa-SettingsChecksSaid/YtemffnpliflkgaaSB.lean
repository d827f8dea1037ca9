/-
  Lemmas and contracts on the way to the laws of this seat; each theorem states its own conditions, and there are no others.
-/
import Derived.Test.YtemffnpliflkgaaSA

namespace Go.Proofs.Ytemffnpliflkgaa
open Go
set_option linter.unusedVariables false
set_option linter.unusedSimpArgs false
set_option linter.unusedVariables false

def getCk : AV → Option Int
  | .fn (.func 124) [] [.ipt false [.int .i64 a] 0] => some a
  | _ => none
def pkFnC : PK Int where
  get := getCk
  put := fun a => .fn (.func 124) [] [.ipt false [.int .i64 a] 0]
  ok := fun v a h w S μ x hS hx => by
    unfold getCk at h
    split at h
    · cases h; exact hx
    · cases h
def cellsS (s : Stg) : List AV := [.int .i64 s.pids, .int .i64 s.weight, .int .i64 s.quota, .int .i64 s.period, .int .i64 s.burst, .int .i64 s.cmin, .int .i64 s.cmax, .irec true 0 s.cpus, .irec true 0 s.mems, .int .i64 s.part, .int .i64 s.mmin, .int .i64 s.mlow, .int .i64 s.mhigh, .int .i64 s.mmax, .int .i64 s.mswap, .bool s.mtog, .irec true 5 s.devs]
def sAt1C : DS := ⟨_, two pkCfg pkPeek, fun _ => True, fun x => .bool (decide (x.1.grp = x.2.1)), nou⟩
def sIdxC : DS := ⟨_, two pkCfgs pkFnC, fun x => x.1.length ≤ 9223372036854775807, fun x => .int .i64 (idxC x.1 x.2.1), nou⟩
def sAtC : DS := ⟨_, two pkCfgs pkI, fun x => x.1.length ≤ 9223372036854775807, fun x => .int .i64 (idxC x.1 x.2.1), nou⟩
def sGetC : DS := ⟨_, two pkCfgs pkI, fun x => CL x.1, fun x => retS (getC x.1 x.2.1), fun x => rowS (getC x.1 x.2.1)⟩
def sCloneC : DS := ⟨_, one pkCfgs, fun x => x.1.length ≤ 1048576, fun _ => .own 101 6, fun x => [(101, .rows 96 6 x.1)]⟩
def sCopyC : DS := ⟨_, one pkCfgs, fun x => CL x.1, fun _ => .own 101 6, fun x => [(101, .rows 96 6 x.1)]⟩
def sAdjC : DS := ⟨_, two pkTree pkCfgs, fun x => WfN x.1.1 ∧ CL x.2.1, fun _ => .own 101 6, fun x => [(101, .rows 96 6 (adjL x.1.1 x.1.2 x.2.1))]⟩
def sNewC : DS := ⟨_, one pkTree, fun x => WfN x.1.1, fun _ => .own 101 6, fun x => [(101, .rows 96 6 (adjL x.1.1 x.1.2 []))]⟩
def sFit : DS := ⟨_, two pkTree pkCfgs, fun x => WfN x.1.1 ∧ CL x.2.1, fun x => .bool (fitB x.1.1 x.1.2 x.2.1), nou⟩
def sSetC : DS := ⟨_, four pkTree pkCfgs pkI pkStg, fun x => (WfN x.1.1 ∧ CL x.2.1) ∧ SOk x.2.2.2.1, fun x => .tup [.own 101 6, .int .i64 (setE x.1.1 x.1.2 x.2.1 x.2.2.1 x.2.2.2.1)], fun x => [(101, .rows 96 6 (setL x.1.1 x.1.2 x.2.1 x.2.2.1 x.2.2.2.1))]⟩
def sLow : DS := ⟨_, three pkTree pkCfgs pkI, fun x => ChkP x.1.1 x.1.2 ∧ CL x.2.1, fun x => retS (lowS x.1.1 x.1.2 x.2.1 x.2.2.1), fun x => rowS (lowS x.1.1 x.1.2 x.2.1 x.2.2.1)⟩


set_option maxRecDepth 100000 in
theorem vc124 (c : Cfg) (g : Int) (hx : True) : sAt1C.vc (EV Try.prog [] noInv noInv) Try.f124 (c, g, ()) := by
  have e : (∃ (y : Unit), True ∧ decide (c.grp = g) = decide (c.grp = g)) = sAt1C.vc (EV Try.prog [] noInv noInv) Try.f124 (c, g, ()) := by kernel_rfl
  rw [← e]
  clear e
  simp only [imp_self, true_and, and_true, exists_const, implies_true, gd1, gd2, gd3, gd4, gd5, gd6, NilL_eq ]

def inv123 (l : List Cfg) (g : Int) : Inv where
  X := Int
  ok := fun i => 0 ≤ i ∧ i ≤ l.length ∧ ∀ j : Nat, (j : Int) < i → ¬ (cn l j).grp = g
  sl := fun i => [(8, .int .i64 i)]
  hp := fun _ => []
  keep := []
  me := fun i => (l.length - i).toNat
set_option maxRecDepth 100000 in
theorem vc123 (l : List Cfg) (g : Int) (hx : l.length ≤ 9223372036854775807) : sIdxC.vc (EV Try.prog [(124, sAt1C.spec)] (invs [(2, inv123 l g)]) noInv) Try.f123 (l, g, ()) := by
  have e : ((∃ (x : Int), (0 ≤ x ∧ x ≤ (↑l.length : Int) ∧ ∀ (j : Nat), (↑j : Int) < x → ¬(cn l j).grp = g) ∧ 0 = x) ∧ ∀ (x : Int), (0 ≤ x ∧ x ≤ (↑l.length : Int) ∧ ∀ (j : Nat), (↑j : Int) < x → ¬(cn l j).grp = g) → (decide (x < (↑l.length : Int)) = true → (0 ≤ x ∧ x < (↑l.length : Int)) ∧ True ∧ (decide ((cn l x.toNat).grp = g) = true → ∃ (y : Unit), True ∧ x = idxC l g) ∧ (decide ((cn l x.toNat).grp = g) = false → i64R (x + 1) ∧ ∃ (x' : Int), (0 ≤ x' ∧ x' ≤ (↑l.length : Int) ∧ ∀ (j : Nat), (↑j : Int) < x' → ¬(cn l j).grp = g) ∧ ((↑l.length : Int) - x').toNat < ((↑l.length : Int) - x).toNat ∧ x + 1 = x')) ∧ (decide (x < (↑l.length : Int)) = false → ∃ (y : Unit), True ∧ (-1) = idxC l g)) = sIdxC.vc (EV Try.prog [(124, sAt1C.spec)] (invs [(2, inv123 l g)]) noInv) Try.f123 (l, g, ()) := by kernel_rfl
  rw [← e]
  clear e
  simp only [imp_self, true_and, and_true, exists_const, implies_true, gd1, gd2, gd3, gd4, gd5, gd6 ]
  simp only [Prod.forall, Prod.exists, exists_const, implies_true, not_true_eq_false, not_false_eq_true, or_self, or_false, false_or, or_true, true_or, and_false, false_and, forall_const, true_and, and_true, i64R, imp_self, Int.reduceLE, Int.reduceLT, Int.reduceNeg, false_implies, true_implies, decide_eq_true_eq, decide_eq_false_iff_not, Bool.not_eq_true', Bool.not_eq_false', Bool.true_eq_false, Bool.false_eq_true, Bool.and_eq_true, Bool.or_eq_true, Bool.and_eq_false_iff, Bool.or_eq_false_iff ]
  try simp only [NilL_eq, cn_fold]
  refine ⟨⟨0, ⟨by omega, by omega, fun j hj => by omega⟩, rfl⟩, fun x hx1 => ⟨fun hlt => ⟨by omega, fun he => ?_, fun hne => ⟨by omega, x + 1, ⟨by omega, by omega, nx hx1.1 hx1.2.2 hne⟩, by omega, rfl⟩⟩, fun hge => ?_⟩⟩
  · rw [idxC_first (fun j hj => hx1.2.2 j (by omega)) (by omega) he]; omega
  · rw [idxC_all fun j hj => hx1.2.2 j (by omega)]


set_option maxRecDepth 100000 in
theorem vc74 (l : List Cfg) (g : Int) (hx : l.length ≤ 9223372036854775807) : sAtC.vc (EV Try.prog [(123, sIdxC.spec)] noInv noInv) Try.f74 (l, g, ()) := by
  have e : (l.length ≤ (9223372036854775807 : Nat) ∧ ∃ (y : Unit), True ∧ idxC l g = idxC l g) = sAtC.vc (EV Try.prog [(123, sIdxC.spec)] noInv noInv) Try.f74 (l, g, ()) := by kernel_rfl
  rw [← e]
  clear e
  simp only [imp_self, true_and, and_true, exists_const, implies_true, gd1, gd2, gd3, gd4, gd5, gd6, NilL_eq ]
  exact hx


set_option maxRecDepth 100000 in
theorem vc20 (l : List Cfg) (g : Int) (hx : CL l) : sGetC.vc (EV Try.prog [(74, sAtC.spec), (37, sDefS.spec), (75, sCopyS.spec)] noInv noInv) Try.f20 (l, g, ()) := by
  have e : (l.length ≤ (9223372036854775807 : Nat) ∧ (decide (idxC l g < 0) = true → True ∧ ∃ (y : Unit), True ∧ 4611686018427387904 = (getC l g).pids ∧ 100 = (getC l g).weight ∧ 4611686018427387904 = (getC l g).quota ∧ 100000 = (getC l g).period ∧ 0 = (getC l g).burst ∧ 0 = (getC l g).cmin ∧ 10000 = (getC l g).cmax ∧ NilL Int = (getC l g).cpus ∧ NilL Int = (getC l g).mems ∧ 0 = (getC l g).part ∧ 0 = (getC l g).mmin ∧ 0 = (getC l g).mlow ∧ 4611686018427387904 = (getC l g).mhigh ∧ 4611686018427387904 = (getC l g).mmax ∧ 4611686018427387904 = (getC l g).mswap ∧ false = (getC l g).mtog ∧ NilL Dev = (getC l g).devs) ∧ (decide (idxC l g < 0) = false → (0 ≤ idxC l g ∧ idxC l g < (↑l.length : Int)) ∧ ((cn l (idxC l g).toNat).cpus.length ≤ (1048576 : Nat) ∧ (cn l (idxC l g).toNat).mems.length ≤ (1048576 : Nat) ∧ (cn l (idxC l g).toNat).devs.length ≤ (1048576 : Nat)) ∧ ∃ (y : Unit), True ∧ (cn l (idxC l g).toNat).pids = (getC l g).pids ∧ (cn l (idxC l g).toNat).weight = (getC l g).weight ∧ (cn l (idxC l g).toNat).quota = (getC l g).quota ∧ (cn l (idxC l g).toNat).period = (getC l g).period ∧ (cn l (idxC l g).toNat).burst = (getC l g).burst ∧ (cn l (idxC l g).toNat).cmin = (getC l g).cmin ∧ (cn l (idxC l g).toNat).cmax = (getC l g).cmax ∧ (cn l (idxC l g).toNat).cpus = (getC l g).cpus ∧ (cn l (idxC l g).toNat).mems = (getC l g).mems ∧ (cn l (idxC l g).toNat).part = (getC l g).part ∧ (cn l (idxC l g).toNat).mmin = (getC l g).mmin ∧ (cn l (idxC l g).toNat).mlow = (getC l g).mlow ∧ (cn l (idxC l g).toNat).mhigh = (getC l g).mhigh ∧ (cn l (idxC l g).toNat).mmax = (getC l g).mmax ∧ (cn l (idxC l g).toNat).mswap = (getC l g).mswap ∧ (cn l (idxC l g).toNat).mtog = (getC l g).mtog ∧ (cn l (idxC l g).toNat).devs = (getC l g).devs)) = sGetC.vc (EV Try.prog [(74, sAtC.spec), (37, sDefS.spec), (75, sCopyS.spec)] noInv noInv) Try.f20 (l, g, ()) := by kernel_rfl
  rw [← e]
  clear e
  simp only [imp_self, true_and, and_true, exists_const, implies_true, gd1, gd2, gd3, gd4, gd5, gd6 ]
  simp only [Prod.forall, Prod.exists, exists_const, implies_true, not_true_eq_false, not_false_eq_true, or_self, or_false, false_or, or_true, true_or, and_false, false_and, forall_const, true_and, and_true, i64R, imp_self, Int.reduceLE, Int.reduceLT, Int.reduceNeg, false_implies, true_implies, decide_eq_true_eq, decide_eq_false_iff_not, Bool.not_eq_true', Bool.not_eq_false', Bool.true_eq_false, Bool.false_eq_true, Bool.and_eq_true, Bool.or_eq_true, Bool.and_eq_false_iff, Bool.or_eq_false_iff ]
  try simp only [NilL_eq, cn_fold]
  refine ⟨by have := hx.2; omega, fun h => ?_, fun h => ?_⟩
  · have e : getC l g = dS := by rw [getC, if_pos h]
    rw [e]
    (repeat' apply And.intro) <;> rfl
  · rcases idxC_cases l g with ⟨i, hi, e, h1, h2⟩ | ⟨h1, h2⟩
    · have e2 : getC l g = cst (cn l (idxC l g).toNat) := by rw [getC, if_neg h]
      have h3 := hx.1 _ (cn_mem (l := l) (i := (idxC l g).toNat) (by omega))
      rw [e2]
      refine ⟨by omega, h3, ?_⟩
      (repeat' apply And.intro) <;> rfl
    · omega

def inv27 (l : List Cfg) (g : Int) : Inv where
  X := Int
  ok := fun i => 0 ≤ i ∧ i ≤ l.length ∧ ∀ j : Nat, (j : Int) < i → ¬ (cn l j).grp = g
  sl := fun i => [(5, .int .i64 i)]
  hp := fun _ => []
  keep := [10000]
  me := fun i => (l.length - i).toNat
set_option maxRecDepth 100000 in
theorem vc27 (l : List Cfg) (g : Int) (hx : CL l) : sGetC.vc (EV Try.prog [(28, sDefS.spec), (84, sCopyS.spec)] (invs [(2, inv27 l g)]) noInv) Try.f27 (l, g, ()) := by
  have e : ((∃ (x : Int), (0 ≤ x ∧ x ≤ (↑l.length : Int) ∧ ∀ (j : Nat), (↑j : Int) < x → ¬(cn l j).grp = g) ∧ 0 = x ∧ (0 : Int) = 0 ∧ (0 : Int) = 0 ∧ (0 : Int) = 0 ∧ (0 : Int) = 0 ∧ (0 : Int) = 0 ∧ (0 : Int) = 0 ∧ (0 : Int) = 0 ∧ (0 : Int) = 0 ∧ (0 : Int) = 0 ∧ (0 : Int) = 0 ∧ (0 : Int) = 0 ∧ (0 : Int) = 0 ∧ (0 : Int) = 0) ∧ ∀ (x : Int), (0 ≤ x ∧ x ≤ (↑l.length : Int) ∧ ∀ (j : Nat), (↑j : Int) < x → ¬(cn l j).grp = g) → (decide (x < (↑l.length : Int)) = true → (0 ≤ x ∧ x < (↑l.length : Int)) ∧ (decide ((cn l x.toNat).grp = g) = true → (0 ≤ x ∧ x < (↑l.length : Int)) ∧ ((cn l x.toNat).cpus.length ≤ (1048576 : Nat) ∧ (cn l x.toNat).mems.length ≤ (1048576 : Nat) ∧ (cn l x.toNat).devs.length ≤ (1048576 : Nat)) ∧ ∃ (y : Unit), True ∧ (cn l x.toNat).pids = (getC l g).pids ∧ (cn l x.toNat).weight = (getC l g).weight ∧ (cn l x.toNat).quota = (getC l g).quota ∧ (cn l x.toNat).period = (getC l g).period ∧ (cn l x.toNat).burst = (getC l g).burst ∧ (cn l x.toNat).cmin = (getC l g).cmin ∧ (cn l x.toNat).cmax = (getC l g).cmax ∧ (cn l x.toNat).cpus = (getC l g).cpus ∧ (cn l x.toNat).mems = (getC l g).mems ∧ (cn l x.toNat).part = (getC l g).part ∧ (cn l x.toNat).mmin = (getC l g).mmin ∧ (cn l x.toNat).mlow = (getC l g).mlow ∧ (cn l x.toNat).mhigh = (getC l g).mhigh ∧ (cn l x.toNat).mmax = (getC l g).mmax ∧ (cn l x.toNat).mswap = (getC l g).mswap ∧ (cn l x.toNat).mtog = (getC l g).mtog ∧ (cn l x.toNat).devs = (getC l g).devs) ∧ (decide ((cn l x.toNat).grp = g) = false → i64R (x + 1) ∧ ∃ (x' : Int), (0 ≤ x' ∧ x' ≤ (↑l.length : Int) ∧ ∀ (j : Nat), (↑j : Int) < x' → ¬(cn l j).grp = g) ∧ ((↑l.length : Int) - x').toNat < ((↑l.length : Int) - x).toNat ∧ x + 1 = x' ∧ (0 : Int) = 0 ∧ (0 : Int) = 0 ∧ (0 : Int) = 0 ∧ (0 : Int) = 0 ∧ (0 : Int) = 0 ∧ (0 : Int) = 0 ∧ (0 : Int) = 0 ∧ (0 : Int) = 0 ∧ (0 : Int) = 0 ∧ (0 : Int) = 0 ∧ (0 : Int) = 0 ∧ (0 : Int) = 0 ∧ (0 : Int) = 0)) ∧ (decide (x < (↑l.length : Int)) = false → True ∧ ∃ (y : Unit), True ∧ 4611686018427387904 = (getC l g).pids ∧ 100 = (getC l g).weight ∧ 4611686018427387904 = (getC l g).quota ∧ 100000 = (getC l g).period ∧ 0 = (getC l g).burst ∧ 0 = (getC l g).cmin ∧ 10000 = (getC l g).cmax ∧ NilL Int = (getC l g).cpus ∧ NilL Int = (getC l g).mems ∧ 0 = (getC l g).part ∧ 0 = (getC l g).mmin ∧ 0 = (getC l g).mlow ∧ 4611686018427387904 = (getC l g).mhigh ∧ 4611686018427387904 = (getC l g).mmax ∧ 4611686018427387904 = (getC l g).mswap ∧ false = (getC l g).mtog ∧ NilL Dev = (getC l g).devs)) = sGetC.vc (EV Try.prog [(28, sDefS.spec), (84, sCopyS.spec)] (invs [(2, inv27 l g)]) noInv) Try.f27 (l, g, ()) := by kernel_rfl
  rw [← e]
  clear e
  simp only [imp_self, true_and, and_true, exists_const, implies_true, gd1, gd2, gd3, gd4, gd5, gd6 ]
  simp only [Prod.forall, Prod.exists, exists_const, implies_true, not_true_eq_false, not_false_eq_true, or_self, or_false, false_or, or_true, true_or, and_false, false_and, forall_const, true_and, and_true, i64R, imp_self, Int.reduceLE, Int.reduceLT, Int.reduceNeg, false_implies, true_implies, decide_eq_true_eq, decide_eq_false_iff_not, Bool.not_eq_true', Bool.not_eq_false', Bool.true_eq_false, Bool.false_eq_true, Bool.and_eq_true, Bool.or_eq_true, Bool.and_eq_false_iff, Bool.or_eq_false_iff ]
  try simp only [NilL_eq, cn_fold]
  have hl := hx.2
  refine ⟨⟨0, ⟨by omega, by omega, fun j hj => by omega⟩, rfl⟩, fun x hi => ⟨fun hlt => ⟨by omega, fun he => ⟨by omega, hx.1 _ (cn_mem (by omega)), ?_⟩, fun hn => ⟨by omega, x + 1, ⟨by omega, by omega, nx hi.1 hi.2.2 hn⟩, by omega, rfl⟩⟩, fun hge => ?_⟩⟩
  · rw [getC_at (fun j hj => hi.2.2 j (by omega)) (by omega) he]
    (repeat' apply And.intro) <;> rfl
  · rw [getC_none fun j hj => hi.2.2 j (by omega)]
    (repeat' apply And.intro) <;> rfl


set_option maxRecDepth 100000 in
theorem vc131 (l : List Cfg) (hx : l.length ≤ 1048576) : sCloneC.vc (EV Try.prog [] noInv noInv) Try.f131 (l, ()) := by
  have e : (∀ (y : Bool), (y = true → l = NilL Cfg) → (y = true → ∃ (y : Unit), True ∧ NilL Cfg = l) ∧ (y = false → (NilL Cfg).length + l.length ≤ (68719476736 : Nat) ∧ ∃ (y : Unit), True ∧ NilL Cfg ++ l = l)) = sCloneC.vc (EV Try.prog [] noInv noInv) Try.f131 (l, ()) := by kernel_rfl
  rw [← e]
  clear e
  try simp only [NilL_eq]
  intro y hy
  refine ⟨fun h => ⟨(), trivial, (hy h).symm⟩, fun _ => ⟨by simp; omega, (), trivial, rfl⟩⟩

def inv89 (l : List Cfg) : Inv where
  X := Int
  ok := fun i => 0 ≤ i ∧ i ≤ l.length
  sl := fun i => [(10, .int .i64 i), (3, .own 101 6), (8, .own 101 6)]
  hp := fun _ => [(101, .rows 96 6 l)]
  keep := []
  me := fun i => (l.length - i).toNat
set_option maxRecDepth 100000 in
theorem vc89 (l : List Cfg) (hx : CL l) : sCopyC.vc (EV Try.prog [(131, sCloneC.spec), (75, sCopyS.spec)] (invs [(3, inv89 l)]) noInv) Try.f89 (l, ()) := by
  have e : (l.length ≤ (1048576 : Nat) ∧ (∃ (x : Int), (0 ≤ x ∧ x ≤ (↑l.length : Int)) ∧ 0 = x ∧ l = l) ∧ ∀ (x : Int), 0 ≤ x ∧ x ≤ (↑l.length : Int) → (decide (x < (↑l.length : Int)) = true → (0 ≤ x ∧ x < (↑l.length : Int)) ∧ SOk { pids := (cn l x.toNat).pids, weight := (cn l x.toNat).weight, quota := (cn l x.toNat).quota, period := (cn l x.toNat).period, burst := (cn l x.toNat).burst, cmin := (cn l x.toNat).cmin, cmax := (cn l x.toNat).cmax, cpus := (cn l x.toNat).cpus, mems := (cn l x.toNat).mems, part := (cn l x.toNat).part, mmin := (cn l x.toNat).mmin, mlow := (cn l x.toNat).mlow, mhigh := (cn l x.toNat).mhigh, mmax := (cn l x.toNat).mmax, mswap := (cn l x.toNat).mswap, mtog := (cn l x.toNat).mtog, devs := (cn l x.toNat).devs : Stg } ∧ (0 ≤ x ∧ x < (↑l.length : Int)) ∧ i64R (x + 1) ∧ ∃ (x' : Int), (0 ≤ x' ∧ x' ≤ (↑l.length : Int)) ∧ ((↑l.length : Int) - x').toNat < ((↑l.length : Int) - x).toNat ∧ x + 1 = x' ∧ l.set x.toNat (cn l x.toNat) = l) ∧ (decide (x < (↑l.length : Int)) = false → ∃ (y : Unit), True ∧ l = l)) = sCopyC.vc (EV Try.prog [(131, sCloneC.spec), (75, sCopyS.spec)] (invs [(3, inv89 l)]) noInv) Try.f89 (l, ()) := by kernel_rfl
  rw [← e]
  clear e
  simp only [imp_self, true_and, and_true, exists_const, implies_true, gd1, gd2, gd3, gd4, gd5, gd6 ]
  simp only [Prod.forall, Prod.exists, exists_const, implies_true, not_true_eq_false, not_false_eq_true, or_self, or_false, false_or, or_true, true_or, and_false, false_and, forall_const, true_and, and_true, i64R, imp_self, Int.reduceLE, Int.reduceLT, Int.reduceNeg, false_implies, true_implies, decide_eq_true_eq, decide_eq_false_iff_not, Bool.not_eq_true', Bool.not_eq_false', Bool.true_eq_false, Bool.false_eq_true, Bool.and_eq_true, Bool.or_eq_true, Bool.and_eq_false_iff, Bool.or_eq_false_iff ]
  try simp only [NilL_eq, cn_fold]
  obtain ⟨ht, hl⟩ := hx
  refine ⟨hl, ⟨0, by omega, rfl⟩, fun x hx2 hlt => ⟨by omega, ht _ (cn_mem (by omega)), by omega, by omega, x + 1, by omega, by omega, rfl, ?_⟩⟩
  apply List.ext_getElem (by rw [List.length_set])
  intro j h1 h2
  rw [List.getElem_set]
  split
  · rename_i c
    rw [← cn_get h2, c]
  · rfl

def inv25 (l : List Nod) (c : List Cfg) : Inv where
  X := Int
  ok := fun i => 0 ≤ i ∧ i ≤ l.length
  sl := fun i => [(14, .int .i64 i), (5, .own 101 6)]
  hp := fun i => [(101, .rows 96 6 ((l.take i.toNat).map (adjF c)))]
  keep := [10000]
  me := fun i => (l.length - i).toNat
set_option maxRecDepth 100000 in
theorem vc25 (l : List Nod) (n : Int) (c : List Cfg) (hx : WfN l ∧ CL c) : sAdjC.vc (EV Try.prog [(83, sChkP.spec), (20, sGetC.spec)] (invs [(5, inv25 l c)]) noInv) Try.f25 ((l, n), c, ()) := by
  have e : (WfN l ∧ ((!chkB l n) = true → ∃ (y : Unit), True ∧ NilL Cfg = adjL l n c) ∧ ((!chkB l n) = false → (∃ (x : Int), (0 ≤ x ∧ x ≤ (↑l.length : Int)) ∧ 0 = x ∧ NilL Cfg = List.map (adjF c) (List.take x.toNat l) ∧ l = l ∧ n = n) ∧ ∀ (x : Int), 0 ≤ x ∧ x ≤ (↑l.length : Int) → (decide (x < (↑l.length : Int)) = true → (0 ≤ x ∧ x < (↑l.length : Int)) ∧ CL c ∧ (List.map (adjF c) (List.take x.toNat l)).length + ({ grp := (nd l x.toNat).id, pids := (getC c (nd l x.toNat).id).pids, weight := (getC c (nd l x.toNat).id).weight, quota := (getC c (nd l x.toNat).id).quota, period := (getC c (nd l x.toNat).id).period, burst := (getC c (nd l x.toNat).id).burst, cmin := (getC c (nd l x.toNat).id).cmin, cmax := (getC c (nd l x.toNat).id).cmax, cpus := (getC c (nd l x.toNat).id).cpus, mems := (getC c (nd l x.toNat).id).mems, part := (getC c (nd l x.toNat).id).part, mmin := (getC c (nd l x.toNat).id).mmin, mlow := (getC c (nd l x.toNat).id).mlow, mhigh := (getC c (nd l x.toNat).id).mhigh, mmax := (getC c (nd l x.toNat).id).mmax, mswap := (getC c (nd l x.toNat).id).mswap, mtog := (getC c (nd l x.toNat).id).mtog, devs := (getC c (nd l x.toNat).id).devs : Cfg } :: NilL Cfg).length ≤ (68719476736 : Nat) ∧ i64R (x + 1) ∧ ∃ (x' : Int), (0 ≤ x' ∧ x' ≤ (↑l.length : Int)) ∧ ((↑l.length : Int) - x').toNat < ((↑l.length : Int) - x).toNat ∧ x + 1 = x' ∧ List.map (adjF c) (List.take x.toNat l) ++ { grp := (nd l x.toNat).id, pids := (getC c (nd l x.toNat).id).pids, weight := (getC c (nd l x.toNat).id).weight, quota := (getC c (nd l x.toNat).id).quota, period := (getC c (nd l x.toNat).id).period, burst := (getC c (nd l x.toNat).id).burst, cmin := (getC c (nd l x.toNat).id).cmin, cmax := (getC c (nd l x.toNat).id).cmax, cpus := (getC c (nd l x.toNat).id).cpus, mems := (getC c (nd l x.toNat).id).mems, part := (getC c (nd l x.toNat).id).part, mmin := (getC c (nd l x.toNat).id).mmin, mlow := (getC c (nd l x.toNat).id).mlow, mhigh := (getC c (nd l x.toNat).id).mhigh, mmax := (getC c (nd l x.toNat).id).mmax, mswap := (getC c (nd l x.toNat).id).mswap, mtog := (getC c (nd l x.toNat).id).mtog, devs := (getC c (nd l x.toNat).id).devs : Cfg } :: NilL Cfg = List.map (adjF c) (List.take x'.toNat l) ∧ l = l ∧ n = n) ∧ (decide (x < (↑l.length : Int)) = false → ∃ (y : Unit), True ∧ List.map (adjF c) (List.take x.toNat l) = adjL l n c))) = sAdjC.vc (EV Try.prog [(83, sChkP.spec), (20, sGetC.spec)] (invs [(5, inv25 l c)]) noInv) Try.f25 ((l, n), c, ()) := by kernel_rfl
  rw [← e]
  clear e
  simp only [imp_self, true_and, and_true, exists_const, implies_true, gd1, gd2, gd3, gd4, gd5, gd6 ]
  simp only [Prod.forall, Prod.exists, exists_const, implies_true, not_true_eq_false, not_false_eq_true, or_self, or_false, false_or, or_true, true_or, and_false, false_and, forall_const, true_and, and_true, i64R, imp_self, Int.reduceLE, Int.reduceLT, Int.reduceNeg, false_implies, true_implies, decide_eq_true_eq, decide_eq_false_iff_not, Bool.not_eq_true', Bool.not_eq_false', Bool.true_eq_false, Bool.false_eq_true, Bool.and_eq_true, Bool.or_eq_true, Bool.and_eq_false_iff, Bool.or_eq_false_iff ]
  try simp only [NilL_eq, nd_fold]
  obtain ⟨hw, hc⟩ := hx
  refine ⟨hw, fun h => by rw [adjL, if_neg (by simp [h])], fun h => ⟨⟨0, by omega, rfl, rfl⟩, fun x hi => ⟨fun hlt => ?_, fun hge => by rw [adjL, if_pos h, List.take_of_length_le (by omega)]⟩⟩⟩
  have e : (x + 1).toNat = x.toNat + 1 := by omega
  have hl64 := (chkB_iff.1 h).len2
  refine ⟨by omega, hc, by simp only [List.length_map, List.length_take, List.length_cons, List.length_nil]; omega, by omega, x + 1, by omega, by omega, rfl, ?_⟩
  rw [e, List.take_add_one, List.getElem?_eq_getElem (by omega), List.map_append]
  congr 1
  rw [nd, List.getD_eq_getElem?_getD, List.getElem?_eq_getElem (by omega)]
  rfl


set_option maxRecDepth 100000 in
theorem vc71 (l : List Nod) (n : Int) (hx : WfN l) : sNewC.vc (EV Try.prog [(25, sAdjC.spec)] noInv noInv) Try.f71 ((l, n), ()) := by
  have e : ((WfN l ∧ CL (NilL Cfg)) ∧ ∃ (y : Unit), True ∧ adjL l n (NilL Cfg) = adjL l n (NilL Cfg)) = sNewC.vc (EV Try.prog [(25, sAdjC.spec)] noInv noInv) Try.f71 ((l, n), ()) := by kernel_rfl
  rw [← e]
  clear e
  simp only [imp_self, true_and, and_true, exists_const, implies_true, gd1, gd2, gd3, gd4, gd5, gd6, NilL_eq ]
  exact ⟨hx, by simp [CL]⟩

def inv26 (l : List Nod) (c : List Cfg) : Inv where
  X := Int
  ok := fun i => 0 ≤ i ∧ i ≤ l.length ∧ ∀ j : Nat, (j : Int) < i → fit1 l c j = true
  sl := fun i => [(21, .int .i64 i)]
  hp := fun _ => []
  keep := [10000]
  me := fun i => (l.length - i).toNat
set_option maxRecDepth 100000 in
theorem vc26 (l : List Nod) (n : Int) (c : List Cfg) (hx : WfN l ∧ CL c) : sFit.vc (EV Try.prog [(83, sChkP.spec), (34, sChkS.spec)] (invs [(4, inv26 l c)]) noInv) Try.f26 ((l, n), c, ()) := by
  have e : (WfN l ∧ ((!chkB l n) = false → (!chkB l n) = false) ∧ ((!chkB l n) = false → (!chkB l n) = false) ∧ ((!chkB l n) = false → (!chkB l n) = false) ∧ ((!chkB l n) = false → (!chkB l n) = false) ∧ ((!chkB l n) = false → (!chkB l n) = false) ∧ ((!chkB l n) = false → (!chkB l n) = false) ∧ ((!chkB l n || !decide ((↑c.length : Int) = (↑l.length : Int))) = true → ∃ (y : Unit), True ∧ false = fitB l n c) ∧ ((!chkB l n || !decide ((↑c.length : Int) = (↑l.length : Int))) = false → (∃ (x : Int), (0 ≤ x ∧ x ≤ (↑l.length : Int) ∧ ∀ (j : Nat), (↑j : Int) < x → fit1 l c j = true) ∧ 0 = x ∧ l = l ∧ n = n) ∧ ∀ (x : Int), (0 ≤ x ∧ x ≤ (↑l.length : Int) ∧ ∀ (j : Nat), (↑j : Int) < x → fit1 l c j = true) → (decide (x < (↑l.length : Int)) = true → (0 ≤ x ∧ x < (↑l.length : Int)) ∧ (0 ≤ x ∧ x < (↑c.length : Int)) ∧ ((!decide ((cn c x.toNat).grp = (nd l x.toNat).id)) = false → (!decide ((cn c x.toNat).grp = (nd l x.toNat).id)) = false) ∧ ((!decide ((cn c x.toNat).grp = (nd l x.toNat).id)) = false → (!decide ((cn c x.toNat).grp = (nd l x.toNat).id)) = false) ∧ ((!decide ((cn c x.toNat).grp = (nd l x.toNat).id)) = false → 0 ≤ x ∧ x < (↑c.length : Int)) ∧ ((!decide ((cn c x.toNat).grp = (nd l x.toNat).id)) = false → (!decide ((cn c x.toNat).grp = (nd l x.toNat).id)) = false) ∧ ((!decide ((cn c x.toNat).grp = (nd l x.toNat).id)) = false → (!decide ((cn c x.toNat).grp = (nd l x.toNat).id)) = false) ∧ ((!decide ((cn c x.toNat).grp = (nd l x.toNat).id)) = false → (!decide ((cn c x.toNat).grp = (nd l x.toNat).id)) = false) ∧ ((!decide ((cn c x.toNat).grp = (nd l x.toNat).id)) = false → SOk { pids := (cn c x.toNat).pids, weight := (cn c x.toNat).weight, quota := (cn c x.toNat).quota, period := (cn c x.toNat).period, burst := (cn c x.toNat).burst, cmin := (cn c x.toNat).cmin, cmax := (cn c x.toNat).cmax, cpus := (cn c x.toNat).cpus, mems := (cn c x.toNat).mems, part := (cn c x.toNat).part, mmin := (cn c x.toNat).mmin, mlow := (cn c x.toNat).mlow, mhigh := (cn c x.toNat).mhigh, mmax := (cn c x.toNat).mmax, mswap := (cn c x.toNat).mswap, mtog := (cn c x.toNat).mtog, devs := (cn c x.toNat).devs : Stg }) ∧ ((!decide ((cn c x.toNat).grp = (nd l x.toNat).id)) = false → (!decide ((cn c x.toNat).grp = (nd l x.toNat).id)) = false) ∧ ((!decide ((cn c x.toNat).grp = (nd l x.toNat).id)) = false → (!decide ((cn c x.toNat).grp = (nd l x.toNat).id)) = false) ∧ ((!decide ((cn c x.toNat).grp = (nd l x.toNat).id) || !chkS { pids := (cn c x.toNat).pids, weight := (cn c x.toNat).weight, quota := (cn c x.toNat).quota, period := (cn c x.toNat).period, burst := (cn c x.toNat).burst, cmin := (cn c x.toNat).cmin, cmax := (cn c x.toNat).cmax, cpus := (cn c x.toNat).cpus, mems := (cn c x.toNat).mems, part := (cn c x.toNat).part, mmin := (cn c x.toNat).mmin, mlow := (cn c x.toNat).mlow, mhigh := (cn c x.toNat).mhigh, mmax := (cn c x.toNat).mmax, mswap := (cn c x.toNat).mswap, mtog := (cn c x.toNat).mtog, devs := (cn c x.toNat).devs : Stg }) = true → ∃ (y : Unit), True ∧ false = fitB l n c) ∧ ((!decide ((cn c x.toNat).grp = (nd l x.toNat).id) || !chkS { pids := (cn c x.toNat).pids, weight := (cn c x.toNat).weight, quota := (cn c x.toNat).quota, period := (cn c x.toNat).period, burst := (cn c x.toNat).burst, cmin := (cn c x.toNat).cmin, cmax := (cn c x.toNat).cmax, cpus := (cn c x.toNat).cpus, mems := (cn c x.toNat).mems, part := (cn c x.toNat).part, mmin := (cn c x.toNat).mmin, mlow := (cn c x.toNat).mlow, mhigh := (cn c x.toNat).mhigh, mmax := (cn c x.toNat).mmax, mswap := (cn c x.toNat).mswap, mtog := (cn c x.toNat).mtog, devs := (cn c x.toNat).devs : Stg }) = false → i64R (x + 1) ∧ ∃ (x' : Int), (0 ≤ x' ∧ x' ≤ (↑l.length : Int) ∧ ∀ (j : Nat), (↑j : Int) < x' → fit1 l c j = true) ∧ ((↑l.length : Int) - x').toNat < ((↑l.length : Int) - x).toNat ∧ x + 1 = x' ∧ l = l ∧ n = n)) ∧ (decide (x < (↑l.length : Int)) = false → ∃ (y : Unit), True ∧ true = fitB l n c))) = sFit.vc (EV Try.prog [(83, sChkP.spec), (34, sChkS.spec)] (invs [(4, inv26 l c)]) noInv) Try.f26 ((l, n), c, ()) := by kernel_rfl
  rw [← e]
  clear e
  simp only [imp_self, true_and, and_true, exists_const, implies_true, gd1, gd2, gd3, gd4, gd5, gd6 ]
  simp only [Prod.forall, Prod.exists, exists_const, implies_true, not_true_eq_false, not_false_eq_true, or_self, or_false, false_or, or_true, true_or, and_false, false_and, forall_const, true_and, and_true, i64R, imp_self, Int.reduceLE, Int.reduceLT, Int.reduceNeg, false_implies, true_implies, decide_eq_true_eq, decide_eq_false_iff_not, Bool.not_eq_true', Bool.not_eq_false', Bool.true_eq_false, Bool.false_eq_true, Bool.and_eq_true, Bool.or_eq_true, Bool.and_eq_false_iff, Bool.or_eq_false_iff ]
  try simp only [NilL_eq, cn_fold, nd_fold]
  obtain ⟨hw, hc, hl⟩ := hx
  refine ⟨hw, fun h => ?_, fun h => ⟨⟨0, ⟨by omega, by omega, fun j hj => by omega⟩, rfl⟩, fun x hi => ⟨fun hlt => ?_, fun hge => ?_⟩⟩⟩
  · cases e : fitB l n c
    · rfl
    · obtain ⟨⟨a, b⟩, d⟩ := fitB_iff.1 e
      rcases h with h | h
      · rw [a] at h; cases h
      · exact absurd (by omega) h
  · have hs : fit1 l c x.toNat = (decide ((cn c x.toNat).grp = (nd l x.toNat).id) && chkS (cst (cn c x.toNat))) := rfl
    refine ⟨by omega, by omega, fun _ => by omega, fun _ => hc _ (cn_mem (by omega)), fun h2 => fit1_no (i := x.toNat) (by omega) ?_, fun h2 => ⟨by omega, x + 1, ⟨by omega, by omega, nx hi.1 hi.2.2 ?_⟩, by omega, rfl⟩⟩
    · rw [hs, Bool.and_eq_true, decide_eq_true_eq]
      rintro ⟨a, b⟩
      rcases h2 with h2 | h2
      · exact h2 a
      · have h3 : chkS (cst (cn c x.toNat)) = false := h2
        rw [b] at h3; cases h3
    · rw [hs, Bool.and_eq_true, decide_eq_true_eq]
      exact h2
  · exact (fitB_iff.2 ⟨⟨h.1, by omega⟩, fun i hi2 => hi.2.2 i (by omega)⟩).symm


set_option maxRecDepth 100000 in
theorem vc30 (l : List Nod) (n : Int) (c : List Cfg) (g : Int) (s : Stg) (hx : (WfN l ∧ CL c) ∧ SOk s) : sSetC.vc (EV Try.prog [(74, sAtC.spec), (26, sFit.spec), (34, sChkS.spec), (89, sCopyC.spec), (75, sCopyS.spec)] noInv noInv) Try.f30 ((l, n), c, g, s, ()) := by
  have e : (c.length ≤ (9223372036854775807 : Nat) ∧ (WfN l ∧ CL c) ∧ ((!fitB l n c) = true → ∃ (y : Unit), True ∧ 1 = setE l n c g s ∧ NilL Cfg = setL l n c g s) ∧ ((!fitB l n c) = false → (decide (idxC c g < 0) = true → ∃ (y : Unit), True ∧ 4 = setE l n c g s ∧ NilL Cfg = setL l n c g s) ∧ (decide (idxC c g < 0) = false → SOk s ∧ ((!chkS s) = true → ∃ (y : Unit), True ∧ 3 = setE l n c g s ∧ NilL Cfg = setL l n c g s) ∧ ((!chkS s) = false → CL c ∧ SOk s ∧ (0 ≤ idxC c g ∧ idxC c g < (↑c.length : Int)) ∧ ∃ (y : Unit), True ∧ 0 = setE l n c g s ∧ c.set (idxC c g).toNat { grp := (cn c (idxC c g).toNat).grp, pids := s.pids, weight := s.weight, quota := s.quota, period := s.period, burst := s.burst, cmin := s.cmin, cmax := s.cmax, cpus := s.cpus, mems := s.mems, part := s.part, mmin := s.mmin, mlow := s.mlow, mhigh := s.mhigh, mmax := s.mmax, mswap := s.mswap, mtog := s.mtog, devs := s.devs : Cfg } = setL l n c g s)))) = sSetC.vc (EV Try.prog [(74, sAtC.spec), (26, sFit.spec), (34, sChkS.spec), (89, sCopyC.spec), (75, sCopyS.spec)] noInv noInv) Try.f30 ((l, n), c, g, s, ()) := by kernel_rfl
  rw [← e]
  clear e
  simp only [imp_self, true_and, and_true, exists_const, implies_true, gd1, gd2, gd3, gd4, gd5, gd6 ]
  simp only [Prod.forall, Prod.exists, exists_const, implies_true, not_true_eq_false, not_false_eq_true, or_self, or_false, false_or, or_true, true_or, and_false, false_and, forall_const, true_and, and_true, i64R, imp_self, Int.reduceLE, Int.reduceLT, Int.reduceNeg, false_implies, true_implies, decide_eq_true_eq, decide_eq_false_iff_not, Bool.not_eq_true', Bool.not_eq_false', Bool.true_eq_false, Bool.false_eq_true, Bool.and_eq_true, Bool.or_eq_true, Bool.and_eq_false_iff, Bool.or_eq_false_iff ]
  try simp only [NilL_eq, cn_fold]
  obtain ⟨⟨hw, hc⟩, hs⟩ := hx
  refine ⟨by have := hc.2; omega, ⟨hw, hc⟩, fun h => ?_, fun h => ⟨fun h2 => ?_, fun h2 => ⟨hs, fun h3 => ?_, fun h3 => ⟨hc, hs, ?_, ?_⟩⟩⟩⟩
  · have e : setE l n c g s = 1 := by rw [setE, if_pos h]
    rw [setL, e]; simp
  · have e : setE l n c g s = 4 := by rw [setE, if_neg (by simp [h]), if_pos h2]
    rw [setL, e]; simp
  · have e : setE l n c g s = 3 := by rw [setE, if_neg (by simp [h]), if_neg h2, if_pos h3]
    rw [setL, e]; simp
  · rcases idxC_cases c g with ⟨i, hi, e, h4, h5⟩ | ⟨h4, h5⟩ <;> omega
  · have e : setE l n c g s = 0 := by rw [setE, if_neg (by simp [h]), if_neg h2, if_neg (by simp [h3])]
    rw [setL, e, if_pos rfl]
    exact ⟨rfl, rfl⟩

def inv19 (l : List Nod) (c : List Cfg) (g : Int) : Inv where
  X := Int
  ok := fun i => 0 ≤ i ∧ i ≤ (upT l g).length
  sl := fun i => [(30, .int .i64 i), (28, .own 111 0)]
  hp := fun i => [(50030, .cells 39 (cellsS (lowF c (getC c g) ((upT l g).take i.toNat)))), (111, .rows 3 0 (upT l g))]
  keep := [10000, 10010]
  me := fun i => ((upT l g).length - i).toNat
set_option maxRecDepth 100000 in
theorem vc19 (l : List Nod) (n : Int) (c : List Cfg) (g : Int) (hx : ChkP l n ∧ CL c) : sLow.vc (EV Try.prog [(73, sFAnc.spec), (26, sFit.spec), (20, sGetC.spec)] (invs [(6, inv19 l c g)]) noInv) Try.f19 ((l, n), c, g, ()) := by
  have e : (ChkP l n ∧ (decide ((↑(upT l g).length : Int) = 0) = false → decide ((↑(upT l g).length : Int) = 0) = false) ∧ (decide ((↑(upT l g).length : Int) = 0) = false → decide ((↑(upT l g).length : Int) = 0) = false) ∧ (decide ((↑(upT l g).length : Int) = 0) = false → WfN l ∧ CL c) ∧ (decide ((↑(upT l g).length : Int) = 0) = false → decide ((↑(upT l g).length : Int) = 0) = false) ∧ (decide ((↑(upT l g).length : Int) = 0) = false → decide ((↑(upT l g).length : Int) = 0) = false) ∧ ((decide ((↑(upT l g).length : Int) = 0) || !fitB l n c) = true → ∃ (y : Unit), True ∧ 0 = (lowS l n c g).pids ∧ 0 = (lowS l n c g).weight ∧ 0 = (lowS l n c g).quota ∧ 0 = (lowS l n c g).period ∧ 0 = (lowS l n c g).burst ∧ 0 = (lowS l n c g).cmin ∧ 0 = (lowS l n c g).cmax ∧ NilL Int = (lowS l n c g).cpus ∧ NilL Int = (lowS l n c g).mems ∧ 0 = (lowS l n c g).part ∧ 0 = (lowS l n c g).mmin ∧ 0 = (lowS l n c g).mlow ∧ 0 = (lowS l n c g).mhigh ∧ 0 = (lowS l n c g).mmax ∧ 0 = (lowS l n c g).mswap ∧ false = (lowS l n c g).mtog ∧ NilL Dev = (lowS l n c g).devs) ∧ ((decide ((↑(upT l g).length : Int) = 0) || !fitB l n c) = false → CL c ∧ (∃ (x : Int), (0 ≤ x ∧ x ≤ (↑(upT l g).length : Int)) ∧ 0 = x ∧ (getC c g).pids = (lowF c (getC c g) (List.take x.toNat (upT l g))).pids ∧ (getC c g).weight = (lowF c (getC c g) (List.take x.toNat (upT l g))).weight ∧ (getC c g).quota = (lowF c (getC c g) (List.take x.toNat (upT l g))).quota ∧ (getC c g).period = (lowF c (getC c g) (List.take x.toNat (upT l g))).period ∧ (getC c g).burst = (lowF c (getC c g) (List.take x.toNat (upT l g))).burst ∧ (getC c g).cmin = (lowF c (getC c g) (List.take x.toNat (upT l g))).cmin ∧ (getC c g).cmax = (lowF c (getC c g) (List.take x.toNat (upT l g))).cmax ∧ (getC c g).cpus = (lowF c (getC c g) (List.take x.toNat (upT l g))).cpus ∧ (getC c g).mems = (lowF c (getC c g) (List.take x.toNat (upT l g))).mems ∧ (getC c g).part = (lowF c (getC c g) (List.take x.toNat (upT l g))).part ∧ (getC c g).mmin = (lowF c (getC c g) (List.take x.toNat (upT l g))).mmin ∧ (getC c g).mlow = (lowF c (getC c g) (List.take x.toNat (upT l g))).mlow ∧ (getC c g).mhigh = (lowF c (getC c g) (List.take x.toNat (upT l g))).mhigh ∧ (getC c g).mmax = (lowF c (getC c g) (List.take x.toNat (upT l g))).mmax ∧ (getC c g).mswap = (lowF c (getC c g) (List.take x.toNat (upT l g))).mswap ∧ (getC c g).mtog = (lowF c (getC c g) (List.take x.toNat (upT l g))).mtog ∧ (getC c g).devs = (lowF c (getC c g) (List.take x.toNat (upT l g))).devs ∧ upT l g = upT l g ∧ l = l ∧ n = n ∧ (0 : Int) = 0 ∧ (0 : Int) = 0 ∧ (0 : Int) = 0 ∧ (0 : Int) = 0 ∧ (0 : Int) = 0 ∧ (0 : Int) = 0 ∧ (0 : Int) = 0 ∧ (0 : Int) = 0 ∧ (0 : Int) = 0 ∧ (0 : Int) = 0 ∧ (0 : Int) = 0 ∧ (0 : Int) = 0 ∧ (0 : Int) = 0) ∧ ∀ (x : Int), 0 ≤ x ∧ x ≤ (↑(upT l g).length : Int) → (decide (x < (↑(upT l g).length : Int)) = true → (0 ≤ x ∧ x < (↑(upT l g).length : Int)) ∧ CL c ∧ i64R (x + 1) ∧ ∃ (x' : Int), (0 ≤ x' ∧ x' ≤ (↑(upT l g).length : Int)) ∧ ((↑(upT l g).length : Int) - x').toNat < ((↑(upT l g).length : Int) - x).toNat ∧ x + 1 = x' ∧ Min.min (lowF c (getC c g) (List.take x.toNat (upT l g))).pids (getC c ((upT l g).getD x.toNat 0)).pids = (lowF c (getC c g) (List.take x'.toNat (upT l g))).pids ∧ (lowF c (getC c g) (List.take x.toNat (upT l g))).weight = (lowF c (getC c g) (List.take x'.toNat (upT l g))).weight ∧ Min.min (lowF c (getC c g) (List.take x.toNat (upT l g))).quota (getC c ((upT l g).getD x.toNat 0)).quota = (lowF c (getC c g) (List.take x'.toNat (upT l g))).quota ∧ (lowF c (getC c g) (List.take x.toNat (upT l g))).period = (lowF c (getC c g) (List.take x'.toNat (upT l g))).period ∧ (lowF c (getC c g) (List.take x.toNat (upT l g))).burst = (lowF c (getC c g) (List.take x'.toNat (upT l g))).burst ∧ (lowF c (getC c g) (List.take x.toNat (upT l g))).cmin = (lowF c (getC c g) (List.take x'.toNat (upT l g))).cmin ∧ Min.min (lowF c (getC c g) (List.take x.toNat (upT l g))).cmax (getC c ((upT l g).getD x.toNat 0)).cmax = (lowF c (getC c g) (List.take x'.toNat (upT l g))).cmax ∧ (lowF c (getC c g) (List.take x.toNat (upT l g))).cpus = (lowF c (getC c g) (List.take x'.toNat (upT l g))).cpus ∧ (lowF c (getC c g) (List.take x.toNat (upT l g))).mems = (lowF c (getC c g) (List.take x'.toNat (upT l g))).mems ∧ (lowF c (getC c g) (List.take x.toNat (upT l g))).part = (lowF c (getC c g) (List.take x'.toNat (upT l g))).part ∧ (lowF c (getC c g) (List.take x.toNat (upT l g))).mmin = (lowF c (getC c g) (List.take x'.toNat (upT l g))).mmin ∧ (lowF c (getC c g) (List.take x.toNat (upT l g))).mlow = (lowF c (getC c g) (List.take x'.toNat (upT l g))).mlow ∧ (lowF c (getC c g) (List.take x.toNat (upT l g))).mhigh = (lowF c (getC c g) (List.take x'.toNat (upT l g))).mhigh ∧ (lowF c (getC c g) (List.take x.toNat (upT l g))).mmax = (lowF c (getC c g) (List.take x'.toNat (upT l g))).mmax ∧ (lowF c (getC c g) (List.take x.toNat (upT l g))).mswap = (lowF c (getC c g) (List.take x'.toNat (upT l g))).mswap ∧ (lowF c (getC c g) (List.take x.toNat (upT l g))).mtog = (lowF c (getC c g) (List.take x'.toNat (upT l g))).mtog ∧ (lowF c (getC c g) (List.take x.toNat (upT l g))).devs = (lowF c (getC c g) (List.take x'.toNat (upT l g))).devs ∧ upT l g = upT l g ∧ l = l ∧ n = n ∧ (0 : Int) = 0 ∧ (0 : Int) = 0 ∧ (0 : Int) = 0 ∧ (0 : Int) = 0 ∧ (0 : Int) = 0 ∧ (0 : Int) = 0 ∧ (0 : Int) = 0 ∧ (0 : Int) = 0 ∧ (0 : Int) = 0 ∧ (0 : Int) = 0 ∧ (0 : Int) = 0 ∧ (0 : Int) = 0 ∧ (0 : Int) = 0) ∧ (decide (x < (↑(upT l g).length : Int)) = false → ∃ (y : Unit), True ∧ (lowF c (getC c g) (List.take x.toNat (upT l g))).pids = (lowS l n c g).pids ∧ (lowF c (getC c g) (List.take x.toNat (upT l g))).weight = (lowS l n c g).weight ∧ (lowF c (getC c g) (List.take x.toNat (upT l g))).quota = (lowS l n c g).quota ∧ (lowF c (getC c g) (List.take x.toNat (upT l g))).period = (lowS l n c g).period ∧ (lowF c (getC c g) (List.take x.toNat (upT l g))).burst = (lowS l n c g).burst ∧ Min.min (lowF c (getC c g) (List.take x.toNat (upT l g))).cmin (lowF c (getC c g) (List.take x.toNat (upT l g))).cmax = (lowS l n c g).cmin ∧ (lowF c (getC c g) (List.take x.toNat (upT l g))).cmax = (lowS l n c g).cmax ∧ (lowF c (getC c g) (List.take x.toNat (upT l g))).cpus = (lowS l n c g).cpus ∧ (lowF c (getC c g) (List.take x.toNat (upT l g))).mems = (lowS l n c g).mems ∧ (lowF c (getC c g) (List.take x.toNat (upT l g))).part = (lowS l n c g).part ∧ (lowF c (getC c g) (List.take x.toNat (upT l g))).mmin = (lowS l n c g).mmin ∧ (lowF c (getC c g) (List.take x.toNat (upT l g))).mlow = (lowS l n c g).mlow ∧ (lowF c (getC c g) (List.take x.toNat (upT l g))).mhigh = (lowS l n c g).mhigh ∧ (lowF c (getC c g) (List.take x.toNat (upT l g))).mmax = (lowS l n c g).mmax ∧ (lowF c (getC c g) (List.take x.toNat (upT l g))).mswap = (lowS l n c g).mswap ∧ (lowF c (getC c g) (List.take x.toNat (upT l g))).mtog = (lowS l n c g).mtog ∧ (lowF c (getC c g) (List.take x.toNat (upT l g))).devs = (lowS l n c g).devs))) = sLow.vc (EV Try.prog [(73, sFAnc.spec), (26, sFit.spec), (20, sGetC.spec)] (invs [(6, inv19 l c g)]) noInv) Try.f19 ((l, n), c, g, ()) := by kernel_rfl
  rw [← e]
  clear e
  simp only [imp_self, true_and, and_true, exists_const, implies_true, gd1, gd2, gd3, gd4, gd5, gd6 ]
  simp only [Prod.forall, Prod.exists, exists_const, implies_true, not_true_eq_false, not_false_eq_true, or_self, or_false, false_or, or_true, true_or, and_false, false_and, forall_const, true_and, and_true, i64R, imp_self, Int.reduceLE, Int.reduceLT, Int.reduceNeg, false_implies, true_implies, decide_eq_true_eq, decide_eq_false_iff_not, Bool.not_eq_true', Bool.not_eq_false', Bool.true_eq_false, Bool.false_eq_true, Bool.and_eq_true, Bool.or_eq_true, Bool.and_eq_false_iff, Bool.or_eq_false_iff ]
  try simp only [NilL_eq]
  obtain ⟨hk, hc⟩ := hx
  have hu : (upT l g).length ≤ 64 := up64 hk g
  refine ⟨hk, fun _ => ⟨hk.wf, hc⟩, fun h => ?_, fun h => ⟨hc, ⟨0, by omega, rfl, ?_⟩, fun x hi => ⟨fun hlt => ⟨by omega, hc, by omega, x + 1, by omega, by omega, rfl, ?_⟩, fun hge => ?_⟩⟩⟩
  · have e : lowS l n c g = zS := by
      rw [lowS, if_neg]
      rintro ⟨h1, h2⟩
      rcases h with h | h
      · have := hk.asc.self_mem (hasR_iff.1 h1).2
        have h3 : (upT l g).length = 0 := by omega
        rw [List.eq_nil_of_length_eq_zero h3] at this
        cases this
      · rw [h2] at h; cases h
    rw [e]
    (repeat' apply And.intro) <;> rfl
  · (repeat' apply And.intro) <;> rfl
  · have e : (x + 1).toNat = x.toNat + 1 := by omega
    rw [e, lowF_step (by omega)]
    (repeat' apply And.intro) <;> rfl
  · have hm : g ∈ ids l := by
      by_cases c : g ∈ ids l
      · exact c
      · rw [upT_none c] at h
        exact absurd rfl h.1
    have e : lowS l n c g = lowE (lowF c (getC c g) (upT l g)) := by
      rw [lowS, if_pos ⟨hasR_iff.2 ⟨hk, hm⟩, h.2⟩]
    obtain ⟨k1, k2, k3⟩ := lowF_keep c (upT l g) (getC c g)
    rw [e, List.take_of_length_le (by omega)]
    (repeat' apply And.intro) <;> rfl
end Go.Proofs.Ytemffnpliflkgaa
