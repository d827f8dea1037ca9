/-
  Lemmas and contracts on the way to the laws of this seat; each theorem states its own conditions, and there are no others.
-/
import Derived.Test.YtemffnpliflkgaaRT
import Derived.Test.YtemffnpliflkgaaQB

namespace Go.Proofs.Ytemffnpliflkgaa
open Go
set_option linter.unusedVariables false
set_option linter.unusedSimpArgs false
set_option linter.unusedVariables false

def TL (ps : List Pool) : Prop := (∀ x ∈ ps, Tame x) ∧ ps.length ≤ 1048576
def getPk : AV → Option Int
  | .fn (.func 135) [] [.ipt false [.int .i64 a] 0] => some a
  | _ => none
def pkFnP : PK Int where
  get := getPk
  put := fun a => .fn (.func 135) [] [.ipt false [.int .i64 a] 0]
  ok := fun v a h w S μ x hS hx => by
    unfold getPk at h
    split at h
    · cases h; exact hx
    · cases h
def retF (p : Pool) : AV := poolAV p (.irec true 0 p.l)
def contP (s : St) (v : AV) : List Pool := match v with
  | .nsl => []
  | v => match contentA s.h v with
    | some ⟨4, l⟩ => l
    | _ => []
def sAt1P : DS := ⟨_, two pkPool pkPeek, fun _ => True, fun x => .bool (decide (x.1.g = x.2.1)), nou⟩
def sIdxF : DS := ⟨_, two pkPools pkFnP, fun x => x.1.length ≤ 9223372036854775807, fun x => .int .i64 (idxQ x.1 x.2.1), nou⟩
def sAtP : DS := ⟨_, two pkPools pkI, fun x => x.1.length ≤ 9223372036854775807, fun x => .int .i64 (idxQ x.1 x.2.1), nou⟩
def sCloneP : DS := ⟨_, one pkPools, fun x => x.1.length ≤ 1048576, fun _ => .own 101 4, fun x => [(101, .rows 80 4 x.1)]⟩
def sCopyP : DS := ⟨_, one pkPools, fun x => TL x.1, fun _ => .own 101 4, fun x => [(101, .rows 80 4 x.1)]⟩
def sThr : DS := ⟨_, two pkTree pkPools, fun x => WfN x.1.1 ∧ TL x.2.1, fun x => .bool (thrB x.1.1 x.1.2 x.2.1), nou⟩
def sGetP : DS := ⟨_, two pkPools pkI, fun x => TL x.1, fun x => .tup [retF (atP x.1 x.2.1), .bool (hasP x.1 x.2.1)], nou⟩
def sRoom0 : DS := ⟨_, four pkTree pkPools pkI pkI, fun x => ThrP x.1.1 x.1.2 x.2.1, fun x => .int .i64 (roomL x.2.1 x.2.2.2.1 (upT x.1.1 x.2.2.1)), nou⟩
def sRoomT : DS := ⟨_, four pkTree pkPools pkI pkI, fun x => WfN x.1.1 ∧ TL x.2.1, fun x => .int .i64 (roomT x.1.1 x.1.2 x.2.1 x.2.2.1 x.2.2.2.1), nou⟩
def sBlk0 : DS := ⟨_, four pkTree pkPools pkI pkI, fun x => ThrP x.1.1 x.1.2 x.2.1, fun x => .tup [.int .i64 (blkL x.2.1 x.2.2.2.1 (upT x.1.1 x.2.2.1)).1, .bool (blkL x.2.1 x.2.2.2.1 (upT x.1.1 x.2.2.1)).2], nou⟩
def sBlkT : DS := ⟨_, four pkTree pkPools pkI pkI, fun x => WfN x.1.1 ∧ TL x.2.1, fun x => .tup [.int .i64 (blkT x.1.1 x.1.2 x.2.1 x.2.2.1 x.2.2.2.1).1, .bool (blkT x.1.1 x.1.2 x.2.1 x.2.2.1 x.2.2.2.1).2], nou⟩
def sSpT : DS := ⟨_, four pkTree pkPools pkI pkI, fun x => WfN x.1.1 ∧ TL x.2.1, fun x => .tup [.own 101 4, .int .i64 (spE x.1.1 x.1.2 x.2.1 x.2.2.1 x.2.2.2.1)], fun x => [(101, .rows 80 4 (spL x.1.1 x.1.2 x.2.1 x.2.2.1 x.2.2.2.1))]⟩
def sIdT : DS := ⟨_, three pkTree pkPools pkI, fun x => WfN x.1.1 ∧ TL x.2.1, fun _ => .own 101 4, fun x => [(101, .rows 80 4 (idL x.1.1 x.1.2 x.2.1 x.2.2.1))]⟩
def sRfT : DS := ⟨_, three pkTree pkPools pkInts, fun x => (WfN x.1.1 ∧ TL x.2.1) ∧ x.2.2.1.length ≤ 9223372036854775807, fun _ => .own 101 4, fun x => [(101, .rows 80 4 (rfL x.1.1 x.1.2 x.2.1 x.2.2.1))]⟩


set_option maxRecDepth 100000 in
theorem vc135 (p : Pool) (g : Int) (hx : True) : sAt1P.vc (EV Try.prog [] noInv noInv) Try.f135 (p, g, ()) := by
  have e : (∃ (y : Unit), True ∧ decide (p.g = g) = decide (p.g = g)) = sAt1P.vc (EV Try.prog [] noInv noInv) Try.f135 (p, g, ()) := by kernel_rfl
  rw [← e]
  clear e
  simp only [imp_self, true_and, and_true, exists_const, implies_true, gd1, gd2, gd3, gd4, gd5, gd6, NilL_eq ]

def inv134 (l : List Pool) (g : Int) : Inv where
  X := Int
  ok := fun i => 0 ≤ i ∧ i ≤ l.length ∧ ∀ j : Nat, (j : Int) < i → ¬ (pn l j).g = g
  sl := fun i => [(8, .int .i64 i)]
  hp := fun _ => []
  keep := []
  me := fun i => (l.length - i).toNat
set_option maxRecDepth 100000 in
theorem vc134 (l : List Pool) (g : Int) (hx : l.length ≤ 9223372036854775807) : sIdxF.vc (EV Try.prog [(135, sAt1P.spec)] (invs [(2, inv134 l g)]) noInv) Try.f134 (l, g, ()) := by
  have e : ((∃ (x : Int), (0 ≤ x ∧ x ≤ (↑l.length : Int) ∧ ∀ (j : Nat), (↑j : Int) < x → ¬(pn l j).g = g) ∧ 0 = x) ∧ ∀ (x : Int), (0 ≤ x ∧ x ≤ (↑l.length : Int) ∧ ∀ (j : Nat), (↑j : Int) < x → ¬(pn l j).g = g) → (decide (x < (↑l.length : Int)) = true → (0 ≤ x ∧ x < (↑l.length : Int)) ∧ True ∧ (decide ((l.getD x.toNat { g := 0, q := 0, bu := 0, s := 0, le := 0, l := NilL Int, sp := 0, pe := 0, th := 0, em := false : Pool }).g = g) = true → ∃ (y : Unit), True ∧ x = idxQ l g) ∧ (decide ((l.getD x.toNat { g := 0, q := 0, bu := 0, s := 0, le := 0, l := NilL Int, sp := 0, pe := 0, th := 0, em := false : Pool }).g = g) = false → i64R (x + 1) ∧ ∃ (x' : Int), (0 ≤ x' ∧ x' ≤ (↑l.length : Int) ∧ ∀ (j : Nat), (↑j : Int) < x' → ¬(pn l j).g = g) ∧ ((↑l.length : Int) - x').toNat < ((↑l.length : Int) - x).toNat ∧ x + 1 = x')) ∧ (decide (x < (↑l.length : Int)) = false → ∃ (y : Unit), True ∧ (-1) = idxQ l g)) = sIdxF.vc (EV Try.prog [(135, sAt1P.spec)] (invs [(2, inv134 l g)]) noInv) Try.f134 (l, g, ()) := by kernel_rfl
  rw [← e]
  clear e
  simp only [imp_self, true_and, and_true, exists_const, implies_true, gd1, gd2, gd3, gd4, gd5, gd6 ]
  simp only [Prod.forall, Prod.exists, exists_const, implies_true, not_true_eq_false, not_false_eq_true, or_self, or_false, false_or, or_true, true_or, and_false, false_and, forall_const, true_and, and_true, i64R, imp_self, Int.reduceLE, Int.reduceLT, Int.reduceNeg, false_implies, true_implies, decide_eq_true_eq, decide_eq_false_iff_not, Bool.not_eq_true', Bool.not_eq_false', Bool.true_eq_false, Bool.false_eq_true, Bool.and_eq_true, Bool.or_eq_true, Bool.and_eq_false_iff, Bool.or_eq_false_iff ]
  simp only [NilL_eq, pn_fold]
  refine ⟨⟨0, ⟨by omega, by omega, fun j hj => by omega⟩, rfl⟩, fun x hx1 => ⟨fun hlt => ⟨by omega, fun he => ?_, fun hne => ⟨by omega, x + 1, ⟨by omega, by omega, fun j hj => ?_⟩, by omega, rfl⟩⟩, fun hge => ?_⟩⟩
  · rw [idxQ_first (fun j hj => hx1.2.2 j (by omega)) (by omega) he]; omega
  · by_cases e : (j : Int) < x
    · exact hx1.2.2 j e
    · have : j = x.toNat := by omega
      rw [this]; exact hne
  · rw [idxQ_all fun j hj => hx1.2.2 j (by omega)]


set_option maxRecDepth 100000 in
theorem vc104 (l : List Pool) (g : Int) (hx : l.length ≤ 9223372036854775807) : sAtP.vc (EV Try.prog [(134, sIdxF.spec)] noInv noInv) Try.f104 (l, g, ()) := by
  have e : (l.length ≤ (9223372036854775807 : Nat) ∧ ∃ (y : Unit), True ∧ idxQ l g = idxQ l g) = sAtP.vc (EV Try.prog [(134, sIdxF.spec)] noInv noInv) Try.f104 (l, g, ()) := by kernel_rfl
  rw [← e]
  clear e
  simp only [imp_self, true_and, and_true, exists_const, implies_true, gd1, gd2, gd3, gd4, gd5, gd6, NilL_eq ]
  exact hx


set_option maxRecDepth 100000 in
theorem vc136 (l : List Pool) (hx : l.length ≤ 1048576) : sCloneP.vc (EV Try.prog [] noInv noInv) Try.f136 (l, ()) := by
  have e : (∀ (y : Bool), (y = true → l = NilL Pool) → (y = true → ∃ (y : Unit), True ∧ NilL Pool = l) ∧ (y = false → (NilL Pool).length + l.length ≤ (68719476736 : Nat) ∧ ∃ (y : Unit), True ∧ NilL Pool ++ l = l)) = sCloneP.vc (EV Try.prog [] noInv noInv) Try.f136 (l, ()) := by kernel_rfl
  rw [← e]
  clear e
  simp only [NilL_eq]
  intro y hy
  refine ⟨fun h => ⟨(), trivial, (hy h).symm⟩, fun _ => ⟨by simp; omega, (), trivial, rfl⟩⟩

def inv105 (l : List Pool) : Inv where
  X := Int
  ok := fun i => 0 ≤ i ∧ i ≤ l.length
  sl := fun i => [(10, .int .i64 i), (3, .own 101 4), (8, .own 101 4)]
  hp := fun _ => [(101, .rows 80 4 l)]
  keep := []
  me := fun i => (l.length - i).toNat
set_option maxRecDepth 100000 in
theorem vc105 (l : List Pool) (hx : TL l) : sCopyP.vc (EV Try.prog [(136, sCloneP.spec), (125, sClone.spec)] (invs [(3, inv105 l)]) noInv) Try.f105 (l, ()) := by
  have e : (l.length ≤ (1048576 : Nat) ∧ (∃ (x : Int), (0 ≤ x ∧ x ≤ (↑l.length : Int)) ∧ 0 = x ∧ l = l) ∧ ∀ (x : Int), 0 ≤ x ∧ x ≤ (↑l.length : Int) → (decide (x < (↑l.length : Int)) = true → (0 ≤ x ∧ x < (↑l.length : Int)) ∧ (l.getD x.toNat { g := 0, q := 0, bu := 0, s := 0, le := 0, l := NilL Int, sp := 0, pe := 0, th := 0, em := false : Pool }).l.length ≤ (1048576 : Nat) ∧ (0 ≤ x ∧ x < (↑l.length : Int)) ∧ i64R (x + 1) ∧ ∃ (x' : Int), (0 ≤ x' ∧ x' ≤ (↑l.length : Int)) ∧ ((↑l.length : Int) - x').toNat < ((↑l.length : Int) - x).toNat ∧ x + 1 = x' ∧ l.set x.toNat (l.getD x.toNat { g := 0, q := 0, bu := 0, s := 0, le := 0, l := NilL Int, sp := 0, pe := 0, th := 0, em := false : Pool }) = l) ∧ (decide (x < (↑l.length : Int)) = false → ∃ (y : Unit), True ∧ l = l)) = sCopyP.vc (EV Try.prog [(136, sCloneP.spec), (125, sClone.spec)] (invs [(3, inv105 l)]) noInv) Try.f105 (l, ()) := by kernel_rfl
  rw [← e]
  clear e
  simp only [imp_self, true_and, and_true, exists_const, implies_true, gd1, gd2, gd3, gd4, gd5, gd6 ]
  simp only [Prod.forall, Prod.exists, exists_const, implies_true, not_true_eq_false, not_false_eq_true, or_self, or_false, false_or, or_true, true_or, and_false, false_and, forall_const, true_and, and_true, i64R, imp_self, Int.reduceLE, Int.reduceLT, Int.reduceNeg, false_implies, true_implies, decide_eq_true_eq, decide_eq_false_iff_not, Bool.not_eq_true', Bool.not_eq_false', Bool.true_eq_false, Bool.false_eq_true, Bool.and_eq_true, Bool.or_eq_true, Bool.and_eq_false_iff, Bool.or_eq_false_iff ]
  simp only [NilL_eq, pn_fold]
  obtain ⟨ht, hl⟩ := hx
  refine ⟨hl, ⟨0, by omega, rfl⟩, fun x hx2 hlt => ⟨by omega, (ht _ (pn_mem (by omega))).len, by omega, by omega, x + 1, by omega, by omega, rfl, ?_⟩⟩
  apply List.ext_getElem (by rw [List.length_set])
  intro j h1 h2
  rw [List.getElem_set]
  split
  · rename_i c
    rw [← pn_get h2, c]
  · rfl

def inv103 (l : List Pool) : Inv where
  X := Int
  ok := fun i => 0 ≤ i ∧ i ≤ l.length
  sl := fun i => [(4, .int .i64 i), (3, .own 101 4)]
  hp := fun i => [(101, .rows 80 4 (l.take i.toNat))]
  keep := []
  me := fun i => (l.length - i).toNat
set_option maxRecDepth 100000 in
theorem vc103 (l : List Pool) (hx : TL l) : sCopyP.vc (EV Try.prog [(118, sCopied.spec)] (invs [(3, inv103 l)]) noInv) Try.f103 (l, ()) := by
  have e : ((∃ (x : Int), (0 ≤ x ∧ x ≤ (↑l.length : Int)) ∧ 0 = x ∧ NilL Pool = List.take x.toNat l) ∧ ∀ (x : Int), 0 ≤ x ∧ x ≤ (↑l.length : Int) → (decide (x < (↑l.length : Int)) = true → (0 ≤ x ∧ x < (↑l.length : Int)) ∧ (l.getD x.toNat { g := 0, q := 0, bu := 0, s := 0, le := 0, l := NilL Int, sp := 0, pe := 0, th := 0, em := false : Pool }).l.length ≤ (1048576 : Nat) ∧ (List.take x.toNat l).length + (l.getD x.toNat { g := 0, q := 0, bu := 0, s := 0, le := 0, l := NilL Int, sp := 0, pe := 0, th := 0, em := false : Pool } :: NilL Pool).length ≤ (68719476736 : Nat) ∧ i64R (x + 1) ∧ ∃ (x' : Int), (0 ≤ x' ∧ x' ≤ (↑l.length : Int)) ∧ ((↑l.length : Int) - x').toNat < ((↑l.length : Int) - x).toNat ∧ x + 1 = x' ∧ List.take x.toNat l ++ l.getD x.toNat { g := 0, q := 0, bu := 0, s := 0, le := 0, l := NilL Int, sp := 0, pe := 0, th := 0, em := false : Pool } :: NilL Pool = List.take x'.toNat l) ∧ (decide (x < (↑l.length : Int)) = false → ∃ (y : Unit), True ∧ List.take x.toNat l = l)) = sCopyP.vc (EV Try.prog [(118, sCopied.spec)] (invs [(3, inv103 l)]) noInv) Try.f103 (l, ()) := by kernel_rfl
  rw [← e]
  clear e
  simp only [imp_self, true_and, and_true, exists_const, implies_true, gd1, gd2, gd3, gd4, gd5, gd6 ]
  simp only [Prod.forall, Prod.exists, exists_const, implies_true, not_true_eq_false, not_false_eq_true, or_self, or_false, false_or, or_true, true_or, and_false, false_and, forall_const, true_and, and_true, i64R, imp_self, Int.reduceLE, Int.reduceLT, Int.reduceNeg, false_implies, true_implies, decide_eq_true_eq, decide_eq_false_iff_not, Bool.not_eq_true', Bool.not_eq_false', Bool.true_eq_false, Bool.false_eq_true, Bool.and_eq_true, Bool.or_eq_true, Bool.and_eq_false_iff, Bool.or_eq_false_iff ]
  simp only [NilL_eq, pn_fold]
  obtain ⟨ht, hl⟩ := hx
  refine ⟨⟨0, by omega, rfl, rfl⟩, fun x hx2 => ⟨fun hlt => ?_, fun hge => by rw [List.take_of_length_le (by omega)]⟩⟩
  have e : (x + 1).toNat = x.toNat + 1 := by omega
  refine ⟨by omega, (ht _ (pn_mem (by omega))).len, by rw [List.length_take]; simp; omega, by omega, x + 1, by omega, by omega, rfl, ?_⟩
  rw [e, take_pn (by omega)]

def inv66 (l : List Nod) (ps : List Pool) : Inv where
  X := Int
  ok := fun i => 0 ≤ i ∧ i ≤ l.length ∧ ∀ j : Nat, (j : Int) < i → tc1 l ps j = true
  sl := fun i => [(21, .int .i64 i)]
  hp := fun _ => []
  keep := [10000]
  me := fun i => (l.length - i).toNat
set_option maxRecDepth 100000 in
theorem vc66 (l : List Nod) (n : Int) (ps : List Pool) (hx : WfN l ∧ TL ps) : sThr.vc (EV Try.prog [(83, sChkP.spec), (121, sGoodB.spec)] (invs [(4, inv66 l ps)]) noInv) Try.f66 ((l, n), ps, ()) := by
  have e : (WfN l ∧ ((!chkB l n) = false → (!chkB l n) = false) ∧ ((!chkB l n) = false → (!chkB l n) = false) ∧ ((!chkB l n) = false → (!chkB l n) = false) ∧ ((!chkB l n) = false → (!chkB l n) = false) ∧ ((!chkB l n) = false → (!chkB l n) = false) ∧ ((!chkB l n) = false → (!chkB l n) = false) ∧ ((!chkB l n || !decide ((↑ps.length : Int) = (↑l.length : Int))) = true → ∃ (y : Unit), True ∧ false = thrB l n ps) ∧ ((!chkB l n || !decide ((↑ps.length : Int) = (↑l.length : Int))) = false → (∃ (x : Int), (0 ≤ x ∧ x ≤ (↑l.length : Int) ∧ ∀ (j : Nat), (↑j : Int) < x → tc1 l ps j = true) ∧ 0 = x ∧ l = l ∧ n = n) ∧ ∀ (x : Int), (0 ≤ x ∧ x ≤ (↑l.length : Int) ∧ ∀ (j : Nat), (↑j : Int) < x → tc1 l ps j = true) → (decide (x < (↑l.length : Int)) = true → (0 ≤ x ∧ x < (↑l.length : Int)) ∧ (0 ≤ x ∧ x < (↑ps.length : Int)) ∧ ((!decide ((ps.getD x.toNat { g := 0, q := 0, bu := 0, s := 0, le := 0, l := NilL Int, sp := 0, pe := 0, th := 0, em := false : Pool }).g = (l.getD x.toNat { id := 0, parent := 0, name := ByteArray.empty, control := 0, kind := 0, owner := 0 : Nod }).id)) = false → (!decide ((ps.getD x.toNat { g := 0, q := 0, bu := 0, s := 0, le := 0, l := NilL Int, sp := 0, pe := 0, th := 0, em := false : Pool }).g = (l.getD x.toNat { id := 0, parent := 0, name := ByteArray.empty, control := 0, kind := 0, owner := 0 : Nod }).id)) = false) ∧ ((!decide ((ps.getD x.toNat { g := 0, q := 0, bu := 0, s := 0, le := 0, l := NilL Int, sp := 0, pe := 0, th := 0, em := false : Pool }).g = (l.getD x.toNat { id := 0, parent := 0, name := ByteArray.empty, control := 0, kind := 0, owner := 0 : Nod }).id)) = false → (!decide ((ps.getD x.toNat { g := 0, q := 0, bu := 0, s := 0, le := 0, l := NilL Int, sp := 0, pe := 0, th := 0, em := false : Pool }).g = (l.getD x.toNat { id := 0, parent := 0, name := ByteArray.empty, control := 0, kind := 0, owner := 0 : Nod }).id)) = false) ∧ ((!decide ((ps.getD x.toNat { g := 0, q := 0, bu := 0, s := 0, le := 0, l := NilL Int, sp := 0, pe := 0, th := 0, em := false : Pool }).g = (l.getD x.toNat { id := 0, parent := 0, name := ByteArray.empty, control := 0, kind := 0, owner := 0 : Nod }).id)) = false → 0 ≤ x ∧ x < (↑ps.length : Int)) ∧ ((!decide ((ps.getD x.toNat { g := 0, q := 0, bu := 0, s := 0, le := 0, l := NilL Int, sp := 0, pe := 0, th := 0, em := false : Pool }).g = (l.getD x.toNat { id := 0, parent := 0, name := ByteArray.empty, control := 0, kind := 0, owner := 0 : Nod }).id)) = false → (!decide ((ps.getD x.toNat { g := 0, q := 0, bu := 0, s := 0, le := 0, l := NilL Int, sp := 0, pe := 0, th := 0, em := false : Pool }).g = (l.getD x.toNat { id := 0, parent := 0, name := ByteArray.empty, control := 0, kind := 0, owner := 0 : Nod }).id)) = false) ∧ ((!decide ((ps.getD x.toNat { g := 0, q := 0, bu := 0, s := 0, le := 0, l := NilL Int, sp := 0, pe := 0, th := 0, em := false : Pool }).g = (l.getD x.toNat { id := 0, parent := 0, name := ByteArray.empty, control := 0, kind := 0, owner := 0 : Nod }).id)) = false → (!decide ((ps.getD x.toNat { g := 0, q := 0, bu := 0, s := 0, le := 0, l := NilL Int, sp := 0, pe := 0, th := 0, em := false : Pool }).g = (l.getD x.toNat { id := 0, parent := 0, name := ByteArray.empty, control := 0, kind := 0, owner := 0 : Nod }).id)) = false) ∧ ((!decide ((ps.getD x.toNat { g := 0, q := 0, bu := 0, s := 0, le := 0, l := NilL Int, sp := 0, pe := 0, th := 0, em := false : Pool }).g = (l.getD x.toNat { id := 0, parent := 0, name := ByteArray.empty, control := 0, kind := 0, owner := 0 : Nod }).id)) = false → Tame (ps.getD x.toNat { g := 0, q := 0, bu := 0, s := 0, le := 0, l := NilL Int, sp := 0, pe := 0, th := 0, em := false : Pool })) ∧ ((!decide ((ps.getD x.toNat { g := 0, q := 0, bu := 0, s := 0, le := 0, l := NilL Int, sp := 0, pe := 0, th := 0, em := false : Pool }).g = (l.getD x.toNat { id := 0, parent := 0, name := ByteArray.empty, control := 0, kind := 0, owner := 0 : Nod }).id)) = false → (!decide ((ps.getD x.toNat { g := 0, q := 0, bu := 0, s := 0, le := 0, l := NilL Int, sp := 0, pe := 0, th := 0, em := false : Pool }).g = (l.getD x.toNat { id := 0, parent := 0, name := ByteArray.empty, control := 0, kind := 0, owner := 0 : Nod }).id)) = false) ∧ ((!decide ((ps.getD x.toNat { g := 0, q := 0, bu := 0, s := 0, le := 0, l := NilL Int, sp := 0, pe := 0, th := 0, em := false : Pool }).g = (l.getD x.toNat { id := 0, parent := 0, name := ByteArray.empty, control := 0, kind := 0, owner := 0 : Nod }).id)) = false → (!decide ((ps.getD x.toNat { g := 0, q := 0, bu := 0, s := 0, le := 0, l := NilL Int, sp := 0, pe := 0, th := 0, em := false : Pool }).g = (l.getD x.toNat { id := 0, parent := 0, name := ByteArray.empty, control := 0, kind := 0, owner := 0 : Nod }).id)) = false) ∧ ((!decide ((ps.getD x.toNat { g := 0, q := 0, bu := 0, s := 0, le := 0, l := NilL Int, sp := 0, pe := 0, th := 0, em := false : Pool }).g = (l.getD x.toNat { id := 0, parent := 0, name := ByteArray.empty, control := 0, kind := 0, owner := 0 : Nod }).id) || !goodB (ps.getD x.toNat { g := 0, q := 0, bu := 0, s := 0, le := 0, l := NilL Int, sp := 0, pe := 0, th := 0, em := false : Pool })) = false → (!decide ((ps.getD x.toNat { g := 0, q := 0, bu := 0, s := 0, le := 0, l := NilL Int, sp := 0, pe := 0, th := 0, em := false : Pool }).g = (l.getD x.toNat { id := 0, parent := 0, name := ByteArray.empty, control := 0, kind := 0, owner := 0 : Nod }).id) || !goodB (ps.getD x.toNat { g := 0, q := 0, bu := 0, s := 0, le := 0, l := NilL Int, sp := 0, pe := 0, th := 0, em := false : Pool })) = false) ∧ ((!decide ((ps.getD x.toNat { g := 0, q := 0, bu := 0, s := 0, le := 0, l := NilL Int, sp := 0, pe := 0, th := 0, em := false : Pool }).g = (l.getD x.toNat { id := 0, parent := 0, name := ByteArray.empty, control := 0, kind := 0, owner := 0 : Nod }).id) || !goodB (ps.getD x.toNat { g := 0, q := 0, bu := 0, s := 0, le := 0, l := NilL Int, sp := 0, pe := 0, th := 0, em := false : Pool })) = false → (!decide ((ps.getD x.toNat { g := 0, q := 0, bu := 0, s := 0, le := 0, l := NilL Int, sp := 0, pe := 0, th := 0, em := false : Pool }).g = (l.getD x.toNat { id := 0, parent := 0, name := ByteArray.empty, control := 0, kind := 0, owner := 0 : Nod }).id) || !goodB (ps.getD x.toNat { g := 0, q := 0, bu := 0, s := 0, le := 0, l := NilL Int, sp := 0, pe := 0, th := 0, em := false : Pool })) = false) ∧ ((!decide ((ps.getD x.toNat { g := 0, q := 0, bu := 0, s := 0, le := 0, l := NilL Int, sp := 0, pe := 0, th := 0, em := false : Pool }).g = (l.getD x.toNat { id := 0, parent := 0, name := ByteArray.empty, control := 0, kind := 0, owner := 0 : Nod }).id) || !goodB (ps.getD x.toNat { g := 0, q := 0, bu := 0, s := 0, le := 0, l := NilL Int, sp := 0, pe := 0, th := 0, em := false : Pool })) = false → 0 ≤ x ∧ x < (↑ps.length : Int)) ∧ ((!decide ((ps.getD x.toNat { g := 0, q := 0, bu := 0, s := 0, le := 0, l := NilL Int, sp := 0, pe := 0, th := 0, em := false : Pool }).g = (l.getD x.toNat { id := 0, parent := 0, name := ByteArray.empty, control := 0, kind := 0, owner := 0 : Nod }).id) || !goodB (ps.getD x.toNat { g := 0, q := 0, bu := 0, s := 0, le := 0, l := NilL Int, sp := 0, pe := 0, th := 0, em := false : Pool })) = false → (!decide ((ps.getD x.toNat { g := 0, q := 0, bu := 0, s := 0, le := 0, l := NilL Int, sp := 0, pe := 0, th := 0, em := false : Pool }).g = (l.getD x.toNat { id := 0, parent := 0, name := ByteArray.empty, control := 0, kind := 0, owner := 0 : Nod }).id) || !goodB (ps.getD x.toNat { g := 0, q := 0, bu := 0, s := 0, le := 0, l := NilL Int, sp := 0, pe := 0, th := 0, em := false : Pool })) = false) ∧ ((!decide ((ps.getD x.toNat { g := 0, q := 0, bu := 0, s := 0, le := 0, l := NilL Int, sp := 0, pe := 0, th := 0, em := false : Pool }).g = (l.getD x.toNat { id := 0, parent := 0, name := ByteArray.empty, control := 0, kind := 0, owner := 0 : Nod }).id) || !goodB (ps.getD x.toNat { g := 0, q := 0, bu := 0, s := 0, le := 0, l := NilL Int, sp := 0, pe := 0, th := 0, em := false : Pool })) = false → (!decide ((ps.getD x.toNat { g := 0, q := 0, bu := 0, s := 0, le := 0, l := NilL Int, sp := 0, pe := 0, th := 0, em := false : Pool }).g = (l.getD x.toNat { id := 0, parent := 0, name := ByteArray.empty, control := 0, kind := 0, owner := 0 : Nod }).id) || !goodB (ps.getD x.toNat { g := 0, q := 0, bu := 0, s := 0, le := 0, l := NilL Int, sp := 0, pe := 0, th := 0, em := false : Pool })) = false) ∧ ((!decide ((ps.getD x.toNat { g := 0, q := 0, bu := 0, s := 0, le := 0, l := NilL Int, sp := 0, pe := 0, th := 0, em := false : Pool }).g = (l.getD x.toNat { id := 0, parent := 0, name := ByteArray.empty, control := 0, kind := 0, owner := 0 : Nod }).id) || !goodB (ps.getD x.toNat { g := 0, q := 0, bu := 0, s := 0, le := 0, l := NilL Int, sp := 0, pe := 0, th := 0, em := false : Pool })) = false → (!decide ((ps.getD x.toNat { g := 0, q := 0, bu := 0, s := 0, le := 0, l := NilL Int, sp := 0, pe := 0, th := 0, em := false : Pool }).g = (l.getD x.toNat { id := 0, parent := 0, name := ByteArray.empty, control := 0, kind := 0, owner := 0 : Nod }).id) || !goodB (ps.getD x.toNat { g := 0, q := 0, bu := 0, s := 0, le := 0, l := NilL Int, sp := 0, pe := 0, th := 0, em := false : Pool })) = false) ∧ ((!decide ((ps.getD x.toNat { g := 0, q := 0, bu := 0, s := 0, le := 0, l := NilL Int, sp := 0, pe := 0, th := 0, em := false : Pool }).g = (l.getD x.toNat { id := 0, parent := 0, name := ByteArray.empty, control := 0, kind := 0, owner := 0 : Nod }).id) || !goodB (ps.getD x.toNat { g := 0, q := 0, bu := 0, s := 0, le := 0, l := NilL Int, sp := 0, pe := 0, th := 0, em := false : Pool })) = false → (!decide ((ps.getD x.toNat { g := 0, q := 0, bu := 0, s := 0, le := 0, l := NilL Int, sp := 0, pe := 0, th := 0, em := false : Pool }).g = (l.getD x.toNat { id := 0, parent := 0, name := ByteArray.empty, control := 0, kind := 0, owner := 0 : Nod }).id) || !goodB (ps.getD x.toNat { g := 0, q := 0, bu := 0, s := 0, le := 0, l := NilL Int, sp := 0, pe := 0, th := 0, em := false : Pool })) = false) ∧ ((!decide ((ps.getD x.toNat { g := 0, q := 0, bu := 0, s := 0, le := 0, l := NilL Int, sp := 0, pe := 0, th := 0, em := false : Pool }).g = (l.getD x.toNat { id := 0, parent := 0, name := ByteArray.empty, control := 0, kind := 0, owner := 0 : Nod }).id) || !goodB (ps.getD x.toNat { g := 0, q := 0, bu := 0, s := 0, le := 0, l := NilL Int, sp := 0, pe := 0, th := 0, em := false : Pool })) = false → (0 : Int) ≤ 0 ∧ 0 < (↑ps.length : Int)) ∧ ((!decide ((ps.getD x.toNat { g := 0, q := 0, bu := 0, s := 0, le := 0, l := NilL Int, sp := 0, pe := 0, th := 0, em := false : Pool }).g = (l.getD x.toNat { id := 0, parent := 0, name := ByteArray.empty, control := 0, kind := 0, owner := 0 : Nod }).id) || !goodB (ps.getD x.toNat { g := 0, q := 0, bu := 0, s := 0, le := 0, l := NilL Int, sp := 0, pe := 0, th := 0, em := false : Pool })) = false → (!decide ((ps.getD x.toNat { g := 0, q := 0, bu := 0, s := 0, le := 0, l := NilL Int, sp := 0, pe := 0, th := 0, em := false : Pool }).g = (l.getD x.toNat { id := 0, parent := 0, name := ByteArray.empty, control := 0, kind := 0, owner := 0 : Nod }).id) || !goodB (ps.getD x.toNat { g := 0, q := 0, bu := 0, s := 0, le := 0, l := NilL Int, sp := 0, pe := 0, th := 0, em := false : Pool })) = false) ∧ ((!decide ((ps.getD x.toNat { g := 0, q := 0, bu := 0, s := 0, le := 0, l := NilL Int, sp := 0, pe := 0, th := 0, em := false : Pool }).g = (l.getD x.toNat { id := 0, parent := 0, name := ByteArray.empty, control := 0, kind := 0, owner := 0 : Nod }).id) || !goodB (ps.getD x.toNat { g := 0, q := 0, bu := 0, s := 0, le := 0, l := NilL Int, sp := 0, pe := 0, th := 0, em := false : Pool })) = false → (!decide ((ps.getD x.toNat { g := 0, q := 0, bu := 0, s := 0, le := 0, l := NilL Int, sp := 0, pe := 0, th := 0, em := false : Pool }).g = (l.getD x.toNat { id := 0, parent := 0, name := ByteArray.empty, control := 0, kind := 0, owner := 0 : Nod }).id) || !goodB (ps.getD x.toNat { g := 0, q := 0, bu := 0, s := 0, le := 0, l := NilL Int, sp := 0, pe := 0, th := 0, em := false : Pool })) = false) ∧ ((!decide ((ps.getD x.toNat { g := 0, q := 0, bu := 0, s := 0, le := 0, l := NilL Int, sp := 0, pe := 0, th := 0, em := false : Pool }).g = (l.getD x.toNat { id := 0, parent := 0, name := ByteArray.empty, control := 0, kind := 0, owner := 0 : Nod }).id) || !goodB (ps.getD x.toNat { g := 0, q := 0, bu := 0, s := 0, le := 0, l := NilL Int, sp := 0, pe := 0, th := 0, em := false : Pool })) = false → (!decide ((ps.getD x.toNat { g := 0, q := 0, bu := 0, s := 0, le := 0, l := NilL Int, sp := 0, pe := 0, th := 0, em := false : Pool }).g = (l.getD x.toNat { id := 0, parent := 0, name := ByteArray.empty, control := 0, kind := 0, owner := 0 : Nod }).id) || !goodB (ps.getD x.toNat { g := 0, q := 0, bu := 0, s := 0, le := 0, l := NilL Int, sp := 0, pe := 0, th := 0, em := false : Pool })) = false) ∧ ((!decide ((ps.getD x.toNat { g := 0, q := 0, bu := 0, s := 0, le := 0, l := NilL Int, sp := 0, pe := 0, th := 0, em := false : Pool }).g = (l.getD x.toNat { id := 0, parent := 0, name := ByteArray.empty, control := 0, kind := 0, owner := 0 : Nod }).id) || !goodB (ps.getD x.toNat { g := 0, q := 0, bu := 0, s := 0, le := 0, l := NilL Int, sp := 0, pe := 0, th := 0, em := false : Pool })) = false → (!decide ((ps.getD x.toNat { g := 0, q := 0, bu := 0, s := 0, le := 0, l := NilL Int, sp := 0, pe := 0, th := 0, em := false : Pool }).g = (l.getD x.toNat { id := 0, parent := 0, name := ByteArray.empty, control := 0, kind := 0, owner := 0 : Nod }).id) || !goodB (ps.getD x.toNat { g := 0, q := 0, bu := 0, s := 0, le := 0, l := NilL Int, sp := 0, pe := 0, th := 0, em := false : Pool })) = false) ∧ ((!decide ((ps.getD x.toNat { g := 0, q := 0, bu := 0, s := 0, le := 0, l := NilL Int, sp := 0, pe := 0, th := 0, em := false : Pool }).g = (l.getD x.toNat { id := 0, parent := 0, name := ByteArray.empty, control := 0, kind := 0, owner := 0 : Nod }).id) || !goodB (ps.getD x.toNat { g := 0, q := 0, bu := 0, s := 0, le := 0, l := NilL Int, sp := 0, pe := 0, th := 0, em := false : Pool })) = false → (!decide ((ps.getD x.toNat { g := 0, q := 0, bu := 0, s := 0, le := 0, l := NilL Int, sp := 0, pe := 0, th := 0, em := false : Pool }).g = (l.getD x.toNat { id := 0, parent := 0, name := ByteArray.empty, control := 0, kind := 0, owner := 0 : Nod }).id) || !goodB (ps.getD x.toNat { g := 0, q := 0, bu := 0, s := 0, le := 0, l := NilL Int, sp := 0, pe := 0, th := 0, em := false : Pool })) = false) ∧ ((!decide ((ps.getD x.toNat { g := 0, q := 0, bu := 0, s := 0, le := 0, l := NilL Int, sp := 0, pe := 0, th := 0, em := false : Pool }).g = (l.getD x.toNat { id := 0, parent := 0, name := ByteArray.empty, control := 0, kind := 0, owner := 0 : Nod }).id) || !goodB (ps.getD x.toNat { g := 0, q := 0, bu := 0, s := 0, le := 0, l := NilL Int, sp := 0, pe := 0, th := 0, em := false : Pool })) = false → (!decide ((ps.getD x.toNat { g := 0, q := 0, bu := 0, s := 0, le := 0, l := NilL Int, sp := 0, pe := 0, th := 0, em := false : Pool }).g = (l.getD x.toNat { id := 0, parent := 0, name := ByteArray.empty, control := 0, kind := 0, owner := 0 : Nod }).id) || !goodB (ps.getD x.toNat { g := 0, q := 0, bu := 0, s := 0, le := 0, l := NilL Int, sp := 0, pe := 0, th := 0, em := false : Pool })) = false) ∧ ((!decide ((ps.getD x.toNat { g := 0, q := 0, bu := 0, s := 0, le := 0, l := NilL Int, sp := 0, pe := 0, th := 0, em := false : Pool }).g = (l.getD x.toNat { id := 0, parent := 0, name := ByteArray.empty, control := 0, kind := 0, owner := 0 : Nod }).id) || !goodB (ps.getD x.toNat { g := 0, q := 0, bu := 0, s := 0, le := 0, l := NilL Int, sp := 0, pe := 0, th := 0, em := false : Pool }) || !decide ((↑(ps.getD x.toNat { g := 0, q := 0, bu := 0, s := 0, le := 0, l := NilL Int, sp := 0, pe := 0, th := 0, em := false : Pool }).l.length : Int) = (↑(ps.getD (Int.toNat 0) { g := 0, q := 0, bu := 0, s := 0, le := 0, l := NilL Int, sp := 0, pe := 0, th := 0, em := false : Pool }).l.length : Int))) = true → ∃ (y : Unit), True ∧ false = thrB l n ps) ∧ ((!decide ((ps.getD x.toNat { g := 0, q := 0, bu := 0, s := 0, le := 0, l := NilL Int, sp := 0, pe := 0, th := 0, em := false : Pool }).g = (l.getD x.toNat { id := 0, parent := 0, name := ByteArray.empty, control := 0, kind := 0, owner := 0 : Nod }).id) || !goodB (ps.getD x.toNat { g := 0, q := 0, bu := 0, s := 0, le := 0, l := NilL Int, sp := 0, pe := 0, th := 0, em := false : Pool }) || !decide ((↑(ps.getD x.toNat { g := 0, q := 0, bu := 0, s := 0, le := 0, l := NilL Int, sp := 0, pe := 0, th := 0, em := false : Pool }).l.length : Int) = (↑(ps.getD (Int.toNat 0) { g := 0, q := 0, bu := 0, s := 0, le := 0, l := NilL Int, sp := 0, pe := 0, th := 0, em := false : Pool }).l.length : Int))) = false → i64R (x + 1) ∧ ∃ (x' : Int), (0 ≤ x' ∧ x' ≤ (↑l.length : Int) ∧ ∀ (j : Nat), (↑j : Int) < x' → tc1 l ps j = true) ∧ ((↑l.length : Int) - x').toNat < ((↑l.length : Int) - x).toNat ∧ x + 1 = x' ∧ l = l ∧ n = n)) ∧ (decide (x < (↑l.length : Int)) = false → ∃ (y : Unit), True ∧ true = thrB l n ps))) = sThr.vc (EV Try.prog [(83, sChkP.spec), (121, sGoodB.spec)] (invs [(4, inv66 l ps)]) noInv) Try.f66 ((l, n), ps, ()) := by kernel_rfl
  rw [← e]
  clear e
  simp only [imp_self, true_and, and_true, exists_const, implies_true, gd1, gd2, gd3, gd4, gd5, gd6 ]
  simp only [Prod.forall, Prod.exists, exists_const, implies_true, not_true_eq_false, not_false_eq_true, or_self, or_false, false_or, or_true, true_or, and_false, false_and, forall_const, true_and, and_true, i64R, imp_self, Int.reduceLE, Int.reduceLT, Int.reduceNeg, false_implies, true_implies, decide_eq_true_eq, decide_eq_false_iff_not, Bool.not_eq_true', Bool.not_eq_false', Bool.true_eq_false, Bool.false_eq_true, Bool.and_eq_true, Bool.or_eq_true, Bool.and_eq_false_iff, Bool.or_eq_false_iff ]
  simp only [NilL_eq, pn_fold, nd_fold]
  obtain ⟨hw, ht, hl⟩ := hx
  have no : ∀ x : Int, 0 ≤ x → x < l.length → ¬ tc1 l ps x.toNat = true → false = thrB l n ps := fun x h0 h1 hb => by
    cases e : thrB l n ps
    · rfl
    · exact absurd ((thrB_all.1 e).2 x.toNat (by omega)) hb
  refine ⟨hw, fun h => ?_, fun h => ⟨⟨0, ⟨by omega, by omega, fun j hj => by omega⟩, rfl⟩, fun x hi => ⟨fun hlt => ?_, fun hge => ?_⟩⟩⟩
  · cases e : thrB l n ps
    · rfl
    · obtain ⟨⟨a, b⟩, c⟩ := thrB_all.1 e
      rcases h with h | h
      · rw [a] at h; cases h
      · exact absurd (by omega) h
  · have hc : tc1 l ps x.toNat = (decide ((pn ps x.toNat).g = (nd l x.toNat).id) && goodB (pn ps x.toNat) && decide ((pn ps x.toNat).l.length = (pn ps 0).l.length)) := rfl
    refine ⟨by omega, by omega, fun _ => by omega, fun _ => ht _ (pn_mem (by omega)), fun _ => by omega, fun _ => by omega, fun hb => no x (by omega) (by omega) ?_, fun hb => ⟨by omega, x + 1, ⟨by omega, by omega, fun j hj => ?_⟩, by omega, rfl⟩⟩
    · rw [hc]
      simp only [Bool.and_eq_true, decide_eq_true_eq]
      rintro ⟨⟨a, b⟩, c⟩
      rcases hb with (hb | hb) | hb
      · exact hb a
      · rw [b] at hb; cases hb
      · exact hb (by have : (Int.toNat 0) = 0 := rfl; rw [this]; omega)
    · by_cases e : (j : Int) < x
      · exact hi.2.2 j e
      · have : j = x.toNat := by omega
        rw [this, hc]
        simp only [Bool.and_eq_true, decide_eq_true_eq]
        have e0 : (Int.toNat 0) = 0 := rfl
        rw [e0] at hb
        exact ⟨⟨hb.1.1, hb.1.2⟩, by omega⟩
  · symm
    exact thrB_all.2 ⟨⟨h.1, by omega⟩, fun i hi2 => hi.2.2 i (by omega)⟩

def inv54 (l : List Nod) (ps : List Pool) : Inv where
  X := Int
  ok := fun i => 0 ≤ i ∧ i ≤ l.length ∧ ∀ j : Nat, (j : Int) < i → tc1 l ps j = true
  sl := fun i => [(5, .int .i64 i)]
  hp := fun _ => []
  keep := [10000]
  me := fun i => (l.length - i).toNat
set_option maxRecDepth 100000 in
theorem vc54 (l : List Nod) (n : Int) (ps : List Pool) (hx : WfN l ∧ TL ps) : sThr.vc (EV Try.prog [(78, sChk.spec), (116, sGoodB.spec)] (invs [(4, inv54 l ps)]) noInv) Try.f54 ((l, n), ps, ()) := by
  have e : (True ∧ ((!chkB l n) = false → (!chkB l n) = false) ∧ ((!chkB l n) = false → (!chkB l n) = false) ∧ ((!chkB l n) = false → (!chkB l n) = false) ∧ ((!chkB l n) = false → (!chkB l n) = false) ∧ ((!chkB l n) = false → (!chkB l n) = false) ∧ ((!chkB l n) = false → (!chkB l n) = false) ∧ ((!chkB l n || !decide ((↑ps.length : Int) = (↑l.length : Int))) = true → ∃ (y : Unit), True ∧ false = thrB l n ps) ∧ ((!chkB l n || !decide ((↑ps.length : Int) = (↑l.length : Int))) = false → (∃ (x : Int), (0 ≤ x ∧ x ≤ (↑l.length : Int) ∧ ∀ (j : Nat), (↑j : Int) < x → tc1 l ps j = true) ∧ 0 = x ∧ l = l ∧ n = n) ∧ ∀ (x : Int), (0 ≤ x ∧ x ≤ (↑l.length : Int) ∧ ∀ (j : Nat), (↑j : Int) < x → tc1 l ps j = true) → (decide (x < (↑ps.length : Int)) = true → (0 ≤ x ∧ x < (↑ps.length : Int)) ∧ (0 ≤ x ∧ x < (↑l.length : Int)) ∧ ((!decide ((ps.getD x.toNat { g := 0, q := 0, bu := 0, s := 0, le := 0, l := NilL Int, sp := 0, pe := 0, th := 0, em := false : Pool }).g = (l.getD x.toNat { id := 0, parent := 0, name := ByteArray.empty, control := 0, kind := 0, owner := 0 : Nod }).id)) = false → (!decide ((ps.getD x.toNat { g := 0, q := 0, bu := 0, s := 0, le := 0, l := NilL Int, sp := 0, pe := 0, th := 0, em := false : Pool }).g = (l.getD x.toNat { id := 0, parent := 0, name := ByteArray.empty, control := 0, kind := 0, owner := 0 : Nod }).id)) = false) ∧ ((!decide ((ps.getD x.toNat { g := 0, q := 0, bu := 0, s := 0, le := 0, l := NilL Int, sp := 0, pe := 0, th := 0, em := false : Pool }).g = (l.getD x.toNat { id := 0, parent := 0, name := ByteArray.empty, control := 0, kind := 0, owner := 0 : Nod }).id)) = false → (!decide ((ps.getD x.toNat { g := 0, q := 0, bu := 0, s := 0, le := 0, l := NilL Int, sp := 0, pe := 0, th := 0, em := false : Pool }).g = (l.getD x.toNat { id := 0, parent := 0, name := ByteArray.empty, control := 0, kind := 0, owner := 0 : Nod }).id)) = false) ∧ ((!decide ((ps.getD x.toNat { g := 0, q := 0, bu := 0, s := 0, le := 0, l := NilL Int, sp := 0, pe := 0, th := 0, em := false : Pool }).g = (l.getD x.toNat { id := 0, parent := 0, name := ByteArray.empty, control := 0, kind := 0, owner := 0 : Nod }).id)) = false → 0 ≤ x ∧ x < (↑ps.length : Int)) ∧ ((!decide ((ps.getD x.toNat { g := 0, q := 0, bu := 0, s := 0, le := 0, l := NilL Int, sp := 0, pe := 0, th := 0, em := false : Pool }).g = (l.getD x.toNat { id := 0, parent := 0, name := ByteArray.empty, control := 0, kind := 0, owner := 0 : Nod }).id)) = false → (!decide ((ps.getD x.toNat { g := 0, q := 0, bu := 0, s := 0, le := 0, l := NilL Int, sp := 0, pe := 0, th := 0, em := false : Pool }).g = (l.getD x.toNat { id := 0, parent := 0, name := ByteArray.empty, control := 0, kind := 0, owner := 0 : Nod }).id)) = false) ∧ ((!decide ((ps.getD x.toNat { g := 0, q := 0, bu := 0, s := 0, le := 0, l := NilL Int, sp := 0, pe := 0, th := 0, em := false : Pool }).g = (l.getD x.toNat { id := 0, parent := 0, name := ByteArray.empty, control := 0, kind := 0, owner := 0 : Nod }).id)) = false → (!decide ((ps.getD x.toNat { g := 0, q := 0, bu := 0, s := 0, le := 0, l := NilL Int, sp := 0, pe := 0, th := 0, em := false : Pool }).g = (l.getD x.toNat { id := 0, parent := 0, name := ByteArray.empty, control := 0, kind := 0, owner := 0 : Nod }).id)) = false) ∧ ((!decide ((ps.getD x.toNat { g := 0, q := 0, bu := 0, s := 0, le := 0, l := NilL Int, sp := 0, pe := 0, th := 0, em := false : Pool }).g = (l.getD x.toNat { id := 0, parent := 0, name := ByteArray.empty, control := 0, kind := 0, owner := 0 : Nod }).id)) = false → Tame (ps.getD x.toNat { g := 0, q := 0, bu := 0, s := 0, le := 0, l := NilL Int, sp := 0, pe := 0, th := 0, em := false : Pool })) ∧ ((!decide ((ps.getD x.toNat { g := 0, q := 0, bu := 0, s := 0, le := 0, l := NilL Int, sp := 0, pe := 0, th := 0, em := false : Pool }).g = (l.getD x.toNat { id := 0, parent := 0, name := ByteArray.empty, control := 0, kind := 0, owner := 0 : Nod }).id)) = false → (!decide ((ps.getD x.toNat { g := 0, q := 0, bu := 0, s := 0, le := 0, l := NilL Int, sp := 0, pe := 0, th := 0, em := false : Pool }).g = (l.getD x.toNat { id := 0, parent := 0, name := ByteArray.empty, control := 0, kind := 0, owner := 0 : Nod }).id)) = false) ∧ ((!decide ((ps.getD x.toNat { g := 0, q := 0, bu := 0, s := 0, le := 0, l := NilL Int, sp := 0, pe := 0, th := 0, em := false : Pool }).g = (l.getD x.toNat { id := 0, parent := 0, name := ByteArray.empty, control := 0, kind := 0, owner := 0 : Nod }).id)) = false → (!decide ((ps.getD x.toNat { g := 0, q := 0, bu := 0, s := 0, le := 0, l := NilL Int, sp := 0, pe := 0, th := 0, em := false : Pool }).g = (l.getD x.toNat { id := 0, parent := 0, name := ByteArray.empty, control := 0, kind := 0, owner := 0 : Nod }).id)) = false) ∧ ((!decide ((ps.getD x.toNat { g := 0, q := 0, bu := 0, s := 0, le := 0, l := NilL Int, sp := 0, pe := 0, th := 0, em := false : Pool }).g = (l.getD x.toNat { id := 0, parent := 0, name := ByteArray.empty, control := 0, kind := 0, owner := 0 : Nod }).id) || !goodB (ps.getD x.toNat { g := 0, q := 0, bu := 0, s := 0, le := 0, l := NilL Int, sp := 0, pe := 0, th := 0, em := false : Pool })) = false → (!decide ((ps.getD x.toNat { g := 0, q := 0, bu := 0, s := 0, le := 0, l := NilL Int, sp := 0, pe := 0, th := 0, em := false : Pool }).g = (l.getD x.toNat { id := 0, parent := 0, name := ByteArray.empty, control := 0, kind := 0, owner := 0 : Nod }).id) || !goodB (ps.getD x.toNat { g := 0, q := 0, bu := 0, s := 0, le := 0, l := NilL Int, sp := 0, pe := 0, th := 0, em := false : Pool })) = false) ∧ ((!decide ((ps.getD x.toNat { g := 0, q := 0, bu := 0, s := 0, le := 0, l := NilL Int, sp := 0, pe := 0, th := 0, em := false : Pool }).g = (l.getD x.toNat { id := 0, parent := 0, name := ByteArray.empty, control := 0, kind := 0, owner := 0 : Nod }).id) || !goodB (ps.getD x.toNat { g := 0, q := 0, bu := 0, s := 0, le := 0, l := NilL Int, sp := 0, pe := 0, th := 0, em := false : Pool })) = false → (!decide ((ps.getD x.toNat { g := 0, q := 0, bu := 0, s := 0, le := 0, l := NilL Int, sp := 0, pe := 0, th := 0, em := false : Pool }).g = (l.getD x.toNat { id := 0, parent := 0, name := ByteArray.empty, control := 0, kind := 0, owner := 0 : Nod }).id) || !goodB (ps.getD x.toNat { g := 0, q := 0, bu := 0, s := 0, le := 0, l := NilL Int, sp := 0, pe := 0, th := 0, em := false : Pool })) = false) ∧ ((!decide ((ps.getD x.toNat { g := 0, q := 0, bu := 0, s := 0, le := 0, l := NilL Int, sp := 0, pe := 0, th := 0, em := false : Pool }).g = (l.getD x.toNat { id := 0, parent := 0, name := ByteArray.empty, control := 0, kind := 0, owner := 0 : Nod }).id) || !goodB (ps.getD x.toNat { g := 0, q := 0, bu := 0, s := 0, le := 0, l := NilL Int, sp := 0, pe := 0, th := 0, em := false : Pool })) = false → 0 ≤ x ∧ x < (↑ps.length : Int)) ∧ ((!decide ((ps.getD x.toNat { g := 0, q := 0, bu := 0, s := 0, le := 0, l := NilL Int, sp := 0, pe := 0, th := 0, em := false : Pool }).g = (l.getD x.toNat { id := 0, parent := 0, name := ByteArray.empty, control := 0, kind := 0, owner := 0 : Nod }).id) || !goodB (ps.getD x.toNat { g := 0, q := 0, bu := 0, s := 0, le := 0, l := NilL Int, sp := 0, pe := 0, th := 0, em := false : Pool })) = false → (!decide ((ps.getD x.toNat { g := 0, q := 0, bu := 0, s := 0, le := 0, l := NilL Int, sp := 0, pe := 0, th := 0, em := false : Pool }).g = (l.getD x.toNat { id := 0, parent := 0, name := ByteArray.empty, control := 0, kind := 0, owner := 0 : Nod }).id) || !goodB (ps.getD x.toNat { g := 0, q := 0, bu := 0, s := 0, le := 0, l := NilL Int, sp := 0, pe := 0, th := 0, em := false : Pool })) = false) ∧ ((!decide ((ps.getD x.toNat { g := 0, q := 0, bu := 0, s := 0, le := 0, l := NilL Int, sp := 0, pe := 0, th := 0, em := false : Pool }).g = (l.getD x.toNat { id := 0, parent := 0, name := ByteArray.empty, control := 0, kind := 0, owner := 0 : Nod }).id) || !goodB (ps.getD x.toNat { g := 0, q := 0, bu := 0, s := 0, le := 0, l := NilL Int, sp := 0, pe := 0, th := 0, em := false : Pool })) = false → (!decide ((ps.getD x.toNat { g := 0, q := 0, bu := 0, s := 0, le := 0, l := NilL Int, sp := 0, pe := 0, th := 0, em := false : Pool }).g = (l.getD x.toNat { id := 0, parent := 0, name := ByteArray.empty, control := 0, kind := 0, owner := 0 : Nod }).id) || !goodB (ps.getD x.toNat { g := 0, q := 0, bu := 0, s := 0, le := 0, l := NilL Int, sp := 0, pe := 0, th := 0, em := false : Pool })) = false) ∧ ((!decide ((ps.getD x.toNat { g := 0, q := 0, bu := 0, s := 0, le := 0, l := NilL Int, sp := 0, pe := 0, th := 0, em := false : Pool }).g = (l.getD x.toNat { id := 0, parent := 0, name := ByteArray.empty, control := 0, kind := 0, owner := 0 : Nod }).id) || !goodB (ps.getD x.toNat { g := 0, q := 0, bu := 0, s := 0, le := 0, l := NilL Int, sp := 0, pe := 0, th := 0, em := false : Pool })) = false → (!decide ((ps.getD x.toNat { g := 0, q := 0, bu := 0, s := 0, le := 0, l := NilL Int, sp := 0, pe := 0, th := 0, em := false : Pool }).g = (l.getD x.toNat { id := 0, parent := 0, name := ByteArray.empty, control := 0, kind := 0, owner := 0 : Nod }).id) || !goodB (ps.getD x.toNat { g := 0, q := 0, bu := 0, s := 0, le := 0, l := NilL Int, sp := 0, pe := 0, th := 0, em := false : Pool })) = false) ∧ ((!decide ((ps.getD x.toNat { g := 0, q := 0, bu := 0, s := 0, le := 0, l := NilL Int, sp := 0, pe := 0, th := 0, em := false : Pool }).g = (l.getD x.toNat { id := 0, parent := 0, name := ByteArray.empty, control := 0, kind := 0, owner := 0 : Nod }).id) || !goodB (ps.getD x.toNat { g := 0, q := 0, bu := 0, s := 0, le := 0, l := NilL Int, sp := 0, pe := 0, th := 0, em := false : Pool })) = false → (!decide ((ps.getD x.toNat { g := 0, q := 0, bu := 0, s := 0, le := 0, l := NilL Int, sp := 0, pe := 0, th := 0, em := false : Pool }).g = (l.getD x.toNat { id := 0, parent := 0, name := ByteArray.empty, control := 0, kind := 0, owner := 0 : Nod }).id) || !goodB (ps.getD x.toNat { g := 0, q := 0, bu := 0, s := 0, le := 0, l := NilL Int, sp := 0, pe := 0, th := 0, em := false : Pool })) = false) ∧ ((!decide ((ps.getD x.toNat { g := 0, q := 0, bu := 0, s := 0, le := 0, l := NilL Int, sp := 0, pe := 0, th := 0, em := false : Pool }).g = (l.getD x.toNat { id := 0, parent := 0, name := ByteArray.empty, control := 0, kind := 0, owner := 0 : Nod }).id) || !goodB (ps.getD x.toNat { g := 0, q := 0, bu := 0, s := 0, le := 0, l := NilL Int, sp := 0, pe := 0, th := 0, em := false : Pool })) = false → (0 : Int) ≤ 0 ∧ 0 < (↑ps.length : Int)) ∧ ((!decide ((ps.getD x.toNat { g := 0, q := 0, bu := 0, s := 0, le := 0, l := NilL Int, sp := 0, pe := 0, th := 0, em := false : Pool }).g = (l.getD x.toNat { id := 0, parent := 0, name := ByteArray.empty, control := 0, kind := 0, owner := 0 : Nod }).id) || !goodB (ps.getD x.toNat { g := 0, q := 0, bu := 0, s := 0, le := 0, l := NilL Int, sp := 0, pe := 0, th := 0, em := false : Pool })) = false → (!decide ((ps.getD x.toNat { g := 0, q := 0, bu := 0, s := 0, le := 0, l := NilL Int, sp := 0, pe := 0, th := 0, em := false : Pool }).g = (l.getD x.toNat { id := 0, parent := 0, name := ByteArray.empty, control := 0, kind := 0, owner := 0 : Nod }).id) || !goodB (ps.getD x.toNat { g := 0, q := 0, bu := 0, s := 0, le := 0, l := NilL Int, sp := 0, pe := 0, th := 0, em := false : Pool })) = false) ∧ ((!decide ((ps.getD x.toNat { g := 0, q := 0, bu := 0, s := 0, le := 0, l := NilL Int, sp := 0, pe := 0, th := 0, em := false : Pool }).g = (l.getD x.toNat { id := 0, parent := 0, name := ByteArray.empty, control := 0, kind := 0, owner := 0 : Nod }).id) || !goodB (ps.getD x.toNat { g := 0, q := 0, bu := 0, s := 0, le := 0, l := NilL Int, sp := 0, pe := 0, th := 0, em := false : Pool })) = false → (!decide ((ps.getD x.toNat { g := 0, q := 0, bu := 0, s := 0, le := 0, l := NilL Int, sp := 0, pe := 0, th := 0, em := false : Pool }).g = (l.getD x.toNat { id := 0, parent := 0, name := ByteArray.empty, control := 0, kind := 0, owner := 0 : Nod }).id) || !goodB (ps.getD x.toNat { g := 0, q := 0, bu := 0, s := 0, le := 0, l := NilL Int, sp := 0, pe := 0, th := 0, em := false : Pool })) = false) ∧ ((!decide ((ps.getD x.toNat { g := 0, q := 0, bu := 0, s := 0, le := 0, l := NilL Int, sp := 0, pe := 0, th := 0, em := false : Pool }).g = (l.getD x.toNat { id := 0, parent := 0, name := ByteArray.empty, control := 0, kind := 0, owner := 0 : Nod }).id) || !goodB (ps.getD x.toNat { g := 0, q := 0, bu := 0, s := 0, le := 0, l := NilL Int, sp := 0, pe := 0, th := 0, em := false : Pool })) = false → (!decide ((ps.getD x.toNat { g := 0, q := 0, bu := 0, s := 0, le := 0, l := NilL Int, sp := 0, pe := 0, th := 0, em := false : Pool }).g = (l.getD x.toNat { id := 0, parent := 0, name := ByteArray.empty, control := 0, kind := 0, owner := 0 : Nod }).id) || !goodB (ps.getD x.toNat { g := 0, q := 0, bu := 0, s := 0, le := 0, l := NilL Int, sp := 0, pe := 0, th := 0, em := false : Pool })) = false) ∧ ((!decide ((ps.getD x.toNat { g := 0, q := 0, bu := 0, s := 0, le := 0, l := NilL Int, sp := 0, pe := 0, th := 0, em := false : Pool }).g = (l.getD x.toNat { id := 0, parent := 0, name := ByteArray.empty, control := 0, kind := 0, owner := 0 : Nod }).id) || !goodB (ps.getD x.toNat { g := 0, q := 0, bu := 0, s := 0, le := 0, l := NilL Int, sp := 0, pe := 0, th := 0, em := false : Pool })) = false → (!decide ((ps.getD x.toNat { g := 0, q := 0, bu := 0, s := 0, le := 0, l := NilL Int, sp := 0, pe := 0, th := 0, em := false : Pool }).g = (l.getD x.toNat { id := 0, parent := 0, name := ByteArray.empty, control := 0, kind := 0, owner := 0 : Nod }).id) || !goodB (ps.getD x.toNat { g := 0, q := 0, bu := 0, s := 0, le := 0, l := NilL Int, sp := 0, pe := 0, th := 0, em := false : Pool })) = false) ∧ ((!decide ((ps.getD x.toNat { g := 0, q := 0, bu := 0, s := 0, le := 0, l := NilL Int, sp := 0, pe := 0, th := 0, em := false : Pool }).g = (l.getD x.toNat { id := 0, parent := 0, name := ByteArray.empty, control := 0, kind := 0, owner := 0 : Nod }).id) || !goodB (ps.getD x.toNat { g := 0, q := 0, bu := 0, s := 0, le := 0, l := NilL Int, sp := 0, pe := 0, th := 0, em := false : Pool })) = false → (!decide ((ps.getD x.toNat { g := 0, q := 0, bu := 0, s := 0, le := 0, l := NilL Int, sp := 0, pe := 0, th := 0, em := false : Pool }).g = (l.getD x.toNat { id := 0, parent := 0, name := ByteArray.empty, control := 0, kind := 0, owner := 0 : Nod }).id) || !goodB (ps.getD x.toNat { g := 0, q := 0, bu := 0, s := 0, le := 0, l := NilL Int, sp := 0, pe := 0, th := 0, em := false : Pool })) = false) ∧ ((!decide ((ps.getD x.toNat { g := 0, q := 0, bu := 0, s := 0, le := 0, l := NilL Int, sp := 0, pe := 0, th := 0, em := false : Pool }).g = (l.getD x.toNat { id := 0, parent := 0, name := ByteArray.empty, control := 0, kind := 0, owner := 0 : Nod }).id) || !goodB (ps.getD x.toNat { g := 0, q := 0, bu := 0, s := 0, le := 0, l := NilL Int, sp := 0, pe := 0, th := 0, em := false : Pool })) = false → (!decide ((ps.getD x.toNat { g := 0, q := 0, bu := 0, s := 0, le := 0, l := NilL Int, sp := 0, pe := 0, th := 0, em := false : Pool }).g = (l.getD x.toNat { id := 0, parent := 0, name := ByteArray.empty, control := 0, kind := 0, owner := 0 : Nod }).id) || !goodB (ps.getD x.toNat { g := 0, q := 0, bu := 0, s := 0, le := 0, l := NilL Int, sp := 0, pe := 0, th := 0, em := false : Pool })) = false) ∧ ((!decide ((ps.getD x.toNat { g := 0, q := 0, bu := 0, s := 0, le := 0, l := NilL Int, sp := 0, pe := 0, th := 0, em := false : Pool }).g = (l.getD x.toNat { id := 0, parent := 0, name := ByteArray.empty, control := 0, kind := 0, owner := 0 : Nod }).id) || !goodB (ps.getD x.toNat { g := 0, q := 0, bu := 0, s := 0, le := 0, l := NilL Int, sp := 0, pe := 0, th := 0, em := false : Pool }) || !decide ((↑(ps.getD x.toNat { g := 0, q := 0, bu := 0, s := 0, le := 0, l := NilL Int, sp := 0, pe := 0, th := 0, em := false : Pool }).l.length : Int) = (↑(ps.getD (Int.toNat 0) { g := 0, q := 0, bu := 0, s := 0, le := 0, l := NilL Int, sp := 0, pe := 0, th := 0, em := false : Pool }).l.length : Int))) = true → ∃ (y : Unit), True ∧ false = thrB l n ps) ∧ ((!decide ((ps.getD x.toNat { g := 0, q := 0, bu := 0, s := 0, le := 0, l := NilL Int, sp := 0, pe := 0, th := 0, em := false : Pool }).g = (l.getD x.toNat { id := 0, parent := 0, name := ByteArray.empty, control := 0, kind := 0, owner := 0 : Nod }).id) || !goodB (ps.getD x.toNat { g := 0, q := 0, bu := 0, s := 0, le := 0, l := NilL Int, sp := 0, pe := 0, th := 0, em := false : Pool }) || !decide ((↑(ps.getD x.toNat { g := 0, q := 0, bu := 0, s := 0, le := 0, l := NilL Int, sp := 0, pe := 0, th := 0, em := false : Pool }).l.length : Int) = (↑(ps.getD (Int.toNat 0) { g := 0, q := 0, bu := 0, s := 0, le := 0, l := NilL Int, sp := 0, pe := 0, th := 0, em := false : Pool }).l.length : Int))) = false → i64R (x + 1) ∧ ∃ (x' : Int), (0 ≤ x' ∧ x' ≤ (↑l.length : Int) ∧ ∀ (j : Nat), (↑j : Int) < x' → tc1 l ps j = true) ∧ ((↑l.length : Int) - x').toNat < ((↑l.length : Int) - x).toNat ∧ x + 1 = x' ∧ l = l ∧ n = n)) ∧ (decide (x < (↑ps.length : Int)) = false → ∃ (y : Unit), True ∧ true = thrB l n ps))) = sThr.vc (EV Try.prog [(78, sChk.spec), (116, sGoodB.spec)] (invs [(4, inv54 l ps)]) noInv) Try.f54 ((l, n), ps, ()) := by kernel_rfl
  rw [← e]
  clear e
  simp only [imp_self, true_and, and_true, exists_const, implies_true, gd1, gd2, gd3, gd4, gd5, gd6 ]
  simp only [Prod.forall, Prod.exists, exists_const, implies_true, not_true_eq_false, not_false_eq_true, or_self, or_false, false_or, or_true, true_or, and_false, false_and, forall_const, true_and, and_true, i64R, imp_self, Int.reduceLE, Int.reduceLT, Int.reduceNeg, false_implies, true_implies, decide_eq_true_eq, decide_eq_false_iff_not, Bool.not_eq_true', Bool.not_eq_false', Bool.true_eq_false, Bool.false_eq_true, Bool.and_eq_true, Bool.or_eq_true, Bool.and_eq_false_iff, Bool.or_eq_false_iff ]
  simp only [NilL_eq, pn_fold, nd_fold]
  obtain ⟨hw, ht, hl⟩ := hx
  have no : ∀ x : Int, 0 ≤ x → x < l.length → ¬ tc1 l ps x.toNat = true → false = thrB l n ps := fun x h0 h1 hb => by
    cases e : thrB l n ps
    · rfl
    · exact absurd ((thrB_all.1 e).2 x.toNat (by omega)) hb
  refine ⟨fun h => ?_, fun h => ⟨⟨0, ⟨by omega, by omega, fun j hj => by omega⟩, rfl⟩, fun x hi => ⟨fun hlt => ?_, fun hge => ?_⟩⟩⟩
  · cases e : thrB l n ps
    · rfl
    · obtain ⟨⟨a, b⟩, c⟩ := thrB_all.1 e
      rcases h with h | h
      · rw [a] at h; cases h
      · exact absurd (by omega) h
  · have hc : tc1 l ps x.toNat = (decide ((pn ps x.toNat).g = (nd l x.toNat).id) && goodB (pn ps x.toNat) && decide ((pn ps x.toNat).l.length = (pn ps 0).l.length)) := rfl
    refine ⟨by omega, by omega, fun _ => by omega, fun _ => ht _ (pn_mem (by omega)), fun _ => by omega, fun _ => by omega, fun hb => no x (by omega) (by omega) ?_, fun hb => ⟨by omega, x + 1, ⟨by omega, by omega, fun j hj => ?_⟩, by omega, rfl⟩⟩
    · rw [hc]
      simp only [Bool.and_eq_true, decide_eq_true_eq]
      rintro ⟨⟨a, b⟩, c⟩
      rcases hb with (hb | hb) | hb
      · exact hb a
      · rw [b] at hb; cases hb
      · exact hb (by have : (Int.toNat 0) = 0 := rfl; rw [this]; omega)
    · by_cases e : (j : Int) < x
      · exact hi.2.2 j e
      · have : j = x.toNat := by omega
        rw [this, hc]
        simp only [Bool.and_eq_true, decide_eq_true_eq]
        have e0 : (Int.toNat 0) = 0 := rfl
        rw [e0] at hb
        exact ⟨⟨hb.1.1, hb.1.2⟩, by omega⟩
  · symm
    exact thrB_all.2 ⟨⟨h.1, by omega⟩, fun i hi2 => hi.2.2 i (by omega)⟩

def inv58 (ps : List Pool) (g : Int) : Inv where
  X := Int
  ok := fun i => 0 ≤ i ∧ i ≤ ps.length ∧ ∀ j : Nat, (j : Int) < i → ¬ (pn ps j).g = g
  sl := fun i => [(6, .int .i64 i)]
  hp := fun _ => []
  keep := [10000]
  me := fun i => (ps.length - i).toNat
set_option maxRecDepth 100000 in
theorem vc58 (ps : List Pool) (g : Int) (hx : TL ps) : sGetP.vc (EV Try.prog [(118, sCopied.spec)] (invs [(2, inv58 ps g)]) noInv) Try.f58 (ps, g, ()) := by
  have e : ((∃ (x : Int), (0 ≤ x ∧ x ≤ (↑ps.length : Int) ∧ ∀ (j : Nat), (↑j : Int) < x → ¬(pn ps j).g = g) ∧ 0 = x ∧ (0 : Int) = 0 ∧ (0 : Int) = 0 ∧ (0 : Int) = 0 ∧ (0 : Int) = 0 ∧ (0 : Int) = 0 ∧ (0 : Int) = 0 ∧ (0 : Int) = 0 ∧ (0 : Int) = 0) ∧ ∀ (x : Int), (0 ≤ x ∧ x ≤ (↑ps.length : Int) ∧ ∀ (j : Nat), (↑j : Int) < x → ¬(pn ps j).g = g) → (decide (x < (↑ps.length : Int)) = true → (0 ≤ x ∧ x < (↑ps.length : Int)) ∧ (decide ((ps.getD x.toNat { g := 0, q := 0, bu := 0, s := 0, le := 0, l := NilL Int, sp := 0, pe := 0, th := 0, em := false : Pool }).g = g) = true → (0 ≤ x ∧ x < (↑ps.length : Int)) ∧ (ps.getD x.toNat { g := 0, q := 0, bu := 0, s := 0, le := 0, l := NilL Int, sp := 0, pe := 0, th := 0, em := false : Pool }).l.length ≤ (1048576 : Nat) ∧ ∃ (y : Unit), True ∧ (ps.getD x.toNat { g := 0, q := 0, bu := 0, s := 0, le := 0, l := NilL Int, sp := 0, pe := 0, th := 0, em := false : Pool }).g = (atP ps g).g ∧ (ps.getD x.toNat { g := 0, q := 0, bu := 0, s := 0, le := 0, l := NilL Int, sp := 0, pe := 0, th := 0, em := false : Pool }).q = (atP ps g).q ∧ (ps.getD x.toNat { g := 0, q := 0, bu := 0, s := 0, le := 0, l := NilL Int, sp := 0, pe := 0, th := 0, em := false : Pool }).bu = (atP ps g).bu ∧ (ps.getD x.toNat { g := 0, q := 0, bu := 0, s := 0, le := 0, l := NilL Int, sp := 0, pe := 0, th := 0, em := false : Pool }).s = (atP ps g).s ∧ (ps.getD x.toNat { g := 0, q := 0, bu := 0, s := 0, le := 0, l := NilL Int, sp := 0, pe := 0, th := 0, em := false : Pool }).le = (atP ps g).le ∧ (ps.getD x.toNat { g := 0, q := 0, bu := 0, s := 0, le := 0, l := NilL Int, sp := 0, pe := 0, th := 0, em := false : Pool }).l = (atP ps g).l ∧ (ps.getD x.toNat { g := 0, q := 0, bu := 0, s := 0, le := 0, l := NilL Int, sp := 0, pe := 0, th := 0, em := false : Pool }).sp = (atP ps g).sp ∧ (ps.getD x.toNat { g := 0, q := 0, bu := 0, s := 0, le := 0, l := NilL Int, sp := 0, pe := 0, th := 0, em := false : Pool }).pe = (atP ps g).pe ∧ (ps.getD x.toNat { g := 0, q := 0, bu := 0, s := 0, le := 0, l := NilL Int, sp := 0, pe := 0, th := 0, em := false : Pool }).th = (atP ps g).th ∧ (ps.getD x.toNat { g := 0, q := 0, bu := 0, s := 0, le := 0, l := NilL Int, sp := 0, pe := 0, th := 0, em := false : Pool }).em = (atP ps g).em ∧ true = hasP ps g) ∧ (decide ((ps.getD x.toNat { g := 0, q := 0, bu := 0, s := 0, le := 0, l := NilL Int, sp := 0, pe := 0, th := 0, em := false : Pool }).g = g) = false → i64R (x + 1) ∧ ∃ (x' : Int), (0 ≤ x' ∧ x' ≤ (↑ps.length : Int) ∧ ∀ (j : Nat), (↑j : Int) < x' → ¬(pn ps j).g = g) ∧ ((↑ps.length : Int) - x').toNat < ((↑ps.length : Int) - x).toNat ∧ x + 1 = x' ∧ (0 : Int) = 0 ∧ (0 : Int) = 0 ∧ (0 : Int) = 0 ∧ (0 : Int) = 0 ∧ (0 : Int) = 0 ∧ (0 : Int) = 0 ∧ (0 : Int) = 0 ∧ (0 : Int) = 0)) ∧ (decide (x < (↑ps.length : Int)) = false → ∃ (y : Unit), True ∧ 0 = (atP ps g).g ∧ 0 = (atP ps g).q ∧ 0 = (atP ps g).bu ∧ 0 = (atP ps g).s ∧ 0 = (atP ps g).le ∧ NilL Int = (atP ps g).l ∧ 0 = (atP ps g).sp ∧ 0 = (atP ps g).pe ∧ 0 = (atP ps g).th ∧ false = (atP ps g).em ∧ false = hasP ps g)) = sGetP.vc (EV Try.prog [(118, sCopied.spec)] (invs [(2, inv58 ps g)]) noInv) Try.f58 (ps, g, ()) := by kernel_rfl
  rw [← e]
  clear e
  simp only [imp_self, true_and, and_true, exists_const, implies_true, gd1, gd2, gd3, gd4, gd5, gd6 ]
  simp only [Prod.forall, Prod.exists, exists_const, implies_true, not_true_eq_false, not_false_eq_true, or_self, or_false, false_or, or_true, true_or, and_false, false_and, forall_const, true_and, and_true, i64R, imp_self, Int.reduceLE, Int.reduceLT, Int.reduceNeg, false_implies, true_implies, decide_eq_true_eq, decide_eq_false_iff_not, Bool.not_eq_true', Bool.not_eq_false', Bool.true_eq_false, Bool.false_eq_true, Bool.and_eq_true, Bool.or_eq_true, Bool.and_eq_false_iff, Bool.or_eq_false_iff ]
  simp only [NilL_eq, pn_fold]
  obtain ⟨h1, h2⟩ := hx
  refine ⟨⟨0, ⟨by omega, by omega, fun j hj => by omega⟩, rfl⟩, fun x hi => ⟨fun hlt => ⟨by omega, fun he => ⟨by omega, (h1 _ (pn_mem (by omega))).len, ?_⟩, fun hn => ⟨by omega, x + 1, ⟨by omega, by omega, fun j hj => ?_⟩, by omega, rfl⟩⟩, fun hge => ?_⟩⟩
  · obtain ⟨a, b⟩ := atP_first (fun j hj => hi.2.2 j (by omega)) (by omega) he
    rw [a, b]
    exact ⟨rfl, rfl, rfl, rfl, rfl, rfl, rfl, rfl, rfl, rfl, rfl⟩
  · by_cases e : (j : Int) < x
    · exact hi.2.2 j e
    · have : j = x.toNat := by omega
      rw [this]; exact hn
  · obtain ⟨a, b⟩ := atP_all (l := ps) (g := g) fun j hj => hi.2.2 j (by omega)
    rw [a, b]
    exact ⟨rfl, rfl, rfl, rfl, rfl, rfl, rfl, rfl, rfl, rfl, rfl⟩

def inv120 (l : List Nod) (ps : List Pool) (g c : Int) : Inv where
  X := Int
  ok := fun i => 0 ≤ i ∧ i ≤ (upT l g).length
  sl := fun i => [(16, .int .i64 i), (9, .int .i64 (roomL ps c ((upT l g).take i.toNat))), (14, .own 101 0)]
  hp := fun _ => [(101, .rows 3 0 (upT l g))]
  keep := [10000]
  me := fun i => ((upT l g).length - i).toNat
set_option maxRecDepth 100000 in
theorem vc120 (l : List Nod) (n : Int) (ps : List Pool) (g c : Int) (hx : ThrP l n ps) : sRoom0.vc (EV Try.prog [(73, sFAnc.spec), (104, sAtP.spec), (137, sRoom.spec)] (invs [(3, inv120 l ps g c)]) noInv) Try.f120 ((l, n), ps, g, c, ()) := by
  have e : (ChkP l n ∧ (∃ (x : Int), (0 ≤ x ∧ x ≤ (↑(upT l g).length : Int)) ∧ 0 = x ∧ 1099511627776 = roomL ps c (List.take x.toNat (upT l g)) ∧ upT l g = upT l g ∧ l = l ∧ n = n) ∧ ∀ (x : Int), 0 ≤ x ∧ x ≤ (↑(upT l g).length : Int) → (decide (x < (↑(upT l g).length : Int)) = true → (0 ≤ x ∧ x < (↑(upT l g).length : Int)) ∧ ps.length ≤ (9223372036854775807 : Nat) ∧ (0 ≤ idxQ ps ((upT l g).getD x.toNat 0) ∧ idxQ ps ((upT l g).getD x.toNat 0) < (↑ps.length : Int)) ∧ Tame (ps.getD (idxQ ps ((upT l g).getD x.toNat 0)).toNat { g := 0, q := 0, bu := 0, s := 0, le := 0, l := NilL Int, sp := 0, pe := 0, th := 0, em := false : Pool }) ∧ i64R (x + 1) ∧ ∃ (x' : Int), (0 ≤ x' ∧ x' ≤ (↑(upT l g).length : Int)) ∧ ((↑(upT l g).length : Int) - x').toNat < ((↑(upT l g).length : Int) - x).toNat ∧ x + 1 = x' ∧ Min.min (roomL ps c (List.take x.toNat (upT l g))) (roomI (ps.getD (idxQ ps ((upT l g).getD x.toNat 0)).toNat { g := 0, q := 0, bu := 0, s := 0, le := 0, l := NilL Int, sp := 0, pe := 0, th := 0, em := false : Pool }) c) = roomL ps c (List.take x'.toNat (upT l g)) ∧ upT l g = upT l g ∧ l = l ∧ n = n) ∧ (decide (x < (↑(upT l g).length : Int)) = false → ∃ (y : Unit), True ∧ roomL ps c (List.take x.toNat (upT l g)) = roomL ps c (upT l g))) = sRoom0.vc (EV Try.prog [(73, sFAnc.spec), (104, sAtP.spec), (137, sRoom.spec)] (invs [(3, inv120 l ps g c)]) noInv) Try.f120 ((l, n), ps, g, c, ()) := by kernel_rfl
  rw [← e]
  clear e
  simp only [imp_self, true_and, and_true, exists_const, implies_true, gd1, gd2, gd3, gd4, gd5, gd6 ]
  simp only [Prod.forall, Prod.exists, exists_const, implies_true, not_true_eq_false, not_false_eq_true, or_self, or_false, false_or, or_true, true_or, and_false, false_and, forall_const, true_and, and_true, i64R, imp_self, Int.reduceLE, Int.reduceLT, Int.reduceNeg, false_implies, true_implies, decide_eq_true_eq, decide_eq_false_iff_not, Bool.not_eq_true', Bool.not_eq_false', Bool.true_eq_false, Bool.false_eq_true, Bool.and_eq_true, Bool.or_eq_true, Bool.and_eq_false_iff, Bool.or_eq_false_iff ]
  simp only [NilL_eq, pn_fold]
  have hc := hx.chk
  have hui := up_len64 hc g
  have hl2 := hx.len
  have l2 := hc.len2
  refine ⟨hc, ⟨0, by omega, rfl, rfl⟩, fun x hi => ⟨fun hlt => ?_, fun hge => by rw [List.take_of_length_le (by omega)]⟩⟩
  obtain ⟨i, hi2, e1, e2, e3, e4, _⟩ := hx.of_id (upT_sub (getD_mem (l := upT l g) (i := x.toNat) (by omega)))
  have e : (x + 1).toNat = x.toNat + 1 := by omega
  rw [e2]
  refine ⟨by omega, by omega, by omega, (hx.good i hi2).tame, by omega, x + 1, by omega, by omega, rfl, ?_⟩
  rw [e, roomL_step (by omega), e3]; rfl

def inv106 (l : List Nod) (ps : List Pool) (g c : Int) : Inv where
  X := Int
  ok := fun i => 0 ≤ i ∧ i ≤ (upT l g).length ∧ ∀ j : Nat, (j : Int) < i → ¬ roomI (atP ps ((upT l g).getD j 0)) c = 0
  sl := fun i => [(16, .int .i64 i), (14, .own 101 0)]
  hp := fun _ => [(101, .rows 3 0 (upT l g))]
  keep := [10000]
  me := fun i => ((upT l g).length - i).toNat
set_option maxRecDepth 100000 in
theorem vc106 (l : List Nod) (n : Int) (ps : List Pool) (g c : Int) (hx : ThrP l n ps) : sBlk0.vc (EV Try.prog [(73, sFAnc.spec), (104, sAtP.spec), (137, sRoom.spec)] (invs [(2, inv106 l ps g c)]) noInv) Try.f106 ((l, n), ps, g, c, ()) := by
  have e : (ChkP l n ∧ (∃ (x : Int), (0 ≤ x ∧ x ≤ (↑(upT l g).length : Int) ∧ ∀ (j : Nat), (↑j : Int) < x → ¬roomI (atP ps ((upT l g).getD j 0)) c = 0) ∧ 0 = x ∧ upT l g = upT l g ∧ l = l ∧ n = n) ∧ ∀ (x : Int), (0 ≤ x ∧ x ≤ (↑(upT l g).length : Int) ∧ ∀ (j : Nat), (↑j : Int) < x → ¬roomI (atP ps ((upT l g).getD j 0)) c = 0) → (decide (x < (↑(upT l g).length : Int)) = true → (0 ≤ x ∧ x < (↑(upT l g).length : Int)) ∧ ps.length ≤ (9223372036854775807 : Nat) ∧ (0 ≤ idxQ ps ((upT l g).getD x.toNat 0) ∧ idxQ ps ((upT l g).getD x.toNat 0) < (↑ps.length : Int)) ∧ Tame (ps.getD (idxQ ps ((upT l g).getD x.toNat 0)).toNat { g := 0, q := 0, bu := 0, s := 0, le := 0, l := NilL Int, sp := 0, pe := 0, th := 0, em := false : Pool }) ∧ (decide (roomI (ps.getD (idxQ ps ((upT l g).getD x.toNat 0)).toNat { g := 0, q := 0, bu := 0, s := 0, le := 0, l := NilL Int, sp := 0, pe := 0, th := 0, em := false : Pool }) c = 0) = true → ∃ (y : Unit), True ∧ (upT l g).getD x.toNat 0 = (blkL ps c (upT l g)).fst ∧ true = (blkL ps c (upT l g)).snd) ∧ (decide (roomI (ps.getD (idxQ ps ((upT l g).getD x.toNat 0)).toNat { g := 0, q := 0, bu := 0, s := 0, le := 0, l := NilL Int, sp := 0, pe := 0, th := 0, em := false : Pool }) c = 0) = false → i64R (x + 1) ∧ ∃ (x' : Int), (0 ≤ x' ∧ x' ≤ (↑(upT l g).length : Int) ∧ ∀ (j : Nat), (↑j : Int) < x' → ¬roomI (atP ps ((upT l g).getD j 0)) c = 0) ∧ ((↑(upT l g).length : Int) - x').toNat < ((↑(upT l g).length : Int) - x).toNat ∧ x + 1 = x' ∧ upT l g = upT l g ∧ l = l ∧ n = n)) ∧ (decide (x < (↑(upT l g).length : Int)) = false → ∃ (y : Unit), True ∧ 0 = (blkL ps c (upT l g)).fst ∧ false = (blkL ps c (upT l g)).snd)) = sBlk0.vc (EV Try.prog [(73, sFAnc.spec), (104, sAtP.spec), (137, sRoom.spec)] (invs [(2, inv106 l ps g c)]) noInv) Try.f106 ((l, n), ps, g, c, ()) := by kernel_rfl
  rw [← e]
  clear e
  simp only [imp_self, true_and, and_true, exists_const, implies_true, gd1, gd2, gd3, gd4, gd5, gd6 ]
  simp only [Prod.forall, Prod.exists, exists_const, implies_true, not_true_eq_false, not_false_eq_true, or_self, or_false, false_or, or_true, true_or, and_false, false_and, forall_const, true_and, and_true, i64R, imp_self, Int.reduceLE, Int.reduceLT, Int.reduceNeg, false_implies, true_implies, decide_eq_true_eq, decide_eq_false_iff_not, Bool.not_eq_true', Bool.not_eq_false', Bool.true_eq_false, Bool.false_eq_true, Bool.and_eq_true, Bool.or_eq_true, Bool.and_eq_false_iff, Bool.or_eq_false_iff ]
  simp only [NilL_eq, pn_fold]
  have hc := hx.chk
  have hui := up_len64 hc g
  have hl2 := hx.len
  have l2 := hc.len2
  refine ⟨hc, ⟨0, ⟨by omega, by omega, fun j hj => by omega⟩, rfl⟩, fun x hi => ⟨fun hlt => ?_, fun hge => ?_⟩⟩
  · obtain ⟨i, hi2, e1, e2, e3, e4, _⟩ := hx.of_id (upT_sub (getD_mem (l := upT l g) (i := x.toNat) (by omega)))
    rw [e2]
    have e5 : pn ps (Int.toNat (i : Int)) = atP ps ((upT l g).getD x.toNat 0) := e3.symm
    rw [e5]
    refine ⟨by omega, by omega, by omega, by rw [e3]; exact (hx.good i hi2).tame, fun he => ?_, fun hn => ⟨by omega, x + 1, ⟨by omega, by omega, fun j hj => ?_⟩, by omega, rfl⟩⟩
    · rw [blkL_at (i := x.toNat) (fun j hj => hi.2.2 j (by omega)) (by omega) he]
      exact ⟨rfl, rfl⟩
    · by_cases e : (j : Int) < x
      · exact hi.2.2 j e
      · have : j = x.toNat := by omega
        rw [this]; exact hn
  · rw [blkL_none fun j hj => hi.2.2 j (by omega)]
    exact ⟨rfl, rfl⟩
end Go.Proofs.Ytemffnpliflkgaa
