/-
  Lemmas and contracts on the way to the laws of this seat; each theorem states its own conditions, and there are no others.
-/
import Derived.Test.YtemffnpliflkgaaQE

namespace Go.Proofs.Ytemffnpliflkgaa
open Go
set_option linter.unusedVariables false
set_option linter.unusedSimpArgs false
set_option linter.unusedVariables false

def eqP (p q : Pool) : Bool := decide (p = q)
def eqL (p q : List Pool) : Bool := decide (p = q)
theorem eqP_iff {p q : Pool} : eqP p q = true ↔ p = q := by simp [eqP]
theorem eqP_no {p q : Pool} : eqP p q = false ↔ ¬ p = q := by simp [eqP]
theorem eqL_iff {p q : List Pool} : eqL p q = true ↔ p = q := by simp [eqL]
theorem eqL_no {p q : List Pool} : eqL p q = false ↔ ¬ p = q := by simp [eqL]
def sSameP : DS := ⟨_, two pkPool pkPool, fun x => x.1.l.length ≤ 1048576, fun x => .bool (eqP x.1 x.2.1), nou⟩
def sSameL : DS := ⟨_, two pkPools pkPools, fun x => TL x.1, fun x => .bool (eqL x.1 x.2.1), nou⟩
theorem tame_zero : Tame zeroP := ⟨by decide, by decide, by decide, by decide, by decide, by decide, by decide⟩
theorem atP_tame {ps : List Pool} (h : ∀ x ∈ ps, Tame x) (g : Int) : Tame (atP ps g) := by
  rcases idxQ_cases ps g with ⟨i, hi, e1, e2, e3, e4, e5⟩ | ⟨e2, e3, e4, e5⟩
  · rw [e4]; exact h _ (pn_mem hi)
  · rw [e4]; exact tame_zero


set_option maxRecDepth 100000 in
theorem vc65 (l : List Nod) (n : Int) (ps : List Pool) (g c : Int) (hx : WfN l ∧ TL ps) : sRoomT.vc (EV Try.prog [(66, sThr.spec), (104, sAtP.spec), (120, sRoom0.spec)] noInv noInv) Try.f65 ((l, n), ps, g, c, ()) := by
  have e : ((WfN l ∧ TL ps) ∧ ((!thrB l n ps) = false → (!thrB l n ps) = false) ∧ ((!thrB l n ps) = false → (!thrB l n ps) = false) ∧ ((!thrB l n ps) = false → ps.length ≤ (9223372036854775807 : Nat)) ∧ ((!thrB l n ps) = false → (!thrB l n ps) = false) ∧ ((!thrB l n ps) = false → (!thrB l n ps) = false) ∧ ((!thrB l n ps || decide (idxQ ps g < 0)) = true → ∃ (y : Unit), True ∧ 0 = roomT l n ps g c) ∧ ((!thrB l n ps || decide (idxQ ps g < 0)) = false → ThrP l n ps ∧ ∃ (y : Unit), True ∧ roomL ps c (upT l g) = roomT l n ps g c)) = sRoomT.vc (EV Try.prog [(66, sThr.spec), (104, sAtP.spec), (120, sRoom0.spec)] noInv noInv) Try.f65 ((l, n), ps, g, c, ()) := by kernel_rfl
  rw [← e]
  clear e
  simp only [imp_self, true_and, and_true, exists_const, implies_true, gd1, gd2, gd3, gd4, gd5, gd6 ]
  simp only [Prod.forall, Prod.exists, exists_const, implies_true, not_true_eq_false, not_false_eq_true, or_self, or_false, false_or, or_true, true_or, and_false, false_and, forall_const, true_and, and_true, i64R, imp_self, Int.reduceLE, Int.reduceLT, Int.reduceNeg, false_implies, true_implies, decide_eq_true_eq, decide_eq_false_iff_not, Bool.not_eq_true', Bool.not_eq_false', Bool.true_eq_false, Bool.false_eq_true, Bool.and_eq_true, Bool.or_eq_true, Bool.and_eq_false_iff, Bool.or_eq_false_iff ]
  obtain ⟨hw, ht, hl⟩ := hx
  have bad : thrB l n ps = false ∨ idxQ ps g < 0 → 0 = roomT l n ps g c := fun h => by
    unfold roomT
    by_cases e : thrB l n ps = false
    · rw [if_pos e]
    · have e2 : thrB l n ps = true := by simpa using e
      have hT := thrB_iff.1 e2
      rw [if_neg e, if_pos]
      rcases h with h | h
      · exact absurd h e
      · cases c : hasB l g
        · rfl
        · obtain ⟨i, _, _, h3, _⟩ := hT.of_id (hasB_iff.1 c)
          omega
  refine ⟨⟨hw, ht, hl⟩, fun _ => by omega, bad, fun h => ?_⟩
  have hT := thrB_iff.1 h.1
  refine ⟨hT, ?_⟩
  rw [roomT, if_neg (by rw [h.1]; simp), if_neg]
  rw [← hT.has]
  rcases idxQ_cases ps g with ⟨i, hi, e1, e2, e3, e4, e5⟩ | ⟨e2, e3, e4, e5⟩
  · rw [e5]; simp
  · omega


set_option maxRecDepth 100000 in
theorem vc63 (l : List Nod) (n : Int) (ps : List Pool) (g c : Int) (hx : WfN l ∧ TL ps) : sBlkT.vc (EV Try.prog [(66, sThr.spec), (106, sBlk0.spec)] noInv noInv) Try.f63 ((l, n), ps, g, c, ()) := by
  have e : ((WfN l ∧ TL ps) ∧ ((!thrB l n ps) = true → ∃ (y : Unit), True ∧ 0 = (blkT l n ps g c).fst ∧ false = (blkT l n ps g c).snd) ∧ ((!thrB l n ps) = false → ThrP l n ps ∧ ∃ (y : Unit), True ∧ (blkL ps c (upT l g)).fst = (blkT l n ps g c).fst ∧ (blkL ps c (upT l g)).snd = (blkT l n ps g c).snd)) = sBlkT.vc (EV Try.prog [(66, sThr.spec), (106, sBlk0.spec)] noInv noInv) Try.f63 ((l, n), ps, g, c, ()) := by kernel_rfl
  rw [← e]
  clear e
  simp only [imp_self, true_and, and_true, exists_const, implies_true, gd1, gd2, gd3, gd4, gd5, gd6 ]
  simp only [Prod.forall, Prod.exists, exists_const, implies_true, not_true_eq_false, not_false_eq_true, or_self, or_false, false_or, or_true, true_or, and_false, false_and, forall_const, true_and, and_true, i64R, imp_self, Int.reduceLE, Int.reduceLT, Int.reduceNeg, false_implies, true_implies, decide_eq_true_eq, decide_eq_false_iff_not, Bool.not_eq_true', Bool.not_eq_false', Bool.true_eq_false, Bool.false_eq_true, Bool.and_eq_true, Bool.or_eq_true, Bool.and_eq_false_iff, Bool.or_eq_false_iff ]
  refine ⟨hx, fun h => ?_, fun h => ?_⟩
  · rw [blkT, if_pos h]; exact ⟨rfl, rfl⟩
  · rw [blkT, if_neg (by rw [h]; simp)]; exact ⟨thrB_iff.1 h, rfl, rfl⟩

def inv68 (l : List Nod) (n : Int) (ps : List Pool) (g c : Int) : Inv where
  X := Int
  ok := fun i => 0 ≤ i ∧ i ≤ (ancR l n g).length ∧ ∀ j : Nat, (j : Int) < i → ¬ roomI (atP ps ((ancR l n g).getD j 0)) c = 0
  sl := fun i => [(11, .int .i64 i), (10, .own 101 0)]
  hp := fun i => [(101, .rows 3 0 (ancR l n g))]
  keep := [10000]
  me := fun i => ((ancR l n g).length - i).toNat
set_option maxRecDepth 100000 in
theorem vc68 (l : List Nod) (n : Int) (ps : List Pool) (g c : Int) (hx : WfN l ∧ TL ps) : sBlkT.vc (EV Try.prog [(21, sAnc.spec), (54, sThr.spec), (58, sGetP.spec), (62, sRoom.spec)] (invs [(5, inv68 l n ps g c)]) noInv) Try.f68 ((l, n), ps, g, c, ()) := by
  have e : ((WfN l ∧ TL ps) ∧ ((!thrB l n ps) = true → ∃ (y : Unit), True ∧ 0 = (blkT l n ps g c).fst ∧ false = (blkT l n ps g c).snd) ∧ ((!thrB l n ps) = false → True ∧ (∃ (x : Int), (0 ≤ x ∧ x ≤ (↑(ancR l n g).length : Int) ∧ ∀ (j : Nat), (↑j : Int) < x → ¬roomI (atP ps ((ancR l n g).getD j 0)) c = 0) ∧ 0 = x ∧ ancR l n g = ancR l n g ∧ l = l ∧ n = n) ∧ ∀ (x : Int), (0 ≤ x ∧ x ≤ (↑(ancR l n g).length : Int) ∧ ∀ (j : Nat), (↑j : Int) < x → ¬roomI (atP ps ((ancR l n g).getD j 0)) c = 0) → (decide (x < (↑(ancR l n g).length : Int)) = true → (0 ≤ x ∧ x < (↑(ancR l n g).length : Int)) ∧ TL ps ∧ Tame (atP ps ((ancR l n g).getD x.toNat 0)) ∧ (decide (roomI (atP ps ((ancR l n g).getD x.toNat 0)) c = 0) = true → (0 ≤ x ∧ x < (↑(ancR l n g).length : Int)) ∧ ∃ (y : Unit), True ∧ (ancR l n g).getD x.toNat 0 = (blkT l n ps g c).fst ∧ true = (blkT l n ps g c).snd) ∧ (decide (roomI (atP ps ((ancR l n g).getD x.toNat 0)) c = 0) = false → i64R (x + 1) ∧ ∃ (x' : Int), (0 ≤ x' ∧ x' ≤ (↑(ancR l n g).length : Int) ∧ ∀ (j : Nat), (↑j : Int) < x' → ¬roomI (atP ps ((ancR l n g).getD j 0)) c = 0) ∧ ((↑(ancR l n g).length : Int) - x').toNat < ((↑(ancR l n g).length : Int) - x).toNat ∧ x + 1 = x' ∧ ancR l n g = ancR l n g ∧ l = l ∧ n = n)) ∧ (decide (x < (↑(ancR l n g).length : Int)) = false → ∃ (y : Unit), True ∧ 0 = (blkT l n ps g c).fst ∧ false = (blkT l n ps g c).snd))) = sBlkT.vc (EV Try.prog [(21, sAnc.spec), (54, sThr.spec), (58, sGetP.spec), (62, sRoom.spec)] (invs [(5, inv68 l n ps g c)]) noInv) Try.f68 ((l, n), ps, g, c, ()) := by kernel_rfl
  rw [← e]
  clear e
  simp only [imp_self, true_and, and_true, exists_const, implies_true, gd1, gd2, gd3, gd4, gd5, gd6 ]
  simp only [Prod.forall, Prod.exists, exists_const, implies_true, not_true_eq_false, not_false_eq_true, or_self, or_false, false_or, or_true, true_or, and_false, false_and, forall_const, true_and, and_true, i64R, imp_self, Int.reduceLE, Int.reduceLT, Int.reduceNeg, false_implies, true_implies, decide_eq_true_eq, decide_eq_false_iff_not, Bool.not_eq_true', Bool.not_eq_false', Bool.true_eq_false, Bool.false_eq_true, Bool.and_eq_true, Bool.or_eq_true, Bool.and_eq_false_iff, Bool.or_eq_false_iff ]
  try simp only [NilL_eq, pn_fold]
  obtain ⟨hw, ht, hl⟩ := hx
  refine ⟨⟨hw, ht, hl⟩, fun h => ?_, fun h => ?_⟩
  · rw [blkT, if_pos h]; exact ⟨rfl, rfl⟩
  · have hc := (thrB_iff.1 h).chk
    have eA : ancR l n g = upT l g := by
      by_cases hg : g ∈ ids l
      · rw [ancR, if_pos]; unfold hasR; rw [chkB_iff.2 hc, hasB_iff.2 hg]; rfl
      · rw [ancR, upT_none hg, if_neg]
        intro h2
        unfold hasR at h2
        rw [Bool.and_eq_true] at h2
        exact hg (hasB_iff.1 h2.2)
    rw [eA]
    have hui := up_len64 hc g
    have eB : blkT l n ps g c = blkL ps c (upT l g) := by rw [blkT, if_neg (by rw [h]; simp)]
    rw [eB]
    refine ⟨⟨0, ⟨by omega, by omega, fun j hj => by omega⟩, rfl⟩, fun x hi => ⟨fun hlt => ⟨by omega, ⟨ht, hl⟩, atP_tame ht _, fun he => ?_, fun hn => ⟨by omega, x + 1, ⟨by omega, by omega, fun j hj => ?_⟩, by omega, rfl⟩⟩, fun hge => ?_⟩⟩
    · rw [blkL_at (i := x.toNat) (fun j hj => hi.2.2 j (by omega)) (by omega) he]
      exact ⟨by omega, rfl, rfl⟩
    · by_cases e : (j : Int) < x
      · exact hi.2.2 j e
      · have : j = x.toNat := by omega
        rw [this]; exact hn
    · rw [blkL_none fun j hj => hi.2.2 j (by omega)]
      exact ⟨rfl, rfl⟩

def spF (up : List Int) (c : Int) (p : Pool) : Pool := if p.g ∈ up then (spendG p c).1 else p
def inv42 (l : List Nod) (ps : List Pool) (g c : Int) : Inv where
  X := Int
  ok := fun i => 0 ≤ i ∧ i ≤ (upT l g).length
  sl := fun i => [(69, .int .i64 i), (67, .own 101 0), (10, .own 103 4)]
  hp := fun i => [(101, .rows 3 0 (upT l g)), (103, .rows 80 4 (ps.map (spF ((upT l g).take i.toNat) c)))]
  keep := [10000]
  me := fun i => ((upT l g).length - i).toNat
set_option maxRecDepth 100000 in
theorem vc42 (l : List Nod) (n : Int) (ps : List Pool) (g c : Int) (hx : WfN l ∧ TL ps) : sSpT.vc (EV Try.prog [(66, sThr.spec), (104, sAtP.spec), (105, sCopyP.spec), (106, sBlk0.spec), (107, sSpend.spec), (73, sFAnc.spec)] (invs [(13, inv42 l ps g c)]) noInv) Try.f42 ((l, n), ps, g, c, ()) := by
  have e : ((WfN l ∧ TL ps) ∧ ((!thrB l n ps) = true → ∃ (y : Unit), True ∧ 1 = spE l n ps g c ∧ NilL Pool = spL l n ps g c) ∧ ((!thrB l n ps) = false → ps.length ≤ (9223372036854775807 : Nat) ∧ (decide (idxQ ps g < 0) = true → ∃ (y : Unit), True ∧ 4 = spE l n ps g c ∧ NilL Pool = spL l n ps g c) ∧ (decide (idxQ ps g < 0) = false → (decide (c < 0) = false → decide (c < 0) = false) ∧ (decide (c < 0) = false → (0 : Int) ≤ 0 ∧ 0 < (↑ps.length : Int)) ∧ (decide (c < 0) = false → decide (c < 0) = false) ∧ (decide (c < 0) = false → decide (c < 0) = false) ∧ (decide (c < 0) = false → decide (c < 0) = false) ∧ (decide (c < 0) = false → decide (c < 0) = false) ∧ (decide (c < 0) = false → decide (c < 0) = false) ∧ (decide (c < 0) = false → decide (c < 0) = false) ∧ ((decide (c < 0) || decide ((↑(ps.getD (Int.toNat 0) { g := 0, q := 0, bu := 0, s := 0, le := 0, l := NilL Int, sp := 0, pe := 0, th := 0, em := false : Pool }).l.length : Int) ≤ c)) = true → ∃ (y : Unit), True ∧ 3 = spE l n ps g c ∧ NilL Pool = spL l n ps g c) ∧ ((decide (c < 0) || decide ((↑(ps.getD (Int.toNat 0) { g := 0, q := 0, bu := 0, s := 0, le := 0, l := NilL Int, sp := 0, pe := 0, th := 0, em := false : Pool }).l.length : Int) ≤ c)) = false → TL ps ∧ ThrP l n ps ∧ ((blkL ps c (upT l g)).snd = true → ps.length ≤ (9223372036854775807 : Nat) ∧ ps.length ≤ (9223372036854775807 : Nat) ∧ (0 ≤ idxQ ps (blkL ps c (upT l g)).fst ∧ idxQ ps (blkL ps c (upT l g)).fst < (↑ps.length : Int)) ∧ Tame (ps.getD (idxQ ps (blkL ps c (upT l g)).fst).toNat { g := 0, q := 0, bu := 0, s := 0, le := 0, l := NilL Int, sp := 0, pe := 0, th := 0, em := false : Pool }) ∧ (0 ≤ idxQ ps (blkL ps c (upT l g)).fst ∧ idxQ ps (blkL ps c (upT l g)).fst < (↑ps.length : Int)) ∧ ∃ (y : Unit), True ∧ 11 = spE l n ps g c ∧ ps.set (idxQ ps (blkL ps c (upT l g)).fst).toNat (spendG (ps.getD (idxQ ps (blkL ps c (upT l g)).fst).toNat { g := 0, q := 0, bu := 0, s := 0, le := 0, l := NilL Int, sp := 0, pe := 0, th := 0, em := false : Pool }) c).fst = spL l n ps g c) ∧ ((blkL ps c (upT l g)).snd = false → ChkP l n ∧ (∃ (x : Int), (0 ≤ x ∧ x ≤ (↑(upT l g).length : Int)) ∧ 0 = x ∧ upT l g = upT l g ∧ ps = List.map (spF (List.take x.toNat (upT l g)) c) ps ∧ l = l ∧ n = n) ∧ ∀ (x : Int), 0 ≤ x ∧ x ≤ (↑(upT l g).length : Int) → (decide (x < (↑(upT l g).length : Int)) = true → (0 ≤ x ∧ x < (↑(upT l g).length : Int)) ∧ ps.length ≤ (9223372036854775807 : Nat) ∧ ps.length ≤ (9223372036854775807 : Nat) ∧ (0 ≤ idxQ ps ((upT l g).getD x.toNat 0) ∧ idxQ ps ((upT l g).getD x.toNat 0) < (↑ps.length : Int)) ∧ Tame (ps.getD (idxQ ps ((upT l g).getD x.toNat 0)).toNat { g := 0, q := 0, bu := 0, s := 0, le := 0, l := NilL Int, sp := 0, pe := 0, th := 0, em := false : Pool }) ∧ (0 ≤ idxQ ps ((upT l g).getD x.toNat 0) ∧ idxQ ps ((upT l g).getD x.toNat 0) < (↑(List.map (spF (List.take x.toNat (upT l g)) c) ps).length : Int)) ∧ i64R (x + 1) ∧ ∃ (x' : Int), (0 ≤ x' ∧ x' ≤ (↑(upT l g).length : Int)) ∧ ((↑(upT l g).length : Int) - x').toNat < ((↑(upT l g).length : Int) - x).toNat ∧ x + 1 = x' ∧ upT l g = upT l g ∧ (List.map (spF (List.take x.toNat (upT l g)) c) ps).set (idxQ ps ((upT l g).getD x.toNat 0)).toNat (spendG (ps.getD (idxQ ps ((upT l g).getD x.toNat 0)).toNat { g := 0, q := 0, bu := 0, s := 0, le := 0, l := NilL Int, sp := 0, pe := 0, th := 0, em := false : Pool }) c).fst = List.map (spF (List.take x'.toNat (upT l g)) c) ps ∧ l = l ∧ n = n) ∧ (decide (x < (↑(upT l g).length : Int)) = false → ∃ (y : Unit), True ∧ 0 = spE l n ps g c ∧ List.map (spF (List.take x.toNat (upT l g)) c) ps = spL l n ps g c)))))) = sSpT.vc (EV Try.prog [(66, sThr.spec), (104, sAtP.spec), (105, sCopyP.spec), (106, sBlk0.spec), (107, sSpend.spec), (73, sFAnc.spec)] (invs [(13, inv42 l ps g c)]) noInv) Try.f42 ((l, n), ps, g, c, ()) := by kernel_rfl
  rw [← e]
  clear e
  simp only [imp_self, true_and, and_true, exists_const, implies_true, gd1, gd2, gd3, gd4, gd5, gd6 ]
  simp only [Prod.forall, Prod.exists, exists_const, implies_true, not_true_eq_false, not_false_eq_true, or_self, or_false, false_or, or_true, true_or, and_false, false_and, forall_const, true_and, and_true, i64R, imp_self, Int.reduceLE, Int.reduceLT, Int.reduceNeg, false_implies, true_implies, decide_eq_true_eq, decide_eq_false_iff_not, Bool.not_eq_true', Bool.not_eq_false', Bool.true_eq_false, Bool.false_eq_true, Bool.and_eq_true, Bool.or_eq_true, Bool.and_eq_false_iff, Bool.or_eq_false_iff ]
  try simp only [NilL_eq, pn_fold]
  obtain ⟨hw, ht, hl⟩ := hx
  have nil : ∀ k : Int, k ≠ 0 → k ≠ 11 → spE l n ps g c = k → k = spE l n ps g c ∧ [] = spL l n ps g c := fun k hk h11 h => ⟨h.symm, by rw [spL, if_neg (by rw [h]; omega)]⟩
  refine ⟨⟨hw, ht, hl⟩, fun h => nil 1 (by omega) (by omega) (by rw [spE, if_pos h]), fun h => ?_⟩
  have hT := thrB_iff.1 h
  have hc := hT.chk
  have n1 : ¬ thrB l n ps = false := by rw [h]; simp
  have l1 := hc.len1
  have l2 := hc.len2
  have l3 := hT.len
  have hui := up_len64 hc g
  have e0 : (Int.toNat 0) = 0 := rfl
  rw [e0]
  refine ⟨by omega, fun h2 => ?_, fun h2 => ?_⟩
  · have hb : hasB l g = false := by
      cases e : hasB l g
      · rfl
      · obtain ⟨i, _, _, e2, _⟩ := hT.of_id (hasB_iff.1 e)
        omega
    exact nil 4 (by omega) (by omega) (by rw [spE, if_neg n1, if_pos hb])
  have hb : hasB l g = true := by
    rw [← hT.has]
    rcases idxQ_cases ps g with ⟨i, hi, e1, e2, e3, e4, e5⟩ | ⟨e2, e3, e4, e5⟩
    · exact e5
    · omega
  have n2 : ¬ hasB l g = false := by rw [hb]; simp
  refine ⟨fun _ => by omega, fun h3 => nil 3 (by omega) (by omega) (by rw [spE, if_neg n1, if_neg n2, if_pos h3]), fun h3 => ?_⟩
  have n3 : ¬ (c < 0 ∨ ((pn ps 0).l.length : Int) ≤ c) := by omega
  refine ⟨⟨ht, hl⟩, hT, fun h4 => ?_, fun h4 => ?_⟩
  · have e11 : spE l n ps g c = 11 := by rw [spE, if_neg n1, if_neg n2, if_neg n3, if_pos h4]
    obtain ⟨m1, m2⟩ := blkL_mem h4
    obtain ⟨i, hi, e1, e2, e3, e4, _⟩ := hT.of_id (upT_sub m1)
    rw [e2]
    refine ⟨by omega, by omega, by omega, (hT.good i hi).tame, by omega, e11.symm, ?_⟩
    rw [spL, if_pos (.inr e11)]
    show ps.set i (spendG (pn ps i) c).1 = _
    have k1 : (spendG (pn ps i) c).1 = sp1 ps (upT l g) c (pn ps i) := by rw [sp1, if_pos (.inl ⟨h4, e4⟩)]
    have k2 := map_set (ps := ps) (F := fun p => p) (G := sp1 ps (upT l g) c) (i := i) (by omega) fun j hj hji => by
      rw [sp1, if_neg]
      rintro (⟨_, a⟩ | ⟨a, _⟩)
      · exact hji (hT.inj hj (by omega) (by rw [a, e4]))
      · rw [h4] at a; cases a
    rw [List.map_id'] at k2
    rw [k1, k2]
  · have e00 : spE l n ps g c = 0 := by rw [spE, if_neg n1, if_neg n2, if_neg n3, if_neg (by rw [h4]; simp)]
    refine ⟨hc, ⟨0, by omega, rfl, ?_⟩, fun x hi => ⟨fun hlt => ?_, fun hge => ⟨e00.symm, ?_⟩⟩⟩
    · have : spF (List.take (Int.toNat 0) (upT l g)) c = fun p => p := by
        funext p
        rw [spF, if_neg]
        rw [e0, List.take_zero]
        intro a; cases a
      rw [this, List.map_id']
    · obtain ⟨i, hi2, e1, e2, e3, e4, _⟩ := hT.of_id (upT_sub (getD_mem (l := upT l g) (i := x.toNat) (by omega)))
      have e : (x + 1).toNat = x.toNat + 1 := by omega
      rw [e2, List.length_map]
      refine ⟨by omega, by omega, by omega, by omega, (hT.good i hi2).tame, by omega, by omega, x + 1, by omega, by omega, rfl, ?_⟩
      show (ps.map _).set i (spendG (pn ps i) c).1 = _
      have tk : (upT l g).take (x.toNat + 1) = (upT l g).take x.toNat ++ [(upT l g).getD x.toNat 0] := by
        rw [List.take_add_one, List.getElem?_eq_getElem (by omega)]
        simp [List.getD_eq_getElem?_getD, show x.toNat < (upT l g).length by omega]
      have k1 : (spendG (pn ps i) c).1 = spF ((upT l g).take (x.toNat + 1)) c (pn ps i) := by
        rw [spF, if_pos]
        rw [tk, e4]; simp
      rw [e, k1]
      refine map_set (by omega) fun j hj hji => ?_
      have k3 : (pn ps j).g ∈ (upT l g).take (x.toNat + 1) ↔ (pn ps j).g ∈ (upT l g).take x.toNat := by
        rw [tk, List.mem_append]
        constructor
        · rintro (a | a)
          · exact a
          · simp only [List.mem_cons, List.not_mem_nil, or_false] at a
            exact absurd (hT.inj hj (by omega) (by rw [a, e4])) hji
        · exact .inl
      by_cases k4 : (pn ps j).g ∈ (upT l g).take x.toNat
      · rw [spF, if_pos k4, spF, if_pos (k3.2 k4)]
      · rw [spF, if_neg k4, spF, if_neg (fun a => k4 (k3.1 a))]
    · rw [List.take_of_length_le (by omega), spL, if_pos (.inl e00)]
      have : spF (upT l g) c = sp1 ps (upT l g) c := by
        funext p
        unfold spF sp1
        by_cases k : p.g ∈ upT l g
        · rw [if_pos k, if_pos (.inr ⟨h4, k⟩)]
        · rw [if_neg k, if_neg]
          rintro (⟨a, _⟩ | ⟨_, a⟩)
          · rw [h4] at a; cases a
          · exact k a
      rw [this]

def inv43 (l : List Nod) (n : Int) (ps : List Pool) (g c : Int) : Inv where
  X := Int
  ok := fun i => 0 ≤ i ∧ i ≤ ps.length
  sl := fun i => [(14, .int .i64 i), (10, .own 103 4), (11, .own 101 0)]
  hp := fun i => [(101, .rows 3 0 (ancR l n g)), (103, .rows 80 4 (updK (sp1 ps (upT l g) c) ps i.toNat))]
  keep := [10000]
  me := fun i => (ps.length - i).toNat
set_option maxRecDepth 100000 in
theorem vc43 (l : List Nod) (n : Int) (ps : List Pool) (g c : Int) (hx : WfN l ∧ TL ps) : sSpT.vc (EV Try.prog [(54, sThr.spec), (76, sHas.spec), (103, sCopyP.spec), (21, sAnc.spec), (68, sBlkT.spec), (108, sSpend.spec), (64, sHasI.spec)] (invs [(11, inv43 l n ps g c)]) noInv) Try.f43 ((l, n), ps, g, c, ()) := by
  have e : ((WfN l ∧ TL ps) ∧ ((!thrB l n ps) = true → ∃ (y : Unit), True ∧ 1 = spE l n ps g c ∧ NilL Pool = spL l n ps g c) ∧ ((!thrB l n ps) = false → True ∧ ((!hasR l n g) = true → ∃ (y : Unit), True ∧ 4 = spE l n ps g c ∧ NilL Pool = spL l n ps g c) ∧ ((!hasR l n g) = false → (decide (c < 0) = false → decide (c < 0) = false) ∧ (decide (c < 0) = false → (0 : Int) ≤ 0 ∧ 0 < (↑ps.length : Int)) ∧ (decide (c < 0) = false → decide (c < 0) = false) ∧ (decide (c < 0) = false → decide (c < 0) = false) ∧ (decide (c < 0) = false → decide (c < 0) = false) ∧ (decide (c < 0) = false → decide (c < 0) = false) ∧ (decide (c < 0) = false → decide (c < 0) = false) ∧ (decide (c < 0) = false → decide (c < 0) = false) ∧ ((decide (c < 0) || decide ((↑(ps.getD (Int.toNat 0) { g := 0, q := 0, bu := 0, s := 0, le := 0, l := NilL Int, sp := 0, pe := 0, th := 0, em := false : Pool }).l.length : Int) ≤ c)) = true → ∃ (y : Unit), True ∧ 3 = spE l n ps g c ∧ NilL Pool = spL l n ps g c) ∧ ((decide (c < 0) || decide ((↑(ps.getD (Int.toNat 0) { g := 0, q := 0, bu := 0, s := 0, le := 0, l := NilL Int, sp := 0, pe := 0, th := 0, em := false : Pool }).l.length : Int) ≤ c)) = false → TL ps ∧ True ∧ (WfN l ∧ TL ps) ∧ (∃ (x : Int), (0 ≤ x ∧ x ≤ (↑ps.length : Int)) ∧ 0 = x ∧ ancR l n g = ancR l n g ∧ ps = updK (sp1 ps (upT l g) c) ps x.toNat ∧ l = l ∧ n = n) ∧ ∀ (x : Int), 0 ≤ x ∧ x ≤ (↑ps.length : Int) → (decide (x < (↑(updK (sp1 ps (upT l g) c) ps x.toNat).length : Int)) = true → ((blkT l n ps g c).snd = true → (blkT l n ps g c).snd = true) ∧ ((blkT l n ps g c).snd = true → (blkT l n ps g c).snd = true) ∧ ((blkT l n ps g c).snd = true → 0 ≤ x ∧ x < (↑(updK (sp1 ps (upT l g) c) ps x.toNat).length : Int)) ∧ ((blkT l n ps g c).snd = true → (blkT l n ps g c).snd = true) ∧ ((blkT l n ps g c).snd = true → (blkT l n ps g c).snd = true) ∧ ((blkT l n ps g c).snd = true → (blkT l n ps g c).snd = true) ∧ ((blkT l n ps g c).snd = true → (blkT l n ps g c).snd = true) ∧ ((blkT l n ps g c).snd = true → (blkT l n ps g c).snd = true) ∧ (((blkT l n ps g c).snd && decide (((updK (sp1 ps (upT l g) c) ps x.toNat).getD x.toNat { g := 0, q := 0, bu := 0, s := 0, le := 0, l := NilL Int, sp := 0, pe := 0, th := 0, em := false : Pool }).g = (blkT l n ps g c).fst)) = false → ((blkT l n ps g c).snd && decide (((updK (sp1 ps (upT l g) c) ps x.toNat).getD x.toNat { g := 0, q := 0, bu := 0, s := 0, le := 0, l := NilL Int, sp := 0, pe := 0, th := 0, em := false : Pool }).g = (blkT l n ps g c).fst)) = false) ∧ (((blkT l n ps g c).snd && decide (((updK (sp1 ps (upT l g) c) ps x.toNat).getD x.toNat { g := 0, q := 0, bu := 0, s := 0, le := 0, l := NilL Int, sp := 0, pe := 0, th := 0, em := false : Pool }).g = (blkT l n ps g c).fst)) = false → ((blkT l n ps g c).snd && decide (((updK (sp1 ps (upT l g) c) ps x.toNat).getD x.toNat { g := 0, q := 0, bu := 0, s := 0, le := 0, l := NilL Int, sp := 0, pe := 0, th := 0, em := false : Pool }).g = (blkT l n ps g c).fst)) = false) ∧ ((!((blkT l n ps g c).snd && decide (((updK (sp1 ps (upT l g) c) ps x.toNat).getD x.toNat { g := 0, q := 0, bu := 0, s := 0, le := 0, l := NilL Int, sp := 0, pe := 0, th := 0, em := false : Pool }).g = (blkT l n ps g c).fst)) && !(blkT l n ps g c).snd) = true → (!((blkT l n ps g c).snd && decide (((updK (sp1 ps (upT l g) c) ps x.toNat).getD x.toNat { g := 0, q := 0, bu := 0, s := 0, le := 0, l := NilL Int, sp := 0, pe := 0, th := 0, em := false : Pool }).g = (blkT l n ps g c).fst)) && !(blkT l n ps g c).snd) = true) ∧ ((!((blkT l n ps g c).snd && decide (((updK (sp1 ps (upT l g) c) ps x.toNat).getD x.toNat { g := 0, q := 0, bu := 0, s := 0, le := 0, l := NilL Int, sp := 0, pe := 0, th := 0, em := false : Pool }).g = (blkT l n ps g c).fst)) && !(blkT l n ps g c).snd) = true → (!((blkT l n ps g c).snd && decide (((updK (sp1 ps (upT l g) c) ps x.toNat).getD x.toNat { g := 0, q := 0, bu := 0, s := 0, le := 0, l := NilL Int, sp := 0, pe := 0, th := 0, em := false : Pool }).g = (blkT l n ps g c).fst)) && !(blkT l n ps g c).snd) = true) ∧ ((!((blkT l n ps g c).snd && decide (((updK (sp1 ps (upT l g) c) ps x.toNat).getD x.toNat { g := 0, q := 0, bu := 0, s := 0, le := 0, l := NilL Int, sp := 0, pe := 0, th := 0, em := false : Pool }).g = (blkT l n ps g c).fst)) && !(blkT l n ps g c).snd) = true → 0 ≤ x ∧ x < (↑(updK (sp1 ps (upT l g) c) ps x.toNat).length : Int)) ∧ ((!((blkT l n ps g c).snd && decide (((updK (sp1 ps (upT l g) c) ps x.toNat).getD x.toNat { g := 0, q := 0, bu := 0, s := 0, le := 0, l := NilL Int, sp := 0, pe := 0, th := 0, em := false : Pool }).g = (blkT l n ps g c).fst)) && !(blkT l n ps g c).snd) = true → (!((blkT l n ps g c).snd && decide (((updK (sp1 ps (upT l g) c) ps x.toNat).getD x.toNat { g := 0, q := 0, bu := 0, s := 0, le := 0, l := NilL Int, sp := 0, pe := 0, th := 0, em := false : Pool }).g = (blkT l n ps g c).fst)) && !(blkT l n ps g c).snd) = true) ∧ ((!((blkT l n ps g c).snd && decide (((updK (sp1 ps (upT l g) c) ps x.toNat).getD x.toNat { g := 0, q := 0, bu := 0, s := 0, le := 0, l := NilL Int, sp := 0, pe := 0, th := 0, em := false : Pool }).g = (blkT l n ps g c).fst)) && !(blkT l n ps g c).snd) = true → (!((blkT l n ps g c).snd && decide (((updK (sp1 ps (upT l g) c) ps x.toNat).getD x.toNat { g := 0, q := 0, bu := 0, s := 0, le := 0, l := NilL Int, sp := 0, pe := 0, th := 0, em := false : Pool }).g = (blkT l n ps g c).fst)) && !(blkT l n ps g c).snd) = true) ∧ ((!((blkT l n ps g c).snd && decide (((updK (sp1 ps (upT l g) c) ps x.toNat).getD x.toNat { g := 0, q := 0, bu := 0, s := 0, le := 0, l := NilL Int, sp := 0, pe := 0, th := 0, em := false : Pool }).g = (blkT l n ps g c).fst)) && !(blkT l n ps g c).snd) = true → (!((blkT l n ps g c).snd && decide (((updK (sp1 ps (upT l g) c) ps x.toNat).getD x.toNat { g := 0, q := 0, bu := 0, s := 0, le := 0, l := NilL Int, sp := 0, pe := 0, th := 0, em := false : Pool }).g = (blkT l n ps g c).fst)) && !(blkT l n ps g c).snd) = true) ∧ ((!((blkT l n ps g c).snd && decide (((updK (sp1 ps (upT l g) c) ps x.toNat).getD x.toNat { g := 0, q := 0, bu := 0, s := 0, le := 0, l := NilL Int, sp := 0, pe := 0, th := 0, em := false : Pool }).g = (blkT l n ps g c).fst)) && !(blkT l n ps g c).snd) = true → (!((blkT l n ps g c).snd && decide (((updK (sp1 ps (upT l g) c) ps x.toNat).getD x.toNat { g := 0, q := 0, bu := 0, s := 0, le := 0, l := NilL Int, sp := 0, pe := 0, th := 0, em := false : Pool }).g = (blkT l n ps g c).fst)) && !(blkT l n ps g c).snd) = true) ∧ ((!((blkT l n ps g c).snd && decide (((updK (sp1 ps (upT l g) c) ps x.toNat).getD x.toNat { g := 0, q := 0, bu := 0, s := 0, le := 0, l := NilL Int, sp := 0, pe := 0, th := 0, em := false : Pool }).g = (blkT l n ps g c).fst)) && !(blkT l n ps g c).snd) = true → (ancR l n g).length ≤ (9223372036854775807 : Nat)) ∧ (((blkT l n ps g c).snd && decide (((updK (sp1 ps (upT l g) c) ps x.toNat).getD x.toNat { g := 0, q := 0, bu := 0, s := 0, le := 0, l := NilL Int, sp := 0, pe := 0, th := 0, em := false : Pool }).g = (blkT l n ps g c).fst)) = false → ((blkT l n ps g c).snd && decide (((updK (sp1 ps (upT l g) c) ps x.toNat).getD x.toNat { g := 0, q := 0, bu := 0, s := 0, le := 0, l := NilL Int, sp := 0, pe := 0, th := 0, em := false : Pool }).g = (blkT l n ps g c).fst)) = false) ∧ (((blkT l n ps g c).snd && decide (((updK (sp1 ps (upT l g) c) ps x.toNat).getD x.toNat { g := 0, q := 0, bu := 0, s := 0, le := 0, l := NilL Int, sp := 0, pe := 0, th := 0, em := false : Pool }).g = (blkT l n ps g c).fst)) = false → (!(blkT l n ps g c).snd) = true → (!((blkT l n ps g c).snd && decide (((updK (sp1 ps (upT l g) c) ps x.toNat).getD x.toNat { g := 0, q := 0, bu := 0, s := 0, le := 0, l := NilL Int, sp := 0, pe := 0, th := 0, em := false : Pool }).g = (blkT l n ps g c).fst)) && !(blkT l n ps g c).snd) = true) ∧ (((blkT l n ps g c).snd && decide (((updK (sp1 ps (upT l g) c) ps x.toNat).getD x.toNat { g := 0, q := 0, bu := 0, s := 0, le := 0, l := NilL Int, sp := 0, pe := 0, th := 0, em := false : Pool }).g = (blkT l n ps g c).fst)) = false → ((blkT l n ps g c).snd && decide (((updK (sp1 ps (upT l g) c) ps x.toNat).getD x.toNat { g := 0, q := 0, bu := 0, s := 0, le := 0, l := NilL Int, sp := 0, pe := 0, th := 0, em := false : Pool }).g = (blkT l n ps g c).fst)) = false) ∧ (((blkT l n ps g c).snd && decide (((updK (sp1 ps (upT l g) c) ps x.toNat).getD x.toNat { g := 0, q := 0, bu := 0, s := 0, le := 0, l := NilL Int, sp := 0, pe := 0, th := 0, em := false : Pool }).g = (blkT l n ps g c).fst) || !(blkT l n ps g c).snd && memB (ancR l n g) ((updK (sp1 ps (upT l g) c) ps x.toNat).getD x.toNat { g := 0, q := 0, bu := 0, s := 0, le := 0, l := NilL Int, sp := 0, pe := 0, th := 0, em := false : Pool }).g) = true → (0 ≤ x ∧ x < (↑(updK (sp1 ps (upT l g) c) ps x.toNat).length : Int)) ∧ Tame ((updK (sp1 ps (upT l g) c) ps x.toNat).getD x.toNat { g := 0, q := 0, bu := 0, s := 0, le := 0, l := NilL Int, sp := 0, pe := 0, th := 0, em := false : Pool }) ∧ (0 ≤ x ∧ x < (↑(updK (sp1 ps (upT l g) c) ps x.toNat).length : Int)) ∧ i64R (x + 1) ∧ ∃ (x' : Int), (0 ≤ x' ∧ x' ≤ (↑ps.length : Int)) ∧ ((↑ps.length : Int) - x').toNat < ((↑ps.length : Int) - x).toNat ∧ x + 1 = x' ∧ ancR l n g = ancR l n g ∧ (updK (sp1 ps (upT l g) c) ps x.toNat).set x.toNat (spendG ((updK (sp1 ps (upT l g) c) ps x.toNat).getD x.toNat { g := 0, q := 0, bu := 0, s := 0, le := 0, l := NilL Int, sp := 0, pe := 0, th := 0, em := false : Pool }) c).fst = updK (sp1 ps (upT l g) c) ps x'.toNat ∧ l = l ∧ n = n) ∧ (((blkT l n ps g c).snd && decide (((updK (sp1 ps (upT l g) c) ps x.toNat).getD x.toNat { g := 0, q := 0, bu := 0, s := 0, le := 0, l := NilL Int, sp := 0, pe := 0, th := 0, em := false : Pool }).g = (blkT l n ps g c).fst) || !(blkT l n ps g c).snd && memB (ancR l n g) ((updK (sp1 ps (upT l g) c) ps x.toNat).getD x.toNat { g := 0, q := 0, bu := 0, s := 0, le := 0, l := NilL Int, sp := 0, pe := 0, th := 0, em := false : Pool }).g) = false → i64R (x + 1) ∧ ∃ (x' : Int), (0 ≤ x' ∧ x' ≤ (↑ps.length : Int)) ∧ ((↑ps.length : Int) - x').toNat < ((↑ps.length : Int) - x).toNat ∧ x + 1 = x' ∧ ancR l n g = ancR l n g ∧ updK (sp1 ps (upT l g) c) ps x.toNat = updK (sp1 ps (upT l g) c) ps x'.toNat ∧ l = l ∧ n = n)) ∧ (decide (x < (↑(updK (sp1 ps (upT l g) c) ps x.toNat).length : Int)) = false → ((blkT l n ps g c).snd = true → ∃ (y : Unit), True ∧ 11 = spE l n ps g c ∧ updK (sp1 ps (upT l g) c) ps x.toNat = spL l n ps g c) ∧ ((blkT l n ps g c).snd = false → ∃ (y : Unit), True ∧ 0 = spE l n ps g c ∧ updK (sp1 ps (upT l g) c) ps x.toNat = spL l n ps g c)))))) = sSpT.vc (EV Try.prog [(54, sThr.spec), (76, sHas.spec), (103, sCopyP.spec), (21, sAnc.spec), (68, sBlkT.spec), (108, sSpend.spec), (64, sHasI.spec)] (invs [(11, inv43 l n ps g c)]) noInv) Try.f43 ((l, n), ps, g, c, ()) := by kernel_rfl
  rw [← e]
  clear e
  simp only [imp_self, true_and, and_true, exists_const, implies_true, gd1, gd2, gd3, gd4, gd5, gd6 ]
  simp only [Prod.forall, Prod.exists, exists_const, implies_true, not_true_eq_false, not_false_eq_true, or_self, or_false, false_or, or_true, true_or, and_false, false_and, forall_const, true_and, and_true, i64R, imp_self, Int.reduceLE, Int.reduceLT, Int.reduceNeg, false_implies, true_implies, decide_eq_true_eq, decide_eq_false_iff_not, Bool.not_eq_true', Bool.not_eq_false', Bool.true_eq_false, Bool.false_eq_true, Bool.and_eq_true, Bool.or_eq_true, Bool.and_eq_false_iff, Bool.or_eq_false_iff ]
  try simp only [NilL_eq, pn_fold]
  obtain ⟨hw, ht, hl⟩ := hx
  have nil : ∀ k : Int, k ≠ 0 → k ≠ 11 → spE l n ps g c = k → k = spE l n ps g c ∧ [] = spL l n ps g c := fun k hk h11 h => ⟨h.symm, by rw [spL, if_neg (by rw [h]; omega)]⟩
  refine ⟨⟨hw, ht, hl⟩, fun h => nil 1 (by omega) (by omega) (by rw [spE, if_pos h]), fun h => ?_⟩
  have hT := thrB_iff.1 h
  have hc := hT.chk
  have n1 : ¬ thrB l n ps = false := by rw [h]; simp
  have l1 := hc.len1
  have l2 := hc.len2
  have l3 := hT.len
  have hui := up_len64 hc g
  have e0 : (Int.toNat 0) = 0 := rfl
  rw [e0]
  have hR : hasR l n g = hasB l g := by unfold hasR; rw [chkB_iff.2 hc, Bool.true_and]
  rw [hR]
  refine ⟨fun h2 => nil 4 (by omega) (by omega) (by rw [spE, if_neg n1, if_pos h2]), fun hb => ?_⟩
  have n2 : ¬ hasB l g = false := by rw [hb]; simp
  have eA : ancR l n g = upT l g := by rw [ancR, if_pos (by rw [hR]; exact hb)]
  have eB : blkT l n ps g c = blkL ps c (upT l g) := by rw [blkT, if_neg n1]
  rw [eA, eB]
  refine ⟨fun _ => by omega, fun h3 => nil 3 (by omega) (by omega) (by rw [spE, if_neg n1, if_neg n2, if_pos h3]), fun h3 => ?_⟩
  have n3 : ¬ (c < 0 ∨ ((pn ps 0).l.length : Int) ≤ c) := by omega
  simp only [updK_len]
  refine ⟨⟨ht, hl⟩, ⟨hw, ht, hl⟩, ⟨0, by omega, rfl, (updK_zero _ _).symm⟩, fun x hi => ⟨fun hlt => ?_, fun hge => ?_⟩⟩
  · have e : (x + 1).toNat = x.toNat + 1 := by omega
    rw [updK_get (by omega)]
    refine ⟨fun _ => by omega, fun _ => by omega, fun _ => by omega, fun hb => ⟨by omega, ht _ (pn_mem (by omega)), by omega, by omega, x + 1, by omega, by omega, rfl, ?_⟩, fun hb => ⟨by omega, x + 1, by omega, by omega, rfl, ?_⟩⟩
    · rw [e, ← updK_step (by omega), sp1, if_pos]
      rcases hb with hb | hb
      · exact .inl hb
      · exact .inr ⟨hb.1, memB_iff.1 hb.2⟩
    · rw [e]
      refine updK_same (by omega) ?_
      rw [sp1, if_neg]
      rintro (⟨a1, a2⟩ | ⟨a1, a2⟩)
      · rcases hb.1 with b | b
        · rw [a1] at b; cases b
        · exact b a2
      · rcases hb.2 with b | b
        · rw [a1] at b; cases b
        · rw [memB_iff.2 a2] at b; cases b
  · rw [updK_all _ _ (by omega)]
    refine ⟨fun h4 => ?_, fun h4 => ?_⟩
    · have e11 : spE l n ps g c = 11 := by rw [spE, if_neg n1, if_neg n2, if_neg n3, if_pos h4]
      exact ⟨e11.symm, by rw [spL, if_pos (.inr e11)]⟩
    · have e00 : spE l n ps g c = 0 := by rw [spE, if_neg n1, if_neg n2, if_neg n3, if_neg (by rw [h4]; simp)]
      exact ⟨e00.symm, by rw [spL, if_pos (.inl e00)]⟩

def inv49 (ps : List Pool) (due : List Int) : Inv where
  X := Int
  ok := fun i => 0 ≤ i ∧ i ≤ ps.length
  sl := fun i => [(8, .int .i64 i), (7, .own 103 4)]
  hp := fun i => [(103, .rows 80 4 (updK (rf1 due) ps i.toNat))]
  keep := [10000]
  me := fun i => (ps.length - i).toNat
set_option maxRecDepth 100000 in
theorem vc49 (l : List Nod) (n : Int) (ps : List Pool) (due : List Int) (hx : (WfN l ∧ TL ps) ∧ due.length ≤ 9223372036854775807) : sRfT.vc (EV Try.prog [(54, sThr.spec), (103, sCopyP.spec), (113, sRefill.spec), (64, sHasI.spec)] (invs [(5, inv49 ps due)]) noInv) Try.f49 ((l, n), ps, due, ()) := by
  have e : ((WfN l ∧ TL ps) ∧ ((!thrB l n ps) = true → ∃ (y : Unit), True ∧ NilL Pool = rfL l n ps due) ∧ ((!thrB l n ps) = false → TL ps ∧ (∃ (x : Int), (0 ≤ x ∧ x ≤ (↑ps.length : Int)) ∧ 0 = x ∧ ps = updK (rf1 due) ps x.toNat ∧ l = l ∧ n = n) ∧ ∀ (x : Int), 0 ≤ x ∧ x ≤ (↑ps.length : Int) → (decide (x < (↑(updK (rf1 due) ps x.toNat).length : Int)) = true → (0 ≤ x ∧ x < (↑(updK (rf1 due) ps x.toNat).length : Int)) ∧ Tame ((updK (rf1 due) ps x.toNat).getD x.toNat { g := 0, q := 0, bu := 0, s := 0, le := 0, l := NilL Int, sp := 0, pe := 0, th := 0, em := false : Pool }) ∧ (decide ((refillG ((updK (rf1 due) ps x.toNat).getD x.toNat { g := 0, q := 0, bu := 0, s := 0, le := 0, l := NilL Int, sp := 0, pe := 0, th := 0, em := false : Pool })).snd = 0) = true → decide ((refillG ((updK (rf1 due) ps x.toNat).getD x.toNat { g := 0, q := 0, bu := 0, s := 0, le := 0, l := NilL Int, sp := 0, pe := 0, th := 0, em := false : Pool })).snd = 0) = true) ∧ (decide ((refillG ((updK (rf1 due) ps x.toNat).getD x.toNat { g := 0, q := 0, bu := 0, s := 0, le := 0, l := NilL Int, sp := 0, pe := 0, th := 0, em := false : Pool })).snd = 0) = true → decide ((refillG ((updK (rf1 due) ps x.toNat).getD x.toNat { g := 0, q := 0, bu := 0, s := 0, le := 0, l := NilL Int, sp := 0, pe := 0, th := 0, em := false : Pool })).snd = 0) = true) ∧ (decide ((refillG ((updK (rf1 due) ps x.toNat).getD x.toNat { g := 0, q := 0, bu := 0, s := 0, le := 0, l := NilL Int, sp := 0, pe := 0, th := 0, em := false : Pool })).snd = 0) = true → 0 ≤ x ∧ x < (↑(updK (rf1 due) ps x.toNat).length : Int)) ∧ (decide ((refillG ((updK (rf1 due) ps x.toNat).getD x.toNat { g := 0, q := 0, bu := 0, s := 0, le := 0, l := NilL Int, sp := 0, pe := 0, th := 0, em := false : Pool })).snd = 0) = true → decide ((refillG ((updK (rf1 due) ps x.toNat).getD x.toNat { g := 0, q := 0, bu := 0, s := 0, le := 0, l := NilL Int, sp := 0, pe := 0, th := 0, em := false : Pool })).snd = 0) = true) ∧ (decide ((refillG ((updK (rf1 due) ps x.toNat).getD x.toNat { g := 0, q := 0, bu := 0, s := 0, le := 0, l := NilL Int, sp := 0, pe := 0, th := 0, em := false : Pool })).snd = 0) = true → decide ((refillG ((updK (rf1 due) ps x.toNat).getD x.toNat { g := 0, q := 0, bu := 0, s := 0, le := 0, l := NilL Int, sp := 0, pe := 0, th := 0, em := false : Pool })).snd = 0) = true) ∧ (decide ((refillG ((updK (rf1 due) ps x.toNat).getD x.toNat { g := 0, q := 0, bu := 0, s := 0, le := 0, l := NilL Int, sp := 0, pe := 0, th := 0, em := false : Pool })).snd = 0) = true → decide ((refillG ((updK (rf1 due) ps x.toNat).getD x.toNat { g := 0, q := 0, bu := 0, s := 0, le := 0, l := NilL Int, sp := 0, pe := 0, th := 0, em := false : Pool })).snd = 0) = true) ∧ (decide ((refillG ((updK (rf1 due) ps x.toNat).getD x.toNat { g := 0, q := 0, bu := 0, s := 0, le := 0, l := NilL Int, sp := 0, pe := 0, th := 0, em := false : Pool })).snd = 0) = true → decide ((refillG ((updK (rf1 due) ps x.toNat).getD x.toNat { g := 0, q := 0, bu := 0, s := 0, le := 0, l := NilL Int, sp := 0, pe := 0, th := 0, em := false : Pool })).snd = 0) = true) ∧ (decide ((refillG ((updK (rf1 due) ps x.toNat).getD x.toNat { g := 0, q := 0, bu := 0, s := 0, le := 0, l := NilL Int, sp := 0, pe := 0, th := 0, em := false : Pool })).snd = 0) = true → due.length ≤ (9223372036854775807 : Nat)) ∧ (decide ((refillG ((updK (rf1 due) ps x.toNat).getD x.toNat { g := 0, q := 0, bu := 0, s := 0, le := 0, l := NilL Int, sp := 0, pe := 0, th := 0, em := false : Pool })).snd = 0) = true → decide ((refillG ((updK (rf1 due) ps x.toNat).getD x.toNat { g := 0, q := 0, bu := 0, s := 0, le := 0, l := NilL Int, sp := 0, pe := 0, th := 0, em := false : Pool })).snd = 0) = true) ∧ ((decide ((refillG ((updK (rf1 due) ps x.toNat).getD x.toNat { g := 0, q := 0, bu := 0, s := 0, le := 0, l := NilL Int, sp := 0, pe := 0, th := 0, em := false : Pool })).snd = 0) && memB due ((updK (rf1 due) ps x.toNat).getD x.toNat { g := 0, q := 0, bu := 0, s := 0, le := 0, l := NilL Int, sp := 0, pe := 0, th := 0, em := false : Pool }).g) = true → (0 ≤ x ∧ x < (↑(updK (rf1 due) ps x.toNat).length : Int)) ∧ i64R (x + 1) ∧ ∃ (x' : Int), (0 ≤ x' ∧ x' ≤ (↑ps.length : Int)) ∧ ((↑ps.length : Int) - x').toNat < ((↑ps.length : Int) - x).toNat ∧ x + 1 = x' ∧ (updK (rf1 due) ps x.toNat).set x.toNat (refillG ((updK (rf1 due) ps x.toNat).getD x.toNat { g := 0, q := 0, bu := 0, s := 0, le := 0, l := NilL Int, sp := 0, pe := 0, th := 0, em := false : Pool })).fst = updK (rf1 due) ps x'.toNat ∧ l = l ∧ n = n) ∧ ((decide ((refillG ((updK (rf1 due) ps x.toNat).getD x.toNat { g := 0, q := 0, bu := 0, s := 0, le := 0, l := NilL Int, sp := 0, pe := 0, th := 0, em := false : Pool })).snd = 0) && memB due ((updK (rf1 due) ps x.toNat).getD x.toNat { g := 0, q := 0, bu := 0, s := 0, le := 0, l := NilL Int, sp := 0, pe := 0, th := 0, em := false : Pool }).g) = false → i64R (x + 1) ∧ ∃ (x' : Int), (0 ≤ x' ∧ x' ≤ (↑ps.length : Int)) ∧ ((↑ps.length : Int) - x').toNat < ((↑ps.length : Int) - x).toNat ∧ x + 1 = x' ∧ updK (rf1 due) ps x.toNat = updK (rf1 due) ps x'.toNat ∧ l = l ∧ n = n)) ∧ (decide (x < (↑(updK (rf1 due) ps x.toNat).length : Int)) = false → ∃ (y : Unit), True ∧ updK (rf1 due) ps x.toNat = rfL l n ps due))) = sRfT.vc (EV Try.prog [(54, sThr.spec), (103, sCopyP.spec), (113, sRefill.spec), (64, sHasI.spec)] (invs [(5, inv49 ps due)]) noInv) Try.f49 ((l, n), ps, due, ()) := by kernel_rfl
  rw [← e]
  clear e
  simp only [imp_self, true_and, and_true, exists_const, implies_true, gd1, gd2, gd3, gd4, gd5, gd6 ]
  simp only [Prod.forall, Prod.exists, exists_const, implies_true, not_true_eq_false, not_false_eq_true, or_self, or_false, false_or, or_true, true_or, and_false, false_and, forall_const, true_and, and_true, i64R, imp_self, Int.reduceLE, Int.reduceLT, Int.reduceNeg, false_implies, true_implies, decide_eq_true_eq, decide_eq_false_iff_not, Bool.not_eq_true', Bool.not_eq_false', Bool.true_eq_false, Bool.false_eq_true, Bool.and_eq_true, Bool.or_eq_true, Bool.and_eq_false_iff, Bool.or_eq_false_iff ]
  try simp only [NilL_eq, pn_fold]
  obtain ⟨⟨hw, ht, hl⟩, hd⟩ := hx
  simp only [updK_len]
  refine ⟨⟨hw, ht, hl⟩, fun h => by rw [rfL, if_pos h], fun h => ⟨⟨ht, hl⟩, ⟨0, by omega, rfl, (updK_zero _ _).symm⟩, fun x hi => ⟨fun hlt => ?_, fun hge => ?_⟩⟩⟩
  · have e : (x + 1).toNat = x.toNat + 1 := by omega
    rw [updK_get (by omega)]
    refine ⟨by omega, ht _ (pn_mem (by omega)), fun _ => by omega, fun _ => by omega, fun hb => ⟨by omega, by omega, x + 1, by omega, by omega, rfl, ?_⟩, fun hb => ⟨by omega, x + 1, by omega, by omega, rfl, ?_⟩⟩
    · rw [e, ← updK_step (by omega), rf1, if_pos ⟨hb.1, memB_iff.1 hb.2⟩]
    · rw [e]
      refine updK_same (by omega) ?_
      rw [rf1, if_neg]
      rintro ⟨a1, a2⟩
      rcases hb with b | b
      · exact b a1
      · rw [memB_iff.2 a2] at b; cases b
  · rw [updK_all _ _ (by omega), rfL, if_neg (by rw [h]; simp)]

def inv61 (p q : Pool) : Inv where
  X := Int
  ok := fun i => 0 ≤ i ∧ i ≤ p.l.length ∧ ∀ j : Nat, (j : Int) < i → p.l.getD j 0 = q.l.getD j 0
  sl := fun i => [(5, .int .i64 i)]
  hp := fun i => []
  keep := [10000, 10010]
  me := fun i => (p.l.length - i).toNat
set_option maxRecDepth 100000 in
theorem vc61 (p q : Pool) (hx : p.l.length ≤ 1048576) : sSameP.vc (EV Try.prog [] (invs [(4, inv61 p q)]) noInv) Try.f61 (p, q, ()) := by
  have e : (((!decide ((↑p.l.length : Int) = (↑q.l.length : Int))) = true → ∃ (y : Unit), True ∧ false = eqP p q) ∧ ((!decide ((↑p.l.length : Int) = (↑q.l.length : Int))) = false → (∃ (x : Int), (0 ≤ x ∧ x ≤ (↑p.l.length : Int) ∧ ∀ (j : Nat), (↑j : Int) < x → p.l.getD j 0 = q.l.getD j 0) ∧ 0 = x ∧ p.g = p.g ∧ p.q = p.q ∧ p.bu = p.bu ∧ p.s = p.s ∧ p.le = p.le ∧ p.l = p.l ∧ p.sp = p.sp ∧ p.pe = p.pe ∧ p.th = p.th ∧ p.em = p.em ∧ q.g = q.g ∧ q.q = q.q ∧ q.bu = q.bu ∧ q.s = q.s ∧ q.le = q.le ∧ q.l = q.l ∧ q.sp = q.sp ∧ q.pe = q.pe ∧ q.th = q.th ∧ q.em = q.em) ∧ ∀ (x : Int), (0 ≤ x ∧ x ≤ (↑p.l.length : Int) ∧ ∀ (j : Nat), (↑j : Int) < x → p.l.getD j 0 = q.l.getD j 0) → (decide (x < (↑p.l.length : Int)) = true → (0 ≤ x ∧ x < (↑p.l.length : Int)) ∧ (0 ≤ x ∧ x < (↑q.l.length : Int)) ∧ ((!decide (p.l.getD x.toNat 0 = q.l.getD x.toNat 0)) = true → ∃ (y : Unit), True ∧ false = eqP p q) ∧ ((!decide (p.l.getD x.toNat 0 = q.l.getD x.toNat 0)) = false → i64R (x + 1) ∧ ∃ (x' : Int), (0 ≤ x' ∧ x' ≤ (↑p.l.length : Int) ∧ ∀ (j : Nat), (↑j : Int) < x' → p.l.getD j 0 = q.l.getD j 0) ∧ ((↑p.l.length : Int) - x').toNat < ((↑p.l.length : Int) - x).toNat ∧ x + 1 = x' ∧ p.g = p.g ∧ p.q = p.q ∧ p.bu = p.bu ∧ p.s = p.s ∧ p.le = p.le ∧ p.l = p.l ∧ p.sp = p.sp ∧ p.pe = p.pe ∧ p.th = p.th ∧ p.em = p.em ∧ q.g = q.g ∧ q.q = q.q ∧ q.bu = q.bu ∧ q.s = q.s ∧ q.le = q.le ∧ q.l = q.l ∧ q.sp = q.sp ∧ q.pe = q.pe ∧ q.th = q.th ∧ q.em = q.em)) ∧ (decide (x < (↑p.l.length : Int)) = false → (decide (p.g = q.g) = true → decide (p.g = q.g) = true) ∧ (decide (p.g = q.g) = true → decide (p.g = q.g) = true) ∧ (decide (p.g = q.g) = true → decide (p.g = q.g) = true) ∧ (decide (p.g = q.g) = true → decide (p.g = q.g) = true) ∧ (decide (p.g = q.g) = true → decide (p.g = q.g) = true) ∧ ((decide (p.g = q.g) && decide (p.q = q.q)) = true → (decide (p.g = q.g) && decide (p.q = q.q)) = true) ∧ ((decide (p.g = q.g) && decide (p.q = q.q)) = true → (decide (p.g = q.g) && decide (p.q = q.q)) = true) ∧ ((decide (p.g = q.g) && decide (p.q = q.q)) = true → (decide (p.g = q.g) && decide (p.q = q.q)) = true) ∧ ((decide (p.g = q.g) && decide (p.q = q.q)) = true → (decide (p.g = q.g) && decide (p.q = q.q)) = true) ∧ ((decide (p.g = q.g) && decide (p.q = q.q)) = true → (decide (p.g = q.g) && decide (p.q = q.q)) = true) ∧ ((decide (p.g = q.g) && decide (p.q = q.q) && decide (p.bu = q.bu)) = true → (decide (p.g = q.g) && decide (p.q = q.q) && decide (p.bu = q.bu)) = true) ∧ ((decide (p.g = q.g) && decide (p.q = q.q) && decide (p.bu = q.bu)) = true → (decide (p.g = q.g) && decide (p.q = q.q) && decide (p.bu = q.bu)) = true) ∧ ((decide (p.g = q.g) && decide (p.q = q.q) && decide (p.bu = q.bu)) = true → (decide (p.g = q.g) && decide (p.q = q.q) && decide (p.bu = q.bu)) = true) ∧ ((decide (p.g = q.g) && decide (p.q = q.q) && decide (p.bu = q.bu)) = true → (decide (p.g = q.g) && decide (p.q = q.q) && decide (p.bu = q.bu)) = true) ∧ ((decide (p.g = q.g) && decide (p.q = q.q) && decide (p.bu = q.bu)) = true → (decide (p.g = q.g) && decide (p.q = q.q) && decide (p.bu = q.bu)) = true) ∧ ((decide (p.g = q.g) && decide (p.q = q.q) && decide (p.bu = q.bu) && decide (p.s = q.s)) = true → (decide (p.g = q.g) && decide (p.q = q.q) && decide (p.bu = q.bu) && decide (p.s = q.s)) = true) ∧ ((decide (p.g = q.g) && decide (p.q = q.q) && decide (p.bu = q.bu) && decide (p.s = q.s)) = true → (decide (p.g = q.g) && decide (p.q = q.q) && decide (p.bu = q.bu) && decide (p.s = q.s)) = true) ∧ ((decide (p.g = q.g) && decide (p.q = q.q) && decide (p.bu = q.bu) && decide (p.s = q.s)) = true → (decide (p.g = q.g) && decide (p.q = q.q) && decide (p.bu = q.bu) && decide (p.s = q.s)) = true) ∧ ((decide (p.g = q.g) && decide (p.q = q.q) && decide (p.bu = q.bu) && decide (p.s = q.s)) = true → (decide (p.g = q.g) && decide (p.q = q.q) && decide (p.bu = q.bu) && decide (p.s = q.s)) = true) ∧ ((decide (p.g = q.g) && decide (p.q = q.q) && decide (p.bu = q.bu) && decide (p.s = q.s)) = true → (decide (p.g = q.g) && decide (p.q = q.q) && decide (p.bu = q.bu) && decide (p.s = q.s)) = true) ∧ ((decide (p.g = q.g) && decide (p.q = q.q) && decide (p.bu = q.bu) && decide (p.s = q.s) && decide (p.le = q.le)) = true → (decide (p.g = q.g) && decide (p.q = q.q) && decide (p.bu = q.bu) && decide (p.s = q.s) && decide (p.le = q.le)) = true) ∧ ((decide (p.g = q.g) && decide (p.q = q.q) && decide (p.bu = q.bu) && decide (p.s = q.s) && decide (p.le = q.le)) = true → (decide (p.g = q.g) && decide (p.q = q.q) && decide (p.bu = q.bu) && decide (p.s = q.s) && decide (p.le = q.le)) = true) ∧ ((decide (p.g = q.g) && decide (p.q = q.q) && decide (p.bu = q.bu) && decide (p.s = q.s) && decide (p.le = q.le)) = true → (decide (p.g = q.g) && decide (p.q = q.q) && decide (p.bu = q.bu) && decide (p.s = q.s) && decide (p.le = q.le)) = true) ∧ ((decide (p.g = q.g) && decide (p.q = q.q) && decide (p.bu = q.bu) && decide (p.s = q.s) && decide (p.le = q.le)) = true → (decide (p.g = q.g) && decide (p.q = q.q) && decide (p.bu = q.bu) && decide (p.s = q.s) && decide (p.le = q.le)) = true) ∧ ((decide (p.g = q.g) && decide (p.q = q.q) && decide (p.bu = q.bu) && decide (p.s = q.s) && decide (p.le = q.le)) = true → (decide (p.g = q.g) && decide (p.q = q.q) && decide (p.bu = q.bu) && decide (p.s = q.s) && decide (p.le = q.le)) = true) ∧ ((decide (p.g = q.g) && decide (p.q = q.q) && decide (p.bu = q.bu) && decide (p.s = q.s) && decide (p.le = q.le) && decide (p.sp = q.sp)) = true → (decide (p.g = q.g) && decide (p.q = q.q) && decide (p.bu = q.bu) && decide (p.s = q.s) && decide (p.le = q.le) && decide (p.sp = q.sp)) = true) ∧ ((decide (p.g = q.g) && decide (p.q = q.q) && decide (p.bu = q.bu) && decide (p.s = q.s) && decide (p.le = q.le) && decide (p.sp = q.sp)) = true → (decide (p.g = q.g) && decide (p.q = q.q) && decide (p.bu = q.bu) && decide (p.s = q.s) && decide (p.le = q.le) && decide (p.sp = q.sp)) = true) ∧ ((decide (p.g = q.g) && decide (p.q = q.q) && decide (p.bu = q.bu) && decide (p.s = q.s) && decide (p.le = q.le) && decide (p.sp = q.sp)) = true → (decide (p.g = q.g) && decide (p.q = q.q) && decide (p.bu = q.bu) && decide (p.s = q.s) && decide (p.le = q.le) && decide (p.sp = q.sp)) = true) ∧ ((decide (p.g = q.g) && decide (p.q = q.q) && decide (p.bu = q.bu) && decide (p.s = q.s) && decide (p.le = q.le) && decide (p.sp = q.sp)) = true → (decide (p.g = q.g) && decide (p.q = q.q) && decide (p.bu = q.bu) && decide (p.s = q.s) && decide (p.le = q.le) && decide (p.sp = q.sp)) = true) ∧ ((decide (p.g = q.g) && decide (p.q = q.q) && decide (p.bu = q.bu) && decide (p.s = q.s) && decide (p.le = q.le) && decide (p.sp = q.sp)) = true → (decide (p.g = q.g) && decide (p.q = q.q) && decide (p.bu = q.bu) && decide (p.s = q.s) && decide (p.le = q.le) && decide (p.sp = q.sp)) = true) ∧ ((decide (p.g = q.g) && decide (p.q = q.q) && decide (p.bu = q.bu) && decide (p.s = q.s) && decide (p.le = q.le) && decide (p.sp = q.sp) && decide (p.pe = q.pe)) = true → (decide (p.g = q.g) && decide (p.q = q.q) && decide (p.bu = q.bu) && decide (p.s = q.s) && decide (p.le = q.le) && decide (p.sp = q.sp) && decide (p.pe = q.pe)) = true) ∧ ((decide (p.g = q.g) && decide (p.q = q.q) && decide (p.bu = q.bu) && decide (p.s = q.s) && decide (p.le = q.le) && decide (p.sp = q.sp) && decide (p.pe = q.pe)) = true → (decide (p.g = q.g) && decide (p.q = q.q) && decide (p.bu = q.bu) && decide (p.s = q.s) && decide (p.le = q.le) && decide (p.sp = q.sp) && decide (p.pe = q.pe)) = true) ∧ ((decide (p.g = q.g) && decide (p.q = q.q) && decide (p.bu = q.bu) && decide (p.s = q.s) && decide (p.le = q.le) && decide (p.sp = q.sp) && decide (p.pe = q.pe)) = true → (decide (p.g = q.g) && decide (p.q = q.q) && decide (p.bu = q.bu) && decide (p.s = q.s) && decide (p.le = q.le) && decide (p.sp = q.sp) && decide (p.pe = q.pe)) = true) ∧ ((decide (p.g = q.g) && decide (p.q = q.q) && decide (p.bu = q.bu) && decide (p.s = q.s) && decide (p.le = q.le) && decide (p.sp = q.sp) && decide (p.pe = q.pe)) = true → (decide (p.g = q.g) && decide (p.q = q.q) && decide (p.bu = q.bu) && decide (p.s = q.s) && decide (p.le = q.le) && decide (p.sp = q.sp) && decide (p.pe = q.pe)) = true) ∧ ((decide (p.g = q.g) && decide (p.q = q.q) && decide (p.bu = q.bu) && decide (p.s = q.s) && decide (p.le = q.le) && decide (p.sp = q.sp) && decide (p.pe = q.pe)) = true → (decide (p.g = q.g) && decide (p.q = q.q) && decide (p.bu = q.bu) && decide (p.s = q.s) && decide (p.le = q.le) && decide (p.sp = q.sp) && decide (p.pe = q.pe)) = true) ∧ ((decide (p.g = q.g) && decide (p.q = q.q) && decide (p.bu = q.bu) && decide (p.s = q.s) && decide (p.le = q.le) && decide (p.sp = q.sp) && decide (p.pe = q.pe) && decide (p.th = q.th)) = true → (decide (p.g = q.g) && decide (p.q = q.q) && decide (p.bu = q.bu) && decide (p.s = q.s) && decide (p.le = q.le) && decide (p.sp = q.sp) && decide (p.pe = q.pe) && decide (p.th = q.th)) = true) ∧ ((decide (p.g = q.g) && decide (p.q = q.q) && decide (p.bu = q.bu) && decide (p.s = q.s) && decide (p.le = q.le) && decide (p.sp = q.sp) && decide (p.pe = q.pe) && decide (p.th = q.th)) = true → (decide (p.g = q.g) && decide (p.q = q.q) && decide (p.bu = q.bu) && decide (p.s = q.s) && decide (p.le = q.le) && decide (p.sp = q.sp) && decide (p.pe = q.pe) && decide (p.th = q.th)) = true) ∧ ((decide (p.g = q.g) && decide (p.q = q.q) && decide (p.bu = q.bu) && decide (p.s = q.s) && decide (p.le = q.le) && decide (p.sp = q.sp) && decide (p.pe = q.pe) && decide (p.th = q.th)) = true → (decide (p.g = q.g) && decide (p.q = q.q) && decide (p.bu = q.bu) && decide (p.s = q.s) && decide (p.le = q.le) && decide (p.sp = q.sp) && decide (p.pe = q.pe) && decide (p.th = q.th)) = true) ∧ ((decide (p.g = q.g) && decide (p.q = q.q) && decide (p.bu = q.bu) && decide (p.s = q.s) && decide (p.le = q.le) && decide (p.sp = q.sp) && decide (p.pe = q.pe) && decide (p.th = q.th)) = true → (decide (p.g = q.g) && decide (p.q = q.q) && decide (p.bu = q.bu) && decide (p.s = q.s) && decide (p.le = q.le) && decide (p.sp = q.sp) && decide (p.pe = q.pe) && decide (p.th = q.th)) = true) ∧ ((decide (p.g = q.g) && decide (p.q = q.q) && decide (p.bu = q.bu) && decide (p.s = q.s) && decide (p.le = q.le) && decide (p.sp = q.sp) && decide (p.pe = q.pe) && decide (p.th = q.th)) = true → (decide (p.g = q.g) && decide (p.q = q.q) && decide (p.bu = q.bu) && decide (p.s = q.s) && decide (p.le = q.le) && decide (p.sp = q.sp) && decide (p.pe = q.pe) && decide (p.th = q.th)) = true) ∧ ∃ (y : Unit), True ∧ (decide (p.g = q.g) && decide (p.q = q.q) && decide (p.bu = q.bu) && decide (p.s = q.s) && decide (p.le = q.le) && decide (p.sp = q.sp) && decide (p.pe = q.pe) && decide (p.th = q.th) && p.em == q.em) = eqP p q))) = sSameP.vc (EV Try.prog [] (invs [(4, inv61 p q)]) noInv) Try.f61 (p, q, ()) := by kernel_rfl
  rw [← e]
  clear e
  simp only [imp_self, true_and, and_true, exists_const, implies_true, gd1, gd2, gd3, gd4, gd5, gd6 ]
  simp only [Prod.forall, Prod.exists, exists_const, implies_true, not_true_eq_false, not_false_eq_true, or_self, or_false, false_or, or_true, true_or, and_false, false_and, forall_const, true_and, and_true, i64R, imp_self, Int.reduceLE, Int.reduceLT, Int.reduceNeg, false_implies, true_implies, decide_eq_true_eq, decide_eq_false_iff_not, Bool.not_eq_true', Bool.not_eq_false', Bool.true_eq_false, Bool.false_eq_true, Bool.and_eq_true, Bool.or_eq_true, Bool.and_eq_false_iff, Bool.or_eq_false_iff ]
  try simp only [NilL_eq, pn_fold]
  unfold eqP
  refine ⟨fun h => ?_, fun h => ⟨⟨0, ⟨by omega, by omega, fun j hj => by omega⟩, rfl⟩, fun x hi => ⟨fun hlt => ⟨by omega, by omega, fun hne => ?_, fun he => ⟨by omega, x + 1, ⟨by omega, by omega, fun j hj => ?_⟩, by omega, rfl⟩⟩, fun hge => ?_⟩⟩⟩
  · symm; rw [decide_eq_false_iff_not]; intro e; rw [e] at h; exact h rfl
  · symm; rw [decide_eq_false_iff_not]; intro e; rw [e] at hne; exact hne rfl
  · by_cases e : (j : Int) < x
    · exact hi.2.2 j e
    · have : j = x.toNat := by omega
      rw [this]; exact he
  · have el : p.l = q.l := by
      apply List.ext_getElem (by omega)
      intro i h1 h2
      have := hi.2.2 i (by omega)
      simpa [List.getD_eq_getElem?_getD, h1, h2] using this
    obtain ⟨a0, a1, a2, a3, a4, a5, a6, a7, a8, a9⟩ := p
    obtain ⟨b0, b1, b2, b3, b4, b5, b6, b7, b8, b9⟩ := q
    dsimp only at el ⊢
    subst el
    rw [Bool.eq_iff_iff]
    simp only [Bool.and_eq_true, decide_eq_true_eq, Pool.mk.injEq, beq_iff_eq, true_and, and_assoc]
end Go.Proofs.Ytemffnpliflkgaa
