/-
  Lemmas and contracts on the way to the laws of this seat; each theorem states its own conditions, and there are no others.
-/
import Derived.Test.YtemffnpliflkgaaRW
import Derived.Test.YtemffnpliflkgaaE29
namespace Go.Proofs.Ytemffnpliflkgaa
open Go
set_option linter.unusedVariables false
set_option linter.unusedSimpArgs false
set_option linter.unusedVariables false
set_option linter.unusedSimpArgs false
set_option linter.unusedVariables false

def freshS : ByteArray := ⟨#[102, 114, 101, 115, 104]⟩
theorem fresh_err {l : List Nod} {n p : Int} (t : TreeP l n) (hp : p ∈ ids l) : addE l n p freshS = 0 ∨ addE l n p freshS = 7 := by
  have h1 : nameB freshS = true := by decide
  have h2 : hasR l n p = true := by unfold hasR; rw [chkB_iff.2 t.chk, hasB_iff.2 hp]; rfl
  have h3 : soleB l l.length p freshS = true := soleB_iff.2 fun i hi h => by
    have hw := t.word _ (nd_mem hi)
    rw [h.2] at hw
    rcases hw with hw | hw
    · have : bytesOf freshS = bytesOf ByteArray.empty := by rw [hw]
      exact absurd this (by decide)
    · have h2 : bytesOf freshS ∈ wordsS.map bytesOf := List.mem_map_of_mem hw
      exact absurd h2 (by decide)
  rw [addE, if_neg (by rw [chkB_iff.2 t.chk, h1]; simp), if_neg (by rw [h2]; simp), if_neg (by rw [h3]; simp)]
  split <;> simp
def P4 : Pool := ⟨0, 4, 1, 0, 0, [], 0, 0, 0, false⟩
/-- The pool that a group had, or what stands in for it. -/
def oldP (ps : List Pool) (g : Int) : Pool := if hasP ps g = true then atP ps g else P4
structure SyOK (Y : List Nod) (ps : List Pool) (i : Nat) (q b : List Int) : Prop where
  lq : q.length = i
  lb : b.length = i
  ok : ∀ k, k < i → ratesI (q.getD k 0) (b.getD k 0) = true
  lim : ∀ k, k < i → q.getD k 0 = 4611686018427387904 → (oldP ps (nd Y k).id).q = 4611686018427387904
theorem SyOK.zero (Y : List Nod) (ps : List Pool) : SyOK Y ps 0 [] [] := ⟨rfl, rfl, fun i hi => absurd hi (Nat.not_lt_zero _), fun i hi => absurd hi (Nat.not_lt_zero _)⟩
theorem SyOK.snoc {Y : List Nod} {ps : List Pool} {n : Nat} {q b : List Int} (h : SyOK Y ps n q b) {x y : Int} (e : ratesI x y = true) (e2 : x = 4611686018427387904 → (oldP ps (nd Y n).id).q = 4611686018427387904) : SyOK Y ps (n + 1) (q ++ [x]) (b ++ [y]) := by
  refine ⟨by rw [List.length_append, h.lq]; rfl, by rw [List.length_append, h.lb]; rfl, fun i hi => ?_, fun i hi hq => ?_⟩
  · rw [getD_snoc, getD_snoc, h.lq, h.lb]
    by_cases c : i < n
    · rw [if_pos c, if_pos c]; exact h.ok i c
    · rw [if_neg c, if_neg c, if_pos (by omega), if_pos (by omega)]; exact e
  · rw [getD_snoc, h.lq] at hq
    by_cases c : i < n
    · rw [if_pos c] at hq; exact h.lim i c hq
    · have e3 : i = n := by omega
      rw [if_neg c, if_pos e3] at hq
      rw [e3]
      exact e2 hq
theorem SyOK.bl {Y : List Nod} {ps : List Pool} {n : Nat} {q b : List Int} (h : SyOK Y ps n q b) (hn : n ≤ 1000) : BL b := by
  refine ⟨fun i hi => ?_, by rw [h.lb]; omega⟩
  rw [h.lb] at hi
  have := ratesI_iff.1 (h.ok i hi)
  omega
theorem old_good {l : List Nod} {n k m : Int} {ps : List Pool} (h : PoolsK l n k m ps) (g : Int) : ratesI (oldP ps g).q (oldP ps g).bu = true := by
  unfold oldP
  rcases idxQ_cases ps g with ⟨i, hi, e1, e2, e3, e4, e5⟩ | ⟨e2, e3, e4, e5⟩
  · rw [if_pos e5, e4]
    exact ratesI_iff.2 (h.thr.good i (by rw [← h.thr.len]; exact hi)).rates
  · rw [if_neg (by rw [e5]; simp)]
    decide
theorem kept_old {l : List Nod} {n k m : Int} {ps : List Pool} (h : PoolsK l n k m ps) {i : Nat} (hi : i < l.length) : keptP ps (nd l i).id (pn ps 0).s k = some (pn ps i) := by
  have hl := h.thr.len
  refine kept_at (fun j hj hk => ?_) (by omega) ?_
  · simp only [isKp, Bool.and_eq_true, decide_eq_true_eq] at hk
    rw [h.thr.grp j (by omega)] at hk
    have := h.thr.chk.asc.lt j i hj hi
    omega
  · simp only [isKp, Bool.and_eq_true, decide_eq_true_eq]
    exact ⟨⟨⟨h.thr.grp i hi, goodB_iff.2 (h.thr.good i hi)⟩, h.sl i hi⟩, h.locs hi⟩
theorem kept_fresh {l : List Nod} {n k m : Int} {ps : List Pool} (h : PoolsK l n k m ps) {s : Int} : keptP ps n s k = none := by
  have hl := h.thr.len
  refine kept_none fun j hj hk => ?_
  simp only [isKp, Bool.and_eq_true, decide_eq_true_eq] at hk
  rw [h.thr.grp j (by omega)] at hk
  have := h.thr.chk.lt_next (i := j) (by omega)
  omega
/-- What Sync makes of one group. -/
structure SyIs (ps : List Pool) (n x y : Int) (P : Pool) : Prop where
  good : Good P
  len : (P.l.length : Int) = 2
  fresh : P.g = n → P.le + P.l.sum = P.q ∧ P.pe = 1
  old : P.g ≠ n → hasP ps P.g = true ∧ ((atP ps P.g).q = x ∧ (atP ps P.g).bu = y → atP ps P.g = P) ∧ (¬ ((atP ps P.g).q = x ∧ (atP ps P.g).bu = y) → P.le + P.l.sum = min ((atP ps P.g).le + (atP ps P.g).l.sum) (x + y))
theorem sync_is {l : List Nod} {n m p : Int} {ps : List Pool} {q b : List Int} (h : PoolsK l n 2 m ps) (hA : addE l n p freshS = 0) (hY : SyOK (addL l n p freshS) ps (addL l n p freshS).length q b) {i : Nat} (hi : i < (addL l n p freshS).length) :
    (syI (addL l n p freshS) ps q b (pn ps 0).s 2 i).2 = 0 ∧ (syI (addL l n p freshS) ps q b (pn ps 0).s 2 i).1.g = (nd (addL l n p freshS) i).id ∧ SyIs ps n (q.getD i 0) (b.getD i 0) (syI (addL l n p freshS) ps q b (pn ps 0).s 2 i).1 := by
  have hr := hY.ok i hi
  have hlim := hY.lim i hi
  have hcY := add_chk hA
  have hmax := hcY.id_max hi
  have eL : addL l n p freshS = l ++ [⟨n, p, freshS, 0, 0, 0⟩] := by rw [addL, if_pos hA]
  have hl := h.thr.len
  have g0 := h.thr.good 0 h.thr.chk.len1
  rw [eL] at hi hlim hmax ⊢
  rw [List.length_append] at hi
  simp only [List.length_cons, List.length_nil] at hi
  unfold syI
  by_cases c : i < l.length
  · rw [nd_append c] at hlim ⊢
    have hg := h.thr.good i c
    obtain ⟨a1, a2, a3⟩ := h.thr.at c
    have hgi := h.thr.grp i c
    have hlt := h.thr.chk.lt_next c
    have eo : oldP ps (nd l i).id = pn ps i := by rw [oldP, if_pos a3, a2]
    rw [eo] at hlim
    rw [sync_some (kept_old h c) hr]
    dsimp only
    by_cases e : (pn ps i).q = q.getD i 0 ∧ (pn ps i).bu = b.getD i 0
    · rw [if_pos e]
      refine ⟨rfl, hgi, hg, h.locs c, fun e2 => by omega, fun _ => ?_⟩
      rw [hgi, a2]
      exact ⟨a3, fun _ => rfl, fun e2 => absurd e e2⟩
    · rw [if_neg e]
      have hc := ch_changed hg hr
      have hcg : (chD (pn ps i) (q.getD i 0) (b.getD i 0)).g = (nd l i).id := hgi
      refine ⟨rfl, hcg, ch_good hg hr, by rw [hc.len]; exact h.locs c, fun e2 => by rw [hcg] at e2; omega, fun _ => ?_⟩
      rw [hcg, a2]
      refine ⟨a3, fun e2 => absurd e2 e, fun _ => ?_⟩
      have hq : q.getD i 0 ≠ 4611686018427387904 := fun e2 => by
        have h3 := hlim e2
        have h4 := ratesI_iff.1 hr
        have h5 := hg.rates
        unfold Rates at h5
        exact e ⟨by omega, by omega⟩
      have := hc.held
      rw [if_neg hq] at this
      exact this
  · have e : i = l.length := by omega
    subst e
    rw [nd_last] at hlim hmax ⊢
    dsimp only at hlim hmax ⊢
    have hno : hasP ps n = false := by
      rcases idxQ_cases ps n with ⟨i, hi2, e1, e2, e3, e4, e5⟩ | ⟨e2, e3, e4, e5⟩
      · rw [h.thr.grp i (by omega)] at e1
        have := h.thr.chk.lt_next (i := i) (by omega)
        omega
      · exact e5
    have eo : (oldP ps n).q = 4 := by rw [oldP, if_neg (by rw [hno]; simp)]; rfl
    have hq : q.getD l.length 0 ≠ 4611686018427387904 := fun e2 => by
      have := hlim e2
      rw [eo] at this; omega
    have hs0 := g0.s0
    have hs1 := g0.s1
    have hN := new_good (c := 2) hmax (ratesI_iff.1 hr) ⟨hs0, hs1⟩ ⟨by omega, by omega⟩
    have eN : newG n (q.getD l.length 0) (b.getD l.length 0) (pn ps 0).s 2 = (newP n (q.getD l.length 0) (b.getD l.length 0) (pn ps 0).s 2, 0) := by
      rw [newG, if_pos ⟨by omega, by omega, goodB_iff.2 hN⟩]; rfl
    rw [sync_none (kept_fresh h), eN]
    refine ⟨rfl, rfl, hN, by simp [newP], fun _ => ⟨?_, rfl⟩, fun e2 => absurd rfl e2⟩
    show (if q.getD l.length 0 = 4611686018427387904 then 0 else q.getD l.length 0) + (List.replicate 2 (0 : Int)).sum = q.getD l.length 0
    rw [if_neg hq]
    simp
theorem syncs {l : List Nod} {n m p : Int} {ps : List Pool} {q b : List Int} (h : PoolsK l n 2 m ps) (hA : addE l n p freshS = 0) (hY : SyOK (addL l n p freshS) ps (addL l n p freshS).length q b) :
    syE (addL l n p freshS) (addN l n p freshS) ps q b (pn ps 0).s 2 = 0 ∧ thrB (addL l n p freshS) (addN l n p freshS) (syL (addL l n p freshS) (addN l n p freshS) ps q b (pn ps 0).s 2) = true ∧ (syL (addL l n p freshS) (addN l n p freshS) ps q b (pn ps 0).s 2).length = (addL l n p freshS).length ∧
    ∀ i, i < (addL l n p freshS).length → SyIs ps n (q.getD i 0) (b.getD i 0) (pn (syL (addL l n p freshS) (addN l n p freshS) ps q b (pn ps 0).s 2) i) := by
  have hc := add_chk hA
  have hE : syE (addL l n p freshS) (addN l n p freshS) ps q b (pn ps 0).s 2 = 0 := by
    rw [syE, if_neg (by rw [chkB_iff.2 hc, hY.lq, hY.lb]; simp), if_pos]
    exact syOk_iff.2 fun i hi => (sync_is h hA hY hi).1
  have eL : syL (addL l n p freshS) (addN l n p freshS) ps q b (pn ps 0).s 2 = syT (addL l n p freshS) ps q b (pn ps 0).s 2 (addL l n p freshS).length := by rw [syL, if_pos hE]
  have e : ∀ i, i < (addL l n p freshS).length → pn (syL (addL l n p freshS) (addN l n p freshS) ps q b (pn ps 0).s 2) i = (syI (addL l n p freshS) ps q b (pn ps 0).s 2 i).1 := fun i hi => by
    rw [eL, pn_get (by rw [syT_len]; exact hi)]
    simp [syT]
  have l1 := hc.len1
  refine ⟨hE, thrB_iff.2 ⟨hc, by rw [eL, syT_len], fun i hi => by rw [e i hi]; exact (sync_is h hA hY hi).2.1, fun i hi => by rw [e i hi]; exact (sync_is h hA hY hi).2.2.good, fun i hi => ?_⟩, by rw [eL, syT_len], fun i hi => by rw [e i hi]; exact (sync_is h hA hY hi).2.2⟩
  have a := (sync_is h hA hY hi).2.2.len
  have b := (sync_is h hA hY (i := 0) (by omega)).2.2.len
  rw [e i hi, e 0 (by omega)]
  omega
end Go.Proofs.Ytemffnpliflkgaa

namespace Go.Proofs.Ytemffnpliflkgaa
open Go
set_option linter.unusedVariables false

def inv10a (L : List Int) (s : St) : Inv where
  X := (List Int × List Int) × Int × Int
  ok := fun x => (SyOK (rowsN s 70111) (contP s (s.t 5)) x.2.1.toNat x.1.1 x.1.2 ∧ 0 ≤ x.2.1 ∧ x.2.1 ≤ (rowsN s 70111).length) ∧ DOK (L, x.2.2)
  sl := fun x => [(56, .int .i64 x.2.1), (9, .own 103 0), (10, .own 105 0), (5, .own 101 4)]
  hp := fun x => [(40010, diceO (L, x.2.2)), (101, .rows 80 4 (contP s (s.t 5))), (103, .rows 3 0 x.1.1), (105, .rows 3 0 x.1.2)]
  keep := [50020, 50011, 70160, 70111]
  me := fun x => ((rowsN s 70111).length - x.2.1).toNat
def inv10b (s : St) : Inv where
  X := Int
  ok := fun i => 0 ≤ i
  sl := fun i => [(118, .int .i64 i), (5, .own 101 4), (14, .own 103 4), (9, .own 105 0), (10, .own 107 0)]
  hp := fun i => [(101, .rows 80 4 (contP s (s.t 5))), (103, .rows 80 4 (contP s (s.t 14))), (105, .rows 3 0 (contI s (s.t 9))), (107, .rows 3 0 (contI s (s.t 10)))]
  keep := [50020, 50011, 70160, 70111]
  me := fun i => ((contP s (s.t 14)).length - i).toNat
set_option maxRecDepth 100000 in
theorem vc10 (L : List Int) (hx : True) : sLaw18.vc (EV Try.prog [(14, sLight.spec), (38, sSane18.spec), (16, sRoll.spec), (17, sTree.spec), (39, sPools.spec), (23, sNext.spec), (22, sAdd.spec), (58, sGetP.spec), (57, sLimited.spec), (59, sBool.spec), (51, sSync.spec), (54, sThr.spec), (60, sHeld.spec), (61, sSameP.spec)] (invsS [(11, inv10a L), (24, inv10b)]) noInv) Try.f10 (L, ()) := by
  have e : (True ∧ ((!decide ((↑L.length : Int) ≤ (600 : Int))) = true → True ∧ ∃ (y : Unit), True ∧ true = true) ∧ ((!decide ((↑L.length : Int) ≤ (600 : Int))) = false → True ∧ (DOK (L, (0 : Int)) ∧ (0 : Int) ≤ (6 : Int) ∧ (6 : Int) ≤ (20 : Int)) ∧ (∀ (y : (List Nod × Int) × Int), true = true) ∧ ∀ (y : (List Nod × Int) × Int), (TreeP y.1.1 y.1.2 ∧ (↑y.1.1.length : Int) ≤ (6 : Int) + (1 : Int)) ∧ (0 : Int) ≤ y.2 ∧ y.2 ≤ (↑L.length : Int) → ((DOK (L, y.2) ∧ ChkP y.1.1 y.1.2) ∧ (1 : Int) ≤ (2 : Int) ∧ (2 : Int) ≤ (16 : Int)) ∧ (∀ (y : List Pool × Int), true = true) ∧ ∀ (y_1 : List Pool × Int), PoolsK y.1.1 y.1.2 (2 : Int) (25 : Int) y_1.1 ∧ y.2 ≤ y_1.2 ∧ y_1.2 ≤ (↑L.length : Int) → (DOK (L, y_1.2) ∧ (↑y.1.1.length : Int) ≤ (4611686018427387904 : Int)) ∧ (∀ (y : Int × Int), true = true) ∧ ∀ (y_2 : Int × Int), ((1 : Int) ≤ (↑y.1.1.length : Int) → (0 : Int) ≤ y_2.1 ∧ y_2.1 < (↑y.1.1.length : Int)) ∧ ((↑y.1.1.length : Int) < (1 : Int) → y_2.1 = (0 : Int)) ∧ y_1.2 ≤ y_2.2 ∧ y_2.2 ≤ (↑L.length : Int) → ((0 : Int) ≤ y_2.1 ∧ y_2.1 < (↑y.1.1.length : Int)) ∧ True ∧ ((!decide (addE y.1.1 y.1.2 (nd y.1.1 y_2.1.toNat).id freshS = (0 : Int))) = true → (decide (addE y.1.1 y.1.2 (nd y.1.1 y_2.1.toNat).id freshS = (7 : Int)) = true → True) ∧ (decide (addE y.1.1 y.1.2 (nd y.1.1 y_2.1.toNat).id freshS = (7 : Int)) = true → decide (addE y.1.1 y.1.2 (nd y.1.1 y_2.1.toNat).id freshS = (7 : Int)) = true) ∧ ∃ (y_3 : Unit), True ∧ (decide (addE y.1.1 y.1.2 (nd y.1.1 y_2.1.toNat).id freshS = (7 : Int)) && true) = true) ∧ ((!decide (addE y.1.1 y.1.2 (nd y.1.1 y_2.1.toNat).id freshS = (0 : Int))) = false → (∃ (x : (List Int × List Int) × Int × Int), ((SyOK (addL y.1.1 y.1.2 (nd y.1.1 y_2.1.toNat).id freshS) y_1.1 x.2.1.toNat x.1.1 x.1.2 ∧ (0 : Int) ≤ x.2.1 ∧ x.2.1 ≤ (↑(addL y.1.1 y.1.2 (nd y.1.1 y_2.1.toNat).id freshS).length : Int)) ∧ DOK (L, x.2.2)) ∧ (0 : Int) = x.2.1 ∧ L = L ∧ y_2.2 = x.2.2 ∧ y_1.1 = y_1.1 ∧ NilL Int = x.1.1 ∧ NilL Int = x.1.2 ∧ y.1.2 = y.1.2 ∧ y.1.1 = y.1.1 ∧ addN y.1.1 y.1.2 (nd y.1.1 y_2.1.toNat).id freshS = addN y.1.1 y.1.2 (nd y.1.1 y_2.1.toNat).id freshS ∧ addL y.1.1 y.1.2 (nd y.1.1 y_2.1.toNat).id freshS = addL y.1.1 y.1.2 (nd y.1.1 y_2.1.toNat).id freshS) ∧ ∀ (x : (List Int × List Int) × Int × Int), (SyOK (addL y.1.1 y.1.2 (nd y.1.1 y_2.1.toNat).id freshS) y_1.1 x.2.1.toNat x.1.1 x.1.2 ∧ (0 : Int) ≤ x.2.1 ∧ x.2.1 ≤ (↑(addL y.1.1 y.1.2 (nd y.1.1 y_2.1.toNat).id freshS).length : Int)) ∧ DOK (L, x.2.2) → (decide (x.2.1 < (↑(addL y.1.1 y.1.2 (nd y.1.1 y_2.1.toNat).id freshS).length : Int)) = true → ((0 : Int) ≤ x.2.1 ∧ x.2.1 < (↑(addL y.1.1 y.1.2 (nd y.1.1 y_2.1.toNat).id freshS).length : Int)) ∧ TL y_1.1 ∧ ((!hasP y_1.1 (nd (addL y.1.1 y.1.2 (nd y.1.1 y_2.1.toNat).id freshS) x.2.1.toNat).id) = true → True ∧ (true = true → true = true) ∧ (true = true → DOK (L, x.2.2) ∧ (1 : Int) ≤ (4 : Int) ∧ (4 : Int) ≤ (1000 : Int)) ∧ (true = true → ∀ (y : Bool × Int), true = true) ∧ (¬true = true → ∃ (y : Bool × Int), Option.some (OB.cells (93 : Go.TypeId) [AV.irec true (0 : Nat) L, AV.int Go.IntKind.i64 x.2.2]) = Option.some (OB.cells (93 : Go.TypeId) [AV.irec true (0 : Nat) L, AV.int Go.IntKind.i64 y.2]) ∧ True) ∧ ∀ (y_3 : Bool × Int), (true = true → x.2.2 ≤ y_3.2 ∧ y_3.2 ≤ (↑L.length : Int)) ∧ (¬true = true → Option.some (OB.cells (93 : Go.TypeId) [AV.irec true (0 : Nat) L, AV.int Go.IntKind.i64 x.2.2]) = Option.some (OB.cells (93 : Go.TypeId) [AV.irec true (0 : Nat) L, AV.int Go.IntKind.i64 y_3.2]) ∧ True) → (true = true → true = true) ∧ ((!decide ((4 : Int) = (4611686018427387904 : Int)) && y_3.1) = true → i64R ((4 : Int) - (1 : Int)) ∧ x.1.1.length + (Max.max ((4 : Int) - (1 : Int)) (1 : Int) :: NilL Int).length ≤ (68719476736 : Nat) ∧ x.1.2.length + ((0 : Int) :: NilL Int).length ≤ (68719476736 : Nat) ∧ i64R (x.2.1 + (1 : Int)) ∧ ∃ (x' : (List Int × List Int) × Int × Int), ((SyOK (addL y.1.1 y.1.2 (nd y.1.1 y_2.1.toNat).id freshS) y_1.1 x'.2.1.toNat x'.1.1 x'.1.2 ∧ (0 : Int) ≤ x'.2.1 ∧ x'.2.1 ≤ (↑(addL y.1.1 y.1.2 (nd y.1.1 y_2.1.toNat).id freshS).length : Int)) ∧ DOK (L, x'.2.2)) ∧ ((↑(addL y.1.1 y.1.2 (nd y.1.1 y_2.1.toNat).id freshS).length : Int) - x'.2.1).toNat < ((↑(addL y.1.1 y.1.2 (nd y.1.1 y_2.1.toNat).id freshS).length : Int) - x.2.1).toNat ∧ x.2.1 + (1 : Int) = x'.2.1 ∧ L = L ∧ y_3.2 = x'.2.2 ∧ y_1.1 = y_1.1 ∧ x.1.1 ++ Max.max ((4 : Int) - (1 : Int)) (1 : Int) :: NilL Int = x'.1.1 ∧ x.1.2 ++ (0 : Int) :: NilL Int = x'.1.2 ∧ y.1.2 = y.1.2 ∧ y.1.1 = y.1.1 ∧ addN y.1.1 y.1.2 (nd y.1.1 y_2.1.toNat).id freshS = addN y.1.1 y.1.2 (nd y.1.1 y_2.1.toNat).id freshS ∧ addL y.1.1 y.1.2 (nd y.1.1 y_2.1.toNat).id freshS = addL y.1.1 y.1.2 (nd y.1.1 y_2.1.toNat).id freshS) ∧ ((!decide ((4 : Int) = (4611686018427387904 : Int)) && y_3.1) = false → x.1.1.length + ((4 : Int) :: NilL Int).length ≤ (68719476736 : Nat) ∧ x.1.2.length + ((1 : Int) :: NilL Int).length ≤ (68719476736 : Nat) ∧ i64R (x.2.1 + (1 : Int)) ∧ ∃ (x' : (List Int × List Int) × Int × Int), ((SyOK (addL y.1.1 y.1.2 (nd y.1.1 y_2.1.toNat).id freshS) y_1.1 x'.2.1.toNat x'.1.1 x'.1.2 ∧ (0 : Int) ≤ x'.2.1 ∧ x'.2.1 ≤ (↑(addL y.1.1 y.1.2 (nd y.1.1 y_2.1.toNat).id freshS).length : Int)) ∧ DOK (L, x'.2.2)) ∧ ((↑(addL y.1.1 y.1.2 (nd y.1.1 y_2.1.toNat).id freshS).length : Int) - x'.2.1).toNat < ((↑(addL y.1.1 y.1.2 (nd y.1.1 y_2.1.toNat).id freshS).length : Int) - x.2.1).toNat ∧ x.2.1 + (1 : Int) = x'.2.1 ∧ L = L ∧ y_3.2 = x'.2.2 ∧ y_1.1 = y_1.1 ∧ x.1.1 ++ (4 : Int) :: NilL Int = x'.1.1 ∧ x.1.2 ++ (1 : Int) :: NilL Int = x'.1.2 ∧ y.1.2 = y.1.2 ∧ y.1.1 = y.1.1 ∧ addN y.1.1 y.1.2 (nd y.1.1 y_2.1.toNat).id freshS = addN y.1.1 y.1.2 (nd y.1.1 y_2.1.toNat).id freshS ∧ addL y.1.1 y.1.2 (nd y.1.1 y_2.1.toNat).id freshS = addL y.1.1 y.1.2 (nd y.1.1 y_2.1.toNat).id freshS)) ∧ ((!hasP y_1.1 (nd (addL y.1.1 y.1.2 (nd y.1.1 y_2.1.toNat).id freshS) x.2.1.toNat).id) = false → True ∧ ((!decide ((atP y_1.1 (nd (addL y.1.1 y.1.2 (nd y.1.1 y_2.1.toNat).id freshS) x.2.1.toNat).id).q = (4611686018427387904 : Int))) = true → (!decide ((atP y_1.1 (nd (addL y.1.1 y.1.2 (nd y.1.1 y_2.1.toNat).id freshS) x.2.1.toNat).id).q = (4611686018427387904 : Int))) = true) ∧ ((!decide ((atP y_1.1 (nd (addL y.1.1 y.1.2 (nd y.1.1 y_2.1.toNat).id freshS) x.2.1.toNat).id).q = (4611686018427387904 : Int))) = true → DOK (L, x.2.2) ∧ (1 : Int) ≤ (4 : Int) ∧ (4 : Int) ≤ (1000 : Int)) ∧ ((!decide ((atP y_1.1 (nd (addL y.1.1 y.1.2 (nd y.1.1 y_2.1.toNat).id freshS) x.2.1.toNat).id).q = (4611686018427387904 : Int))) = true → ∀ (y : Bool × Int), true = true) ∧ (¬(!decide ((atP y_1.1 (nd (addL y.1.1 y.1.2 (nd y.1.1 y_2.1.toNat).id freshS) x.2.1.toNat).id).q = (4611686018427387904 : Int))) = true → ∃ (y : Bool × Int), Option.some (OB.cells (93 : Go.TypeId) [AV.irec true (0 : Nat) L, AV.int Go.IntKind.i64 x.2.2]) = Option.some (OB.cells (93 : Go.TypeId) [AV.irec true (0 : Nat) L, AV.int Go.IntKind.i64 y.2]) ∧ True) ∧ ∀ (y_3 : Bool × Int), ((!decide ((atP y_1.1 (nd (addL y.1.1 y.1.2 (nd y.1.1 y_2.1.toNat).id freshS) x.2.1.toNat).id).q = (4611686018427387904 : Int))) = true → x.2.2 ≤ y_3.2 ∧ y_3.2 ≤ (↑L.length : Int)) ∧ (¬(!decide ((atP y_1.1 (nd (addL y.1.1 y.1.2 (nd y.1.1 y_2.1.toNat).id freshS) x.2.1.toNat).id).q = (4611686018427387904 : Int))) = true → Option.some (OB.cells (93 : Go.TypeId) [AV.irec true (0 : Nat) L, AV.int Go.IntKind.i64 x.2.2]) = Option.some (OB.cells (93 : Go.TypeId) [AV.irec true (0 : Nat) L, AV.int Go.IntKind.i64 y_3.2]) ∧ True) → ((!decide ((atP y_1.1 (nd (addL y.1.1 y.1.2 (nd y.1.1 y_2.1.toNat).id freshS) x.2.1.toNat).id).q = (4611686018427387904 : Int))) = true → (!decide ((atP y_1.1 (nd (addL y.1.1 y.1.2 (nd y.1.1 y_2.1.toNat).id freshS) x.2.1.toNat).id).q = (4611686018427387904 : Int))) = true) ∧ ((!decide ((atP y_1.1 (nd (addL y.1.1 y.1.2 (nd y.1.1 y_2.1.toNat).id freshS) x.2.1.toNat).id).q = (4611686018427387904 : Int)) && y_3.1) = true → i64R ((atP y_1.1 (nd (addL y.1.1 y.1.2 (nd y.1.1 y_2.1.toNat).id freshS) x.2.1.toNat).id).q - (1 : Int)) ∧ x.1.1.length + (Max.max ((atP y_1.1 (nd (addL y.1.1 y.1.2 (nd y.1.1 y_2.1.toNat).id freshS) x.2.1.toNat).id).q - (1 : Int)) (1 : Int) :: NilL Int).length ≤ (68719476736 : Nat) ∧ x.1.2.length + ((0 : Int) :: NilL Int).length ≤ (68719476736 : Nat) ∧ i64R (x.2.1 + (1 : Int)) ∧ ∃ (x' : (List Int × List Int) × Int × Int), ((SyOK (addL y.1.1 y.1.2 (nd y.1.1 y_2.1.toNat).id freshS) y_1.1 x'.2.1.toNat x'.1.1 x'.1.2 ∧ (0 : Int) ≤ x'.2.1 ∧ x'.2.1 ≤ (↑(addL y.1.1 y.1.2 (nd y.1.1 y_2.1.toNat).id freshS).length : Int)) ∧ DOK (L, x'.2.2)) ∧ ((↑(addL y.1.1 y.1.2 (nd y.1.1 y_2.1.toNat).id freshS).length : Int) - x'.2.1).toNat < ((↑(addL y.1.1 y.1.2 (nd y.1.1 y_2.1.toNat).id freshS).length : Int) - x.2.1).toNat ∧ x.2.1 + (1 : Int) = x'.2.1 ∧ L = L ∧ y_3.2 = x'.2.2 ∧ y_1.1 = y_1.1 ∧ x.1.1 ++ Max.max ((atP y_1.1 (nd (addL y.1.1 y.1.2 (nd y.1.1 y_2.1.toNat).id freshS) x.2.1.toNat).id).q - (1 : Int)) (1 : Int) :: NilL Int = x'.1.1 ∧ x.1.2 ++ (0 : Int) :: NilL Int = x'.1.2 ∧ y.1.2 = y.1.2 ∧ y.1.1 = y.1.1 ∧ addN y.1.1 y.1.2 (nd y.1.1 y_2.1.toNat).id freshS = addN y.1.1 y.1.2 (nd y.1.1 y_2.1.toNat).id freshS ∧ addL y.1.1 y.1.2 (nd y.1.1 y_2.1.toNat).id freshS = addL y.1.1 y.1.2 (nd y.1.1 y_2.1.toNat).id freshS) ∧ ((!decide ((atP y_1.1 (nd (addL y.1.1 y.1.2 (nd y.1.1 y_2.1.toNat).id freshS) x.2.1.toNat).id).q = (4611686018427387904 : Int)) && y_3.1) = false → x.1.1.length + ((atP y_1.1 (nd (addL y.1.1 y.1.2 (nd y.1.1 y_2.1.toNat).id freshS) x.2.1.toNat).id).q :: NilL Int).length ≤ (68719476736 : Nat) ∧ x.1.2.length + ((atP y_1.1 (nd (addL y.1.1 y.1.2 (nd y.1.1 y_2.1.toNat).id freshS) x.2.1.toNat).id).bu :: NilL Int).length ≤ (68719476736 : Nat) ∧ i64R (x.2.1 + (1 : Int)) ∧ ∃ (x' : (List Int × List Int) × Int × Int), ((SyOK (addL y.1.1 y.1.2 (nd y.1.1 y_2.1.toNat).id freshS) y_1.1 x'.2.1.toNat x'.1.1 x'.1.2 ∧ (0 : Int) ≤ x'.2.1 ∧ x'.2.1 ≤ (↑(addL y.1.1 y.1.2 (nd y.1.1 y_2.1.toNat).id freshS).length : Int)) ∧ DOK (L, x'.2.2)) ∧ ((↑(addL y.1.1 y.1.2 (nd y.1.1 y_2.1.toNat).id freshS).length : Int) - x'.2.1).toNat < ((↑(addL y.1.1 y.1.2 (nd y.1.1 y_2.1.toNat).id freshS).length : Int) - x.2.1).toNat ∧ x.2.1 + (1 : Int) = x'.2.1 ∧ L = L ∧ y_3.2 = x'.2.2 ∧ y_1.1 = y_1.1 ∧ x.1.1 ++ (atP y_1.1 (nd (addL y.1.1 y.1.2 (nd y.1.1 y_2.1.toNat).id freshS) x.2.1.toNat).id).q :: NilL Int = x'.1.1 ∧ x.1.2 ++ (atP y_1.1 (nd (addL y.1.1 y.1.2 (nd y.1.1 y_2.1.toNat).id freshS) x.2.1.toNat).id).bu :: NilL Int = x'.1.2 ∧ y.1.2 = y.1.2 ∧ y.1.1 = y.1.1 ∧ addN y.1.1 y.1.2 (nd y.1.1 y_2.1.toNat).id freshS = addN y.1.1 y.1.2 (nd y.1.1 y_2.1.toNat).id freshS ∧ addL y.1.1 y.1.2 (nd y.1.1 y_2.1.toNat).id freshS = addL y.1.1 y.1.2 (nd y.1.1 y_2.1.toNat).id freshS))) ∧ (decide (x.2.1 < (↑(addL y.1.1 y.1.2 (nd y.1.1 y_2.1.toNat).id freshS).length : Int)) = false → ((0 : Int) ≤ (0 : Int) ∧ (0 : Int) < (↑y_1.1.length : Int)) ∧ (((WfN (addL y.1.1 y.1.2 (nd y.1.1 y_2.1.toNat).id freshS) ∧ TL y_1.1) ∧ BL x.1.2) ∧ x.1.1.length ≤ (9223372036854775807 : Nat)) ∧ ((!decide (syE (addL y.1.1 y.1.2 (nd y.1.1 y_2.1.toNat).id freshS) (addN y.1.1 y.1.2 (nd y.1.1 y_2.1.toNat).id freshS) y_1.1 x.1.1 x.1.2 (pn y_1.1 (Int.toNat (0 : Int))).s (2 : Int) = (0 : Int))) = false → (!decide (syE (addL y.1.1 y.1.2 (nd y.1.1 y_2.1.toNat).id freshS) (addN y.1.1 y.1.2 (nd y.1.1 y_2.1.toNat).id freshS) y_1.1 x.1.1 x.1.2 (pn y_1.1 (Int.toNat (0 : Int))).s (2 : Int) = (0 : Int))) = false) ∧ ((!decide (syE (addL y.1.1 y.1.2 (nd y.1.1 y_2.1.toNat).id freshS) (addN y.1.1 y.1.2 (nd y.1.1 y_2.1.toNat).id freshS) y_1.1 x.1.1 x.1.2 (pn y_1.1 (Int.toNat (0 : Int))).s (2 : Int) = (0 : Int))) = false → (!decide (syE (addL y.1.1 y.1.2 (nd y.1.1 y_2.1.toNat).id freshS) (addN y.1.1 y.1.2 (nd y.1.1 y_2.1.toNat).id freshS) y_1.1 x.1.1 x.1.2 (pn y_1.1 (Int.toNat (0 : Int))).s (2 : Int) = (0 : Int))) = false) ∧ ((!decide (syE (addL y.1.1 y.1.2 (nd y.1.1 y_2.1.toNat).id freshS) (addN y.1.1 y.1.2 (nd y.1.1 y_2.1.toNat).id freshS) y_1.1 x.1.1 x.1.2 (pn y_1.1 (Int.toNat (0 : Int))).s (2 : Int) = (0 : Int))) = false → WfN (addL y.1.1 y.1.2 (nd y.1.1 y_2.1.toNat).id freshS) ∧ TL (syL (addL y.1.1 y.1.2 (nd y.1.1 y_2.1.toNat).id freshS) (addN y.1.1 y.1.2 (nd y.1.1 y_2.1.toNat).id freshS) y_1.1 x.1.1 x.1.2 (pn y_1.1 (Int.toNat (0 : Int))).s (2 : Int))) ∧ ((!decide (syE (addL y.1.1 y.1.2 (nd y.1.1 y_2.1.toNat).id freshS) (addN y.1.1 y.1.2 (nd y.1.1 y_2.1.toNat).id freshS) y_1.1 x.1.1 x.1.2 (pn y_1.1 (Int.toNat (0 : Int))).s (2 : Int) = (0 : Int))) = false → (!decide (syE (addL y.1.1 y.1.2 (nd y.1.1 y_2.1.toNat).id freshS) (addN y.1.1 y.1.2 (nd y.1.1 y_2.1.toNat).id freshS) y_1.1 x.1.1 x.1.2 (pn y_1.1 (Int.toNat (0 : Int))).s (2 : Int) = (0 : Int))) = false) ∧ ((!decide (syE (addL y.1.1 y.1.2 (nd y.1.1 y_2.1.toNat).id freshS) (addN y.1.1 y.1.2 (nd y.1.1 y_2.1.toNat).id freshS) y_1.1 x.1.1 x.1.2 (pn y_1.1 (Int.toNat (0 : Int))).s (2 : Int) = (0 : Int))) = false → (!decide (syE (addL y.1.1 y.1.2 (nd y.1.1 y_2.1.toNat).id freshS) (addN y.1.1 y.1.2 (nd y.1.1 y_2.1.toNat).id freshS) y_1.1 x.1.1 x.1.2 (pn y_1.1 (Int.toNat (0 : Int))).s (2 : Int) = (0 : Int))) = false) ∧ ((!decide (syE (addL y.1.1 y.1.2 (nd y.1.1 y_2.1.toNat).id freshS) (addN y.1.1 y.1.2 (nd y.1.1 y_2.1.toNat).id freshS) y_1.1 x.1.1 x.1.2 (pn y_1.1 (Int.toNat (0 : Int))).s (2 : Int) = (0 : Int)) || !thrB (addL y.1.1 y.1.2 (nd y.1.1 y_2.1.toNat).id freshS) (addN y.1.1 y.1.2 (nd y.1.1 y_2.1.toNat).id freshS) (syL (addL y.1.1 y.1.2 (nd y.1.1 y_2.1.toNat).id freshS) (addN y.1.1 y.1.2 (nd y.1.1 y_2.1.toNat).id freshS) y_1.1 x.1.1 x.1.2 (pn y_1.1 (Int.toNat (0 : Int))).s (2 : Int))) = true → ∃ (y : Unit), True ∧ false = true) ∧ ((!decide (syE (addL y.1.1 y.1.2 (nd y.1.1 y_2.1.toNat).id freshS) (addN y.1.1 y.1.2 (nd y.1.1 y_2.1.toNat).id freshS) y_1.1 x.1.1 x.1.2 (pn y_1.1 (Int.toNat (0 : Int))).s (2 : Int) = (0 : Int)) || !thrB (addL y.1.1 y.1.2 (nd y.1.1 y_2.1.toNat).id freshS) (addN y.1.1 y.1.2 (nd y.1.1 y_2.1.toNat).id freshS) (syL (addL y.1.1 y.1.2 (nd y.1.1 y_2.1.toNat).id freshS) (addN y.1.1 y.1.2 (nd y.1.1 y_2.1.toNat).id freshS) y_1.1 x.1.1 x.1.2 (pn y_1.1 (Int.toNat (0 : Int))).s (2 : Int))) = false → (∃ (x_1 : Int), (0 : Int) ≤ x_1 ∧ (0 : Int) = x_1 ∧ y_1.1 = y_1.1 ∧ syL (addL y.1.1 y.1.2 (nd y.1.1 y_2.1.toNat).id freshS) (addN y.1.1 y.1.2 (nd y.1.1 y_2.1.toNat).id freshS) y_1.1 x.1.1 x.1.2 (pn y_1.1 (Int.toNat (0 : Int))).s (2 : Int) = syL (addL y.1.1 y.1.2 (nd y.1.1 y_2.1.toNat).id freshS) (addN y.1.1 y.1.2 (nd y.1.1 y_2.1.toNat).id freshS) y_1.1 x.1.1 x.1.2 (pn y_1.1 (Int.toNat (0 : Int))).s (2 : Int) ∧ x.1.1 = x.1.1 ∧ x.1.2 = x.1.2 ∧ y.1.2 = y.1.2 ∧ y.1.1 = y.1.1 ∧ addN y.1.1 y.1.2 (nd y.1.1 y_2.1.toNat).id freshS = addN y.1.1 y.1.2 (nd y.1.1 y_2.1.toNat).id freshS ∧ addL y.1.1 y.1.2 (nd y.1.1 y_2.1.toNat).id freshS = addL y.1.1 y.1.2 (nd y.1.1 y_2.1.toNat).id freshS) ∧ ∀ (x_1 : Int), (0 : Int) ≤ x_1 → (decide (x_1 < (↑(syL (addL y.1.1 y.1.2 (nd y.1.1 y_2.1.toNat).id freshS) (addN y.1.1 y.1.2 (nd y.1.1 y_2.1.toNat).id freshS) y_1.1 x.1.1 x.1.2 (pn y_1.1 (Int.toNat (0 : Int))).s (2 : Int)).length : Int)) = true → ((0 : Int) ≤ x_1 ∧ x_1 < (↑(syL (addL y.1.1 y.1.2 (nd y.1.1 y_2.1.toNat).id freshS) (addN y.1.1 y.1.2 (nd y.1.1 y_2.1.toNat).id freshS) y_1.1 x.1.1 x.1.2 (pn y_1.1 (Int.toNat (0 : Int))).s (2 : Int)).length : Int)) ∧ TL y_1.1 ∧ ((0 : Int) ≤ x_1 ∧ x_1 < (↑(syL (addL y.1.1 y.1.2 (nd y.1.1 y_2.1.toNat).id freshS) (addN y.1.1 y.1.2 (nd y.1.1 y_2.1.toNat).id freshS) y_1.1 x.1.1 x.1.2 (pn y_1.1 (Int.toNat (0 : Int))).s (2 : Int)).length : Int)) ∧ (decide ((pn (syL (addL y.1.1 y.1.2 (nd y.1.1 y_2.1.toNat).id freshS) (addN y.1.1 y.1.2 (nd y.1.1 y_2.1.toNat).id freshS) y_1.1 x.1.1 x.1.2 (pn y_1.1 (Int.toNat (0 : Int))).s (2 : Int)) x_1.toNat).g = addI y.1.1 y.1.2 (nd y.1.1 y_2.1.toNat).id freshS) = true → ((0 : Int) ≤ x_1 ∧ x_1 < (↑(syL (addL y.1.1 y.1.2 (nd y.1.1 y_2.1.toNat).id freshS) (addN y.1.1 y.1.2 (nd y.1.1 y_2.1.toNat).id freshS) y_1.1 x.1.1 x.1.2 (pn y_1.1 (Int.toNat (0 : Int))).s (2 : Int)).length : Int)) ∧ Small (pn (syL (addL y.1.1 y.1.2 (nd y.1.1 y_2.1.toNat).id freshS) (addN y.1.1 y.1.2 (nd y.1.1 y_2.1.toNat).id freshS) y_1.1 x.1.1 x.1.2 (pn y_1.1 (Int.toNat (0 : Int))).s (2 : Int)) x_1.toNat).le (pn (syL (addL y.1.1 y.1.2 (nd y.1.1 y_2.1.toNat).id freshS) (addN y.1.1 y.1.2 (nd y.1.1 y_2.1.toNat).id freshS) y_1.1 x.1.1 x.1.2 (pn y_1.1 (Int.toNat (0 : Int))).s (2 : Int)) x_1.toNat).l ∧ ((0 : Int) ≤ x_1 ∧ x_1 < (↑(syL (addL y.1.1 y.1.2 (nd y.1.1 y_2.1.toNat).id freshS) (addN y.1.1 y.1.2 (nd y.1.1 y_2.1.toNat).id freshS) y_1.1 x.1.1 x.1.2 (pn y_1.1 (Int.toNat (0 : Int))).s (2 : Int)).length : Int)) ∧ ((!decide ((pn (syL (addL y.1.1 y.1.2 (nd y.1.1 y_2.1.toNat).id freshS) (addN y.1.1 y.1.2 (nd y.1.1 y_2.1.toNat).id freshS) y_1.1 x.1.1 x.1.2 (pn y_1.1 (Int.toNat (0 : Int))).s (2 : Int)) x_1.toNat).le + (pn (syL (addL y.1.1 y.1.2 (nd y.1.1 y_2.1.toNat).id freshS) (addN y.1.1 y.1.2 (nd y.1.1 y_2.1.toNat).id freshS) y_1.1 x.1.1 x.1.2 (pn y_1.1 (Int.toNat (0 : Int))).s (2 : Int)) x_1.toNat).l.sum = (pn (syL (addL y.1.1 y.1.2 (nd y.1.1 y_2.1.toNat).id freshS) (addN y.1.1 y.1.2 (nd y.1.1 y_2.1.toNat).id freshS) y_1.1 x.1.1 x.1.2 (pn y_1.1 (Int.toNat (0 : Int))).s (2 : Int)) x_1.toNat).q)) = false → (!decide ((pn (syL (addL y.1.1 y.1.2 (nd y.1.1 y_2.1.toNat).id freshS) (addN y.1.1 y.1.2 (nd y.1.1 y_2.1.toNat).id freshS) y_1.1 x.1.1 x.1.2 (pn y_1.1 (Int.toNat (0 : Int))).s (2 : Int)) x_1.toNat).le + (pn (syL (addL y.1.1 y.1.2 (nd y.1.1 y_2.1.toNat).id freshS) (addN y.1.1 y.1.2 (nd y.1.1 y_2.1.toNat).id freshS) y_1.1 x.1.1 x.1.2 (pn y_1.1 (Int.toNat (0 : Int))).s (2 : Int)) x_1.toNat).l.sum = (pn (syL (addL y.1.1 y.1.2 (nd y.1.1 y_2.1.toNat).id freshS) (addN y.1.1 y.1.2 (nd y.1.1 y_2.1.toNat).id freshS) y_1.1 x.1.1 x.1.2 (pn y_1.1 (Int.toNat (0 : Int))).s (2 : Int)) x_1.toNat).q)) = false) ∧ ((!decide ((pn (syL (addL y.1.1 y.1.2 (nd y.1.1 y_2.1.toNat).id freshS) (addN y.1.1 y.1.2 (nd y.1.1 y_2.1.toNat).id freshS) y_1.1 x.1.1 x.1.2 (pn y_1.1 (Int.toNat (0 : Int))).s (2 : Int)) x_1.toNat).le + (pn (syL (addL y.1.1 y.1.2 (nd y.1.1 y_2.1.toNat).id freshS) (addN y.1.1 y.1.2 (nd y.1.1 y_2.1.toNat).id freshS) y_1.1 x.1.1 x.1.2 (pn y_1.1 (Int.toNat (0 : Int))).s (2 : Int)) x_1.toNat).l.sum = (pn (syL (addL y.1.1 y.1.2 (nd y.1.1 y_2.1.toNat).id freshS) (addN y.1.1 y.1.2 (nd y.1.1 y_2.1.toNat).id freshS) y_1.1 x.1.1 x.1.2 (pn y_1.1 (Int.toNat (0 : Int))).s (2 : Int)) x_1.toNat).q)) = false → (!decide ((pn (syL (addL y.1.1 y.1.2 (nd y.1.1 y_2.1.toNat).id freshS) (addN y.1.1 y.1.2 (nd y.1.1 y_2.1.toNat).id freshS) y_1.1 x.1.1 x.1.2 (pn y_1.1 (Int.toNat (0 : Int))).s (2 : Int)) x_1.toNat).le + (pn (syL (addL y.1.1 y.1.2 (nd y.1.1 y_2.1.toNat).id freshS) (addN y.1.1 y.1.2 (nd y.1.1 y_2.1.toNat).id freshS) y_1.1 x.1.1 x.1.2 (pn y_1.1 (Int.toNat (0 : Int))).s (2 : Int)) x_1.toNat).l.sum = (pn (syL (addL y.1.1 y.1.2 (nd y.1.1 y_2.1.toNat).id freshS) (addN y.1.1 y.1.2 (nd y.1.1 y_2.1.toNat).id freshS) y_1.1 x.1.1 x.1.2 (pn y_1.1 (Int.toNat (0 : Int))).s (2 : Int)) x_1.toNat).q)) = false) ∧ ((!decide ((pn (syL (addL y.1.1 y.1.2 (nd y.1.1 y_2.1.toNat).id freshS) (addN y.1.1 y.1.2 (nd y.1.1 y_2.1.toNat).id freshS) y_1.1 x.1.1 x.1.2 (pn y_1.1 (Int.toNat (0 : Int))).s (2 : Int)) x_1.toNat).le + (pn (syL (addL y.1.1 y.1.2 (nd y.1.1 y_2.1.toNat).id freshS) (addN y.1.1 y.1.2 (nd y.1.1 y_2.1.toNat).id freshS) y_1.1 x.1.1 x.1.2 (pn y_1.1 (Int.toNat (0 : Int))).s (2 : Int)) x_1.toNat).l.sum = (pn (syL (addL y.1.1 y.1.2 (nd y.1.1 y_2.1.toNat).id freshS) (addN y.1.1 y.1.2 (nd y.1.1 y_2.1.toNat).id freshS) y_1.1 x.1.1 x.1.2 (pn y_1.1 (Int.toNat (0 : Int))).s (2 : Int)) x_1.toNat).q)) = false → (0 : Int) ≤ x_1 ∧ x_1 < (↑(syL (addL y.1.1 y.1.2 (nd y.1.1 y_2.1.toNat).id freshS) (addN y.1.1 y.1.2 (nd y.1.1 y_2.1.toNat).id freshS) y_1.1 x.1.1 x.1.2 (pn y_1.1 (Int.toNat (0 : Int))).s (2 : Int)).length : Int)) ∧ ((!decide ((pn (syL (addL y.1.1 y.1.2 (nd y.1.1 y_2.1.toNat).id freshS) (addN y.1.1 y.1.2 (nd y.1.1 y_2.1.toNat).id freshS) y_1.1 x.1.1 x.1.2 (pn y_1.1 (Int.toNat (0 : Int))).s (2 : Int)) x_1.toNat).le + (pn (syL (addL y.1.1 y.1.2 (nd y.1.1 y_2.1.toNat).id freshS) (addN y.1.1 y.1.2 (nd y.1.1 y_2.1.toNat).id freshS) y_1.1 x.1.1 x.1.2 (pn y_1.1 (Int.toNat (0 : Int))).s (2 : Int)) x_1.toNat).l.sum = (pn (syL (addL y.1.1 y.1.2 (nd y.1.1 y_2.1.toNat).id freshS) (addN y.1.1 y.1.2 (nd y.1.1 y_2.1.toNat).id freshS) y_1.1 x.1.1 x.1.2 (pn y_1.1 (Int.toNat (0 : Int))).s (2 : Int)) x_1.toNat).q)) = false → (!decide ((pn (syL (addL y.1.1 y.1.2 (nd y.1.1 y_2.1.toNat).id freshS) (addN y.1.1 y.1.2 (nd y.1.1 y_2.1.toNat).id freshS) y_1.1 x.1.1 x.1.2 (pn y_1.1 (Int.toNat (0 : Int))).s (2 : Int)) x_1.toNat).le + (pn (syL (addL y.1.1 y.1.2 (nd y.1.1 y_2.1.toNat).id freshS) (addN y.1.1 y.1.2 (nd y.1.1 y_2.1.toNat).id freshS) y_1.1 x.1.1 x.1.2 (pn y_1.1 (Int.toNat (0 : Int))).s (2 : Int)) x_1.toNat).l.sum = (pn (syL (addL y.1.1 y.1.2 (nd y.1.1 y_2.1.toNat).id freshS) (addN y.1.1 y.1.2 (nd y.1.1 y_2.1.toNat).id freshS) y_1.1 x.1.1 x.1.2 (pn y_1.1 (Int.toNat (0 : Int))).s (2 : Int)) x_1.toNat).q)) = false) ∧ ((!decide ((pn (syL (addL y.1.1 y.1.2 (nd y.1.1 y_2.1.toNat).id freshS) (addN y.1.1 y.1.2 (nd y.1.1 y_2.1.toNat).id freshS) y_1.1 x.1.1 x.1.2 (pn y_1.1 (Int.toNat (0 : Int))).s (2 : Int)) x_1.toNat).le + (pn (syL (addL y.1.1 y.1.2 (nd y.1.1 y_2.1.toNat).id freshS) (addN y.1.1 y.1.2 (nd y.1.1 y_2.1.toNat).id freshS) y_1.1 x.1.1 x.1.2 (pn y_1.1 (Int.toNat (0 : Int))).s (2 : Int)) x_1.toNat).l.sum = (pn (syL (addL y.1.1 y.1.2 (nd y.1.1 y_2.1.toNat).id freshS) (addN y.1.1 y.1.2 (nd y.1.1 y_2.1.toNat).id freshS) y_1.1 x.1.1 x.1.2 (pn y_1.1 (Int.toNat (0 : Int))).s (2 : Int)) x_1.toNat).q)) = false → (!decide ((pn (syL (addL y.1.1 y.1.2 (nd y.1.1 y_2.1.toNat).id freshS) (addN y.1.1 y.1.2 (nd y.1.1 y_2.1.toNat).id freshS) y_1.1 x.1.1 x.1.2 (pn y_1.1 (Int.toNat (0 : Int))).s (2 : Int)) x_1.toNat).le + (pn (syL (addL y.1.1 y.1.2 (nd y.1.1 y_2.1.toNat).id freshS) (addN y.1.1 y.1.2 (nd y.1.1 y_2.1.toNat).id freshS) y_1.1 x.1.1 x.1.2 (pn y_1.1 (Int.toNat (0 : Int))).s (2 : Int)) x_1.toNat).l.sum = (pn (syL (addL y.1.1 y.1.2 (nd y.1.1 y_2.1.toNat).id freshS) (addN y.1.1 y.1.2 (nd y.1.1 y_2.1.toNat).id freshS) y_1.1 x.1.1 x.1.2 (pn y_1.1 (Int.toNat (0 : Int))).s (2 : Int)) x_1.toNat).q)) = false) ∧ ((!decide ((pn (syL (addL y.1.1 y.1.2 (nd y.1.1 y_2.1.toNat).id freshS) (addN y.1.1 y.1.2 (nd y.1.1 y_2.1.toNat).id freshS) y_1.1 x.1.1 x.1.2 (pn y_1.1 (Int.toNat (0 : Int))).s (2 : Int)) x_1.toNat).le + (pn (syL (addL y.1.1 y.1.2 (nd y.1.1 y_2.1.toNat).id freshS) (addN y.1.1 y.1.2 (nd y.1.1 y_2.1.toNat).id freshS) y_1.1 x.1.1 x.1.2 (pn y_1.1 (Int.toNat (0 : Int))).s (2 : Int)) x_1.toNat).l.sum = (pn (syL (addL y.1.1 y.1.2 (nd y.1.1 y_2.1.toNat).id freshS) (addN y.1.1 y.1.2 (nd y.1.1 y_2.1.toNat).id freshS) y_1.1 x.1.1 x.1.2 (pn y_1.1 (Int.toNat (0 : Int))).s (2 : Int)) x_1.toNat).q)) = false → (!decide ((pn (syL (addL y.1.1 y.1.2 (nd y.1.1 y_2.1.toNat).id freshS) (addN y.1.1 y.1.2 (nd y.1.1 y_2.1.toNat).id freshS) y_1.1 x.1.1 x.1.2 (pn y_1.1 (Int.toNat (0 : Int))).s (2 : Int)) x_1.toNat).le + (pn (syL (addL y.1.1 y.1.2 (nd y.1.1 y_2.1.toNat).id freshS) (addN y.1.1 y.1.2 (nd y.1.1 y_2.1.toNat).id freshS) y_1.1 x.1.1 x.1.2 (pn y_1.1 (Int.toNat (0 : Int))).s (2 : Int)) x_1.toNat).l.sum = (pn (syL (addL y.1.1 y.1.2 (nd y.1.1 y_2.1.toNat).id freshS) (addN y.1.1 y.1.2 (nd y.1.1 y_2.1.toNat).id freshS) y_1.1 x.1.1 x.1.2 (pn y_1.1 (Int.toNat (0 : Int))).s (2 : Int)) x_1.toNat).q)) = false) ∧ ((!decide ((pn (syL (addL y.1.1 y.1.2 (nd y.1.1 y_2.1.toNat).id freshS) (addN y.1.1 y.1.2 (nd y.1.1 y_2.1.toNat).id freshS) y_1.1 x.1.1 x.1.2 (pn y_1.1 (Int.toNat (0 : Int))).s (2 : Int)) x_1.toNat).le + (pn (syL (addL y.1.1 y.1.2 (nd y.1.1 y_2.1.toNat).id freshS) (addN y.1.1 y.1.2 (nd y.1.1 y_2.1.toNat).id freshS) y_1.1 x.1.1 x.1.2 (pn y_1.1 (Int.toNat (0 : Int))).s (2 : Int)) x_1.toNat).l.sum = (pn (syL (addL y.1.1 y.1.2 (nd y.1.1 y_2.1.toNat).id freshS) (addN y.1.1 y.1.2 (nd y.1.1 y_2.1.toNat).id freshS) y_1.1 x.1.1 x.1.2 (pn y_1.1 (Int.toNat (0 : Int))).s (2 : Int)) x_1.toNat).q)) = false → (!decide ((pn (syL (addL y.1.1 y.1.2 (nd y.1.1 y_2.1.toNat).id freshS) (addN y.1.1 y.1.2 (nd y.1.1 y_2.1.toNat).id freshS) y_1.1 x.1.1 x.1.2 (pn y_1.1 (Int.toNat (0 : Int))).s (2 : Int)) x_1.toNat).le + (pn (syL (addL y.1.1 y.1.2 (nd y.1.1 y_2.1.toNat).id freshS) (addN y.1.1 y.1.2 (nd y.1.1 y_2.1.toNat).id freshS) y_1.1 x.1.1 x.1.2 (pn y_1.1 (Int.toNat (0 : Int))).s (2 : Int)) x_1.toNat).l.sum = (pn (syL (addL y.1.1 y.1.2 (nd y.1.1 y_2.1.toNat).id freshS) (addN y.1.1 y.1.2 (nd y.1.1 y_2.1.toNat).id freshS) y_1.1 x.1.1 x.1.2 (pn y_1.1 (Int.toNat (0 : Int))).s (2 : Int)) x_1.toNat).q)) = false) ∧ ((!decide ((pn (syL (addL y.1.1 y.1.2 (nd y.1.1 y_2.1.toNat).id freshS) (addN y.1.1 y.1.2 (nd y.1.1 y_2.1.toNat).id freshS) y_1.1 x.1.1 x.1.2 (pn y_1.1 (Int.toNat (0 : Int))).s (2 : Int)) x_1.toNat).le + (pn (syL (addL y.1.1 y.1.2 (nd y.1.1 y_2.1.toNat).id freshS) (addN y.1.1 y.1.2 (nd y.1.1 y_2.1.toNat).id freshS) y_1.1 x.1.1 x.1.2 (pn y_1.1 (Int.toNat (0 : Int))).s (2 : Int)) x_1.toNat).l.sum = (pn (syL (addL y.1.1 y.1.2 (nd y.1.1 y_2.1.toNat).id freshS) (addN y.1.1 y.1.2 (nd y.1.1 y_2.1.toNat).id freshS) y_1.1 x.1.1 x.1.2 (pn y_1.1 (Int.toNat (0 : Int))).s (2 : Int)) x_1.toNat).q) || !decide ((pn (syL (addL y.1.1 y.1.2 (nd y.1.1 y_2.1.toNat).id freshS) (addN y.1.1 y.1.2 (nd y.1.1 y_2.1.toNat).id freshS) y_1.1 x.1.1 x.1.2 (pn y_1.1 (Int.toNat (0 : Int))).s (2 : Int)) x_1.toNat).pe = (1 : Int))) = true → ∃ (y : Unit), True ∧ false = true) ∧ ((!decide ((pn (syL (addL y.1.1 y.1.2 (nd y.1.1 y_2.1.toNat).id freshS) (addN y.1.1 y.1.2 (nd y.1.1 y_2.1.toNat).id freshS) y_1.1 x.1.1 x.1.2 (pn y_1.1 (Int.toNat (0 : Int))).s (2 : Int)) x_1.toNat).le + (pn (syL (addL y.1.1 y.1.2 (nd y.1.1 y_2.1.toNat).id freshS) (addN y.1.1 y.1.2 (nd y.1.1 y_2.1.toNat).id freshS) y_1.1 x.1.1 x.1.2 (pn y_1.1 (Int.toNat (0 : Int))).s (2 : Int)) x_1.toNat).l.sum = (pn (syL (addL y.1.1 y.1.2 (nd y.1.1 y_2.1.toNat).id freshS) (addN y.1.1 y.1.2 (nd y.1.1 y_2.1.toNat).id freshS) y_1.1 x.1.1 x.1.2 (pn y_1.1 (Int.toNat (0 : Int))).s (2 : Int)) x_1.toNat).q) || !decide ((pn (syL (addL y.1.1 y.1.2 (nd y.1.1 y_2.1.toNat).id freshS) (addN y.1.1 y.1.2 (nd y.1.1 y_2.1.toNat).id freshS) y_1.1 x.1.1 x.1.2 (pn y_1.1 (Int.toNat (0 : Int))).s (2 : Int)) x_1.toNat).pe = (1 : Int))) = false → i64R (x_1 + (1 : Int)) ∧ ∃ (x' : Int), (0 : Int) ≤ x' ∧ ((↑(syL (addL y.1.1 y.1.2 (nd y.1.1 y_2.1.toNat).id freshS) (addN y.1.1 y.1.2 (nd y.1.1 y_2.1.toNat).id freshS) y_1.1 x.1.1 x.1.2 (pn y_1.1 (Int.toNat (0 : Int))).s (2 : Int)).length : Int) - x').toNat < ((↑(syL (addL y.1.1 y.1.2 (nd y.1.1 y_2.1.toNat).id freshS) (addN y.1.1 y.1.2 (nd y.1.1 y_2.1.toNat).id freshS) y_1.1 x.1.1 x.1.2 (pn y_1.1 (Int.toNat (0 : Int))).s (2 : Int)).length : Int) - x_1).toNat ∧ x_1 + (1 : Int) = x' ∧ y_1.1 = y_1.1 ∧ syL (addL y.1.1 y.1.2 (nd y.1.1 y_2.1.toNat).id freshS) (addN y.1.1 y.1.2 (nd y.1.1 y_2.1.toNat).id freshS) y_1.1 x.1.1 x.1.2 (pn y_1.1 (Int.toNat (0 : Int))).s (2 : Int) = syL (addL y.1.1 y.1.2 (nd y.1.1 y_2.1.toNat).id freshS) (addN y.1.1 y.1.2 (nd y.1.1 y_2.1.toNat).id freshS) y_1.1 x.1.1 x.1.2 (pn y_1.1 (Int.toNat (0 : Int))).s (2 : Int) ∧ x.1.1 = x.1.1 ∧ x.1.2 = x.1.2 ∧ y.1.2 = y.1.2 ∧ y.1.1 = y.1.1 ∧ addN y.1.1 y.1.2 (nd y.1.1 y_2.1.toNat).id freshS = addN y.1.1 y.1.2 (nd y.1.1 y_2.1.toNat).id freshS ∧ addL y.1.1 y.1.2 (nd y.1.1 y_2.1.toNat).id freshS = addL y.1.1 y.1.2 (nd y.1.1 y_2.1.toNat).id freshS)) ∧ (decide ((pn (syL (addL y.1.1 y.1.2 (nd y.1.1 y_2.1.toNat).id freshS) (addN y.1.1 y.1.2 (nd y.1.1 y_2.1.toNat).id freshS) y_1.1 x.1.1 x.1.2 (pn y_1.1 (Int.toNat (0 : Int))).s (2 : Int)) x_1.toNat).g = addI y.1.1 y.1.2 (nd y.1.1 y_2.1.toNat).id freshS) = false → ((!hasP y_1.1 (pn (syL (addL y.1.1 y.1.2 (nd y.1.1 y_2.1.toNat).id freshS) (addN y.1.1 y.1.2 (nd y.1.1 y_2.1.toNat).id freshS) y_1.1 x.1.1 x.1.2 (pn y_1.1 (Int.toNat (0 : Int))).s (2 : Int)) x_1.toNat).g) = true → ∃ (y : Unit), True ∧ false = true) ∧ ((!hasP y_1.1 (pn (syL (addL y.1.1 y.1.2 (nd y.1.1 y_2.1.toNat).id freshS) (addN y.1.1 y.1.2 (nd y.1.1 y_2.1.toNat).id freshS) y_1.1 x.1.1 x.1.2 (pn y_1.1 (Int.toNat (0 : Int))).s (2 : Int)) x_1.toNat).g) = false → ((0 : Int) ≤ x_1 ∧ x_1 < (↑x.1.1.length : Int)) ∧ (decide ((atP y_1.1 (pn (syL (addL y.1.1 y.1.2 (nd y.1.1 y_2.1.toNat).id freshS) (addN y.1.1 y.1.2 (nd y.1.1 y_2.1.toNat).id freshS) y_1.1 x.1.1 x.1.2 (pn y_1.1 (Int.toNat (0 : Int))).s (2 : Int)) x_1.toNat).g).q = x.1.1.getD x_1.toNat (0 : Int)) = true → decide ((atP y_1.1 (pn (syL (addL y.1.1 y.1.2 (nd y.1.1 y_2.1.toNat).id freshS) (addN y.1.1 y.1.2 (nd y.1.1 y_2.1.toNat).id freshS) y_1.1 x.1.1 x.1.2 (pn y_1.1 (Int.toNat (0 : Int))).s (2 : Int)) x_1.toNat).g).q = x.1.1.getD x_1.toNat (0 : Int)) = true) ∧ (decide ((atP y_1.1 (pn (syL (addL y.1.1 y.1.2 (nd y.1.1 y_2.1.toNat).id freshS) (addN y.1.1 y.1.2 (nd y.1.1 y_2.1.toNat).id freshS) y_1.1 x.1.1 x.1.2 (pn y_1.1 (Int.toNat (0 : Int))).s (2 : Int)) x_1.toNat).g).q = x.1.1.getD x_1.toNat (0 : Int)) = true → decide ((atP y_1.1 (pn (syL (addL y.1.1 y.1.2 (nd y.1.1 y_2.1.toNat).id freshS) (addN y.1.1 y.1.2 (nd y.1.1 y_2.1.toNat).id freshS) y_1.1 x.1.1 x.1.2 (pn y_1.1 (Int.toNat (0 : Int))).s (2 : Int)) x_1.toNat).g).q = x.1.1.getD x_1.toNat (0 : Int)) = true) ∧ (decide ((atP y_1.1 (pn (syL (addL y.1.1 y.1.2 (nd y.1.1 y_2.1.toNat).id freshS) (addN y.1.1 y.1.2 (nd y.1.1 y_2.1.toNat).id freshS) y_1.1 x.1.1 x.1.2 (pn y_1.1 (Int.toNat (0 : Int))).s (2 : Int)) x_1.toNat).g).q = x.1.1.getD x_1.toNat (0 : Int)) = true → decide ((atP y_1.1 (pn (syL (addL y.1.1 y.1.2 (nd y.1.1 y_2.1.toNat).id freshS) (addN y.1.1 y.1.2 (nd y.1.1 y_2.1.toNat).id freshS) y_1.1 x.1.1 x.1.2 (pn y_1.1 (Int.toNat (0 : Int))).s (2 : Int)) x_1.toNat).g).q = x.1.1.getD x_1.toNat (0 : Int)) = true) ∧ (decide ((atP y_1.1 (pn (syL (addL y.1.1 y.1.2 (nd y.1.1 y_2.1.toNat).id freshS) (addN y.1.1 y.1.2 (nd y.1.1 y_2.1.toNat).id freshS) y_1.1 x.1.1 x.1.2 (pn y_1.1 (Int.toNat (0 : Int))).s (2 : Int)) x_1.toNat).g).q = x.1.1.getD x_1.toNat (0 : Int)) = true → (0 : Int) ≤ x_1 ∧ x_1 < (↑x.1.2.length : Int)) ∧ (decide ((atP y_1.1 (pn (syL (addL y.1.1 y.1.2 (nd y.1.1 y_2.1.toNat).id freshS) (addN y.1.1 y.1.2 (nd y.1.1 y_2.1.toNat).id freshS) y_1.1 x.1.1 x.1.2 (pn y_1.1 (Int.toNat (0 : Int))).s (2 : Int)) x_1.toNat).g).q = x.1.1.getD x_1.toNat (0 : Int)) = true → decide ((atP y_1.1 (pn (syL (addL y.1.1 y.1.2 (nd y.1.1 y_2.1.toNat).id freshS) (addN y.1.1 y.1.2 (nd y.1.1 y_2.1.toNat).id freshS) y_1.1 x.1.1 x.1.2 (pn y_1.1 (Int.toNat (0 : Int))).s (2 : Int)) x_1.toNat).g).q = x.1.1.getD x_1.toNat (0 : Int)) = true) ∧ (decide ((atP y_1.1 (pn (syL (addL y.1.1 y.1.2 (nd y.1.1 y_2.1.toNat).id freshS) (addN y.1.1 y.1.2 (nd y.1.1 y_2.1.toNat).id freshS) y_1.1 x.1.1 x.1.2 (pn y_1.1 (Int.toNat (0 : Int))).s (2 : Int)) x_1.toNat).g).q = x.1.1.getD x_1.toNat (0 : Int)) = true → decide ((atP y_1.1 (pn (syL (addL y.1.1 y.1.2 (nd y.1.1 y_2.1.toNat).id freshS) (addN y.1.1 y.1.2 (nd y.1.1 y_2.1.toNat).id freshS) y_1.1 x.1.1 x.1.2 (pn y_1.1 (Int.toNat (0 : Int))).s (2 : Int)) x_1.toNat).g).q = x.1.1.getD x_1.toNat (0 : Int)) = true) ∧ (decide ((atP y_1.1 (pn (syL (addL y.1.1 y.1.2 (nd y.1.1 y_2.1.toNat).id freshS) (addN y.1.1 y.1.2 (nd y.1.1 y_2.1.toNat).id freshS) y_1.1 x.1.1 x.1.2 (pn y_1.1 (Int.toNat (0 : Int))).s (2 : Int)) x_1.toNat).g).q = x.1.1.getD x_1.toNat (0 : Int)) = true → decide ((atP y_1.1 (pn (syL (addL y.1.1 y.1.2 (nd y.1.1 y_2.1.toNat).id freshS) (addN y.1.1 y.1.2 (nd y.1.1 y_2.1.toNat).id freshS) y_1.1 x.1.1 x.1.2 (pn y_1.1 (Int.toNat (0 : Int))).s (2 : Int)) x_1.toNat).g).q = x.1.1.getD x_1.toNat (0 : Int)) = true) ∧ (decide ((atP y_1.1 (pn (syL (addL y.1.1 y.1.2 (nd y.1.1 y_2.1.toNat).id freshS) (addN y.1.1 y.1.2 (nd y.1.1 y_2.1.toNat).id freshS) y_1.1 x.1.1 x.1.2 (pn y_1.1 (Int.toNat (0 : Int))).s (2 : Int)) x_1.toNat).g).q = x.1.1.getD x_1.toNat (0 : Int)) = true → decide ((atP y_1.1 (pn (syL (addL y.1.1 y.1.2 (nd y.1.1 y_2.1.toNat).id freshS) (addN y.1.1 y.1.2 (nd y.1.1 y_2.1.toNat).id freshS) y_1.1 x.1.1 x.1.2 (pn y_1.1 (Int.toNat (0 : Int))).s (2 : Int)) x_1.toNat).g).q = x.1.1.getD x_1.toNat (0 : Int)) = true) ∧ ((decide ((atP y_1.1 (pn (syL (addL y.1.1 y.1.2 (nd y.1.1 y_2.1.toNat).id freshS) (addN y.1.1 y.1.2 (nd y.1.1 y_2.1.toNat).id freshS) y_1.1 x.1.1 x.1.2 (pn y_1.1 (Int.toNat (0 : Int))).s (2 : Int)) x_1.toNat).g).q = x.1.1.getD x_1.toNat (0 : Int)) && decide ((atP y_1.1 (pn (syL (addL y.1.1 y.1.2 (nd y.1.1 y_2.1.toNat).id freshS) (addN y.1.1 y.1.2 (nd y.1.1 y_2.1.toNat).id freshS) y_1.1 x.1.1 x.1.2 (pn y_1.1 (Int.toNat (0 : Int))).s (2 : Int)) x_1.toNat).g).bu = x.1.2.getD x_1.toNat (0 : Int))) = true → ((0 : Int) ≤ x_1 ∧ x_1 < (↑(syL (addL y.1.1 y.1.2 (nd y.1.1 y_2.1.toNat).id freshS) (addN y.1.1 y.1.2 (nd y.1.1 y_2.1.toNat).id freshS) y_1.1 x.1.1 x.1.2 (pn y_1.1 (Int.toNat (0 : Int))).s (2 : Int)).length : Int)) ∧ (atP y_1.1 (pn (syL (addL y.1.1 y.1.2 (nd y.1.1 y_2.1.toNat).id freshS) (addN y.1.1 y.1.2 (nd y.1.1 y_2.1.toNat).id freshS) y_1.1 x.1.1 x.1.2 (pn y_1.1 (Int.toNat (0 : Int))).s (2 : Int)) x_1.toNat).g).l.length ≤ (1048576 : Nat) ∧ ((!eqP (atP y_1.1 (pn (syL (addL y.1.1 y.1.2 (nd y.1.1 y_2.1.toNat).id freshS) (addN y.1.1 y.1.2 (nd y.1.1 y_2.1.toNat).id freshS) y_1.1 x.1.1 x.1.2 (pn y_1.1 (Int.toNat (0 : Int))).s (2 : Int)) x_1.toNat).g) (pn (syL (addL y.1.1 y.1.2 (nd y.1.1 y_2.1.toNat).id freshS) (addN y.1.1 y.1.2 (nd y.1.1 y_2.1.toNat).id freshS) y_1.1 x.1.1 x.1.2 (pn y_1.1 (Int.toNat (0 : Int))).s (2 : Int)) x_1.toNat)) = true → ∃ (y : Unit), True ∧ false = true) ∧ ((!eqP (atP y_1.1 (pn (syL (addL y.1.1 y.1.2 (nd y.1.1 y_2.1.toNat).id freshS) (addN y.1.1 y.1.2 (nd y.1.1 y_2.1.toNat).id freshS) y_1.1 x.1.1 x.1.2 (pn y_1.1 (Int.toNat (0 : Int))).s (2 : Int)) x_1.toNat).g) (pn (syL (addL y.1.1 y.1.2 (nd y.1.1 y_2.1.toNat).id freshS) (addN y.1.1 y.1.2 (nd y.1.1 y_2.1.toNat).id freshS) y_1.1 x.1.1 x.1.2 (pn y_1.1 (Int.toNat (0 : Int))).s (2 : Int)) x_1.toNat)) = false → i64R (x_1 + (1 : Int)) ∧ ∃ (x' : Int), (0 : Int) ≤ x' ∧ ((↑(syL (addL y.1.1 y.1.2 (nd y.1.1 y_2.1.toNat).id freshS) (addN y.1.1 y.1.2 (nd y.1.1 y_2.1.toNat).id freshS) y_1.1 x.1.1 x.1.2 (pn y_1.1 (Int.toNat (0 : Int))).s (2 : Int)).length : Int) - x').toNat < ((↑(syL (addL y.1.1 y.1.2 (nd y.1.1 y_2.1.toNat).id freshS) (addN y.1.1 y.1.2 (nd y.1.1 y_2.1.toNat).id freshS) y_1.1 x.1.1 x.1.2 (pn y_1.1 (Int.toNat (0 : Int))).s (2 : Int)).length : Int) - x_1).toNat ∧ x_1 + (1 : Int) = x' ∧ y_1.1 = y_1.1 ∧ syL (addL y.1.1 y.1.2 (nd y.1.1 y_2.1.toNat).id freshS) (addN y.1.1 y.1.2 (nd y.1.1 y_2.1.toNat).id freshS) y_1.1 x.1.1 x.1.2 (pn y_1.1 (Int.toNat (0 : Int))).s (2 : Int) = syL (addL y.1.1 y.1.2 (nd y.1.1 y_2.1.toNat).id freshS) (addN y.1.1 y.1.2 (nd y.1.1 y_2.1.toNat).id freshS) y_1.1 x.1.1 x.1.2 (pn y_1.1 (Int.toNat (0 : Int))).s (2 : Int) ∧ x.1.1 = x.1.1 ∧ x.1.2 = x.1.2 ∧ y.1.2 = y.1.2 ∧ y.1.1 = y.1.1 ∧ addN y.1.1 y.1.2 (nd y.1.1 y_2.1.toNat).id freshS = addN y.1.1 y.1.2 (nd y.1.1 y_2.1.toNat).id freshS ∧ addL y.1.1 y.1.2 (nd y.1.1 y_2.1.toNat).id freshS = addL y.1.1 y.1.2 (nd y.1.1 y_2.1.toNat).id freshS)) ∧ ((decide ((atP y_1.1 (pn (syL (addL y.1.1 y.1.2 (nd y.1.1 y_2.1.toNat).id freshS) (addN y.1.1 y.1.2 (nd y.1.1 y_2.1.toNat).id freshS) y_1.1 x.1.1 x.1.2 (pn y_1.1 (Int.toNat (0 : Int))).s (2 : Int)) x_1.toNat).g).q = x.1.1.getD x_1.toNat (0 : Int)) && decide ((atP y_1.1 (pn (syL (addL y.1.1 y.1.2 (nd y.1.1 y_2.1.toNat).id freshS) (addN y.1.1 y.1.2 (nd y.1.1 y_2.1.toNat).id freshS) y_1.1 x.1.1 x.1.2 (pn y_1.1 (Int.toNat (0 : Int))).s (2 : Int)) x_1.toNat).g).bu = x.1.2.getD x_1.toNat (0 : Int))) = false → ((0 : Int) ≤ x_1 ∧ x_1 < (↑(syL (addL y.1.1 y.1.2 (nd y.1.1 y_2.1.toNat).id freshS) (addN y.1.1 y.1.2 (nd y.1.1 y_2.1.toNat).id freshS) y_1.1 x.1.1 x.1.2 (pn y_1.1 (Int.toNat (0 : Int))).s (2 : Int)).length : Int)) ∧ Small (pn (syL (addL y.1.1 y.1.2 (nd y.1.1 y_2.1.toNat).id freshS) (addN y.1.1 y.1.2 (nd y.1.1 y_2.1.toNat).id freshS) y_1.1 x.1.1 x.1.2 (pn y_1.1 (Int.toNat (0 : Int))).s (2 : Int)) x_1.toNat).le (pn (syL (addL y.1.1 y.1.2 (nd y.1.1 y_2.1.toNat).id freshS) (addN y.1.1 y.1.2 (nd y.1.1 y_2.1.toNat).id freshS) y_1.1 x.1.1 x.1.2 (pn y_1.1 (Int.toNat (0 : Int))).s (2 : Int)) x_1.toNat).l ∧ Small (atP y_1.1 (pn (syL (addL y.1.1 y.1.2 (nd y.1.1 y_2.1.toNat).id freshS) (addN y.1.1 y.1.2 (nd y.1.1 y_2.1.toNat).id freshS) y_1.1 x.1.1 x.1.2 (pn y_1.1 (Int.toNat (0 : Int))).s (2 : Int)) x_1.toNat).g).le (atP y_1.1 (pn (syL (addL y.1.1 y.1.2 (nd y.1.1 y_2.1.toNat).id freshS) (addN y.1.1 y.1.2 (nd y.1.1 y_2.1.toNat).id freshS) y_1.1 x.1.1 x.1.2 (pn y_1.1 (Int.toNat (0 : Int))).s (2 : Int)) x_1.toNat).g).l ∧ ((0 : Int) ≤ x_1 ∧ x_1 < (↑x.1.1.length : Int)) ∧ ((0 : Int) ≤ x_1 ∧ x_1 < (↑x.1.2.length : Int)) ∧ i64R (x.1.1.getD x_1.toNat (0 : Int) + x.1.2.getD x_1.toNat (0 : Int)) ∧ ((!decide ((pn (syL (addL y.1.1 y.1.2 (nd y.1.1 y_2.1.toNat).id freshS) (addN y.1.1 y.1.2 (nd y.1.1 y_2.1.toNat).id freshS) y_1.1 x.1.1 x.1.2 (pn y_1.1 (Int.toNat (0 : Int))).s (2 : Int)) x_1.toNat).le + (pn (syL (addL y.1.1 y.1.2 (nd y.1.1 y_2.1.toNat).id freshS) (addN y.1.1 y.1.2 (nd y.1.1 y_2.1.toNat).id freshS) y_1.1 x.1.1 x.1.2 (pn y_1.1 (Int.toNat (0 : Int))).s (2 : Int)) x_1.toNat).l.sum = Min.min ((atP y_1.1 (pn (syL (addL y.1.1 y.1.2 (nd y.1.1 y_2.1.toNat).id freshS) (addN y.1.1 y.1.2 (nd y.1.1 y_2.1.toNat).id freshS) y_1.1 x.1.1 x.1.2 (pn y_1.1 (Int.toNat (0 : Int))).s (2 : Int)) x_1.toNat).g).le + (atP y_1.1 (pn (syL (addL y.1.1 y.1.2 (nd y.1.1 y_2.1.toNat).id freshS) (addN y.1.1 y.1.2 (nd y.1.1 y_2.1.toNat).id freshS) y_1.1 x.1.1 x.1.2 (pn y_1.1 (Int.toNat (0 : Int))).s (2 : Int)) x_1.toNat).g).l.sum) (x.1.1.getD x_1.toNat (0 : Int) + x.1.2.getD x_1.toNat (0 : Int)))) = true → ∃ (y : Unit), True ∧ false = true) ∧ ((!decide ((pn (syL (addL y.1.1 y.1.2 (nd y.1.1 y_2.1.toNat).id freshS) (addN y.1.1 y.1.2 (nd y.1.1 y_2.1.toNat).id freshS) y_1.1 x.1.1 x.1.2 (pn y_1.1 (Int.toNat (0 : Int))).s (2 : Int)) x_1.toNat).le + (pn (syL (addL y.1.1 y.1.2 (nd y.1.1 y_2.1.toNat).id freshS) (addN y.1.1 y.1.2 (nd y.1.1 y_2.1.toNat).id freshS) y_1.1 x.1.1 x.1.2 (pn y_1.1 (Int.toNat (0 : Int))).s (2 : Int)) x_1.toNat).l.sum = Min.min ((atP y_1.1 (pn (syL (addL y.1.1 y.1.2 (nd y.1.1 y_2.1.toNat).id freshS) (addN y.1.1 y.1.2 (nd y.1.1 y_2.1.toNat).id freshS) y_1.1 x.1.1 x.1.2 (pn y_1.1 (Int.toNat (0 : Int))).s (2 : Int)) x_1.toNat).g).le + (atP y_1.1 (pn (syL (addL y.1.1 y.1.2 (nd y.1.1 y_2.1.toNat).id freshS) (addN y.1.1 y.1.2 (nd y.1.1 y_2.1.toNat).id freshS) y_1.1 x.1.1 x.1.2 (pn y_1.1 (Int.toNat (0 : Int))).s (2 : Int)) x_1.toNat).g).l.sum) (x.1.1.getD x_1.toNat (0 : Int) + x.1.2.getD x_1.toNat (0 : Int)))) = false → i64R (x_1 + (1 : Int)) ∧ ∃ (x' : Int), (0 : Int) ≤ x' ∧ ((↑(syL (addL y.1.1 y.1.2 (nd y.1.1 y_2.1.toNat).id freshS) (addN y.1.1 y.1.2 (nd y.1.1 y_2.1.toNat).id freshS) y_1.1 x.1.1 x.1.2 (pn y_1.1 (Int.toNat (0 : Int))).s (2 : Int)).length : Int) - x').toNat < ((↑(syL (addL y.1.1 y.1.2 (nd y.1.1 y_2.1.toNat).id freshS) (addN y.1.1 y.1.2 (nd y.1.1 y_2.1.toNat).id freshS) y_1.1 x.1.1 x.1.2 (pn y_1.1 (Int.toNat (0 : Int))).s (2 : Int)).length : Int) - x_1).toNat ∧ x_1 + (1 : Int) = x' ∧ y_1.1 = y_1.1 ∧ syL (addL y.1.1 y.1.2 (nd y.1.1 y_2.1.toNat).id freshS) (addN y.1.1 y.1.2 (nd y.1.1 y_2.1.toNat).id freshS) y_1.1 x.1.1 x.1.2 (pn y_1.1 (Int.toNat (0 : Int))).s (2 : Int) = syL (addL y.1.1 y.1.2 (nd y.1.1 y_2.1.toNat).id freshS) (addN y.1.1 y.1.2 (nd y.1.1 y_2.1.toNat).id freshS) y_1.1 x.1.1 x.1.2 (pn y_1.1 (Int.toNat (0 : Int))).s (2 : Int) ∧ x.1.1 = x.1.1 ∧ x.1.2 = x.1.2 ∧ y.1.2 = y.1.2 ∧ y.1.1 = y.1.1 ∧ addN y.1.1 y.1.2 (nd y.1.1 y_2.1.toNat).id freshS = addN y.1.1 y.1.2 (nd y.1.1 y_2.1.toNat).id freshS ∧ addL y.1.1 y.1.2 (nd y.1.1 y_2.1.toNat).id freshS = addL y.1.1 y.1.2 (nd y.1.1 y_2.1.toNat).id freshS))))) ∧ (decide (x_1 < (↑(syL (addL y.1.1 y.1.2 (nd y.1.1 y_2.1.toNat).id freshS) (addN y.1.1 y.1.2 (nd y.1.1 y_2.1.toNat).id freshS) y_1.1 x.1.1 x.1.2 (pn y_1.1 (Int.toNat (0 : Int))).s (2 : Int)).length : Int)) = false → True ∧ ∃ (y : Unit), True ∧ true = true)))))) = sLaw18.vc (EV Try.prog [(14, sLight.spec), (38, sSane18.spec), (16, sRoll.spec), (17, sTree.spec), (39, sPools.spec), (23, sNext.spec), (22, sAdd.spec), (58, sGetP.spec), (57, sLimited.spec), (59, sBool.spec), (51, sSync.spec), (54, sThr.spec), (60, sHeld.spec), (61, sSameP.spec)] (invsS [(11, inv10a L), (24, inv10b)]) noInv) Try.f10 (L, ()) := by kernel_rfl
  rw [← e]
  clear e
  simp only [imp_self, true_and, and_true, exists_const, implies_true]
  simp only [Prod.forall, Prod.exists, exists_const, not_true_eq_false, forall_const, true_and, and_true, i64R, Int.reduceLE, Int.reduceNeg, false_implies, decide_eq_true_eq, decide_eq_false_iff_not, Bool.not_eq_true', Bool.not_eq_false', Bool.false_eq_true, Bool.and_eq_true, Bool.or_eq_true, Bool.and_eq_false_iff, Bool.or_eq_false_iff ]
  simp only [NilL_eq]
  intro hL
  have hd : ∀ j : Int, 0 ≤ j → j ≤ L.length → DOK (L, j) := fun j h1 h2 => ⟨h1, h2, by show L.length ≤ 600; omega⟩
  refine ⟨hd 0 (by omega) (by omega), fun l n j1 ht => ?_⟩
  obtain ⟨⟨htp, htl⟩, t1, t2⟩ := ht
  have hc := htp.chk
  have l1 := hc.len1
  have l2 := hc.len2
  refine ⟨⟨hd _ (by omega) (by omega), hc⟩, fun ps j2 hp => ?_⟩
  obtain ⟨hp, p1, p2⟩ := hp
  refine ⟨⟨hd _ (by omega) (by omega), by omega⟩, fun r j3 hr => ⟨by omega, fun hne => ?_, fun hA => ?_⟩⟩
  · have hm : (nd l r.toNat).id ∈ ids l := ids_mem.2 ⟨r.toNat, by omega, rfl⟩
    rcases fresh_err htp hm with e | e
    · exact absurd e hne
    · exact e
  have hcY := add_chk hA
  have eI : addI l n (nd l r.toNat).id freshS = n := by rw [addI, if_pos hA]
  have hsync := fun (q b : List Int) (hY : SyOK (addL l n (nd l r.toNat).id freshS) ps (addL l n (nd l r.toNat).id freshS).length q b) => syncs hp hA hY
  rw [eI]
  generalize addL l n (nd l r.toNat).id freshS = Y at hcY hsync ⊢
  generalize addN l n (nd l r.toNat).id freshS = N at hcY hsync ⊢
  have m1 := hcY.len1
  have m2 := hcY.len2
  refine ⟨⟨[], [], 0, j3, ⟨⟨SyOK.zero Y ps, by omega, by omega⟩, hd _ (by omega) (by omega)⟩, rfl, rfl, rfl, rfl⟩, fun q b i j4 hI => ⟨fun hlt => ?_, fun hge => ?_⟩⟩
  · obtain ⟨⟨hS, hi0⟩, hj4⟩ := hI
    have j4a : 0 ≤ j4 := hj4.1
    have j4b : j4 ≤ L.length := hj4.hi
    have lq := hS.lq
    have lb := hS.lb
    have e1 : (i + 1).toNat = i.toNat + 1 := by omega
    have nxt : ∀ x y j', ratesI x y = true → (x = 4611686018427387904 → (oldP ps (nd Y i.toNat).id).q = 4611686018427387904) → DOK (L, j') → ∃ q' b' i' j'', ((SyOK Y ps i'.toNat q' b' ∧ 0 ≤ i' ∧ i' ≤ ↑Y.length) ∧ DOK (L, j'')) ∧ (↑Y.length - i').toNat < (↑Y.length - i).toNat ∧ i + 1 = i' ∧ j' = j'' ∧ q ++ [x] = q' ∧ b ++ [y] = b' := fun x y j' h1 h2 h3 =>
      ⟨_, _, i + 1, j', ⟨⟨by rw [e1]; exact hS.snoc h1 h2, by omega, by omega⟩, h3⟩, by omega, rfl, rfl, rfl, rfl⟩
    refine ⟨by omega, hp.tl, fun hno => ⟨hj4, fun bl j5 h5 => ⟨fun _ => ⟨by omega, by simp; omega, by simp; omega, by omega, nxt _ _ _ (by decide) (fun e => absurd e (by decide)) (hd _ (by omega) (by omega))⟩, fun _ => ⟨by simp; omega, by simp; omega, by omega, nxt _ _ _ (by decide) (fun e => absurd e (by decide)) (hd _ (by omega) (by omega))⟩⟩⟩, fun hyes => ?_⟩
    have eo : oldP ps (nd Y i.toNat).id = atP ps (nd Y i.toNat).id := by rw [oldP, if_pos hyes]
    have hrt := old_good hp (nd Y i.toNat).id
    rw [eo] at hrt nxt
    have hri := ratesI_iff.1 hrt
    generalize atP ps (nd Y i.toNat).id = p at hrt nxt hri ⊢
    refine ⟨fun _ => hj4, fun _ => ⟨j4, rfl⟩, fun bl j5 h5 => ?_⟩
    have hj5 : DOK (L, j5) := by
      by_cases e : p.q = 4611686018427387904
      · have := h5.2 (fun h => h e)
        injection this with this
        injection this with _ this
        injection this with _ this
        injection this with this
        injection this with _ this
        rw [← this]; exact hj4
      · have := h5.1 e
        exact hd _ (by omega) (by omega)
    refine ⟨fun h => ⟨by omega, by simp; omega, by simp; omega, by omega, nxt _ _ _ (ratesI_iff.2 (by omega)) (fun e => by omega) hj5⟩, fun h => ⟨by simp; omega, by simp; omega, by omega, nxt _ _ _ hrt (fun e => e) hj5⟩⟩
  · obtain ⟨⟨hS, hi0, hi1⟩, hj4⟩ := hI
    have ei : i.toNat = Y.length := by omega
    rw [ei] at hS
    obtain ⟨sE, sT, sl, sI⟩ := hsync q b hS
    have g0 := hp.thr.loc_pos
    have hlen := hp.thr.len
    have lq := hS.lq
    have lb := hS.lb
    have e0 : (Int.toNat 0) = 0 := rfl
    rw [e0]
    have hT := thrB_iff.1 sT
    generalize syL Y N ps q b (pn ps 0).s 2 = M at sT sl sI hT ⊢
    refine ⟨by omega, ⟨⟨⟨hcY.wf, hp.tl⟩, hS.bl (by omega)⟩, by omega⟩, fun _ => ⟨hcY.wf, ⟨hT.tame, by omega⟩⟩, fun h => ?_, fun _ => ⟨⟨0, by omega, rfl⟩, fun k k0 hk => ?_⟩⟩
    · rcases h with h | h
      · exact h sE
      · rw [sT] at h; cases h
    have hI := sI k.toNat (by omega)
    generalize hP : pn M k.toNat = P at hI ⊢
    have nx : (-9223372036854775808 ≤ k + 1 ∧ k + 1 ≤ 9223372036854775807) ∧ ∃ x', 0 ≤ x' ∧ (↑M.length - x').toNat < (↑M.length - k).toNat ∧ k + 1 = x' := ⟨by omega, k + 1, by omega, by omega, rfl⟩
    refine ⟨by omega, hp.tl, by omega, fun hg => ⟨by omega, hI.good.small, by omega, fun _ => by omega, fun h => ?_, fun _ => nx⟩, fun hg => ?_⟩
    · have := hI.fresh hg
      rcases h with h | h
      · exact h this.1
      · exact h this.2
    · obtain ⟨o1, o2, o3⟩ := hI.old hg
      refine ⟨fun h => ?_, fun _ => ⟨by omega, fun _ => by omega, fun h => ⟨by omega, (atP_tame hp.thr.tame _).len, fun h2 => ?_, fun _ => nx⟩, fun h => ?_⟩⟩
      · rw [o1] at h; cases h
      · rw [o2 h] at h2
        rw [eqP_iff.2 rfl] at h2; cases h2
      · have h' : ¬ ((atP ps P.g).q = q.getD k.toNat 0 ∧ (atP ps P.g).bu = b.getD k.toNat 0) := fun h2 => by
          rcases h with h | h
          · exact h h2.1
          · exact h h2.2
        have hr := ratesI_iff.1 (hS.ok k.toNat (by omega))
        have hsm : Small (atP ps P.g).le (atP ps P.g).l := by
          rcases idxQ_cases ps P.g with ⟨i, hi, e1, e2, e3, e4, e5⟩ | ⟨e2, e3, e4, e5⟩
          · rw [e4]; exact (hp.thr.good i (by omega)).small
          · rw [o1] at e5; cases e5
        exact ⟨by omega, hI.good.small, hsm, by omega, by omega, by omega, fun h2 => h2 (o3 h'), fun _ => nx⟩
end Go.Proofs.Ytemffnpliflkgaa
namespace Go.Proofs.Ytemffnpliflkgaa
open Go Go.RowKit
set_option linter.unusedVariables false
set_option maxRecDepth 100000 in
theorem ok23 : Callable Try.prog 23 ∧ Valid Try.prog 23 sNext.spec :=
  AllOK.head (AllOK.f mixed (AllOK.nil Try.prog) Try.func23 (by kernel_rfl) sNext (fun x => noInv) (fun x => noInv) fun x h => vc23 x.1.1 x.1.2 x.2.1 h)
set_option maxRecDepth 100000 in
theorem ok16 : Callable Try.prog 16 ∧ Valid Try.prog 16 sRoll.spec :=
  AllOK.head (AllOK.d mixed (AllOK.nil Try.prog) Try.func16 (by kernel_rfl) sRoll (fun x => noInv) (fun x => noInv) fun x h => vc16 x.1 h)
set_option maxRecDepth 100000 in
theorem ok14 : Callable Try.prog 14 ∧ Valid Try.prog 14 sLight.spec :=
  AllOK.head (AllOK.d mixed (AllOK.nil Try.prog) Try.func14 (by kernel_rfl) sLight (fun x => noInv) (fun x => noInv) fun x h => vc14 x.1 h)
set_option maxRecDepth 100000 in
theorem ok59 : Callable Try.prog 59 ∧ Valid Try.prog 59 sBool.spec :=
  AllOK.head (AllOK.f mixed ((AllOK.nil Try.prog).and ok23) Try.func59 (by kernel_rfl) sBool (fun x => noInv) (fun x => noInv) fun x h => vc59 x.1.1 x.1.2 x.2.1 h)
set_option maxRecDepth 100000 in
theorem ok72 : Callable Try.prog 72 ∧ Valid Try.prog 72 sWord.spec :=
  AllOK.head (AllOK.f mixed ((AllOK.nil Try.prog).and ok23) Try.func72 (by kernel_rfl) sWord (fun x => noInv) (fun x => noInv) fun x h => vc72 x.1.1 x.1.2 h)
set_option maxRecDepth 100000 in
theorem ok156 : Callable Try.prog 156 ∧ Valid Try.prog 156 sInner.spec :=
  AllOK.head (AllOK.d mixed (AllOK.nil Try.prog) Try.func156 (by kernel_rfl) sInner (fun x => noInv) (fun x => noInv) fun x h => vc156 x.1 h)
set_option maxRecDepth 100000 in
theorem ok79 : Callable Try.prog 79 ∧ Valid Try.prog 79 sNameR.spec :=
  AllOK.head (AllOK.d mixed (AllOK.nil Try.prog) Try.func79 (by kernel_rfl) sNameR (fun x => (invs [(4, inv79 x.1)])) (fun x => noInv) fun x h => vc79 x.1 h)
set_option maxRecDepth 100000 in
theorem ok152 : Callable Try.prog 152 ∧ Valid Try.prog 152 sNameP.spec :=
  AllOK.head (AllOK.d mixed ((AllOK.nil Try.prog).and ok156) Try.func152 (by kernel_rfl) sNameP (fun x => (invs [(2, inv152 x.1)])) (fun x => noInv) fun x h => vc152 x.1 h)
set_option maxRecDepth 100000 in
theorem ok70 : Callable Try.prog 70 ∧ Valid Try.prog 70 sNew.spec :=
  AllOK.head (AllOK.d mixed (AllOK.nil Try.prog) Try.func70 (by kernel_rfl) sNew (fun x => noInv) (fun x => noInv) fun x h => vc70 () h)
set_option maxRecDepth 100000 in
theorem ok128 : Callable Try.prog 128 ∧ Valid Try.prog 128 sNodeB.spec :=
  AllOK.head (AllOK.d mixed ((AllOK.nil Try.prog).and ok79) Try.func128 (by kernel_rfl) sNodeB (fun x => (invs [(10, inv128 x.1.1 x.2.1)])) (fun x => noInv) fun x h => vc128 x.1.1 x.1.2 x.2.1 h)
set_option maxRecDepth 100000 in
theorem ok77 : Callable Try.prog 77 ∧ Valid Try.prog 77 sUp.spec :=
  AllOK.head (AllOK.d mixed (AllOK.nil Try.prog) Try.func77 (by kernel_rfl) sUp (fun x => (invs [(3, inv77 x.1.1 x.2.1)])) (fun x => noInv) fun x h => vc77 x.1.1 x.1.2 x.2.1 h)
set_option maxRecDepth 100000 in
theorem ok78 : Callable Try.prog 78 ∧ Valid Try.prog 78 sChk.spec :=
  AllOK.head (AllOK.d mixed (((AllOK.nil Try.prog).and ok77).and ok128) Try.func78 (by kernel_rfl) sChk (fun x => (invs [(5, inv78a x.1.1), (10, inv78b x.1.1)])) (fun x => noInv) fun x h => vc78 x.1.1 x.1.2 h)
set_option maxRecDepth 100000 in
theorem ok127 : Callable Try.prog 127 ∧ Valid Try.prog 127 sFindR.spec :=
  AllOK.head (AllOK.d mixed ((AllOK.nil Try.prog).and ok78) Try.func127 (by kernel_rfl) sFindR (fun x => (invs [(4, inv127 x.1.1 x.2.1)])) (fun x => noInv) fun x h => vc127 x.1.1 x.1.2 x.2.1 h)
set_option maxRecDepth 100000 in
theorem ok76 : Callable Try.prog 76 ∧ Valid Try.prog 76 sHas.spec :=
  AllOK.head (AllOK.d mixed ((AllOK.nil Try.prog).and ok127) Try.func76 (by kernel_rfl) sHas (fun x => noInv) (fun x => noInv) fun x h => vc76 x.1.1 x.1.2 x.2.1 h)
set_option maxRecDepth 100000 in
theorem ok21 : Callable Try.prog 21 ∧ Valid Try.prog 21 sAnc.spec :=
  AllOK.head (AllOK.d mixed (((AllOK.nil Try.prog).and ok77).and ok76) Try.func21 (by kernel_rfl) sAnc (fun x => noInv) (fun x => noInv) fun x h => vc21 x.1.1 x.1.2 x.2.1 h)
set_option maxRecDepth 100000 in
theorem ok82 : Callable Try.prog 82 ∧ Valid Try.prog 82 sChn.spec :=
  AllOK.head (AllOK.d mixed ((AllOK.nil Try.prog).and ok76) Try.func82 (by kernel_rfl) sChn (fun x => (invs [(5, inv82 x.1.1 x.2.1)])) (fun x => noInv) fun x h => vc82 x.1.1 x.1.2 x.2.1 h)
set_option maxRecDepth 100000 in
theorem ok80 : Callable Try.prog 80 ∧ Valid Try.prog 80 sDepth.spec :=
  AllOK.head (AllOK.d mixed ((AllOK.nil Try.prog).and ok21) Try.func80 (by kernel_rfl) sDepth (fun x => noInv) (fun x => noInv) fun x h => vc80 x.1.1 x.1.2 x.2.1 h)
set_option maxRecDepth 100000 in
theorem ok81 : Callable Try.prog 81 ∧ Valid Try.prog 81 sCopyT.spec :=
  AllOK.head (AllOK.d mixed (AllOK.nil Try.prog) Try.func81 (by kernel_rfl) sCopyT (fun x => noInv) (fun x => noInv) fun x h => vc81 x.1.1 x.1.2 h)
set_option maxRecDepth 100000 in
theorem ok22 : Callable Try.prog 22 ∧ Valid Try.prog 22 sAdd.spec :=
  AllOK.head (AllOK.d mixed ((((((AllOK.nil Try.prog).and ok81).and ok80).and ok76).and ok79).and ok78) Try.func22 (by kernel_rfl) sAdd (fun x => (invs [(6, inv22 x.1.1 x.2.1 x.2.2.1)])) (fun x => noInv) fun x h => vc22 x.1.1 x.1.2 x.2.1 x.2.2.1 h)
set_option maxRecDepth 100000 in
theorem ok24 : Callable Try.prog 24 ∧ Valid Try.prog 24 sRem.spec :=
  AllOK.head (AllOK.d mixed ((((AllOK.nil Try.prog).and ok82).and ok76).and ok78) Try.func24 (by kernel_rfl) sRem (fun x => (invs [(11, inv24 x.1.1 x.1.2 x.2.1)])) (fun x => noInv) fun x h => vc24 x.1.1 x.1.2 x.2.1 h)
set_option maxRecDepth 100000 in
theorem ok129 : Callable Try.prog 129 ∧ Valid Try.prog 129 sRootB.spec :=
  AllOK.head (AllOK.d mixed (AllOK.nil Try.prog) Try.func129 (by kernel_rfl) sRootB (fun x => noInv) (fun x => noInv) fun x h => vc129 x.1 h)
set_option maxRecDepth 100000 in
theorem ok130 : Callable Try.prog 130 ∧ Valid Try.prog 130 sFine.spec :=
  AllOK.head (AllOK.d mixed ((AllOK.nil Try.prog).and ok152) Try.func130 (by kernel_rfl) sFine (fun x => (invs [(5, inv130 x.1 x.2.1)])) (fun x => noInv) fun x h => vc130 x.1 x.2.1 h)
set_option maxRecDepth 100000 in
theorem ok83 : Callable Try.prog 83 ∧ Valid Try.prog 83 sChkP.spec :=
  AllOK.head (AllOK.d mixed (((AllOK.nil Try.prog).and ok130).and ok129) Try.func83 (by kernel_rfl) sChkP (fun x => (invs [(5, inv83 x.1.1)])) (fun x => noInv) fun x h => vc83 x.1.1 x.1.2 h)
set_option maxRecDepth 100000 in
theorem ok155 : Callable Try.prog 155 ∧ Valid Try.prog 155 sAt1.spec :=
  AllOK.head (AllOK.d mixed (AllOK.nil Try.prog) Try.func155 (by kernel_rfl) sAt1 (fun x => noInv) (fun x => noInv) fun x h => vc155 x.1 x.2.1 h)
set_option maxRecDepth 100000 in
theorem ok154 : Callable Try.prog 154 ∧ Valid Try.prog 154 sIdxN.spec :=
  AllOK.head (AllOK.d mixed ((AllOK.nil Try.prog).and ok155) Try.func154 (by kernel_rfl) sIdxN (fun x => (invs [(2, inv154 x.1 x.2.1)])) (fun x => noInv) fun x h => vc154 x.1 x.2.1 h)
set_option maxRecDepth 100000 in
theorem ok151 : Callable Try.prog 151 ∧ Valid Try.prog 151 sAt.spec :=
  AllOK.head (AllOK.d mixed ((AllOK.nil Try.prog).and ok154) Try.func151 (by kernel_rfl) sAt (fun x => noInv) (fun x => noInv) fun x h => vc151 x.1.1 x.1.2 x.2.1 h)
set_option maxRecDepth 100000 in
theorem ok122 : Callable Try.prog 122 ∧ Valid Try.prog 122 sFFind.spec :=
  AllOK.head (AllOK.d mixed ((AllOK.nil Try.prog).and ok151) Try.func122 (by kernel_rfl) sFFind (fun x => noInv) (fun x => noInv) fun x h => vc122 x.1.1 x.1.2 x.2.1 h)
set_option maxRecDepth 100000 in
theorem ok73 : Callable Try.prog 73 ∧ Valid Try.prog 73 sFAnc.spec :=
  AllOK.head (AllOK.d mixed ((AllOK.nil Try.prog).and ok122) Try.func73 (by kernel_rfl) sFAnc (fun x => (invs [(3, inv73 x.1.1 x.2.1)])) (fun x => noInv) fun x h => vc73 x.1.1 x.1.2 x.2.1 h)
set_option maxRecDepth 100000 in
theorem ok64 : Callable Try.prog 64 ∧ Valid Try.prog 64 sHasI.spec :=
  AllOK.head (AllOK.d mixed (AllOK.nil Try.prog) Try.func64 (by kernel_rfl) sHasI (fun x => (invs [(2, inv64 x.1 x.2.1)])) (fun x => noInv) fun x h => vc64 x.1 x.2.1 h)
set_option maxRecDepth 100000 in
theorem ok145 : Callable Try.prog 145 ∧ Valid Try.prog 145 sIdxI.spec :=
  AllOK.head (AllOK.d mixed (AllOK.nil Try.prog) Try.func145 (by kernel_rfl) sIdxI (fun x => (invs [(2, inv145 x.1 x.2.1)])) (fun x => noInv) fun x h => vc145 x.1 x.2.1 h)
set_option maxRecDepth 100000 in
theorem ok112 : Callable Try.prog 112 ∧ Valid Try.prog 112 sHasI.spec :=
  AllOK.head (AllOK.d mixed ((AllOK.nil Try.prog).and ok145) Try.func112 (by kernel_rfl) sHasI (fun x => noInv) (fun x => noInv) fun x h => vc112 x.1 x.2.1 h)
set_option maxRecDepth 100000 in
theorem ok41 : Callable Try.prog 41 ∧ Valid Try.prog 41 sGroup.spec :=
  AllOK.head (AllOK.f mixed (((AllOK.nil Try.prog).and ok59).and ok23) Try.func41 (by kernel_rfl) sGroup (fun x => noInv) (fun x => noInv) fun x h => vc41 x.1.1 x.1.2 x.2.1.1 x.2.1.2 h)
set_option maxRecDepth 100000 in
theorem ok47 : Callable Try.prog 47 ∧ Valid Try.prog 47 sSome.spec :=
  AllOK.head (AllOK.f mixed ((AllOK.nil Try.prog).and ok23) Try.func47 (by kernel_rfl) sSome (fun x => (invs [(3, inv47 x.1.1 x.1.2)])) (fun x => noInv) fun x h => vc47 x.1.1 x.1.2 h)
set_option maxRecDepth 100000 in
theorem ok17 : Callable Try.prog 17 ∧ Valid Try.prog 17 sTree.spec :=
  AllOK.head (AllOK.f mixed (((((((AllOK.nil Try.prog).and ok24).and ok59).and ok22).and ok72).and ok23).and ok70) Try.func17 (by kernel_rfl) sTree (fun x => (invs [(3, inv17 x.1.1 x.2.1 x.1.2)])) (fun x => noInv) fun x h => vc17 x.1.1 x.1.2 x.2.1 h)
set_option maxRecDepth 100000 in
theorem ok147 : Callable Try.prog 147 ∧ Valid Try.prog 147 sWithin.spec :=
  AllOK.head (AllOK.d mixed (AllOK.nil Try.prog) Try.func147 (by kernel_rfl) sWithin (fun x => noInv) (fun x => noInv) fun x h => vc147 x.1 x.2.1 x.2.2.1 h)
set_option maxRecDepth 100000 in
theorem ok119 : Callable Try.prog 119 ∧ Valid Try.prog 119 sWithin.spec :=
  AllOK.head (AllOK.d mixed (AllOK.nil Try.prog) Try.func119 (by kernel_rfl) sWithin (fun x => noInv) (fun x => noInv) fun x h => vc119 x.1 x.2.1 x.2.2.1 h)
set_option maxRecDepth 100000 in
theorem ok140 : Callable Try.prog 140 ∧ Valid Try.prog 140 sLimited.spec :=
  AllOK.head (AllOK.d mixed (AllOK.nil Try.prog) Try.func140 (by kernel_rfl) sLimited (fun x => noInv) (fun x => noInv) fun x h => vc140 x.1 h)
set_option maxRecDepth 100000 in
theorem ok57 : Callable Try.prog 57 ∧ Valid Try.prog 57 sLimited.spec :=
  AllOK.head (AllOK.d mixed (AllOK.nil Try.prog) Try.func57 (by kernel_rfl) sLimited (fun x => noInv) (fun x => noInv) fun x h => vc57 x.1 h)
set_option maxRecDepth 100000 in
theorem ok153 : Callable Try.prog 153 ∧ Valid Try.prog 153 sSum.spec :=
  AllOK.head (AllOK.d mixed (AllOK.nil Try.prog) Try.func153 (by kernel_rfl) sSum (fun x => (invs [(2, inv153 x.1 x.2.1)])) (fun x => noInv) fun x h => vc153 x.1 x.2.1 h)
set_option maxRecDepth 100000 in
theorem ok144 : Callable Try.prog 144 ∧ Valid Try.prog 144 sHeld.spec :=
  AllOK.head (AllOK.d mixed ((AllOK.nil Try.prog).and ok153) Try.func144 (by kernel_rfl) sHeld (fun x => noInv) (fun x => noInv) fun x h => vc144 x.1 h)
set_option maxRecDepth 100000 in
theorem ok125 : Callable Try.prog 125 ∧ Valid Try.prog 125 sClone.spec :=
  AllOK.head (AllOK.d mixed (AllOK.nil Try.prog) Try.func125 (by kernel_rfl) sClone (fun x => noInv) (fun x => noInv) fun x h => vc125 x.1 h)
set_option maxRecDepth 100000 in
theorem ok139 : Callable Try.prog 139 ∧ Valid Try.prog 139 sCopied.spec :=
  AllOK.head (AllOK.d mixed ((AllOK.nil Try.prog).and ok125) Try.func139 (by kernel_rfl) sCopied (fun x => noInv) (fun x => noInv) fun x h => vc139 x.1 h)
set_option maxRecDepth 100000 in
theorem ok60 : Callable Try.prog 60 ∧ Valid Try.prog 60 sHeld.spec :=
  AllOK.head (AllOK.d mixed (AllOK.nil Try.prog) Try.func60 (by kernel_rfl) sHeld (fun x => (invs [(3, inv60 x.1)])) (fun x => noInv) fun x h => vc60 x.1 h)
set_option maxRecDepth 100000 in
theorem ok118 : Callable Try.prog 118 ∧ Valid Try.prog 118 sCopied.spec :=
  AllOK.head (AllOK.d mixed (AllOK.nil Try.prog) Try.func118 (by kernel_rfl) sCopied (fun x => noInv) (fun x => noInv) fun x h => vc118 x.1 h)
set_option maxRecDepth 100000 in
theorem ok148 : Callable Try.prog 148 ∧ Valid Try.prog 148 sRates.spec :=
  AllOK.head (AllOK.d mixed (((AllOK.nil Try.prog).and ok140).and ok147) Try.func148 (by kernel_rfl) sRates (fun x => noInv) (fun x => noInv) fun x h => vc148 x.1 h)
set_option maxRecDepth 100000 in
theorem ok150 : Callable Try.prog 150 ∧ Valid Try.prog 150 sCount.spec :=
  AllOK.head (AllOK.d mixed ((AllOK.nil Try.prog).and ok147) Try.func150 (by kernel_rfl) sCount (fun x => noInv) (fun x => noInv) fun x h => vc150 x.1 h)
set_option maxRecDepth 100000 in
theorem ok149 : Callable Try.prog 149 ∧ Valid Try.prog 149 sHeldB.spec :=
  AllOK.head (AllOK.d mixed ((((AllOK.nil Try.prog).and ok144).and ok140).and ok147) Try.func149 (by kernel_rfl) sHeldB (fun x => (invs [(5, inv149 x.1)])) (fun x => noInv) fun x h => vc149 x.1 h)
set_option maxRecDepth 100000 in
theorem ok121 : Callable Try.prog 121 ∧ Valid Try.prog 121 sGoodB.spec :=
  AllOK.head (AllOK.d mixed (((((AllOK.nil Try.prog).and ok150).and ok149).and ok148).and ok147) Try.func121 (by kernel_rfl) sGoodB (fun x => noInv) (fun x => noInv) fun x h => vc121 x.1 h)
set_option maxRecDepth 100000 in
theorem ok116 : Callable Try.prog 116 ∧ Valid Try.prog 116 sGoodB.spec :=
  AllOK.head (AllOK.d mixed ((((AllOK.nil Try.prog).and ok60).and ok57).and ok119) Try.func116 (by kernel_rfl) sGoodB (fun x => (invs [(10, inv116 x.1)])) (fun x => noInv) fun x h => vc116 x.1 h)
set_option maxRecDepth 100000 in
theorem ok138 : Callable Try.prog 138 ∧ Valid Try.prog 138 sUse.spec :=
  AllOK.head (AllOK.d mixed ((AllOK.nil Try.prog).and ok121) Try.func138 (by kernel_rfl) sUse (fun x => noInv) (fun x => noInv) fun x h => vc138 x.1 x.2.1 h)
set_option maxRecDepth 100000 in
theorem ok142 : Callable Try.prog 142 ∧ Valid Try.prog 142 sUse.spec :=
  AllOK.head (AllOK.d mixed (((AllOK.nil Try.prog).and ok119).and ok116) Try.func142 (by kernel_rfl) sUse (fun x => noInv) (fun x => noInv) fun x h => vc142 x.1 x.2.1 h)
set_option maxRecDepth 100000 in
theorem ok137 : Callable Try.prog 137 ∧ Valid Try.prog 137 sRoom.spec :=
  AllOK.head (AllOK.d mixed (((AllOK.nil Try.prog).and ok140).and ok121) Try.func137 (by kernel_rfl) sRoom (fun x => noInv) (fun x => noInv) fun x h => vc137 x.1 x.2.1 h)
set_option maxRecDepth 100000 in
theorem ok62 : Callable Try.prog 62 ∧ Valid Try.prog 62 sRoom.spec :=
  AllOK.head (AllOK.d mixed ((((AllOK.nil Try.prog).and ok119).and ok57).and ok116) Try.func62 (by kernel_rfl) sRoom (fun x => noInv) (fun x => noInv) fun x h => vc62 x.1 x.2.1 h)
set_option maxRecDepth 100000 in
theorem ok141 : Callable Try.prog 141 ∧ Valid Try.prog 141 sTake.spec :=
  AllOK.head (AllOK.d mixed ((((AllOK.nil Try.prog).and ok140).and ok139).and ok138) Try.func141 (by kernel_rfl) sTake (fun x => noInv) (fun x => noInv) fun x h => vc141 x.1 x.2.1 h)
set_option maxRecDepth 100000 in
theorem ok143 : Callable Try.prog 143 ∧ Valid Try.prog 143 sTake.spec :=
  AllOK.head (AllOK.d mixed ((((AllOK.nil Try.prog).and ok57).and ok118).and ok142) Try.func143 (by kernel_rfl) sTake (fun x => noInv) (fun x => noInv) fun x h => vc143 x.1 x.2.1 h)
set_option maxRecDepth 100000 in
theorem ok107 : Callable Try.prog 107 ∧ Valid Try.prog 107 sSpend.spec :=
  AllOK.head (AllOK.d mixed (((((AllOK.nil Try.prog).and ok141).and ok140).and ok139).and ok138) Try.func107 (by kernel_rfl) sSpend (fun x => noInv) (fun x => noInv) fun x h => vc107 x.1 x.2.1 h)
set_option maxRecDepth 100000 in
theorem ok108 : Callable Try.prog 108 ∧ Valid Try.prog 108 sSpend.spec :=
  AllOK.head (AllOK.d mixed ((((((AllOK.nil Try.prog).and ok62).and ok143).and ok57).and ok118).and ok142) Try.func108 (by kernel_rfl) sSpend (fun x => noInv) (fun x => noInv) fun x h => vc108 x.1 x.2.1 h)
set_option maxRecDepth 100000 in
theorem ok113 : Callable Try.prog 113 ∧ Valid Try.prog 113 sRefill.spec :=
  AllOK.head (AllOK.d mixed (((((AllOK.nil Try.prog).and ok60).and ok57).and ok118).and ok116) Try.func113 (by kernel_rfl) sRefill (fun x => noInv) (fun x => noInv) fun x h => vc113 x.1 h)
set_option maxRecDepth 100000 in
theorem ok115 : Callable Try.prog 115 ∧ Valid Try.prog 115 sNewP.spec :=
  AllOK.head (AllOK.d mixed ((((AllOK.nil Try.prog).and ok121).and ok140).and ok147) Try.func115 (by kernel_rfl) sNewP (fun x => noInv) (fun x => noInv) fun x h => vc115 x.1 x.2.1 x.2.2.1 x.2.2.2.1 x.2.2.2.2.1 h)
set_option maxRecDepth 100000 in
theorem ok133 : Callable Try.prog 133 ∧ Valid Try.prog 133 sNewP.spec :=
  AllOK.head (AllOK.d mixed ((((AllOK.nil Try.prog).and ok116).and ok57).and ok119) Try.func133 (by kernel_rfl) sNewP (fun x => noInv) (fun x => noInv) fun x h => vc133 x.1 x.2.1 x.2.2.1 x.2.2.2.1 x.2.2.2.2.1 h)
set_option maxRecDepth 100000 in
theorem ok146 : Callable Try.prog 146 ∧ Valid Try.prog 146 sChange.spec :=
  AllOK.head (AllOK.d mixed ((((((AllOK.nil Try.prog).and ok140).and ok144).and ok148).and ok139).and ok121) Try.func146 (by kernel_rfl) sChange (fun x => (invs [(11, inv146 x.1 x.2.1 x.2.2.1)])) (fun x => noInv) fun x h => vc146 x.1 x.2.1 x.2.2.1 h)
set_option maxRecDepth 100000 in
theorem ok135 : Callable Try.prog 135 ∧ Valid Try.prog 135 sAt1P.spec :=
  AllOK.head (AllOK.d mixed (AllOK.nil Try.prog) Try.func135 (by kernel_rfl) sAt1P (fun x => noInv) (fun x => noInv) fun x h => vc135 x.1 x.2.1 h)
set_option maxRecDepth 100000 in
theorem ok134 : Callable Try.prog 134 ∧ Valid Try.prog 134 sIdxF.spec :=
  AllOK.head (AllOK.d mixed ((AllOK.nil Try.prog).and ok135) Try.func134 (by kernel_rfl) sIdxF (fun x => (invs [(2, inv134 x.1 x.2.1)])) (fun x => noInv) fun x h => vc134 x.1 x.2.1 h)
set_option maxRecDepth 100000 in
theorem ok104 : Callable Try.prog 104 ∧ Valid Try.prog 104 sAtP.spec :=
  AllOK.head (AllOK.d mixed ((AllOK.nil Try.prog).and ok134) Try.func104 (by kernel_rfl) sAtP (fun x => noInv) (fun x => noInv) fun x h => vc104 x.1 x.2.1 h)
set_option maxRecDepth 100000 in
theorem ok136 : Callable Try.prog 136 ∧ Valid Try.prog 136 sCloneP.spec :=
  AllOK.head (AllOK.d mixed (AllOK.nil Try.prog) Try.func136 (by kernel_rfl) sCloneP (fun x => noInv) (fun x => noInv) fun x h => vc136 x.1 h)
set_option maxRecDepth 100000 in
theorem ok105 : Callable Try.prog 105 ∧ Valid Try.prog 105 sCopyP.spec :=
  AllOK.head (AllOK.d mixed (((AllOK.nil Try.prog).and ok125).and ok136) Try.func105 (by kernel_rfl) sCopyP (fun x => (invs [(3, inv105 x.1)])) (fun x => noInv) fun x h => vc105 x.1 h)
set_option maxRecDepth 100000 in
theorem ok103 : Callable Try.prog 103 ∧ Valid Try.prog 103 sCopyP.spec :=
  AllOK.head (AllOK.d mixed ((AllOK.nil Try.prog).and ok118) Try.func103 (by kernel_rfl) sCopyP (fun x => (invs [(3, inv103 x.1)])) (fun x => noInv) fun x h => vc103 x.1 h)
set_option maxRecDepth 100000 in
theorem ok66 : Callable Try.prog 66 ∧ Valid Try.prog 66 sThr.spec :=
  AllOK.head (AllOK.d mixed (((AllOK.nil Try.prog).and ok121).and ok83) Try.func66 (by kernel_rfl) sThr (fun x => (invs [(4, inv66 x.1.1 x.2.1)])) (fun x => noInv) fun x h => vc66 x.1.1 x.1.2 x.2.1 h)
set_option maxRecDepth 100000 in
theorem ok54 : Callable Try.prog 54 ∧ Valid Try.prog 54 sThr.spec :=
  AllOK.head (AllOK.d mixed (((AllOK.nil Try.prog).and ok116).and ok78) Try.func54 (by kernel_rfl) sThr (fun x => (invs [(4, inv54 x.1.1 x.2.1)])) (fun x => noInv) fun x h => vc54 x.1.1 x.1.2 x.2.1 h)
set_option maxRecDepth 100000 in
theorem ok58 : Callable Try.prog 58 ∧ Valid Try.prog 58 sGetP.spec :=
  AllOK.head (AllOK.d mixed ((AllOK.nil Try.prog).and ok118) Try.func58 (by kernel_rfl) sGetP (fun x => (invs [(2, inv58 x.1 x.2.1)])) (fun x => noInv) fun x h => vc58 x.1 x.2.1 h)
set_option maxRecDepth 100000 in
theorem ok120 : Callable Try.prog 120 ∧ Valid Try.prog 120 sRoom0.spec :=
  AllOK.head (AllOK.d mixed ((((AllOK.nil Try.prog).and ok137).and ok104).and ok73) Try.func120 (by kernel_rfl) sRoom0 (fun x => (invs [(3, inv120 x.1.1 x.2.1 x.2.2.1 x.2.2.2.1)])) (fun x => noInv) fun x h => vc120 x.1.1 x.1.2 x.2.1 x.2.2.1 x.2.2.2.1 h)
set_option maxRecDepth 100000 in
theorem ok106 : Callable Try.prog 106 ∧ Valid Try.prog 106 sBlk0.spec :=
  AllOK.head (AllOK.d mixed ((((AllOK.nil Try.prog).and ok137).and ok104).and ok73) Try.func106 (by kernel_rfl) sBlk0 (fun x => (invs [(2, inv106 x.1.1 x.2.1 x.2.2.1 x.2.2.2.1)])) (fun x => noInv) fun x h => vc106 x.1.1 x.1.2 x.2.1 x.2.2.1 x.2.2.2.1 h)
set_option maxRecDepth 100000 in
theorem ok65 : Callable Try.prog 65 ∧ Valid Try.prog 65 sRoomT.spec :=
  AllOK.head (AllOK.d mixed ((((AllOK.nil Try.prog).and ok120).and ok104).and ok66) Try.func65 (by kernel_rfl) sRoomT (fun x => noInv) (fun x => noInv) fun x h => vc65 x.1.1 x.1.2 x.2.1 x.2.2.1 x.2.2.2.1 h)
set_option maxRecDepth 100000 in
theorem ok63 : Callable Try.prog 63 ∧ Valid Try.prog 63 sBlkT.spec :=
  AllOK.head (AllOK.d mixed (((AllOK.nil Try.prog).and ok106).and ok66) Try.func63 (by kernel_rfl) sBlkT (fun x => noInv) (fun x => noInv) fun x h => vc63 x.1.1 x.1.2 x.2.1 x.2.2.1 x.2.2.2.1 h)
set_option maxRecDepth 100000 in
theorem ok68 : Callable Try.prog 68 ∧ Valid Try.prog 68 sBlkT.spec :=
  AllOK.head (AllOK.d mixed (((((AllOK.nil Try.prog).and ok62).and ok58).and ok54).and ok21) Try.func68 (by kernel_rfl) sBlkT (fun x => (invs [(5, inv68 x.1.1 x.1.2 x.2.1 x.2.2.1 x.2.2.2.1)])) (fun x => noInv) fun x h => vc68 x.1.1 x.1.2 x.2.1 x.2.2.1 x.2.2.2.1 h)
set_option maxRecDepth 100000 in
theorem ok42 : Callable Try.prog 42 ∧ Valid Try.prog 42 sSpT.spec :=
  AllOK.head (AllOK.d mixed (((((((AllOK.nil Try.prog).and ok73).and ok107).and ok106).and ok105).and ok104).and ok66) Try.func42 (by kernel_rfl) sSpT (fun x => (invs [(13, inv42 x.1.1 x.2.1 x.2.2.1 x.2.2.2.1)])) (fun x => noInv) fun x h => vc42 x.1.1 x.1.2 x.2.1 x.2.2.1 x.2.2.2.1 h)
set_option maxRecDepth 100000 in
theorem ok43 : Callable Try.prog 43 ∧ Valid Try.prog 43 sSpT.spec :=
  AllOK.head (AllOK.d mixed ((((((((AllOK.nil Try.prog).and ok64).and ok108).and ok68).and ok21).and ok103).and ok76).and ok54) Try.func43 (by kernel_rfl) sSpT (fun x => (invs [(11, inv43 x.1.1 x.1.2 x.2.1 x.2.2.1 x.2.2.2.1)])) (fun x => noInv) fun x h => vc43 x.1.1 x.1.2 x.2.1 x.2.2.1 x.2.2.2.1 h)
set_option maxRecDepth 100000 in
theorem ok49 : Callable Try.prog 49 ∧ Valid Try.prog 49 sRfT.spec :=
  AllOK.head (AllOK.d mixed (((((AllOK.nil Try.prog).and ok64).and ok113).and ok103).and ok54) Try.func49 (by kernel_rfl) sRfT (fun x => (invs [(5, inv49 x.2.1 x.2.2.1)])) (fun x => noInv) fun x h => vc49 x.1.1 x.1.2 x.2.1 x.2.2.1 h)
set_option maxRecDepth 100000 in
theorem ok61 : Callable Try.prog 61 ∧ Valid Try.prog 61 sSameP.spec :=
  AllOK.head (AllOK.d mixed (AllOK.nil Try.prog) Try.func61 (by kernel_rfl) sSameP (fun x => (invs [(4, inv61 x.1 x.2.1)])) (fun x => noInv) fun x h => vc61 x.1 x.2.1 h)
set_option maxRecDepth 100000 in
theorem ok114 : Callable Try.prog 114 ∧ Valid Try.prog 114 sKept.spec :=
  AllOK.head (AllOK.d mixed ((((AllOK.nil Try.prog).and ok146).and ok105).and ok121) Try.func114 (by kernel_rfl) sKept (fun x => (invs [(2, inv114 x.1 x.2.1 x.2.2.2.2.1 x.2.2.2.2.2.1)])) (fun x => noInv) fun x h => vc114 x.1 x.2.1 x.2.2.1 x.2.2.2.1 x.2.2.2.2.1 x.2.2.2.2.2.1 h)
set_option maxRecDepth 100000 in
theorem ok51 : Callable Try.prog 51 ∧ Valid Try.prog 51 sSync.spec :=
  AllOK.head (AllOK.d mixed ((((AllOK.nil Try.prog).and ok115).and ok114).and ok83) Try.func51 (by kernel_rfl) sSync (fun x => (invs [(5, inv51 x.1.1 x.2.1 x.2.2.1 x.2.2.2.1 x.2.2.2.2.1 x.2.2.2.2.2.1)])) (fun x => noInv) fun x h => vc51 x.1.1 x.1.2 x.2.1 x.2.2.1 x.2.2.2.1 x.2.2.2.2.1 x.2.2.2.2.2.1 h)
set_option maxRecDepth 100000 in
theorem ok53 : Callable Try.prog 53 ∧ Valid Try.prog 53 sNewT.spec :=
  AllOK.head (AllOK.d mixed ((AllOK.nil Try.prog).and ok51) Try.func53 (by kernel_rfl) sNewT (fun x => noInv) (fun x => noInv) fun x h => vc53 x.1.1 x.1.2 x.2.1 x.2.2.1 x.2.2.2.1 x.2.2.2.2.1 h)
set_option maxRecDepth 100000 in
theorem ok102 : Callable Try.prog 102 ∧ Valid Try.prog 102 sNewT.spec :=
  AllOK.head (AllOK.d mixed (((AllOK.nil Try.prog).and ok133).and ok78) Try.func102 (by kernel_rfl) sNewT (fun x => (invs [(5, inv102 x.1.1 x.2.1 x.2.2.1 x.2.2.2.1 x.2.2.2.2.1)])) (fun x => noInv) fun x h => vc102 x.1.1 x.1.2 x.2.1 x.2.2.1 x.2.2.2.1 x.2.2.2.2.1 h)
set_option maxRecDepth 100000 in
theorem ok50 : Callable Try.prog 50 ∧ Valid Try.prog 50 sNums.spec :=
  AllOK.head (AllOK.f mixed (((AllOK.nil Try.prog).and ok23).and ok59) Try.func50 (by kernel_rfl) sNums (fun x => (invs [(3, inv50 x.1.1 x.1.2 x.2.1)])) (fun x => noInv) fun x h => vc50 x.1.1 x.1.2 x.2.1 h)
set_option maxRecDepth 100000 in
theorem ok39 : Callable Try.prog 39 ∧ Valid Try.prog 39 sPools.spec :=
  AllOK.head (AllOK.f mixed (((((((((AllOK.nil Try.prog).and ok49).and ok47).and ok59).and ok43).and ok41).and ok102).and ok23).and ok50) Try.func39 (by kernel_rfl) sPools (fun x => (invs [(4, inv39 x.1.1 x.1.2 x.2.1.1 x.2.1.2 x.2.2.1)])) (fun x => noInv) fun x h => vc39 x.1.1 x.1.2 x.2.1.1 x.2.1.2 x.2.2.1 h)
set_option maxRecDepth 100000 in
theorem ok38 : Callable Try.prog 38 ∧ Valid Try.prog 38 sSane18.spec :=
  AllOK.head (AllOK.d mixed ((((((AllOK.nil Try.prog).and ok63).and ok42).and ok53).and ok22).and ok70) Try.func38 (by kernel_rfl) sSane18 (fun x => noInv) (fun x => noInv) fun x h => vc38 () h)
set_option maxRecDepth 100000 in
theorem walk10 (a0 : Option Addr) (len0 cap0 : Nat) (z0 : List Int) (w : World) (w0 : IsRow .i64 w a0 len0 cap0 z0) : Calls Try.prog 10 #[.slice a0 len0 cap0] w fun e w' => e = .returned (.bool true) ∧ Below w.heap.size w w' :=
  law_ofD (EV Try.prog [(14, sLight.spec), (38, sSane18.spec), (16, sRoll.spec), (17, sTree.spec), (39, sPools.spec), (23, sNext.spec), (22, sAdd.spec), (58, sGetP.spec), (57, sLimited.spec), (59, sBool.spec), (51, sSync.spec), (54, sThr.spec), (60, sHeld.spec), (61, sSameP.spec)] (invsS [(11, inv10a (z0.take len0)), (24, inv10b)]) noInv) (((((((((((((((AllOK.nil Try.prog).and ok61).and ok60).and ok54).and ok51).and ok59).and ok57).and ok58).and ok22).and ok23).and ok39).and ok17).and ok16).and ok38).and ok14) mixed Try.func10 (avs := [.irec true 0 (z0.take len0)]) (xs := [.slice a0 len0 cap0]) (.cons (row_rel w0) .nil) (vc10 (z0.take len0) trivial) rfl rfl rfl rfl
end Go.Proofs.Ytemffnpliflkgaa
