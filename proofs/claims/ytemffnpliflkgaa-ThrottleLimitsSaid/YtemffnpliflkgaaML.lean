/-
  Lemmas and contracts on the way to the laws of this seat; each theorem states its own conditions, and there are no others.
-/
import Derived.Test.YtemffnpliflkgaaRW
import Derived.Test.YtemffnpliflkgaaQB
import Derived.Test.YtemffnpliflkgaaQF
import Derived.Test.YtemffnpliflkgaaE29
namespace Go.Proofs.Ytemffnpliflkgaa
open Go
set_option linter.unusedVariables false
set_option linter.unusedSimpArgs false
set_option linter.unusedVariables false
set_option linter.unusedSimpArgs false
set_option linter.unusedVariables false

def freshS : ByteArray := ⟨#[102, 114, 101, 115, 104]⟩
theorem fresh_err {l : List Nod} {n p : Int} (t : TreeP l n) (hp : p ∈ ids l) : addE l n p freshS = 0 ∨ addE l n p freshS = 7 := by
  have h1 : nameB freshS = true := by decide
  have h2 : hasR l n p = true := by unfold hasR; rw [chkB_iff.2 t.chk, hasB_iff.2 hp]; rfl
  have h3 : soleB l l.length p freshS = true := soleB_iff.2 fun i hi h => by
    have hw := t.word _ (nd_mem hi)
    rw [h.2] at hw
    rcases hw with hw | hw
    · have : bytesOf freshS = bytesOf ByteArray.empty := by rw [hw]
      exact absurd this (by decide)
    · have h2 : bytesOf freshS ∈ wordsS.map bytesOf := List.mem_map_of_mem hw
      exact absurd h2 (by decide)
  rw [addE, if_neg (by rw [chkB_iff.2 t.chk, h1]; simp), if_neg (by rw [h2]; simp), if_neg (by rw [h3]; simp)]
  split <;> simp
def P4 : Pool := ⟨0, 4, 1, 0, 0, [], 0, 0, 0, false⟩
/-- The pool that a group had, or what stands in for it. -/
def oldP (ps : List Pool) (g : Int) : Pool := if hasP ps g = true then atP ps g else P4
structure SyOK (Y : List Nod) (ps : List Pool) (i : Nat) (q b : List Int) : Prop where
  lq : q.length = i
  lb : b.length = i
  ok : ∀ k, k < i → ratesI (q.getD k 0) (b.getD k 0) = true
  lim : ∀ k, k < i → q.getD k 0 = 4611686018427387904 → (oldP ps (nd Y k).id).q = 4611686018427387904
theorem SyOK.zero (Y : List Nod) (ps : List Pool) : SyOK Y ps 0 [] [] := ⟨rfl, rfl, fun i hi => absurd hi (Nat.not_lt_zero _), fun i hi => absurd hi (Nat.not_lt_zero _)⟩
theorem SyOK.snoc {Y : List Nod} {ps : List Pool} {n : Nat} {q b : List Int} (h : SyOK Y ps n q b) {x y : Int} (e : ratesI x y = true) (e2 : x = 4611686018427387904 → (oldP ps (nd Y n).id).q = 4611686018427387904) : SyOK Y ps (n + 1) (q ++ [x]) (b ++ [y]) := by
  refine ⟨by rw [List.length_append, h.lq]; rfl, by rw [List.length_append, h.lb]; rfl, fun i hi => ?_, fun i hi hq => ?_⟩
  · rw [getD_snoc, getD_snoc, h.lq, h.lb]
    by_cases c : i < n
    · rw [if_pos c, if_pos c]; exact h.ok i c
    · rw [if_neg c, if_neg c, if_pos (by omega), if_pos (by omega)]; exact e
  · rw [getD_snoc, h.lq] at hq
    by_cases c : i < n
    · rw [if_pos c] at hq; exact h.lim i c hq
    · have e3 : i = n := by omega
      rw [if_neg c, if_pos e3] at hq
      rw [e3]
      exact e2 hq
theorem SyOK.bl {Y : List Nod} {ps : List Pool} {n : Nat} {q b : List Int} (h : SyOK Y ps n q b) (hn : n ≤ 1000) : BL b := by
  refine ⟨fun i hi => ?_, by rw [h.lb]; omega⟩
  rw [h.lb] at hi
  have := ratesI_iff.1 (h.ok i hi)
  omega
theorem old_good {l : List Nod} {n k m : Int} {ps : List Pool} (h : PoolsK l n k m ps) (g : Int) : ratesI (oldP ps g).q (oldP ps g).bu = true := by
  unfold oldP
  rcases idxQ_cases ps g with ⟨i, hi, e1, e2, e3, e4, e5⟩ | ⟨e2, e3, e4, e5⟩
  · rw [if_pos e5, e4]
    exact ratesI_iff.2 (h.thr.good i (by rw [← h.thr.len]; exact hi)).rates
  · rw [if_neg (by rw [e5]; simp)]
    decide
theorem kept_old {l : List Nod} {n k m : Int} {ps : List Pool} (h : PoolsK l n k m ps) {i : Nat} (hi : i < l.length) : keptP ps (nd l i).id (pn ps 0).s k = some (pn ps i) := by
  have hl := h.thr.len
  refine kept_at (fun j hj hk => ?_) (by omega) ?_
  · simp only [isKp, Bool.and_eq_true, decide_eq_true_eq] at hk
    rw [h.thr.grp j (by omega)] at hk
    have := h.thr.chk.asc.lt j i hj hi
    omega
  · simp only [isKp, Bool.and_eq_true, decide_eq_true_eq]
    exact ⟨⟨⟨h.thr.grp i hi, goodB_iff.2 (h.thr.good i hi)⟩, h.sl i hi⟩, h.locs hi⟩
theorem kept_fresh {l : List Nod} {n k m : Int} {ps : List Pool} (h : PoolsK l n k m ps) {s : Int} : keptP ps n s k = none := by
  have hl := h.thr.len
  refine kept_none fun j hj hk => ?_
  simp only [isKp, Bool.and_eq_true, decide_eq_true_eq] at hk
  rw [h.thr.grp j (by omega)] at hk
  have := h.thr.chk.lt_next (i := j) (by omega)
  omega
/-- What Sync makes of one group. -/
structure SyIs (ps : List Pool) (n x y : Int) (P : Pool) : Prop where
  good : Good P
  len : (P.l.length : Int) = 2
  fresh : P.g = n → P.le + P.l.sum = P.q ∧ P.pe = 1
  old : P.g ≠ n → hasP ps P.g = true ∧ ((atP ps P.g).q = x ∧ (atP ps P.g).bu = y → atP ps P.g = P) ∧ (¬ ((atP ps P.g).q = x ∧ (atP ps P.g).bu = y) → P.le + P.l.sum = min ((atP ps P.g).le + (atP ps P.g).l.sum) (x + y))
theorem sync_is {l : List Nod} {n m p : Int} {ps : List Pool} {q b : List Int} (h : PoolsK l n 2 m ps) (hA : addE l n p freshS = 0) (hY : SyOK (addL l n p freshS) ps (addL l n p freshS).length q b) {i : Nat} (hi : i < (addL l n p freshS).length) :
    (syI (addL l n p freshS) ps q b (pn ps 0).s 2 i).2 = 0 ∧ (syI (addL l n p freshS) ps q b (pn ps 0).s 2 i).1.g = (nd (addL l n p freshS) i).id ∧ SyIs ps n (q.getD i 0) (b.getD i 0) (syI (addL l n p freshS) ps q b (pn ps 0).s 2 i).1 := by
  have hr := hY.ok i hi
  have hlim := hY.lim i hi
  have hcY := add_chk hA
  have hmax := hcY.id_max hi
  have eL : addL l n p freshS = l ++ [⟨n, p, freshS, 0, 0, 0⟩] := by rw [addL, if_pos hA]
  have hl := h.thr.len
  have g0 := h.thr.good 0 h.thr.chk.len1
  rw [eL] at hi hlim hmax ⊢
  rw [List.length_append] at hi
  simp only [List.length_cons, List.length_nil] at hi
  unfold syI
  by_cases c : i < l.length
  · rw [nd_append c] at hlim ⊢
    have hg := h.thr.good i c
    obtain ⟨a1, a2, a3⟩ := h.thr.at c
    have hgi := h.thr.grp i c
    have hlt := h.thr.chk.lt_next c
    have eo : oldP ps (nd l i).id = pn ps i := by rw [oldP, if_pos a3, a2]
    rw [eo] at hlim
    rw [sync_some (kept_old h c) hr]
    dsimp only
    by_cases e : (pn ps i).q = q.getD i 0 ∧ (pn ps i).bu = b.getD i 0
    · rw [if_pos e]
      refine ⟨rfl, hgi, hg, h.locs c, fun e2 => by omega, fun _ => ?_⟩
      rw [hgi, a2]
      exact ⟨a3, fun _ => rfl, fun e2 => absurd e e2⟩
    · rw [if_neg e]
      have hc := ch_changed hg hr
      have hcg : (chD (pn ps i) (q.getD i 0) (b.getD i 0)).g = (nd l i).id := hgi
      refine ⟨rfl, hcg, ch_good hg hr, by rw [hc.len]; exact h.locs c, fun e2 => by rw [hcg] at e2; omega, fun _ => ?_⟩
      rw [hcg, a2]
      refine ⟨a3, fun e2 => absurd e2 e, fun _ => ?_⟩
      have hq : q.getD i 0 ≠ 4611686018427387904 := fun e2 => by
        have h3 := hlim e2
        have h4 := ratesI_iff.1 hr
        have h5 := hg.rates
        unfold Rates at h5
        exact e ⟨by omega, by omega⟩
      have := hc.held
      rw [if_neg hq] at this
      exact this
  · have e : i = l.length := by omega
    subst e
    rw [nd_last] at hlim hmax ⊢
    dsimp only at hlim hmax ⊢
    have hno : hasP ps n = false := by
      rcases idxQ_cases ps n with ⟨i, hi2, e1, e2, e3, e4, e5⟩ | ⟨e2, e3, e4, e5⟩
      · rw [h.thr.grp i (by omega)] at e1
        have := h.thr.chk.lt_next (i := i) (by omega)
        omega
      · exact e5
    have eo : (oldP ps n).q = 4 := by rw [oldP, if_neg (by rw [hno]; simp)]; rfl
    have hq : q.getD l.length 0 ≠ 4611686018427387904 := fun e2 => by
      have := hlim e2
      rw [eo] at this; omega
    have hs0 := g0.s0
    have hs1 := g0.s1
    have hN := new_good (c := 2) hmax (ratesI_iff.1 hr) ⟨hs0, hs1⟩ ⟨by omega, by omega⟩
    have eN : newG n (q.getD l.length 0) (b.getD l.length 0) (pn ps 0).s 2 = (newP n (q.getD l.length 0) (b.getD l.length 0) (pn ps 0).s 2, 0) := by
      rw [newG, if_pos ⟨by omega, by omega, goodB_iff.2 hN⟩]; rfl
    rw [sync_none (kept_fresh h), eN]
    refine ⟨rfl, rfl, hN, by simp [newP], fun _ => ⟨?_, rfl⟩, fun e2 => absurd rfl e2⟩
    show (if q.getD l.length 0 = 4611686018427387904 then 0 else q.getD l.length 0) + (List.replicate 2 (0 : Int)).sum = q.getD l.length 0
    rw [if_neg hq]
    simp
theorem syncs {l : List Nod} {n m p : Int} {ps : List Pool} {q b : List Int} (h : PoolsK l n 2 m ps) (hA : addE l n p freshS = 0) (hY : SyOK (addL l n p freshS) ps (addL l n p freshS).length q b) :
    syE (addL l n p freshS) (addN l n p freshS) ps q b (pn ps 0).s 2 = 0 ∧ thrB (addL l n p freshS) (addN l n p freshS) (syL (addL l n p freshS) (addN l n p freshS) ps q b (pn ps 0).s 2) = true ∧ (syL (addL l n p freshS) (addN l n p freshS) ps q b (pn ps 0).s 2).length = (addL l n p freshS).length ∧
    ∀ i, i < (addL l n p freshS).length → SyIs ps n (q.getD i 0) (b.getD i 0) (pn (syL (addL l n p freshS) (addN l n p freshS) ps q b (pn ps 0).s 2) i) := by
  have hc := add_chk hA
  have hE : syE (addL l n p freshS) (addN l n p freshS) ps q b (pn ps 0).s 2 = 0 := by
    rw [syE, if_neg (by rw [chkB_iff.2 hc, hY.lq, hY.lb]; simp), if_pos]
    exact syOk_iff.2 fun i hi => (sync_is h hA hY hi).1
  have eL : syL (addL l n p freshS) (addN l n p freshS) ps q b (pn ps 0).s 2 = syT (addL l n p freshS) ps q b (pn ps 0).s 2 (addL l n p freshS).length := by rw [syL, if_pos hE]
  have e : ∀ i, i < (addL l n p freshS).length → pn (syL (addL l n p freshS) (addN l n p freshS) ps q b (pn ps 0).s 2) i = (syI (addL l n p freshS) ps q b (pn ps 0).s 2 i).1 := fun i hi => by
    rw [eL, pn_get (by rw [syT_len]; exact hi)]
    simp [syT]
  have l1 := hc.len1
  refine ⟨hE, thrB_iff.2 ⟨hc, by rw [eL, syT_len], fun i hi => by rw [e i hi]; exact (sync_is h hA hY hi).2.1, fun i hi => by rw [e i hi]; exact (sync_is h hA hY hi).2.2.good, fun i hi => ?_⟩, by rw [eL, syT_len], fun i hi => by rw [e i hi]; exact (sync_is h hA hY hi).2.2⟩
  have a := (sync_is h hA hY hi).2.2.len
  have b := (sync_is h hA hY (i := 0) (by omega)).2.2.len
  rw [e i hi, e 0 (by omega)]
  omega
end Go.Proofs.Ytemffnpliflkgaa
namespace Go.Proofs.Ytemffnpliflkgaa
open Go
set_option linter.unusedVariables false

/-- Ascending, each once. -/
def AscI (l : List Int) : Prop := ∀ i j : Nat, i < j → j < l.length → l.getD i 0 < l.getD j 0
theorem asc_nil : AscI [] := fun i j _ h => absurd h (by simp)
/-- A number put into its place. -/
def insL (l : List Int) (k : Nat) (x : Int) : List Int := l.take k ++ x :: l.drop k
theorem ins_len (l : List Int) {k : Nat} (x : Int) (h : k ≤ l.length) : (insL l k x).length = l.length + 1 := by
  simp [insL]; omega
theorem ins_get (l : List Int) {k : Nat} (x : Int) (h : k ≤ l.length) (i : Nat) : (insL l k x).getD i 0 = if i < k then l.getD i 0 else if i = k then x else l.getD (i - 1) 0 := by
  have e1 : (l.take k).length = k := by simp; omega
  simp only [insL, List.getD_eq_getElem?_getD]
  by_cases h1 : i < k
  · rw [if_pos h1, List.getElem?_append_left (by omega), List.getElem?_take_of_lt h1]
  · rw [if_neg h1, List.getElem?_append_right (by omega), e1]
    by_cases h2 : i = k
    · rw [if_pos h2, h2, Nat.sub_self]; rfl
    · rw [if_neg h2]
      obtain ⟨m, hm⟩ : ∃ m, i - k = m + 1 := ⟨i - k - 1, by omega⟩
      rw [hm, List.getElem?_cons_succ, List.getElem?_drop]
      congr 2
      omega
theorem ins_mem (l : List Int) {k : Nat} (x z : Int) : z ∈ insL l k x ↔ z = x ∨ z ∈ l := by
  rw [insL, List.mem_append, List.mem_cons]
  conv => rhs; rw [← List.take_append_drop k l, List.mem_append]
  constructor
  · rintro (h | h | h) <;> simp [h]
  · rintro (h | h | h) <;> simp [h]
theorem ins_asc {l : List Int} {k : Nat} {x : Int} (h : AscI l) (hk : k ≤ l.length) (hr : ∀ j, k ≤ j → j < l.length → x < l.getD j 0) (hl : 0 < k → l.getD (k - 1) 0 < x) : AscI (insL l k x) := by
  intro i j hij hj
  rw [ins_len l x hk] at hj
  rw [ins_get l x hk, ins_get l x hk]
  have lt : ∀ i, i < k → l.getD i 0 < x := fun i hi => by
    have h1 := hl (by omega)
    by_cases e : i = k - 1
    · rw [e]; exact h1
    · have := h i (k - 1) (by omega) (by omega); omega
  by_cases c1 : i < k
  · rw [if_pos c1]
    by_cases c2 : j < k
    · rw [if_pos c2]; exact h i j hij (by omega)
    · rw [if_neg c2]
      by_cases c3 : j = k
      · rw [if_pos c3]; exact lt i c1
      · rw [if_neg c3]
        have := lt i c1
        have := hr (j - 1) (by omega) (by omega)
        omega
  · rw [if_neg c1, if_neg (by omega : ¬ j < k), if_neg (by omega : ¬ j = k)]
    by_cases c4 : i = k
    · rw [if_pos c4]; exact hr (j - 1) (by omega) (by omega)
    · rw [if_neg c4]; exact h (i - 1) (j - 1) (by omega) (by omega)
theorem asc_ins_ex {l : List Int} (h : AscI l) (x : Int) : ∃ y, AscI y ∧ (∀ z, z ∈ y ↔ z = x ∨ z ∈ l) ∧ y.length ≤ l.length + 1 := by
  by_cases hm : x ∈ l
  · exact ⟨l, h, fun z => ⟨.inr, fun hz => by rcases hz with rfl | hz; exact hm; exact hz⟩, by omega⟩
  · have key : ∀ n : Nat, n ≤ l.length → ∃ k, k ≤ n ∧ (∀ j, k ≤ j → j < n → x < l.getD j 0) ∧ (0 < k → l.getD (k - 1) 0 < x) := by
      intro n
      induction n with
      | zero => exact fun _ => ⟨0, by omega, fun j h1 h2 => by omega, fun h => by omega⟩
      | succ n ih =>
        intro hn
        by_cases c : x < l.getD n 0
        · obtain ⟨k, h1, h2, h3⟩ := ih (by omega)
          refine ⟨k, by omega, fun j hj1 hj2 => ?_, h3⟩
          by_cases e : j = n
          · rw [e]; exact c
          · exact h2 j hj1 (by omega)
        · refine ⟨n + 1, by omega, fun j h1 h2 => by omega, fun _ => ?_⟩
          have h4 : l.getD n 0 ∈ l := by
            rw [List.getD_eq_getElem?_getD, List.getElem?_eq_getElem (by omega)]
            exact List.getElem_mem _
          have h5 : l.getD n 0 ≠ x := fun e => hm (e ▸ h4)
          show l.getD n 0 < x
          omega
    obtain ⟨k, h1, h2, h3⟩ := key l.length (Nat.le_refl _)
    exact ⟨insL l k x, ins_asc h h1 h2 h3, fun z => ins_mem l x z, Nat.le_of_eq (ins_len l x h1)⟩
theorem sorted_ex : ∀ l : List Int, ∃ y : List Int, (AscI y ∧ ∀ z, z ∈ y ↔ z ∈ l) ∧ y.length ≤ l.length
  | [] => ⟨[], ⟨asc_nil, fun z => Iff.rfl⟩, Nat.le_refl _⟩
  | x :: l => by
    obtain ⟨y, ⟨h1, h2⟩, h3⟩ := sorted_ex l
    obtain ⟨z, g1, g2, g3⟩ := asc_ins_ex h1 x
    exact ⟨z, ⟨g1, fun w => by rw [g2, h2, List.mem_cons]⟩, by rw [List.length_cons]; omega⟩
/-- What the copying makes of a list with one more place. -/
theorem copy_ins {l : List Int} {k : Nat} {x : Int} (h : k ≤ l.length) : (copyL (l ++ [0]) (k + 1) (((l ++ [0]).drop k).take (l.length + 1 - (k + 1)))).set k x = insL l k x := by
  have e1 : ((l ++ [0]).drop k).take (l.length + 1 - (k + 1)) = l.drop k := by
    rw [List.drop_append_of_le_length h, List.take_append_of_le_length (by simp), List.take_of_length_le (by simp)]
  have e2 : (l ++ [0]).take (k + 1) = l.take k ++ [(l ++ [0]).getD k 0] := by
    rw [List.take_add_one, List.getElem?_eq_getElem (by simp; omega), List.take_append_of_le_length h, List.getD_eq_getElem?_getD, List.getElem?_eq_getElem (by simp; omega)]
    rfl
  have e3 : (l ++ [0]).drop (k + 1 + (l.drop k).length) = [] := List.drop_eq_nil_of_le (by simp; omega)
  rw [e1, copyL, e2, e3, List.append_nil, List.append_assoc, List.set_append_right _ _ (by simp; omega)]
  have e4 : k - (l.take k).length = 0 := by simp; omega
  rw [e4, insL]
  rfl
end Go.Proofs.Ytemffnpliflkgaa

namespace Go.Proofs.Ytemffnpliflkgaa
open Go
set_option linter.unusedVariables false

def sLeft : DS := ⟨_, Sig.dice Sig.nil (fun _ => rfl), fun x => DOK x.1, fun x => .bool (decide (x.1.2 < x.1.1.length)), fun x => [(0, diceO x.1)]⟩
def sSorted : FSp := ⟨_, one pkInts, fun x => x.1.length ≤ 1000, List Int, fun x y => (AscI y ∧ ∀ z, z ∈ y ↔ z ∈ x.1) ∧ y.length ≤ x.1.length, fun _ _ => .own 101 0, fun _ y => [(101, .rows 3 0 y)], fun x _ => sorted_ex x.1⟩


set_option maxRecDepth 100000 in
theorem vc55 (L : List Int) (k : Int) (hx : DOK (L, k)) : sLeft.vc (EV Try.prog [] noInv noInv) Try.f55 ((L, k), ()) := by
  have e : (∃ (y : Unit), True ∧ decide (k < (↑L.length : Int)) = decide (k < (↑L.length : Int)) ∧ L = L ∧ k = k) = sLeft.vc (EV Try.prog [] noInv noInv) Try.f55 ((L, k), ()) := by kernel_rfl
  rw [← e]
  clear e
  simp only [and_true, exists_const]

def inv56a (l : List Int) (s : St) : Inv where
  X := Int × List Int
  ok := fun x => (0 ≤ x.1 ∧ x.1 ≤ l.length) ∧ (AscI x.2 ∧ ∀ z, z ∈ x.2 ↔ z ∈ l.take x.1.toNat) ∧ x.2.length ≤ x.1
  sl := fun x => [(4, .int .i64 x.1), (3, .own 101 0)]
  hp := fun x => [(101, .rows 3 0 x.2)]
  keep := []
  me := fun x => (l.length - x.1).toNat
def inv56b (l : List Int) (s : St) : Inv where
  X := Int
  ok := fun k => (0 ≤ k ∧ k ≤ (contI s (s.t 3)).length) ∧ ∀ j : Nat, k ≤ j → j < (contI s (s.t 3)).length → l.getD (slotI s 4).toNat 0 < (contI s (s.t 3)).getD j 0
  sl := fun k => [(5, .int .i64 k), (3, .own 101 0)]
  hp := fun k => [(101, .rows 3 0 (contI s (s.t 3)))]
  keep := []
  me := fun k => k.toNat
set_option maxRecDepth 100000 in
theorem vc56 (l : List Int) (hx : l.length ≤ 1000) : sSorted.vc (EV Try.prog [] (invsS [(3, inv56a l), (6, inv56b l)]) noInv) Try.f56 (l, ()) := by
  have e : ((∃ (x : Int × List Int), ((0 ≤ x.fst ∧ x.fst ≤ (↑l.length : Int)) ∧ (AscI x.snd ∧ ∀ (z : Int), z ∈ x.snd ↔ z ∈ List.take x.fst.toNat l) ∧ (↑x.snd.length : Int) ≤ x.fst) ∧ 0 = x.fst ∧ NilL Int = x.snd) ∧ ∀ (x : Int × List Int), (0 ≤ x.fst ∧ x.fst ≤ (↑l.length : Int)) ∧ (AscI x.snd ∧ ∀ (z : Int), z ∈ x.snd ↔ z ∈ List.take x.fst.toNat l) ∧ (↑x.snd.length : Int) ≤ x.fst → (decide (x.fst < (↑l.length : Int)) = true → (∃ (x_1 : Int), ((0 ≤ x_1 ∧ x_1 ≤ (↑x.snd.length : Int)) ∧ ∀ (j : Nat), x_1 ≤ (↑j : Int) → j < x.snd.length → l.getD x.fst.toNat 0 < x.snd.getD j 0) ∧ (↑x.snd.length : Int) = x_1 ∧ x.snd = x.snd) ∧ ∀ (x_1 : Int), ((0 ≤ x_1 ∧ x_1 ≤ (↑x.snd.length : Int)) ∧ ∀ (j : Nat), x_1 ≤ (↑j : Int) → j < x.snd.length → l.getD x.fst.toNat 0 < x.snd.getD j 0) → (decide (0 < x_1) = true → decide (0 < x_1) = true) ∧ (decide (0 < x_1) = true → decide (0 < x_1) = true) ∧ (decide (0 < x_1) = true → 0 ≤ x.fst ∧ x.fst < (↑l.length : Int)) ∧ (decide (0 < x_1) = true → decide (0 < x_1) = true) ∧ (decide (0 < x_1) = true → decide (0 < x_1) = true) ∧ (decide (0 < x_1) = true → i64R (x_1 - 1)) ∧ (decide (0 < x_1) = true → decide (0 < x_1) = true) ∧ (decide (0 < x_1) = true → decide (0 < x_1) = true) ∧ (decide (0 < x_1) = true → 0 ≤ x_1 - 1 ∧ x_1 - 1 < (↑x.snd.length : Int)) ∧ (decide (0 < x_1) = true → decide (0 < x_1) = true) ∧ (decide (0 < x_1) = true → decide (0 < x_1) = true) ∧ (decide (0 < x_1) = true → decide (0 < x_1) = true) ∧ (decide (0 < x_1) = true → decide (0 < x_1) = true) ∧ ((decide (0 < x_1) && decide (l.getD x.fst.toNat 0 < x.snd.getD (x_1 - 1).toNat 0)) = true → i64R (x_1 - 1) ∧ ∃ (x' : Int), ((0 ≤ x' ∧ x' ≤ (↑x.snd.length : Int)) ∧ ∀ (j : Nat), x' ≤ (↑j : Int) → j < x.snd.length → l.getD x.fst.toNat 0 < x.snd.getD j 0) ∧ x'.toNat < x_1.toNat ∧ x_1 - 1 = x' ∧ x.snd = x.snd) ∧ ((decide (0 < x_1) && decide (l.getD x.fst.toNat 0 < x.snd.getD (x_1 - 1).toNat 0)) = false → (decide (0 < x_1) = true → decide (0 < x_1) = true) ∧ (decide (0 < x_1) = true → i64R (x_1 - 1)) ∧ (decide (0 < x_1) = true → decide (0 < x_1) = true) ∧ (decide (0 < x_1) = true → decide (0 < x_1) = true) ∧ (decide (0 < x_1) = true → 0 ≤ x_1 - 1 ∧ x_1 - 1 < (↑x.snd.length : Int)) ∧ (decide (0 < x_1) = true → decide (0 < x_1) = true) ∧ (decide (0 < x_1) = true → decide (0 < x_1) = true) ∧ (decide (0 < x_1) = true → decide (0 < x_1) = true) ∧ (decide (0 < x_1) = true → 0 ≤ x.fst ∧ x.fst < (↑l.length : Int)) ∧ (decide (0 < x_1) = true → decide (0 < x_1) = true) ∧ (decide (0 < x_1) = true → decide (0 < x_1) = true) ∧ (decide (0 < x_1) = true → decide (0 < x_1) = true) ∧ (decide (0 < x_1) = true → decide (0 < x_1) = true) ∧ ((decide (0 < x_1) && decide (x.snd.getD (x_1 - 1).toNat 0 = l.getD x.fst.toNat 0)) = true → i64R (x.fst + 1) ∧ ∃ (x' : Int × List Int), ((0 ≤ x'.fst ∧ x'.fst ≤ (↑l.length : Int)) ∧ (AscI x'.snd ∧ ∀ (z : Int), z ∈ x'.snd ↔ z ∈ List.take x'.fst.toNat l) ∧ (↑x'.snd.length : Int) ≤ x'.fst) ∧ ((↑l.length : Int) - x'.fst).toNat < ((↑l.length : Int) - x.fst).toNat ∧ x.fst + 1 = x'.fst ∧ x.snd = x'.snd) ∧ ((decide (0 < x_1) && decide (x.snd.getD (x_1 - 1).toNat 0 = l.getD x.fst.toNat 0)) = false → x.snd.length + (0 :: NilL Int).length ≤ (68719476736 : Nat) ∧ i64R (x_1 + 1) ∧ (0 ≤ x_1 + 1 ∧ x_1 + 1 ≤ (↑(x.snd ++ 0 :: NilL Int).length : Int)) ∧ (0 ≤ x_1 ∧ x_1 ≤ (↑(x.snd ++ 0 :: NilL Int).length : Int)) ∧ (0 ≤ x.fst ∧ x.fst < (↑l.length : Int)) ∧ (0 ≤ x_1 ∧ x_1 < (↑(copyL (x.snd ++ 0 :: NilL Int) (x_1 + 1).toNat (List.take ((↑(x.snd ++ 0 :: NilL Int).length : Int) - (x_1 + 1)).toNat (List.take ((↑(x.snd ++ 0 :: NilL Int).length : Int) - x_1).toNat (List.drop x_1.toNat (x.snd ++ 0 :: NilL Int))))).length : Int)) ∧ i64R (x.fst + 1) ∧ ∃ (x' : Int × List Int), ((0 ≤ x'.fst ∧ x'.fst ≤ (↑l.length : Int)) ∧ (AscI x'.snd ∧ ∀ (z : Int), z ∈ x'.snd ↔ z ∈ List.take x'.fst.toNat l) ∧ (↑x'.snd.length : Int) ≤ x'.fst) ∧ ((↑l.length : Int) - x'.fst).toNat < ((↑l.length : Int) - x.fst).toNat ∧ x.fst + 1 = x'.fst ∧ (copyL (x.snd ++ 0 :: NilL Int) (x_1 + 1).toNat (List.take ((↑(x.snd ++ 0 :: NilL Int).length : Int) - (x_1 + 1)).toNat (List.take ((↑(x.snd ++ 0 :: NilL Int).length : Int) - x_1).toNat (List.drop x_1.toNat (x.snd ++ 0 :: NilL Int))))).set x_1.toNat (l.getD x.fst.toNat 0) = x'.snd))) ∧ (decide (x.fst < (↑l.length : Int)) = false → ∃ (y : List Int), ((AscI y ∧ ∀ (z : Int), z ∈ y ↔ z ∈ l) ∧ y.length ≤ l.length) ∧ x.snd = y)) = sSorted.vc (EV Try.prog [] (invsS [(3, inv56a l), (6, inv56b l)]) noInv) Try.f56 (l, ()) := by kernel_rfl
  rw [← e]
  clear e
  simp only [imp_self, true_and, and_true]
  simp only [Prod.forall, Prod.exists, i64R, Int.reduceNeg, decide_eq_true_eq, decide_eq_false_iff_not, Bool.and_eq_true, Bool.and_eq_false_iff]
  simp only [NilL_eq]
  refine ⟨⟨0, [], ⟨by omega, ⟨asc_nil, fun z => by simp⟩, by simp⟩, rfl, rfl⟩, fun i b hi => ⟨fun hlt => ?_, fun hge => ⟨b, ⟨⟨hi.2.1.1, fun z => by rw [hi.2.1.2 z, List.take_of_length_le (by omega)]⟩, by omega⟩, rfl⟩⟩⟩
  obtain ⟨⟨i0, i1⟩, ⟨ha, hm⟩, hbl⟩ := hi
  have etk : ∀ z, z ∈ l.take (i + 1).toNat ↔ z = l.getD i.toNat 0 ∨ z ∈ l.take i.toNat := fun z => by
    have e : (i + 1).toNat = i.toNat + 1 := by omega
    rw [e, List.take_add_one, List.getElem?_eq_getElem (by omega), List.mem_append, List.getD_eq_getElem?_getD, List.getElem?_eq_getElem (by omega)]
    simp [or_comm]
  generalize l.getD i.toNat 0 = v at *
  refine ⟨⟨b.length, ⟨by omega, fun j h1 h2 => by omega⟩, rfl⟩, fun k hk => ⟨fun _ => by omega, fun _ => by omega, fun _ => by omega, fun h => ⟨by omega, k - 1, ⟨by omega, fun j h1 h2 => ?_⟩, by omega, rfl⟩, fun h => ⟨fun _ => by omega, fun _ => by omega, fun _ => by omega, fun h2 => ⟨by omega, i + 1, b, ⟨by omega, ⟨ha, fun z => ?_⟩, by omega⟩, by omega, rfl, rfl⟩, fun h2 => ?_⟩⟩⟩
  · by_cases e : (j : Int) = k - 1
    · have : j = (k - 1).toNat := by omega
      rw [this]; exact h.2
    · exact hk.2 j (by omega) h2
  · rw [etk, hm]
    refine ⟨.inr, fun hz => ?_⟩
    rcases hz with rfl | hz
    · rw [← hm, ← h2.2]
      exact getD_mem (by omega)
    · exact hz
  · obtain ⟨k', rfl⟩ : ∃ k' : Nat, k = k' := ⟨k.toNat, by omega⟩
    have e1 : ((k' : Int) + 1).toNat = k' + 1 := by omega
    have e2 : (((b ++ [0]).length : Int) - ((k' : Int) + 1)).toNat = b.length + 1 - (k' + 1) := by simp only [List.length_append, List.length_cons, List.length_nil]; omega
    have e3 : (((b ++ [0]).length : Int) - (k' : Int)).toNat = b.length + 1 - k' := by simp only [List.length_append, List.length_cons, List.length_nil]; omega
    have e4 : min (b.length + 1 - (k' + 1)) (b.length + 1 - k') = b.length + 1 - (k' + 1) := by omega
    have hc := copy_ins (l := b) (k := k') (x := v) (by omega)
    rw [e1, e2, e3, Int.toNat_natCast, List.take_take, e4, hc]
    have hlen : (copyL (b ++ [0]) (k' + 1) (((b ++ [0]).drop k').take (b.length + 1 - (k' + 1)))).length = b.length + 1 := by
      have := congrArg List.length hc
      rw [List.length_set, ins_len b v (by omega)] at this
      exact this
    rw [hlen]
    simp only [List.length_append, List.length_cons, List.length_nil]
    have hins := ins_asc (k := k') (x := v) ha (by omega) (fun j h3 h4 => hk.2 j (by omega) h4) (fun h0 => by
      have e5 : ((k' : Int) - 1).toNat = k' - 1 := by omega
      rw [e5] at h h2
      have h3 : ¬ b.getD (k' - 1) 0 = v := h2.resolve_left (by omega)
      have h4 : ¬ v < b.getD (k' - 1) 0 := h.resolve_left (by omega)
      omega)
    refine ⟨by omega, by omega, by omega, by omega, by omega, by omega, by omega, i + 1, insL b k' v, ⟨by omega, ⟨hins, fun z => ?_⟩, ?_⟩, by omega, rfl, rfl⟩
    · rw [ins_mem, etk, hm]
    · rw [ins_len b v (by omega)]; omega
end Go.Proofs.Ytemffnpliflkgaa
namespace Go.Proofs.Ytemffnpliflkgaa
open Go
set_option linter.unusedVariables false

/-- One more for each number of a list. -/
def incL (f : Int → Int) (L : List Int) : Int → Int := L.foldl (fun f g => updF 0 f g (f g + 1)) f
theorem upd_at (f : Int → Int) (g v x : Int) : updF 0 f g v x = if g = x then v else f x := by
  unfold updF
  by_cases e : x = g
  · rw [if_pos e, if_pos e.symm]
  · rw [if_neg e, if_neg fun c => e c.symm]
theorem incL_step (f : Int → Int) {L : List Int} {j : Nat} (h : j < L.length) : incL f (L.take (j + 1)) = updF 0 (incL f (L.take j)) (L.getD j 0) (incL f (L.take j) (L.getD j 0) + 1) := by
  have e : L.take (j + 1) = L.take j ++ [L.getD j 0] := by
    rw [List.take_add_one, List.getElem?_eq_getElem h, List.getD_eq_getElem?_getD, List.getElem?_eq_getElem h]; rfl
  rw [e, incL, List.foldl_append]; rfl
theorem incL_at : ∀ {L : List Int} (f : Int → Int) (x : Int), L.Nodup → incL f L x = if x ∈ L then f x + 1 else f x
  | [], f, x, _ => by simp [incL]
  | g :: r, f, x, h => by
    rw [List.nodup_cons] at h
    show incL (updF 0 f g (f g + 1)) r x = _
    rw [incL_at _ x h.2, upd_at]
    by_cases e : g = x
    · subst e
      rw [if_neg h.1, if_pos rfl, if_pos (by simp)]
    · rw [if_neg e]
      have : x ∈ g :: r ↔ x ∈ r := by
        rw [List.mem_cons]
        exact ⟨fun c => c.resolve_left fun c => e c.symm, .inr⟩
      simp only [this]
theorem nodup_take {L : List Int} (h : L.Nodup) (j : Nat) : (L.take j).Nodup := h.sublist (List.take_sublist _ _)
theorem AscI.nodup {L : List Int} (h : AscI L) : L.Nodup := by
  rw [List.Nodup, List.pairwise_iff_getElem]
  intro i j hi hj hij
  have := h i j hij hj
  rw [List.getD_eq_getElem?_getD, List.getD_eq_getElem?_getD, List.getElem?_eq_getElem hi, List.getElem?_eq_getElem hj] at this
  simp only [Option.getD_some] at this
  omega
theorem sp1_q {l : List Nod} {n k m : Int} {ps : List Pool} (h : PoolsK l n k m ps) {up : List Int} {c : Int} (h0 : 0 ≤ c) (h1 : c < k) {i : Nat} (hi : i < l.length) : (sp1 ps up c (pn ps i)).q = (pn ps i).q ∧ (sp1 ps up c (pn ps i)).bu = (pn ps i).bu := by
  have hg := h.thr.good i hi
  have hl : c < (pn ps i).l.length := by rw [h.locs hi]; exact h1
  unfold sp1
  split
  · rw [spendG_ok hg h0 hl]
    have := spend_facts hg (c := c.toNat) (by omega)
    exact ⟨this.2.1, this.2.2.1⟩
  · exact ⟨rfl, rfl⟩
theorem id1_q {c : Int} (p : Pool) : (id1 c p).q = p.q ∧ (id1 c p).bu = p.bu := by
  unfold id1
  split
  · rename_i e
    unfold returnG at e ⊢
    split
    · exact ⟨rfl, rfl⟩
    · rename_i e2
      rw [if_neg e2] at e
      exact absurd e e2
  · exact ⟨rfl, rfl⟩
theorem rf1_q {due : List Int} (p : Pool) : (rf1 due p).q = p.q ∧ (rf1 due p).bu = p.bu := by
  unfold rf1
  split
  · rename_i e
    have e := e.1
    unfold refillG at e ⊢
    split
    · rename_i e2; rw [if_pos e2] at e; exact absurd e (by decide)
    · rename_i e2
      rw [if_neg e2] at e
      split
      · rename_i e3; rw [if_pos e3] at e; exact absurd e (by decide)
      · exact ⟨rfl, rfl⟩
  · exact ⟨rfl, rfl⟩
/-- The hard limit: what was spent and what is held, against the periods. -/
structure LimP (l : List Nod) (n k i : Int) (ps : List Pool) (sp pe : Int → Int) : Prop where
  pk : PoolsK l n k (30 + i) ps
  ib : 0 ≤ i ∧ i ≤ 1000
  pe_ : ∀ x, 0 ≤ pe x ∧ pe x ≤ i
  sp_ : ∀ x, 0 ≤ sp x ∧ sp x ≤ i
  lim : ∀ j, j < l.length → (pn ps j).q ≠ 4611686018427387904 → sp (nd l j).id + ((pn ps j).le + (pn ps j).l.sum) ≤ (1 + pe (nd l j).id) * (pn ps j).q + (pn ps j).bu
theorem Good.held {p : Pool} (h : Good p) (hq : p.q ≠ 4611686018427387904) : 0 ≤ p.le + p.l.sum ∧ p.le + p.l.sum ≤ p.q + p.bu ∧ 1 ≤ p.q ∧ p.q ≤ 1000000 ∧ 0 ≤ p.bu ∧ p.bu ≤ p.q := by
  rcases h.lim with ⟨e, _⟩ | ⟨_, h1, h2, h3, h4, h5, h6, h7⟩
  · exact absurd e hq
  · have := sum_nonneg h6
    omega
theorem LimP.start {l : List Nod} {n k : Int} {ps : List Pool} (h : PoolsK l n k 30 ps) : LimP l n k 0 ps (fun _ => 0) (fun _ => 0) := by
  refine ⟨h, by omega, fun _ => ⟨Int.le_refl _, Int.le_refl _⟩, fun _ => ⟨Int.le_refl _, Int.le_refl _⟩, fun j hj hq => ?_⟩
  have := (h.thr.good j hj).held hq
  show (0 : Int) + _ ≤ (1 + 0) * _ + _
  omega
theorem LimP.up {l : List Nod} {n k i : Int} {ps : List Pool} {sp pe : Int → Int} (h : LimP l n k i ps sp pe) (hi : i < 1000) : LimP l n k (i + 1) ps sp pe := by
  have := h.ib
  exact ⟨h.pk.up (by omega), by omega, fun x => by have := h.pe_ x; omega, fun x => by have := h.sp_ x; omega, h.lim⟩
theorem LimP.idle {l : List Nod} {n k i : Int} {ps : List Pool} {sp pe : Int → Int} (h : LimP l n k i ps sp pe) {c : Int} (h0 : 0 ≤ c) (h1 : c < k) (hi : i < 1000) : LimP l n k (i + 1) (idL l n ps c) sp pe := by
  have h' := h.up hi
  refine ⟨h'.pk.idle c, h'.ib, h'.pe_, h'.sp_, fun j hj hq => ?_⟩
  have e : idL l n ps c = ps.map (id1 c) := by rw [idL, if_neg (by rw [thrB_iff.2 h.pk.thr]; simp)]
  rw [e, h.pk.get hj] at hq ⊢
  obtain ⟨q1, q2⟩ := id1_q (c := c) (pn ps j)
  rw [q1] at hq
  rw [q1, q2, idle_held h.pk h0 h1 hj]
  exact h.lim j hj hq
theorem LimP.refill {l : List Nod} {n k i : Int} {ps : List Pool} {sp pe : Int → Int} (h : LimP l n k i ps sp pe) {due S : List Int} (hS : S.Nodup) (hm : ∀ z, z ∈ S ↔ z ∈ due) (hi : i < 1000) : LimP l n k (i + 1) (rfL l n ps due) sp (incL pe S) := by
  have hib := h.ib
  have e1 : (30 + (i + 1) : Int) = 30 + i + 1 := by omega
  refine ⟨by rw [e1]; exact h.pk.refill (by omega) due, by omega, fun x => ?_, fun x => by have := h.sp_ x; omega, fun j hj hq => ?_⟩
  · rw [incL_at pe x hS]
    have := h.pe_ x
    split <;> omega
  · have e : rfL l n ps due = ps.map (rf1 due) := by rw [rfL, if_neg (by rw [thrB_iff.2 h.pk.thr]; simp)]
    rw [e, h.pk.get hj] at hq ⊢
    obtain ⟨q1, q2⟩ := rf1_q (due := due) (pn ps j)
    rw [q1] at hq
    rw [q1, q2, rf_held h.pk (by omega) due hj, incL_at pe _ hS]
    have hl := h.lim j hj hq
    have hg := h.pk.thr.grp j hj
    have hq1 := (h.pk.thr.good j hj).held hq
    by_cases c : (nd l j).id ∈ S
    · rw [if_pos c, if_pos ⟨by rw [hg]; exact (hm _).1 c, hq⟩]
      have e3 : (1 + (pe (nd l j).id + 1)) * (pn ps j).q = (1 + pe (nd l j).id) * (pn ps j).q + (pn ps j).q := by
        rw [← Int.add_assoc, Int.add_mul (1 + pe (nd l j).id) 1, Int.one_mul]
      rw [e3]
      have := Int.min_le_left ((pn ps j).le + (pn ps j).l.sum + (pn ps j).q) ((pn ps j).q + (pn ps j).bu)
      omega
    · rw [if_neg c, if_neg (fun c2 => c ((hm _).2 (by rw [← hg]; exact c2.1)))]
      exact hl
theorem LimP.spend {l : List Nod} {n k i : Int} {ps : List Pool} {sp pe : Int → Int} (h : LimP l n k i ps sp pe) {g c : Int} (h0 : 0 ≤ c) (h1 : c < k) (hE : spE l n ps g c = 0) (hi : i < 1000) : LimP l n k (i + 1) (spL l n ps g c) (incL sp (ancR l n g)) pe := by
  have hib := h.ib
  have e1 : (30 + (i + 1) : Int) = 30 + i + 1 := by omega
  obtain ⟨hT, hg, _, _⟩ := spE_ok (.inl hE)
  have er : ancR l n g = upT l g := by rw [ancR, if_pos (hasR_iff.2 ⟨h.pk.thr.chk, hg⟩)]
  have hnd : (upT l g).Nodup := by
    obtain ⟨q, hq, eq⟩ := ids_mem.1 hg
    have := h.pk.thr.chk.asc.up_desc q hq
    rw [eq] at this
    exact this.imp fun hab => by omega
  rw [er]
  obtain ⟨k1, k2⟩ := h.pk.spE hg h0 h1
  have hb : (blkL ps c (upT l g)).2 = false := by
    rw [hE] at k1
    cases e : (blkL ps c (upT l g)).2
    · rfl
    · rw [if_pos e] at k1; omega
  refine ⟨by rw [e1]; exact h.pk.spend (.inl hE), by omega, fun x => by have := h.pe_ x; omega, fun x => ?_, fun j hj hq => ?_⟩
  · rw [incL_at sp x hnd]
    have := h.sp_ x
    split <;> omega
  · rw [k2, h.pk.get hj] at hq ⊢
    obtain ⟨q1, q2⟩ := sp1_q h.pk (up := upT l g) h0 h1 hj
    rw [q1] at hq
    have hl := h.lim j hj hq
    have hs := (sp1_law h.pk (by omega) (g := g) h0 h1 hj).2.1 hq
    have hgr := h.pk.thr.grp j hj
    rw [q1, q2, incL_at sp _ hnd]
    rw [hgr] at hs
    by_cases c2 : (nd l j).id ∈ upT l g
    · rw [if_pos c2]
      rw [if_pos ⟨hb, c2⟩] at hs
      omega
    · rw [if_neg c2]
      rw [if_neg (fun c3 => c2 c3.2)] at hs
      omega
theorem LimP.ok {l : List Nod} {n k i : Int} {ps : List Pool} {sp pe : Int → Int} (h : LimP l n k i ps sp pe) {j : Nat} (hj : j < l.length) (hq : (pn ps j).q ≠ 4611686018427387904) : sp (pn ps j).g ≤ (1 + pe (pn ps j).g) * (pn ps j).q + (pn ps j).bu ∧ 0 ≤ (1 + pe (pn ps j).g) * (pn ps j).q ∧ (1 + pe (pn ps j).g) * (pn ps j).q ≤ 1001000000 ∧ 0 ≤ (pn ps j).bu ∧ (pn ps j).bu ≤ 1000000 := by
  have hl := h.lim j hj hq
  have hg := h.pk.thr.grp j hj
  have hh := (h.pk.thr.good j hj).held hq
  have hp := h.pe_ (nd l j).id
  have hib := h.ib
  rw [hg]
  have h1 : (1 + pe (nd l j).id) * (pn ps j).q ≤ 1001 * 1000000 := Int.mul_le_mul (by omega) (by omega) (by omega) (by omega)
  have h2 : 0 ≤ (1 + pe (nd l j).id) * (pn ps j).q := Int.mul_nonneg (by omega) (by omega)
  omega
end Go.Proofs.Ytemffnpliflkgaa

namespace Go.Proofs.Ytemffnpliflkgaa
open Go
set_option linter.unusedVariables false

def mapF (s : St) (id : Nat) : Int → Int := match s.h id with
  | some (.imap _ 0 f) => f
  | _ => fun _ => 0
def cellI1 (s : St) (id : Nat) : Int := match s.h id with
  | some (.cells _ [_, .int _ n]) => n
  | _ => 0
def sLaw18L : DS := ⟨_, one pkIntsP, fun _ => True, fun _ => .bool true, nou⟩

def inv9a (s : St) : Inv where
  X := Int
  ok := fun i => 0 ≤ i ∧ i ≤ (rowsN s 50011).length
  sl := fun i => [(40, .int .i64 i), (7, .own 103 0), (6, .own 101 4)]
  hp := fun i => [(101, .rows 80 4 (contP s (s.t 6))), (103, .rows 3 0 ((ids (rowsN s 50011)).take i.toNat))]
  keep := [50020, 50011, 40010]
  me := fun i => ((rowsN s 50011).length - i).toNat
def inv9b (L : List Int) (s : St) : Inv where
  X := ((Int × List Pool) × (Int → Int) × (Int → Int)) × Int
  ok := fun x => (LimP (rowsN s 50011) (cellI1 s 50020) (slotI s 5) x.1.1.1 x.1.1.2 x.1.2.1 x.1.2.2 ∧ x.1.1.1 ≤ 40) ∧ DOK (L, x.2)
  sl := fun x => [(11, .int .i64 x.1.1.1), (6, .own 101 4)]
  hp := fun x => [(40010, diceO (L, x.2)), (101, .rows 80 4 x.1.1.2), (170000, .imap false 0 x.1.2.1), (170010, .imap false 0 x.1.2.2)]
  keep := [50020, 50011]
  me := fun x => (40 - x.1.1.1).toNat
def inv9c (s : St) : Inv where
  X := Int
  ok := fun i => 0 ≤ i ∧ i ≤ (contI s (s.t 111)).length
  sl := fun i => [(113, .int .i64 i), (111, .own 103 0), (6, .own 101 4)]
  hp := fun i => [(101, .rows 80 4 (contP s (s.t 6))), (103, .rows 3 0 (contI s (s.t 111))), (170010, .imap false 0 (incL (mapF s 170010) ((contI s (s.t 111)).take i.toNat)))]
  keep := [50020, 50011, 40010, 170000]
  me := fun i => ((contI s (s.t 111)).length - i).toNat
def inv9d (s : St) : Inv where
  X := Int
  ok := fun i => 0 ≤ i ∧ i ≤ (contI s (s.t 91)).length
  sl := fun i => [(93, .int .i64 i), (91, .own 103 0), (6, .own 101 4)]
  hp := fun i => [(101, .rows 80 4 (contP s (s.t 6))), (103, .rows 3 0 (contI s (s.t 91))), (170000, .imap false 0 (incL (mapF s 170000) ((contI s (s.t 91)).take i.toNat)))]
  keep := [50020, 50011, 40010, 170010]
  me := fun i => ((contI s (s.t 91)).length - i).toNat
def inv9j (L : List Int) (s : St) : Inv where
  X := (List Pool × (Int → Int) × (Int → Int)) × Int
  ok := fun x => LimP (rowsN s 50011) (cellI1 s 50020) (slotI s 5) (slotI s 11 + 1) x.1.1 x.1.2.1 x.1.2.2 ∧ DOK (L, x.2)
  sl := fun x => [(6, .own 101 4)]
  hp := fun x => [(40010, diceO (L, x.2)), (101, .rows 80 4 x.1.1), (170000, .imap false 0 x.1.2.1), (170010, .imap false 0 x.1.2.2)]
  keep := [50020, 50011]
  me := fun _ => 0
def inv9e (s : St) : Inv where
  X := Int
  ok := fun i => 0 ≤ i
  sl := fun i => [(136, .int .i64 i), (6, .own 101 4)]
  hp := fun i => [(101, .rows 80 4 (contP s (s.t 6)))]
  keep := [50020, 50011, 40010, 170000, 170010]
  me := fun i => ((contP s (s.t 6)).length - i).toNat
set_option maxRecDepth 100000 in
theorem vc9 (L : List Int) (hx : True) : sLaw18L.vc (EV Try.prog [(14, sLight.spec), (38, sSane18.spec), (16, sRoll.spec), (17, sTree.spec), (23, sNext.spec), (39, sPools.spec), (48, sRfT.spec), (54, sThr.spec), (55, sLeft.spec), (47, sSome.spec), (56, sSorted.spec), (45, sIdT.spec), (41, sGroup.spec), (42, sSpT.spec), (21, sAnc.spec), (57, sLimited.spec)] (invsS [(9, inv9a), (18, inv9b L), (34, inv9c), (26, inv9d), (43, inv9e)]) (invsS [(40, inv9j L)])) Try.f9 (L, ()) := by
  have e : (True ∧ ((!decide ((↑L.length : Int) ≤ (600 : Int))) = true → True ∧ ∃ (y : Unit), True ∧ true = true) ∧ ((!decide ((↑L.length : Int) ≤ (600 : Int))) = false → True ∧ (DOK (L, (0 : Int)) ∧ (0 : Int) ≤ (6 : Int) ∧ (6 : Int) ≤ (20 : Int)) ∧ (∀ (y : (List Nod × Int) × Int), true = true) ∧ ∀ (y : (List Nod × Int) × Int), (TreeP y.fst.fst y.fst.snd ∧ (↑y.fst.fst.length : Int) ≤ (6 : Int) + (1 : Int)) ∧ (0 : Int) ≤ y.snd ∧ y.snd ≤ (↑L.length : Int) → (DOK (L, y.snd) ∧ (3 : Int) ≤ (4611686018427387904 : Int)) ∧ (∀ (y : Int × Int), true = true) ∧ ∀ (y_1 : Int × Int), ((1 : Int) ≤ (3 : Int) → (0 : Int) ≤ y_1.fst ∧ y_1.fst < (3 : Int)) ∧ ((3 : Int) < (1 : Int) → y_1.fst = (0 : Int)) ∧ y.snd ≤ y_1.snd ∧ y_1.snd ≤ (↑L.length : Int) → i64R ((1 : Int) + y_1.fst) ∧ ((DOK (L, y_1.snd) ∧ ChkP y.fst.fst y.fst.snd) ∧ (1 : Int) ≤ (1 : Int) + y_1.fst ∧ (1 : Int) + y_1.fst ≤ (16 : Int)) ∧ (∀ (y : List Pool × Int), true = true) ∧ ∀ (y_2 : List Pool × Int), PoolsK y.fst.fst y.fst.snd ((1 : Int) + y_1.fst) (25 : Int) y_2.fst ∧ y_1.snd ≤ y_2.snd ∧ y_2.snd ≤ (↑L.length : Int) → (∃ (x : Int), ((0 : Int) ≤ x ∧ x ≤ (↑y.fst.fst.length : Int)) ∧ (0 : Int) = x ∧ y_2.fst = y_2.fst ∧ NilL Int = List.take x.toNat (ids y.fst.fst) ∧ y.fst.snd = y.fst.snd ∧ y.fst.fst = y.fst.fst ∧ L = L ∧ y_2.snd = y_2.snd) ∧ ∀ (x : Int), (0 : Int) ≤ x ∧ x ≤ (↑y.fst.fst.length : Int) → (decide (x < (↑y.fst.fst.length : Int)) = true → ((0 : Int) ≤ x ∧ x < (↑y.fst.fst.length : Int)) ∧ (List.take x.toNat (ids y.fst.fst)).length + ((nd y.fst.fst x.toNat).id :: NilL Int).length ≤ (68719476736 : Nat) ∧ i64R (x + (1 : Int)) ∧ ∃ (x' : Int), ((0 : Int) ≤ x' ∧ x' ≤ (↑y.fst.fst.length : Int)) ∧ ((↑y.fst.fst.length : Int) - x').toNat < ((↑y.fst.fst.length : Int) - x).toNat ∧ x + (1 : Int) = x' ∧ y_2.fst = y_2.fst ∧ List.take x.toNat (ids y.fst.fst) ++ (nd y.fst.fst x.toNat).id :: NilL Int = List.take x'.toNat (ids y.fst.fst) ∧ y.fst.snd = y.fst.snd ∧ y.fst.fst = y.fst.fst ∧ L = L ∧ y_2.snd = y_2.snd) ∧ (decide (x < (↑y.fst.fst.length : Int)) = false → ((WfN y.fst.fst ∧ TL y_2.fst) ∧ (List.take x.toNat (ids y.fst.fst)).length ≤ (9223372036854775807 : Nat)) ∧ (WfN y.fst.fst ∧ TL (rfL y.fst.fst y.fst.snd y_2.fst (List.take x.toNat (ids y.fst.fst)))) ∧ ((!thrB y.fst.fst y.fst.snd (rfL y.fst.fst y.fst.snd y_2.fst (List.take x.toNat (ids y.fst.fst)))) = true → ∃ (y : Unit), True ∧ false = true) ∧ ((!thrB y.fst.fst y.fst.snd (rfL y.fst.fst y.fst.snd y_2.fst (List.take x.toNat (ids y.fst.fst)))) = false → (∃ (x_1 : ((Int × List Pool) × (Int → Int) × (Int → Int)) × Int), ((LimP y.fst.fst y.fst.snd ((1 : Int) + y_1.fst) x_1.fst.fst.fst x_1.fst.fst.snd x_1.fst.snd.fst x_1.fst.snd.snd ∧ x_1.fst.fst.fst ≤ (40 : Int)) ∧ DOK (L, x_1.snd)) ∧ (0 : Int) = x_1.fst.fst.fst ∧ L = L ∧ y_2.snd = x_1.snd ∧ rfL y.fst.fst y.fst.snd y_2.fst (List.take x.toNat (ids y.fst.fst)) = x_1.fst.fst.snd ∧ (fun (x : Int) ↦ (0 : Int)) = x_1.fst.snd.fst ∧ (fun (x : Int) ↦ (0 : Int)) = x_1.fst.snd.snd ∧ y.fst.snd = y.fst.snd ∧ y.fst.fst = y.fst.fst) ∧ ∀ (x : ((Int × List Pool) × (Int → Int) × (Int → Int)) × Int), (LimP y.fst.fst y.fst.snd ((1 : Int) + y_1.fst) x.fst.fst.fst x.fst.fst.snd x.fst.snd.fst x.fst.snd.snd ∧ x.fst.fst.fst ≤ (40 : Int)) ∧ DOK (L, x.snd) → (decide (x.fst.fst.fst < (40 : Int)) = true → decide (x.fst.fst.fst < (40 : Int)) = true) ∧ (decide (x.fst.fst.fst < (40 : Int)) = true → DOK (L, x.snd)) ∧ (decide (x.fst.fst.fst < (40 : Int)) = true → Option.some (OB.cells (93 : Go.TypeId) [AV.irec true (0 : Nat) L, AV.int Go.IntKind.i64 x.snd]) = Option.some (OB.cells (93 : Go.TypeId) [AV.irec true (0 : Nat) L, AV.int Go.IntKind.i64 x.snd]) ∧ True) ∧ (decide (x.fst.fst.fst < (40 : Int)) = true → decide (x.fst.fst.fst < (40 : Int)) = true) ∧ ((decide (x.fst.fst.fst < (40 : Int)) && decide (x.snd < (↑L.length : Int))) = true → ((DOK (L, x.snd) ∧ (6 : Int) ≤ (4611686018427387904 : Int)) ∧ (∀ (y : Int × Int), true = true) ∧ ∀ (y_3 : Int × Int), ((1 : Int) ≤ (6 : Int) → (0 : Int) ≤ y_3.fst ∧ y_3.fst < (6 : Int)) ∧ ((6 : Int) < (1 : Int) → y_3.fst = (0 : Int)) ∧ x.snd ≤ y_3.snd ∧ y_3.snd ≤ (↑L.length : Int) → (decide (y_3.fst = (0 : Int)) = true → DOK (L, y_3.snd) ∧ (∀ (y : List Int × Int), true = true) ∧ ∀ (y_4 : List Int × Int), (y_4.fst.length ≤ (5 : Nat) ∧ ∀ (z : Int), z ∈ y_4.fst → (-2 : Int) ≤ z ∧ z ≤ (9 : Int)) ∧ y_3.snd ≤ y_4.snd ∧ y_4.snd ≤ (↑L.length : Int) → ((WfN y.fst.fst ∧ TL x.fst.fst.snd) ∧ y_4.fst.length ≤ (9223372036854775807 : Nat)) ∧ y_4.fst.length ≤ (1000 : Nat) ∧ (∀ (y : List Int), true = true) ∧ ∀ (y_5 : List Int), (AscI y_5 ∧ ∀ (z : Int), z ∈ y_5 ↔ z ∈ y_4.fst) ∧ y_5.length ≤ y_4.fst.length → (∃ (x_1 : Int), ((0 : Int) ≤ x_1 ∧ x_1 ≤ (↑y_5.length : Int)) ∧ (0 : Int) = x_1 ∧ rfL y.fst.fst y.fst.snd x.fst.fst.snd y_4.fst = rfL y.fst.fst y.fst.snd x.fst.fst.snd y_4.fst ∧ y_5 = y_5 ∧ x.fst.snd.snd = incL x.fst.snd.snd (List.take x_1.toNat y_5) ∧ y.fst.snd = y.fst.snd ∧ y.fst.fst = y.fst.fst ∧ L = L ∧ y_4.snd = y_4.snd ∧ x.fst.snd.fst = x.fst.snd.fst) ∧ ∀ (x_1 : Int), (0 : Int) ≤ x_1 ∧ x_1 ≤ (↑y_5.length : Int) → (decide (x_1 < (↑y_5.length : Int)) = true → ((0 : Int) ≤ x_1 ∧ x_1 < (↑y_5.length : Int)) ∧ (0 : Int) = (0 : Int) ∧ i64R (incL x.fst.snd.snd (List.take x_1.toNat y_5) (y_5.getD x_1.toNat (0 : Int)) + (1 : Int)) ∧ i64R (x_1 + (1 : Int)) ∧ ∃ (x' : Int), ((0 : Int) ≤ x' ∧ x' ≤ (↑y_5.length : Int)) ∧ ((↑y_5.length : Int) - x').toNat < ((↑y_5.length : Int) - x_1).toNat ∧ x_1 + (1 : Int) = x' ∧ rfL y.fst.fst y.fst.snd x.fst.fst.snd y_4.fst = rfL y.fst.fst y.fst.snd x.fst.fst.snd y_4.fst ∧ y_5 = y_5 ∧ updF (0 : Nat) (incL x.fst.snd.snd (List.take x_1.toNat y_5)) (y_5.getD x_1.toNat (0 : Int)) (incL x.fst.snd.snd (List.take x_1.toNat y_5) (y_5.getD x_1.toNat (0 : Int)) + (1 : Int)) = incL x.fst.snd.snd (List.take x'.toNat y_5) ∧ y.fst.snd = y.fst.snd ∧ y.fst.fst = y.fst.fst ∧ L = L ∧ y_4.snd = y_4.snd ∧ x.fst.snd.fst = x.fst.snd.fst) ∧ (decide (x_1 < (↑y_5.length : Int)) = false → ∃ (x_2 : (List Pool × (Int → Int) × (Int → Int)) × Int), (LimP y.fst.fst y.fst.snd ((1 : Int) + y_1.fst) (x.fst.fst.fst + (1 : Int)) x_2.fst.fst x_2.fst.snd.fst x_2.fst.snd.snd ∧ DOK (L, x_2.snd)) ∧ L = L ∧ y_4.snd = x_2.snd ∧ rfL y.fst.fst y.fst.snd x.fst.fst.snd y_4.fst = x_2.fst.fst ∧ x.fst.snd.fst = x_2.fst.snd.fst ∧ incL x.fst.snd.snd (List.take x_1.toNat y_5) = x_2.fst.snd.snd ∧ y.fst.snd = y.fst.snd ∧ y.fst.fst = y.fst.fst)) ∧ (decide (y_3.fst = (0 : Int)) = false → (decide (y_3.fst = (1 : Int)) = true → (DOK (L, y_3.snd) ∧ (1 : Int) + y_1.fst ≤ (4611686018427387904 : Int)) ∧ (∀ (y : Int × Int), true = true) ∧ ∀ (y_4 : Int × Int), ((1 : Int) ≤ (1 : Int) + y_1.fst → (0 : Int) ≤ y_4.fst ∧ y_4.fst < (1 : Int) + y_1.fst) ∧ ((1 : Int) + y_1.fst < (1 : Int) → y_4.fst = (0 : Int)) ∧ y_3.snd ≤ y_4.snd ∧ y_4.snd ≤ (↑L.length : Int) → (WfN y.fst.fst ∧ TL x.fst.fst.snd) ∧ ∃ (x_1 : (List Pool × (Int → Int) × (Int → Int)) × Int), (LimP y.fst.fst y.fst.snd ((1 : Int) + y_1.fst) (x.fst.fst.fst + (1 : Int)) x_1.fst.fst x_1.fst.snd.fst x_1.fst.snd.snd ∧ DOK (L, x_1.snd)) ∧ L = L ∧ y_4.snd = x_1.snd ∧ idL y.fst.fst y.fst.snd x.fst.fst.snd y_4.fst = x_1.fst.fst ∧ x.fst.snd.fst = x_1.fst.snd.fst ∧ x.fst.snd.snd = x_1.fst.snd.snd ∧ y.fst.snd = y.fst.snd ∧ y.fst.fst = y.fst.fst) ∧ (decide (y_3.fst = (1 : Int)) = false → (DOK (L, y_3.snd) ∧ (1 : Nat) ≤ y.fst.fst.length ∧ y.fst.fst.length ≤ (64 : Nat)) ∧ (∀ (y : Int × Int), true = true) ∧ ∀ (y_4 : Int × Int), (y_4.fst ∈ ids y.fst.fst ∨ (-1 : Int) ≤ y_4.fst ∧ y_4.fst ≤ (7 : Int)) ∧ y_3.snd ≤ y_4.snd ∧ y_4.snd ≤ (↑L.length : Int) → (DOK (L, y_4.snd) ∧ (1 : Int) + y_1.fst ≤ (4611686018427387904 : Int)) ∧ (∀ (y : Int × Int), true = true) ∧ ∀ (y_5 : Int × Int), ((1 : Int) ≤ (1 : Int) + y_1.fst → (0 : Int) ≤ y_5.fst ∧ y_5.fst < (1 : Int) + y_1.fst) ∧ ((1 : Int) + y_1.fst < (1 : Int) → y_5.fst = (0 : Int)) ∧ y_4.snd ≤ y_5.snd ∧ y_5.snd ≤ (↑L.length : Int) → (WfN y.fst.fst ∧ TL x.fst.fst.snd) ∧ (decide (spE y.fst.fst y.fst.snd x.fst.fst.snd y_4.fst y_5.fst = (0 : Int)) = true → True ∧ (∃ (x_1 : Int), ((0 : Int) ≤ x_1 ∧ x_1 ≤ (↑(ancR y.fst.fst y.fst.snd y_4.fst).length : Int)) ∧ (0 : Int) = x_1 ∧ spL y.fst.fst y.fst.snd x.fst.fst.snd y_4.fst y_5.fst = spL y.fst.fst y.fst.snd x.fst.fst.snd y_4.fst y_5.fst ∧ ancR y.fst.fst y.fst.snd y_4.fst = ancR y.fst.fst y.fst.snd y_4.fst ∧ x.fst.snd.fst = incL x.fst.snd.fst (List.take x_1.toNat (ancR y.fst.fst y.fst.snd y_4.fst)) ∧ y.fst.snd = y.fst.snd ∧ y.fst.fst = y.fst.fst ∧ L = L ∧ y_5.snd = y_5.snd ∧ x.fst.snd.snd = x.fst.snd.snd) ∧ ∀ (x_1 : Int), (0 : Int) ≤ x_1 ∧ x_1 ≤ (↑(ancR y.fst.fst y.fst.snd y_4.fst).length : Int) → (decide (x_1 < (↑(ancR y.fst.fst y.fst.snd y_4.fst).length : Int)) = true → ((0 : Int) ≤ x_1 ∧ x_1 < (↑(ancR y.fst.fst y.fst.snd y_4.fst).length : Int)) ∧ (0 : Int) = (0 : Int) ∧ i64R (incL x.fst.snd.fst (List.take x_1.toNat (ancR y.fst.fst y.fst.snd y_4.fst)) ((ancR y.fst.fst y.fst.snd y_4.fst).getD x_1.toNat (0 : Int)) + (1 : Int)) ∧ i64R (x_1 + (1 : Int)) ∧ ∃ (x' : Int), ((0 : Int) ≤ x' ∧ x' ≤ (↑(ancR y.fst.fst y.fst.snd y_4.fst).length : Int)) ∧ ((↑(ancR y.fst.fst y.fst.snd y_4.fst).length : Int) - x').toNat < ((↑(ancR y.fst.fst y.fst.snd y_4.fst).length : Int) - x_1).toNat ∧ x_1 + (1 : Int) = x' ∧ spL y.fst.fst y.fst.snd x.fst.fst.snd y_4.fst y_5.fst = spL y.fst.fst y.fst.snd x.fst.fst.snd y_4.fst y_5.fst ∧ ancR y.fst.fst y.fst.snd y_4.fst = ancR y.fst.fst y.fst.snd y_4.fst ∧ updF (0 : Nat) (incL x.fst.snd.fst (List.take x_1.toNat (ancR y.fst.fst y.fst.snd y_4.fst))) ((ancR y.fst.fst y.fst.snd y_4.fst).getD x_1.toNat (0 : Int)) (incL x.fst.snd.fst (List.take x_1.toNat (ancR y.fst.fst y.fst.snd y_4.fst)) ((ancR y.fst.fst y.fst.snd y_4.fst).getD x_1.toNat (0 : Int)) + (1 : Int)) = incL x.fst.snd.fst (List.take x'.toNat (ancR y.fst.fst y.fst.snd y_4.fst)) ∧ y.fst.snd = y.fst.snd ∧ y.fst.fst = y.fst.fst ∧ L = L ∧ y_5.snd = y_5.snd ∧ x.fst.snd.snd = x.fst.snd.snd) ∧ (decide (x_1 < (↑(ancR y.fst.fst y.fst.snd y_4.fst).length : Int)) = false → ∃ (x_2 : (List Pool × (Int → Int) × (Int → Int)) × Int), (LimP y.fst.fst y.fst.snd ((1 : Int) + y_1.fst) (x.fst.fst.fst + (1 : Int)) x_2.fst.fst x_2.fst.snd.fst x_2.fst.snd.snd ∧ DOK (L, x_2.snd)) ∧ L = L ∧ y_5.snd = x_2.snd ∧ spL y.fst.fst y.fst.snd x.fst.fst.snd y_4.fst y_5.fst = x_2.fst.fst ∧ incL x.fst.snd.fst (List.take x_1.toNat (ancR y.fst.fst y.fst.snd y_4.fst)) = x_2.fst.snd.fst ∧ x.fst.snd.snd = x_2.fst.snd.snd ∧ y.fst.snd = y.fst.snd ∧ y.fst.fst = y.fst.fst)) ∧ (decide (spE y.fst.fst y.fst.snd x.fst.fst.snd y_4.fst y_5.fst = (0 : Int)) = false → ∃ (x_1 : (List Pool × (Int → Int) × (Int → Int)) × Int), (LimP y.fst.fst y.fst.snd ((1 : Int) + y_1.fst) (x.fst.fst.fst + (1 : Int)) x_1.fst.fst x_1.fst.snd.fst x_1.fst.snd.snd ∧ DOK (L, x_1.snd)) ∧ L = L ∧ y_5.snd = x_1.snd ∧ x.fst.fst.snd = x_1.fst.fst ∧ x.fst.snd.fst = x_1.fst.snd.fst ∧ x.fst.snd.snd = x_1.fst.snd.snd ∧ y.fst.snd = y.fst.snd ∧ y.fst.fst = y.fst.fst)))) ∧ ∀ (x_1 : (List Pool × (Int → Int) × (Int → Int)) × Int), LimP y.fst.fst y.fst.snd ((1 : Int) + y_1.fst) (x.fst.fst.fst + (1 : Int)) x_1.fst.fst x_1.fst.snd.fst x_1.fst.snd.snd ∧ DOK (L, x_1.snd) → (WfN y.fst.fst ∧ TL x_1.fst.fst) ∧ ((!thrB y.fst.fst y.fst.snd x_1.fst.fst) = true → ∃ (y : Unit), True ∧ false = true) ∧ ((!thrB y.fst.fst y.fst.snd x_1.fst.fst) = false → (∃ (x : Int), (0 : Int) ≤ x ∧ (0 : Int) = x ∧ x_1.fst.fst = x_1.fst.fst ∧ y.fst.snd = y.fst.snd ∧ y.fst.fst = y.fst.fst ∧ L = L ∧ x_1.snd = x_1.snd ∧ x_1.fst.snd.fst = x_1.fst.snd.fst ∧ x_1.fst.snd.snd = x_1.fst.snd.snd) ∧ ∀ (x_2 : Int), (0 : Int) ≤ x_2 → (decide (x_2 < (↑x_1.fst.fst.length : Int)) = true → ((0 : Int) ≤ x_2 ∧ x_2 < (↑x_1.fst.fst.length : Int)) ∧ (WfN y.fst.fst ∧ TL x_1.fst.fst) ∧ (thrB y.fst.fst y.fst.snd x_1.fst.fst = true → thrB y.fst.fst y.fst.snd x_1.fst.fst = true) ∧ (thrB y.fst.fst y.fst.snd x_1.fst.fst = true → True) ∧ (thrB y.fst.fst y.fst.snd x_1.fst.fst = true → thrB y.fst.fst y.fst.snd x_1.fst.fst = true) ∧ ((thrB y.fst.fst y.fst.snd x_1.fst.fst && !decide ((pn x_1.fst.fst x_2.toNat).q = (4611686018427387904 : Int))) = true → (thrB y.fst.fst y.fst.snd x_1.fst.fst && !decide ((pn x_1.fst.fst x_2.toNat).q = (4611686018427387904 : Int))) = true) ∧ ((thrB y.fst.fst y.fst.snd x_1.fst.fst && !decide ((pn x_1.fst.fst x_2.toNat).q = (4611686018427387904 : Int))) = true → (thrB y.fst.fst y.fst.snd x_1.fst.fst && !decide ((pn x_1.fst.fst x_2.toNat).q = (4611686018427387904 : Int))) = true) ∧ ((thrB y.fst.fst y.fst.snd x_1.fst.fst && !decide ((pn x_1.fst.fst x_2.toNat).q = (4611686018427387904 : Int))) = true → (thrB y.fst.fst y.fst.snd x_1.fst.fst && !decide ((pn x_1.fst.fst x_2.toNat).q = (4611686018427387904 : Int))) = true) ∧ ((thrB y.fst.fst y.fst.snd x_1.fst.fst && !decide ((pn x_1.fst.fst x_2.toNat).q = (4611686018427387904 : Int))) = true → (0 : Int) = (0 : Int)) ∧ ((thrB y.fst.fst y.fst.snd x_1.fst.fst && !decide ((pn x_1.fst.fst x_2.toNat).q = (4611686018427387904 : Int))) = true → (thrB y.fst.fst y.fst.snd x_1.fst.fst && !decide ((pn x_1.fst.fst x_2.toNat).q = (4611686018427387904 : Int))) = true) ∧ ((thrB y.fst.fst y.fst.snd x_1.fst.fst && !decide ((pn x_1.fst.fst x_2.toNat).q = (4611686018427387904 : Int))) = true → (thrB y.fst.fst y.fst.snd x_1.fst.fst && !decide ((pn x_1.fst.fst x_2.toNat).q = (4611686018427387904 : Int))) = true) ∧ ((thrB y.fst.fst y.fst.snd x_1.fst.fst && !decide ((pn x_1.fst.fst x_2.toNat).q = (4611686018427387904 : Int))) = true → (thrB y.fst.fst y.fst.snd x_1.fst.fst && !decide ((pn x_1.fst.fst x_2.toNat).q = (4611686018427387904 : Int))) = true) ∧ ((thrB y.fst.fst y.fst.snd x_1.fst.fst && !decide ((pn x_1.fst.fst x_2.toNat).q = (4611686018427387904 : Int))) = true → (0 : Int) = (0 : Int)) ∧ ((thrB y.fst.fst y.fst.snd x_1.fst.fst && !decide ((pn x_1.fst.fst x_2.toNat).q = (4611686018427387904 : Int))) = true → (thrB y.fst.fst y.fst.snd x_1.fst.fst && !decide ((pn x_1.fst.fst x_2.toNat).q = (4611686018427387904 : Int))) = true) ∧ ((thrB y.fst.fst y.fst.snd x_1.fst.fst && !decide ((pn x_1.fst.fst x_2.toNat).q = (4611686018427387904 : Int))) = true → i64R ((1 : Int) + x_1.fst.snd.snd (pn x_1.fst.fst x_2.toNat).g)) ∧ ((thrB y.fst.fst y.fst.snd x_1.fst.fst && !decide ((pn x_1.fst.fst x_2.toNat).q = (4611686018427387904 : Int))) = true → (thrB y.fst.fst y.fst.snd x_1.fst.fst && !decide ((pn x_1.fst.fst x_2.toNat).q = (4611686018427387904 : Int))) = true) ∧ ((thrB y.fst.fst y.fst.snd x_1.fst.fst && !decide ((pn x_1.fst.fst x_2.toNat).q = (4611686018427387904 : Int))) = true → (thrB y.fst.fst y.fst.snd x_1.fst.fst && !decide ((pn x_1.fst.fst x_2.toNat).q = (4611686018427387904 : Int))) = true) ∧ ((thrB y.fst.fst y.fst.snd x_1.fst.fst && !decide ((pn x_1.fst.fst x_2.toNat).q = (4611686018427387904 : Int))) = true → (thrB y.fst.fst y.fst.snd x_1.fst.fst && !decide ((pn x_1.fst.fst x_2.toNat).q = (4611686018427387904 : Int))) = true) ∧ ((thrB y.fst.fst y.fst.snd x_1.fst.fst && !decide ((pn x_1.fst.fst x_2.toNat).q = (4611686018427387904 : Int))) = true → i64R (((1 : Int) + x_1.fst.snd.snd (pn x_1.fst.fst x_2.toNat).g) * (pn x_1.fst.fst x_2.toNat).q)) ∧ ((thrB y.fst.fst y.fst.snd x_1.fst.fst && !decide ((pn x_1.fst.fst x_2.toNat).q = (4611686018427387904 : Int))) = true → (thrB y.fst.fst y.fst.snd x_1.fst.fst && !decide ((pn x_1.fst.fst x_2.toNat).q = (4611686018427387904 : Int))) = true) ∧ ((thrB y.fst.fst y.fst.snd x_1.fst.fst && !decide ((pn x_1.fst.fst x_2.toNat).q = (4611686018427387904 : Int))) = true → (thrB y.fst.fst y.fst.snd x_1.fst.fst && !decide ((pn x_1.fst.fst x_2.toNat).q = (4611686018427387904 : Int))) = true) ∧ ((thrB y.fst.fst y.fst.snd x_1.fst.fst && !decide ((pn x_1.fst.fst x_2.toNat).q = (4611686018427387904 : Int))) = true → (thrB y.fst.fst y.fst.snd x_1.fst.fst && !decide ((pn x_1.fst.fst x_2.toNat).q = (4611686018427387904 : Int))) = true) ∧ ((thrB y.fst.fst y.fst.snd x_1.fst.fst && !decide ((pn x_1.fst.fst x_2.toNat).q = (4611686018427387904 : Int))) = true → i64R (((1 : Int) + x_1.fst.snd.snd (pn x_1.fst.fst x_2.toNat).g) * (pn x_1.fst.fst x_2.toNat).q + (pn x_1.fst.fst x_2.toNat).bu)) ∧ ((thrB y.fst.fst y.fst.snd x_1.fst.fst && !decide ((pn x_1.fst.fst x_2.toNat).q = (4611686018427387904 : Int))) = true → (thrB y.fst.fst y.fst.snd x_1.fst.fst && !decide ((pn x_1.fst.fst x_2.toNat).q = (4611686018427387904 : Int))) = true) ∧ ((thrB y.fst.fst y.fst.snd x_1.fst.fst && !decide ((pn x_1.fst.fst x_2.toNat).q = (4611686018427387904 : Int))) = true → (thrB y.fst.fst y.fst.snd x_1.fst.fst && !decide ((pn x_1.fst.fst x_2.toNat).q = (4611686018427387904 : Int))) = true) ∧ ((thrB y.fst.fst y.fst.snd x_1.fst.fst && !decide ((pn x_1.fst.fst x_2.toNat).q = (4611686018427387904 : Int))) = true → (thrB y.fst.fst y.fst.snd x_1.fst.fst && !decide ((pn x_1.fst.fst x_2.toNat).q = (4611686018427387904 : Int))) = true) ∧ ((thrB y.fst.fst y.fst.snd x_1.fst.fst && !decide ((pn x_1.fst.fst x_2.toNat).q = (4611686018427387904 : Int)) && decide (((1 : Int) + x_1.fst.snd.snd (pn x_1.fst.fst x_2.toNat).g) * (pn x_1.fst.fst x_2.toNat).q + (pn x_1.fst.fst x_2.toNat).bu < x_1.fst.snd.fst (pn x_1.fst.fst x_2.toNat).g)) = true → ∃ (y : Unit), True ∧ false = true) ∧ ((thrB y.fst.fst y.fst.snd x_1.fst.fst && !decide ((pn x_1.fst.fst x_2.toNat).q = (4611686018427387904 : Int)) && decide (((1 : Int) + x_1.fst.snd.snd (pn x_1.fst.fst x_2.toNat).g) * (pn x_1.fst.fst x_2.toNat).q + (pn x_1.fst.fst x_2.toNat).bu < x_1.fst.snd.fst (pn x_1.fst.fst x_2.toNat).g)) = false → i64R (x_2 + (1 : Int)) ∧ ∃ (x' : Int), (0 : Int) ≤ x' ∧ ((↑x_1.fst.fst.length : Int) - x').toNat < ((↑x_1.fst.fst.length : Int) - x_2).toNat ∧ x_2 + (1 : Int) = x' ∧ x_1.fst.fst = x_1.fst.fst ∧ y.fst.snd = y.fst.snd ∧ y.fst.fst = y.fst.fst ∧ L = L ∧ x_1.snd = x_1.snd ∧ x_1.fst.snd.fst = x_1.fst.snd.fst ∧ x_1.fst.snd.snd = x_1.fst.snd.snd)) ∧ (decide (x_2 < (↑x_1.fst.fst.length : Int)) = false → i64R (x.fst.fst.fst + (1 : Int)) ∧ ∃ (x' : ((Int × List Pool) × (Int → Int) × (Int → Int)) × Int), ((LimP y.fst.fst y.fst.snd ((1 : Int) + y_1.fst) x'.fst.fst.fst x'.fst.fst.snd x'.fst.snd.fst x'.fst.snd.snd ∧ x'.fst.fst.fst ≤ (40 : Int)) ∧ DOK (L, x'.snd)) ∧ ((40 : Int) - x'.fst.fst.fst).toNat < ((40 : Int) - x.fst.fst.fst).toNat ∧ x.fst.fst.fst + (1 : Int) = x'.fst.fst.fst ∧ L = L ∧ x_1.snd = x'.snd ∧ x_1.fst.fst = x'.fst.fst.snd ∧ x_1.fst.snd.fst = x'.fst.snd.fst ∧ x_1.fst.snd.snd = x'.fst.snd.snd ∧ y.fst.snd = y.fst.snd ∧ y.fst.fst = y.fst.fst))) ∧ ((decide (x.fst.fst.fst < (40 : Int)) && decide (x.snd < (↑L.length : Int))) = false → True ∧ ∃ (y : Unit), True ∧ true = true))))) = sLaw18L.vc (EV Try.prog [(14, sLight.spec), (38, sSane18.spec), (16, sRoll.spec), (17, sTree.spec), (23, sNext.spec), (39, sPools.spec), (48, sRfT.spec), (54, sThr.spec), (55, sLeft.spec), (47, sSome.spec), (56, sSorted.spec), (45, sIdT.spec), (41, sGroup.spec), (42, sSpT.spec), (21, sAnc.spec), (57, sLimited.spec)] (invsS [(9, inv9a), (18, inv9b L), (34, inv9c), (26, inv9d), (43, inv9e)]) (invsS [(40, inv9j L)])) Try.f9 (L, ()) := by kernel_rfl
  rw [← e]
  clear e
  simp only [imp_self, true_and, and_true, exists_const, implies_true]
  simp only [Prod.forall, Prod.exists, forall_const, true_and, and_true, i64R, Int.reduceLE, Int.reduceLT, Int.reduceNeg, false_implies, decide_eq_true_eq, decide_eq_false_iff_not, Bool.not_eq_true', Bool.not_eq_false', Bool.false_eq_true, Bool.and_eq_true, Bool.and_eq_false_iff]
  simp only [NilL_eq]
  intro hL
  have hd : ∀ j : Int, 0 ≤ j → j ≤ L.length → DOK (L, j) := fun j h1 h2 => ⟨h1, h2, by show L.length ≤ 600; omega⟩
  have hb : ∀ (f : Int → Int) (M : List Int), M.Nodup → (∀ x, 0 ≤ f x ∧ f x ≤ 40) → ∀ (k : Nat) (y : Int), 0 ≤ incL f (M.take k) y ∧ incL f (M.take k) y ≤ 41 := fun f M hM hf k y => by
    rw [incL_at f y (nodup_take hM k)]
    have := hf y
    split <;> omega
  refine ⟨hd 0 (by omega) (by omega), fun l n j1 ht => ?_⟩
  obtain ⟨⟨htp, htl⟩, t1, t2⟩ := ht
  have hc := htp.chk
  have l1 := hc.len1
  have l2 := hc.len2
  have hw := hc.wf
  have hi : (ids l).length = l.length := by simp [ids]
  refine ⟨hd _ (by omega) (by omega), fun cN j2 h2 => ⟨by omega, ⟨⟨hd _ (by omega) (by omega), hc⟩, by omega, by omega⟩, fun ps j3 hp => ?_⟩⟩
  obtain ⟨hp, p1, p2⟩ := hp
  refine ⟨⟨0, by omega, rfl, rfl⟩, fun x hx => ⟨fun hlt => ?_, fun hge => ?_⟩⟩
  · have e : (x + 1).toNat = x.toNat + 1 := by omega
    have e2 : (ids l).take (x + 1).toNat = (ids l).take x.toNat ++ [(nd l x.toNat).id] := by
      rw [e, List.take_add_one, List.getElem?_eq_getElem (by omega)]
      have : x.toNat < l.length := by omega
      simp [ids, nd, List.getD_eq_getElem?_getD, this]
    refine ⟨by omega, ?_, by omega, x + 1, by omega, by omega, rfl, e2.symm⟩
    simp only [List.length_take, List.length_singleton]; omega
  have tk : (ids l).take x.toNat = ids l := List.take_of_length_le (by omega)
  simp only [tk]
  have hR : PoolsK l n (1 + cN) 30 (rfL l n ps (ids l)) := (hp.refill (by omega) (ids l)).up (by omega)
  refine ⟨⟨⟨hw, hp.tl⟩, by omega⟩, ⟨hw, hR.tl⟩, fun h => ?_, fun _ => ⟨⟨0, rfL l n ps (ids l), fun _ => 0, fun _ => 0, j3, ⟨⟨LimP.start hR, by omega⟩, hd _ (by omega) (by omega)⟩, rfl, rfl, rfl, rfl, rfl⟩, fun i qs sp pe j4 hI => ?_⟩⟩
  · rw [thrB_iff.2 hR.thr] at h; cases h
  obtain ⟨⟨hI, hi40⟩, hj4⟩ := hI
  have j4a : 0 ≤ j4 ∧ j4 ≤ L.length := ⟨hj4.1, hj4.hi⟩
  have ib := hI.ib
  have hsp : ∀ x, 0 ≤ sp x ∧ sp x ≤ 40 := fun x => by have := hI.sp_ x; omega
  have hpe : ∀ x, 0 ≤ pe x ∧ pe x ≤ 40 := fun x => by have := hI.pe_ x; omega
  refine ⟨fun _ => hj4, fun hlt => ⟨⟨hj4, fun w j5 h5 => ⟨fun _ => ⟨hd _ (by omega) (by omega), fun due j6 h6 => ?_⟩, fun _ => ⟨fun _ => ⟨⟨hd _ (by omega) (by omega), by omega⟩, fun c j6 h6 => ⟨⟨hw, hI.pk.tl⟩, idL l n qs c, sp, pe, j6, ⟨hI.idle (by omega) (by omega) (by omega), hd _ (by omega) (by omega)⟩, rfl, rfl, rfl, rfl⟩⟩, fun _ => ⟨⟨hd _ (by omega) (by omega), by omega, by omega⟩, fun g j6 h6 => ⟨⟨hd _ (by omega) (by omega), by omega⟩, fun c j7 h7 => ⟨⟨hw, hI.pk.tl⟩, fun hE => ?_, fun hE => ?_⟩⟩⟩⟩⟩⟩, fun rs sp' pe' j8 hJ => ?_⟩⟩
  · refine ⟨⟨⟨hw, hI.pk.tl⟩, by omega⟩, by omega, fun S hS => ⟨⟨0, by omega, rfl, rfl⟩, fun k hk => ⟨fun hkl => ?_, fun hkg => ?_⟩⟩⟩
    · have e : (k + 1).toNat = k.toNat + 1 := by omega
      have := hb pe S hS.1.1.nodup hpe k.toNat (S.getD k.toNat 0)
      refine ⟨by omega, by omega, by omega, k + 1, by omega, by omega, rfl, ?_⟩
      rw [e, incL_step pe (by omega)]
    · have tk : S.take k.toNat = S := List.take_of_length_le (by omega)
      rw [tk]
      exact ⟨_, _, _, _, ⟨hI.refill hS.1.1.nodup hS.1.2 (by omega), hd _ (by omega) (by omega)⟩, rfl, rfl, rfl, rfl⟩
  · obtain ⟨_, hg, _, _⟩ := spE_ok (.inl hE)
    have er : ancR l n g = upT l g := by rw [ancR, if_pos (hasR_iff.2 ⟨hc, hg⟩)]
    have hul := up_len64 hc g
    rw [← er] at hul
    have hnd : (upT l g).Nodup := by
      obtain ⟨q, hq, eq⟩ := ids_mem.1 hg
      have := hc.asc.up_desc q hq
      rw [eq] at this
      exact this.imp fun hab => by omega
    refine ⟨⟨0, by omega, rfl, rfl⟩, fun k hk => ⟨fun hkl => ?_, fun hkg => ?_⟩⟩
    · have e : (k + 1).toNat = k.toNat + 1 := by omega
      have := hb sp (ancR l n g) (er ▸ hnd) hsp k.toNat ((ancR l n g).getD k.toNat 0)
      refine ⟨by omega, by omega, by omega, k + 1, by omega, by omega, rfl, ?_⟩
      rw [e, incL_step sp (by omega)]
    · have tk : (ancR l n g).take k.toNat = ancR l n g := List.take_of_length_le (by omega)
      rw [tk]
      exact ⟨_, _, _, _, ⟨hI.spend (by omega) (by omega) hE (by omega), hd _ (by omega) (by omega)⟩, rfl, rfl, rfl, rfl⟩
  · exact ⟨_, _, _, _, ⟨hI.up (by omega), hd _ (by omega) (by omega)⟩, rfl, rfl, rfl, rfl⟩
  · obtain ⟨hJ, hj8⟩ := hJ
    refine ⟨⟨hw, hJ.pk.tl⟩, fun h => ?_, fun _ => ⟨⟨0, by omega, rfl⟩, fun k hk => ⟨fun hkl => ?_, fun hkg => ?_⟩⟩⟩
    · rw [thrB_iff.2 hJ.pk.thr] at h; cases h
    · have hlen := hJ.pk.thr.len
      have key := fun hq => hJ.ok (j := k.toNat) (by omega) hq
      refine ⟨by omega, ⟨hw, hJ.pk.tl⟩, fun h => ?_, fun h => ?_, fun h => ?_, fun h => ?_, fun h => ⟨by omega, k + 1, by omega, by omega, rfl⟩⟩
      · have := hJ.pe_ (pn rs k.toNat).g; omega
      · have := key h.2; omega
      · have := key h.2; omega
      · have := key h.1.2; omega
    · exact ⟨by omega, i + 1, rs, sp', pe', j8, ⟨⟨hJ, by omega⟩, hj8⟩, by omega, rfl, rfl, rfl, rfl, rfl⟩
end Go.Proofs.Ytemffnpliflkgaa

namespace Go.Proofs.Ytemffnpliflkgaa
open Go
set_option linter.unusedVariables false


set_option maxRecDepth 100000 in
theorem vc109 (p : Pool) (c : Int) (hx : Tame p) : sReturn.vc (EV Try.prog [(138, sUse.spec), (139, sCopied.spec)] noInv noInv) Try.f109 (p, c, ()) := by
  have e : (Tame p ∧ ((!decide (useI p c = 0)) = true → ∃ (y : Unit), True ∧ 0 = (returnG p c).fst.g ∧ 0 = (returnG p c).fst.q ∧ 0 = (returnG p c).fst.bu ∧ 0 = (returnG p c).fst.s ∧ 0 = (returnG p c).fst.le ∧ 0 = (returnG p c).fst.sp ∧ 0 = (returnG p c).fst.pe ∧ 0 = (returnG p c).fst.th ∧ false = (returnG p c).fst.em ∧ useI p c = (returnG p c).snd ∧ NilL Int = (returnG p c).fst.l) ∧ ((!decide (useI p c = 0)) = false → p.l.length ≤ (1048576 : Nat) ∧ (0 ≤ c ∧ c < (↑p.l.length : Int)) ∧ i64R (p.le + p.l.getD c.toNat 0) ∧ (0 ≤ c ∧ c < (↑p.l.length : Int)) ∧ ∃ (y : Unit), True ∧ p.g = (returnG p c).fst.g ∧ p.q = (returnG p c).fst.q ∧ p.bu = (returnG p c).fst.bu ∧ p.s = (returnG p c).fst.s ∧ p.le + p.l.getD c.toNat 0 = (returnG p c).fst.le ∧ p.sp = (returnG p c).fst.sp ∧ p.pe = (returnG p c).fst.pe ∧ p.th = (returnG p c).fst.th ∧ p.em = (returnG p c).fst.em ∧ 0 = (returnG p c).snd ∧ p.l.set c.toNat 0 = (returnG p c).fst.l)) = sReturn.vc (EV Try.prog [(138, sUse.spec), (139, sCopied.spec)] noInv noInv) Try.f109 (p, c, ()) := by kernel_rfl
  rw [← e]
  clear e
  simp only [true_and, exists_const, NilL_eq ]
  simp only [i64R, Int.reduceNeg, decide_eq_true_eq, decide_eq_false_iff_not, Bool.not_eq_true', Bool.not_eq_false']
  refine ⟨hx, fun h => ?_, fun h => ?_⟩
  · have e : returnG p c = (zeroP, useI p c) := by rw [returnG, if_neg h]
    rw [e]; exact ⟨rfl, rfl, rfl, rfl, rfl, rfl, rfl, rfl, rfl, rfl, rfl⟩
  · have e : returnG p c = (returnP p c.toNat, 0) := by rw [returnG, if_pos h]
    obtain ⟨hg, h4, h5⟩ := use_ok h
    obtain ⟨m, hm, h0, h1, h2, h3⟩ := hg.most
    have hn := hg.n1
    have hr := hg.room h4 h5
    have := hg.s0
    have := hg.s1
    have := hg.sp0
    have := hg.sp1
    have := hg.th0
    have := hg.th1
    have hc : c.toNat < p.l.length := by omega
    have := hx.th
    rw [e]
    exact ⟨by omega, by omega, by omega, by omega, rfl, rfl, rfl, rfl, rfl, rfl, rfl, rfl, rfl, rfl, rfl⟩


set_option maxRecDepth 100000 in
theorem vc111 (p : Pool) (hx : Tame p) : sRefill.vc (EV Try.prog [(121, sGoodB.spec), (139, sCopied.spec), (140, sLimited.spec), (144, sHeld.spec)] noInv noInv) Try.f111 (p, ()) := by
  have e : (Tame p ∧ ((!goodB p) = true → ∃ (y : Unit), True ∧ 0 = (refillG p).fst.g ∧ 0 = (refillG p).fst.q ∧ 0 = (refillG p).fst.bu ∧ 0 = (refillG p).fst.s ∧ 0 = (refillG p).fst.le ∧ 0 = (refillG p).fst.sp ∧ 0 = (refillG p).fst.pe ∧ 0 = (refillG p).fst.th ∧ false = (refillG p).fst.em ∧ 1 = (refillG p).snd ∧ NilL Int = (refillG p).fst.l) ∧ ((!goodB p) = false → (decide (1099511627776 ≤ p.pe) = true → ∃ (y : Unit), True ∧ 0 = (refillG p).fst.g ∧ 0 = (refillG p).fst.q ∧ 0 = (refillG p).fst.bu ∧ 0 = (refillG p).fst.s ∧ 0 = (refillG p).fst.le ∧ 0 = (refillG p).fst.sp ∧ 0 = (refillG p).fst.pe ∧ 0 = (refillG p).fst.th ∧ false = (refillG p).fst.em ∧ 7 = (refillG p).snd ∧ NilL Int = (refillG p).fst.l) ∧ (decide (1099511627776 ≤ p.pe) = false → p.l.length ≤ (1048576 : Nat) ∧ True ∧ ((!decide (p.q = 4611686018427387904)) = true → i64R (p.q + p.bu) ∧ Small p.le p.l ∧ i64R (p.q + p.bu - (p.le + p.l.sum)) ∧ i64R (p.le + Min.min p.q (p.q + p.bu - (p.le + p.l.sum))) ∧ i64R (p.pe + 1) ∧ ∃ (y : Unit), True ∧ p.g = (refillG p).fst.g ∧ p.q = (refillG p).fst.q ∧ p.bu = (refillG p).fst.bu ∧ p.s = (refillG p).fst.s ∧ p.le + Min.min p.q (p.q + p.bu - (p.le + p.l.sum)) = (refillG p).fst.le ∧ 0 = (refillG p).fst.sp ∧ p.pe + 1 = (refillG p).fst.pe ∧ p.th = (refillG p).fst.th ∧ false = (refillG p).fst.em ∧ 0 = (refillG p).snd ∧ p.l = (refillG p).fst.l) ∧ ((!decide (p.q = 4611686018427387904)) = false → i64R (p.pe + 1) ∧ ∃ (y : Unit), True ∧ p.g = (refillG p).fst.g ∧ p.q = (refillG p).fst.q ∧ p.bu = (refillG p).fst.bu ∧ p.s = (refillG p).fst.s ∧ p.le = (refillG p).fst.le ∧ 0 = (refillG p).fst.sp ∧ p.pe + 1 = (refillG p).fst.pe ∧ p.th = (refillG p).fst.th ∧ false = (refillG p).fst.em ∧ 0 = (refillG p).snd ∧ p.l = (refillG p).fst.l)))) = sRefill.vc (EV Try.prog [(121, sGoodB.spec), (139, sCopied.spec), (140, sLimited.spec), (144, sHeld.spec)] noInv noInv) Try.f111 (p, ()) := by kernel_rfl
  rw [← e]
  clear e
  simp only [true_and, exists_const, NilL_eq ]
  simp only [i64R, Int.reduceNeg, decide_eq_true_eq, decide_eq_false_iff_not, Bool.not_eq_true', Bool.not_eq_false']
  refine ⟨hx, fun h => ?_, fun h => ⟨fun h2 => ?_, fun h2 => ?_⟩⟩
  · have e : refillG p = (zeroP, 1) := by rw [refillG, if_pos h]
    rw [e]; exact ⟨rfl, rfl, rfl, rfl, rfl, rfl, rfl, rfl, rfl, rfl, rfl⟩
  · have e : refillG p = (zeroP, 7) := by rw [refillG, if_neg (by rw [h]; simp), if_pos (by omega)]
    rw [e]; exact ⟨rfl, rfl, rfl, rfl, rfl, rfl, rfl, rfl, rfl, rfl, rfl⟩
  · have e : refillG p = (refillP p, 0) := by rw [refillG, if_neg (by rw [h]; simp), if_neg (by have := (goodB_iff.1 h).pe1; omega)]
    have hg := goodB_iff.1 h
    obtain ⟨m, hm, h0, h1, h2, h3⟩ := hg.most
    have hn := hg.n1
    have hs0 := sum_nonneg h1
    have := hg.pe0
    have := hg.pe1
    rw [e]
    have eP : ∀ hq : ¬ p.q = 4611686018427387904, refillP p = { p with le := p.le + min p.q (p.q + p.bu - (p.le + p.l.sum)), pe := p.pe + 1, sp := 0, em := false } := fun hq => by rw [refillP, if_neg hq]
    have eQ : p.q = 4611686018427387904 → refillP p = { p with pe := p.pe + 1, sp := 0, em := false } := fun hq => by rw [refillP, if_pos hq]
    refine ⟨by omega, fun hq => ?_, fun hq => ?_⟩
    · rw [eP hq]
      exact ⟨by omega, hg.small, by omega, by omega, by omega, rfl, rfl, rfl, rfl, rfl, rfl, rfl, rfl, rfl, rfl, rfl⟩
    · rw [eQ hq]
      exact ⟨by omega, rfl, rfl, rfl, rfl, rfl, rfl, rfl, rfl, rfl, rfl, rfl⟩
end Go.Proofs.Ytemffnpliflkgaa

namespace Go.Proofs.Ytemffnpliflkgaa
open Go
set_option linter.unusedVariables false

def inv45 (ps : List Pool) (c : Int) : Inv where
  X := Int
  ok := fun i => 0 ≤ i ∧ i ≤ ps.length
  sl := fun i => [(20, .int .i64 i), (7, .own 103 4)]
  hp := fun i => [(103, .rows 80 4 (updK (id1 c) ps i.toNat))]
  keep := [10000]
  me := fun i => (ps.length - i).toNat
set_option maxRecDepth 100000 in
theorem vc45 (l : List Nod) (n : Int) (ps : List Pool) (c : Int) (hx : WfN l ∧ TL ps) : sIdT.vc (EV Try.prog [(66, sThr.spec), (105, sCopyP.spec), (109, sReturn.spec)] (invs [(5, inv45 ps c)]) noInv) Try.f45 ((l, n), ps, c, ()) := by
  have e : ((WfN l ∧ TL ps) ∧ ((!thrB l n ps) = true → ∃ (y : Unit), True ∧ NilL Pool = idL l n ps c) ∧ ((!thrB l n ps) = false → TL ps ∧ (∃ (x : Int), (0 ≤ x ∧ x ≤ (↑ps.length : Int)) ∧ 0 = x ∧ ps = updK (id1 c) ps x.toNat ∧ l = l ∧ n = n) ∧ ∀ (x : Int), 0 ≤ x ∧ x ≤ (↑ps.length : Int) → (decide (x < (↑ps.length : Int)) = true → (0 ≤ x ∧ x < (↑ps.length : Int)) ∧ Tame (pn ps x.toNat) ∧ (decide ((returnG (pn ps x.toNat) c).snd = 0) = true → (0 ≤ x ∧ x < (↑(updK (id1 c) ps x.toNat).length : Int)) ∧ i64R (x + 1) ∧ ∃ (x' : Int), (0 ≤ x' ∧ x' ≤ (↑ps.length : Int)) ∧ ((↑ps.length : Int) - x').toNat < ((↑ps.length : Int) - x).toNat ∧ x + 1 = x' ∧ (updK (id1 c) ps x.toNat).set x.toNat (returnG (pn ps x.toNat) c).fst = updK (id1 c) ps x'.toNat ∧ l = l ∧ n = n) ∧ (decide ((returnG (pn ps x.toNat) c).snd = 0) = false → i64R (x + 1) ∧ ∃ (x' : Int), (0 ≤ x' ∧ x' ≤ (↑ps.length : Int)) ∧ ((↑ps.length : Int) - x').toNat < ((↑ps.length : Int) - x).toNat ∧ x + 1 = x' ∧ updK (id1 c) ps x.toNat = updK (id1 c) ps x'.toNat ∧ l = l ∧ n = n)) ∧ (decide (x < (↑ps.length : Int)) = false → ∃ (y : Unit), True ∧ updK (id1 c) ps x.toNat = idL l n ps c))) = sIdT.vc (EV Try.prog [(66, sThr.spec), (105, sCopyP.spec), (109, sReturn.spec)] (invs [(5, inv45 ps c)]) noInv) Try.f45 ((l, n), ps, c, ()) := by kernel_rfl
  rw [← e]
  clear e
  simp only [true_and, and_true, exists_const]
  simp only [i64R, Int.reduceNeg, decide_eq_true_eq, decide_eq_false_iff_not, Bool.not_eq_true', Bool.not_eq_false']
  try simp only [NilL_eq]
  obtain ⟨hw, ht, hl⟩ := hx
  refine ⟨⟨hw, ht, hl⟩, fun h => by rw [idL, if_pos h], fun h => ⟨⟨ht, hl⟩, ⟨0, by omega, rfl, (updK_zero _ _).symm⟩, fun x hi => ⟨fun hlt => ?_, fun hge => ?_⟩⟩⟩
  · have e : (x + 1).toNat = x.toNat + 1 := by omega
    refine ⟨by omega, ht _ (pn_mem (by omega)), fun hb => ⟨by rw [updK_len]; omega, by omega, x + 1, by omega, by omega, rfl, ?_⟩, fun hb => ⟨by omega, x + 1, by omega, by omega, rfl, ?_⟩⟩
    · rw [e, ← updK_step (by omega), id1, if_pos hb]
    · rw [e]
      exact updK_same (by omega) (by rw [id1, if_neg hb])
  · rw [updK_all _ _ (by omega), idL, if_neg (by rw [h]; simp)]

def inv48 (ps : List Pool) (due : List Int) : Inv where
  X := Int
  ok := fun i => 0 ≤ i ∧ i ≤ ps.length
  sl := fun i => [(20, .int .i64 i), (7, .own 103 4)]
  hp := fun i => [(103, .rows 80 4 (updK (rf1 due) ps i.toNat))]
  keep := [10000]
  me := fun i => (ps.length - i).toNat
set_option maxRecDepth 100000 in
theorem vc48 (l : List Nod) (n : Int) (ps : List Pool) (due : List Int) (hx : (WfN l ∧ TL ps) ∧ due.length ≤ 9223372036854775807) : sRfT.vc (EV Try.prog [(66, sThr.spec), (105, sCopyP.spec), (111, sRefill.spec), (112, sHasI.spec)] (invs [(5, inv48 ps due)]) noInv) Try.f48 ((l, n), ps, due, ()) := by
  have e : ((WfN l ∧ TL ps) ∧ ((!thrB l n ps) = true → ∃ (y : Unit), True ∧ NilL Pool = rfL l n ps due) ∧ ((!thrB l n ps) = false → TL ps ∧ (∃ (x : Int), (0 ≤ x ∧ x ≤ (↑ps.length : Int)) ∧ 0 = x ∧ ps = updK (rf1 due) ps x.toNat ∧ l = l ∧ n = n) ∧ ∀ (x : Int), 0 ≤ x ∧ x ≤ (↑ps.length : Int) → (decide (x < (↑ps.length : Int)) = true → (0 ≤ x ∧ x < (↑ps.length : Int)) ∧ Tame (pn ps x.toNat) ∧ (decide ((refillG (pn ps x.toNat)).snd = 0) = true → decide ((refillG (pn ps x.toNat)).snd = 0) = true) ∧ (decide ((refillG (pn ps x.toNat)).snd = 0) = true → decide ((refillG (pn ps x.toNat)).snd = 0) = true) ∧ (decide ((refillG (pn ps x.toNat)).snd = 0) = true → decide ((refillG (pn ps x.toNat)).snd = 0) = true) ∧ (decide ((refillG (pn ps x.toNat)).snd = 0) = true → due.length ≤ (9223372036854775807 : Nat)) ∧ (decide ((refillG (pn ps x.toNat)).snd = 0) = true → decide ((refillG (pn ps x.toNat)).snd = 0) = true) ∧ ((decide ((refillG (pn ps x.toNat)).snd = 0) && memB due (pn ps x.toNat).g) = true → (0 ≤ x ∧ x < (↑(updK (rf1 due) ps x.toNat).length : Int)) ∧ i64R (x + 1) ∧ ∃ (x' : Int), (0 ≤ x' ∧ x' ≤ (↑ps.length : Int)) ∧ ((↑ps.length : Int) - x').toNat < ((↑ps.length : Int) - x).toNat ∧ x + 1 = x' ∧ (updK (rf1 due) ps x.toNat).set x.toNat (refillG (pn ps x.toNat)).fst = updK (rf1 due) ps x'.toNat ∧ l = l ∧ n = n) ∧ ((decide ((refillG (pn ps x.toNat)).snd = 0) && memB due (pn ps x.toNat).g) = false → i64R (x + 1) ∧ ∃ (x' : Int), (0 ≤ x' ∧ x' ≤ (↑ps.length : Int)) ∧ ((↑ps.length : Int) - x').toNat < ((↑ps.length : Int) - x).toNat ∧ x + 1 = x' ∧ updK (rf1 due) ps x.toNat = updK (rf1 due) ps x'.toNat ∧ l = l ∧ n = n)) ∧ (decide (x < (↑ps.length : Int)) = false → ∃ (y : Unit), True ∧ updK (rf1 due) ps x.toNat = rfL l n ps due))) = sRfT.vc (EV Try.prog [(66, sThr.spec), (105, sCopyP.spec), (111, sRefill.spec), (112, sHasI.spec)] (invs [(5, inv48 ps due)]) noInv) Try.f48 ((l, n), ps, due, ()) := by kernel_rfl
  rw [← e]
  clear e
  simp only [imp_self, true_and, and_true, exists_const]
  simp only [i64R, Int.reduceNeg, decide_eq_true_eq, decide_eq_false_iff_not, Bool.not_eq_true', Bool.not_eq_false', Bool.and_eq_true, Bool.and_eq_false_iff]
  try simp only [NilL_eq]
  obtain ⟨⟨hw, ht, hl⟩, hd⟩ := hx
  refine ⟨⟨hw, ht, hl⟩, fun h => by rw [rfL, if_pos h], fun h => ⟨⟨ht, hl⟩, ⟨0, by omega, rfl, (updK_zero _ _).symm⟩, fun x hi => ⟨fun hlt => ?_, fun hge => ?_⟩⟩⟩
  · have e : (x + 1).toNat = x.toNat + 1 := by omega
    refine ⟨by omega, ht _ (pn_mem (by omega)), fun _ => hd, fun hb => ⟨by rw [updK_len]; omega, by omega, x + 1, by omega, by omega, rfl, ?_⟩, fun hb => ⟨by omega, x + 1, by omega, by omega, rfl, ?_⟩⟩
    · rw [e, ← updK_step (by omega), rf1, if_pos ⟨hb.1, memB_iff.1 hb.2⟩]
    · rw [e]
      refine updK_same (by omega) ?_
      rw [rf1, if_neg]
      rintro ⟨a1, a2⟩
      rcases hb with b | b
      · exact b a1
      · rw [memB_iff.2 a2] at b; cases b
  · rw [updK_all _ _ (by omega), rfL, if_neg (by rw [h]; simp)]
end Go.Proofs.Ytemffnpliflkgaa
namespace Go.Proofs.Ytemffnpliflkgaa
open Go Go.RowKit
set_option linter.unusedVariables false
set_option maxRecDepth 100000 in
theorem ok23 : Callable Try.prog 23 ∧ Valid Try.prog 23 sNext.spec :=
  AllOK.head (AllOK.f mixed (AllOK.nil Try.prog) Try.func23 (by kernel_rfl) sNext (fun x => noInv) (fun x => noInv) fun x h => vc23 x.1.1 x.1.2 x.2.1 h)
set_option maxRecDepth 100000 in
theorem ok16 : Callable Try.prog 16 ∧ Valid Try.prog 16 sRoll.spec :=
  AllOK.head (AllOK.d mixed (AllOK.nil Try.prog) Try.func16 (by kernel_rfl) sRoll (fun x => noInv) (fun x => noInv) fun x h => vc16 x.1 h)
set_option maxRecDepth 100000 in
theorem ok14 : Callable Try.prog 14 ∧ Valid Try.prog 14 sLight.spec :=
  AllOK.head (AllOK.d mixed (AllOK.nil Try.prog) Try.func14 (by kernel_rfl) sLight (fun x => noInv) (fun x => noInv) fun x h => vc14 x.1 h)
set_option maxRecDepth 100000 in
theorem ok59 : Callable Try.prog 59 ∧ Valid Try.prog 59 sBool.spec :=
  AllOK.head (AllOK.f mixed ((AllOK.nil Try.prog).and ok23) Try.func59 (by kernel_rfl) sBool (fun x => noInv) (fun x => noInv) fun x h => vc59 x.1.1 x.1.2 x.2.1 h)
set_option maxRecDepth 100000 in
theorem ok72 : Callable Try.prog 72 ∧ Valid Try.prog 72 sWord.spec :=
  AllOK.head (AllOK.f mixed ((AllOK.nil Try.prog).and ok23) Try.func72 (by kernel_rfl) sWord (fun x => noInv) (fun x => noInv) fun x h => vc72 x.1.1 x.1.2 h)
set_option maxRecDepth 100000 in
theorem ok156 : Callable Try.prog 156 ∧ Valid Try.prog 156 sInner.spec :=
  AllOK.head (AllOK.d mixed (AllOK.nil Try.prog) Try.func156 (by kernel_rfl) sInner (fun x => noInv) (fun x => noInv) fun x h => vc156 x.1 h)
set_option maxRecDepth 100000 in
theorem ok79 : Callable Try.prog 79 ∧ Valid Try.prog 79 sNameR.spec :=
  AllOK.head (AllOK.d mixed (AllOK.nil Try.prog) Try.func79 (by kernel_rfl) sNameR (fun x => (invs [(4, inv79 x.1)])) (fun x => noInv) fun x h => vc79 x.1 h)
set_option maxRecDepth 100000 in
theorem ok152 : Callable Try.prog 152 ∧ Valid Try.prog 152 sNameP.spec :=
  AllOK.head (AllOK.d mixed ((AllOK.nil Try.prog).and ok156) Try.func152 (by kernel_rfl) sNameP (fun x => (invs [(2, inv152 x.1)])) (fun x => noInv) fun x h => vc152 x.1 h)
set_option maxRecDepth 100000 in
theorem ok70 : Callable Try.prog 70 ∧ Valid Try.prog 70 sNew.spec :=
  AllOK.head (AllOK.d mixed (AllOK.nil Try.prog) Try.func70 (by kernel_rfl) sNew (fun x => noInv) (fun x => noInv) fun x h => vc70 () h)
set_option maxRecDepth 100000 in
theorem ok128 : Callable Try.prog 128 ∧ Valid Try.prog 128 sNodeB.spec :=
  AllOK.head (AllOK.d mixed ((AllOK.nil Try.prog).and ok79) Try.func128 (by kernel_rfl) sNodeB (fun x => (invs [(10, inv128 x.1.1 x.2.1)])) (fun x => noInv) fun x h => vc128 x.1.1 x.1.2 x.2.1 h)
set_option maxRecDepth 100000 in
theorem ok77 : Callable Try.prog 77 ∧ Valid Try.prog 77 sUp.spec :=
  AllOK.head (AllOK.d mixed (AllOK.nil Try.prog) Try.func77 (by kernel_rfl) sUp (fun x => (invs [(3, inv77 x.1.1 x.2.1)])) (fun x => noInv) fun x h => vc77 x.1.1 x.1.2 x.2.1 h)
set_option maxRecDepth 100000 in
theorem ok78 : Callable Try.prog 78 ∧ Valid Try.prog 78 sChk.spec :=
  AllOK.head (AllOK.d mixed (((AllOK.nil Try.prog).and ok77).and ok128) Try.func78 (by kernel_rfl) sChk (fun x => (invs [(5, inv78a x.1.1), (10, inv78b x.1.1)])) (fun x => noInv) fun x h => vc78 x.1.1 x.1.2 h)
set_option maxRecDepth 100000 in
theorem ok127 : Callable Try.prog 127 ∧ Valid Try.prog 127 sFindR.spec :=
  AllOK.head (AllOK.d mixed ((AllOK.nil Try.prog).and ok78) Try.func127 (by kernel_rfl) sFindR (fun x => (invs [(4, inv127 x.1.1 x.2.1)])) (fun x => noInv) fun x h => vc127 x.1.1 x.1.2 x.2.1 h)
set_option maxRecDepth 100000 in
theorem ok76 : Callable Try.prog 76 ∧ Valid Try.prog 76 sHas.spec :=
  AllOK.head (AllOK.d mixed ((AllOK.nil Try.prog).and ok127) Try.func76 (by kernel_rfl) sHas (fun x => noInv) (fun x => noInv) fun x h => vc76 x.1.1 x.1.2 x.2.1 h)
set_option maxRecDepth 100000 in
theorem ok21 : Callable Try.prog 21 ∧ Valid Try.prog 21 sAnc.spec :=
  AllOK.head (AllOK.d mixed (((AllOK.nil Try.prog).and ok77).and ok76) Try.func21 (by kernel_rfl) sAnc (fun x => noInv) (fun x => noInv) fun x h => vc21 x.1.1 x.1.2 x.2.1 h)
set_option maxRecDepth 100000 in
theorem ok82 : Callable Try.prog 82 ∧ Valid Try.prog 82 sChn.spec :=
  AllOK.head (AllOK.d mixed ((AllOK.nil Try.prog).and ok76) Try.func82 (by kernel_rfl) sChn (fun x => (invs [(5, inv82 x.1.1 x.2.1)])) (fun x => noInv) fun x h => vc82 x.1.1 x.1.2 x.2.1 h)
set_option maxRecDepth 100000 in
theorem ok80 : Callable Try.prog 80 ∧ Valid Try.prog 80 sDepth.spec :=
  AllOK.head (AllOK.d mixed ((AllOK.nil Try.prog).and ok21) Try.func80 (by kernel_rfl) sDepth (fun x => noInv) (fun x => noInv) fun x h => vc80 x.1.1 x.1.2 x.2.1 h)
set_option maxRecDepth 100000 in
theorem ok81 : Callable Try.prog 81 ∧ Valid Try.prog 81 sCopyT.spec :=
  AllOK.head (AllOK.d mixed (AllOK.nil Try.prog) Try.func81 (by kernel_rfl) sCopyT (fun x => noInv) (fun x => noInv) fun x h => vc81 x.1.1 x.1.2 h)
set_option maxRecDepth 100000 in
theorem ok22 : Callable Try.prog 22 ∧ Valid Try.prog 22 sAdd.spec :=
  AllOK.head (AllOK.d mixed ((((((AllOK.nil Try.prog).and ok81).and ok80).and ok76).and ok79).and ok78) Try.func22 (by kernel_rfl) sAdd (fun x => (invs [(6, inv22 x.1.1 x.2.1 x.2.2.1)])) (fun x => noInv) fun x h => vc22 x.1.1 x.1.2 x.2.1 x.2.2.1 h)
set_option maxRecDepth 100000 in
theorem ok24 : Callable Try.prog 24 ∧ Valid Try.prog 24 sRem.spec :=
  AllOK.head (AllOK.d mixed ((((AllOK.nil Try.prog).and ok82).and ok76).and ok78) Try.func24 (by kernel_rfl) sRem (fun x => (invs [(11, inv24 x.1.1 x.1.2 x.2.1)])) (fun x => noInv) fun x h => vc24 x.1.1 x.1.2 x.2.1 h)
set_option maxRecDepth 100000 in
theorem ok129 : Callable Try.prog 129 ∧ Valid Try.prog 129 sRootB.spec :=
  AllOK.head (AllOK.d mixed (AllOK.nil Try.prog) Try.func129 (by kernel_rfl) sRootB (fun x => noInv) (fun x => noInv) fun x h => vc129 x.1 h)
set_option maxRecDepth 100000 in
theorem ok130 : Callable Try.prog 130 ∧ Valid Try.prog 130 sFine.spec :=
  AllOK.head (AllOK.d mixed ((AllOK.nil Try.prog).and ok152) Try.func130 (by kernel_rfl) sFine (fun x => (invs [(5, inv130 x.1 x.2.1)])) (fun x => noInv) fun x h => vc130 x.1 x.2.1 h)
set_option maxRecDepth 100000 in
theorem ok83 : Callable Try.prog 83 ∧ Valid Try.prog 83 sChkP.spec :=
  AllOK.head (AllOK.d mixed (((AllOK.nil Try.prog).and ok130).and ok129) Try.func83 (by kernel_rfl) sChkP (fun x => (invs [(5, inv83 x.1.1)])) (fun x => noInv) fun x h => vc83 x.1.1 x.1.2 h)
set_option maxRecDepth 100000 in
theorem ok155 : Callable Try.prog 155 ∧ Valid Try.prog 155 sAt1.spec :=
  AllOK.head (AllOK.d mixed (AllOK.nil Try.prog) Try.func155 (by kernel_rfl) sAt1 (fun x => noInv) (fun x => noInv) fun x h => vc155 x.1 x.2.1 h)
set_option maxRecDepth 100000 in
theorem ok154 : Callable Try.prog 154 ∧ Valid Try.prog 154 sIdxN.spec :=
  AllOK.head (AllOK.d mixed ((AllOK.nil Try.prog).and ok155) Try.func154 (by kernel_rfl) sIdxN (fun x => (invs [(2, inv154 x.1 x.2.1)])) (fun x => noInv) fun x h => vc154 x.1 x.2.1 h)
set_option maxRecDepth 100000 in
theorem ok151 : Callable Try.prog 151 ∧ Valid Try.prog 151 sAt.spec :=
  AllOK.head (AllOK.d mixed ((AllOK.nil Try.prog).and ok154) Try.func151 (by kernel_rfl) sAt (fun x => noInv) (fun x => noInv) fun x h => vc151 x.1.1 x.1.2 x.2.1 h)
set_option maxRecDepth 100000 in
theorem ok122 : Callable Try.prog 122 ∧ Valid Try.prog 122 sFFind.spec :=
  AllOK.head (AllOK.d mixed ((AllOK.nil Try.prog).and ok151) Try.func122 (by kernel_rfl) sFFind (fun x => noInv) (fun x => noInv) fun x h => vc122 x.1.1 x.1.2 x.2.1 h)
set_option maxRecDepth 100000 in
theorem ok73 : Callable Try.prog 73 ∧ Valid Try.prog 73 sFAnc.spec :=
  AllOK.head (AllOK.d mixed ((AllOK.nil Try.prog).and ok122) Try.func73 (by kernel_rfl) sFAnc (fun x => (invs [(3, inv73 x.1.1 x.2.1)])) (fun x => noInv) fun x h => vc73 x.1.1 x.1.2 x.2.1 h)
set_option maxRecDepth 100000 in
theorem ok64 : Callable Try.prog 64 ∧ Valid Try.prog 64 sHasI.spec :=
  AllOK.head (AllOK.d mixed (AllOK.nil Try.prog) Try.func64 (by kernel_rfl) sHasI (fun x => (invs [(2, inv64 x.1 x.2.1)])) (fun x => noInv) fun x h => vc64 x.1 x.2.1 h)
set_option maxRecDepth 100000 in
theorem ok145 : Callable Try.prog 145 ∧ Valid Try.prog 145 sIdxI.spec :=
  AllOK.head (AllOK.d mixed (AllOK.nil Try.prog) Try.func145 (by kernel_rfl) sIdxI (fun x => (invs [(2, inv145 x.1 x.2.1)])) (fun x => noInv) fun x h => vc145 x.1 x.2.1 h)
set_option maxRecDepth 100000 in
theorem ok112 : Callable Try.prog 112 ∧ Valid Try.prog 112 sHasI.spec :=
  AllOK.head (AllOK.d mixed ((AllOK.nil Try.prog).and ok145) Try.func112 (by kernel_rfl) sHasI (fun x => noInv) (fun x => noInv) fun x h => vc112 x.1 x.2.1 h)
set_option maxRecDepth 100000 in
theorem ok41 : Callable Try.prog 41 ∧ Valid Try.prog 41 sGroup.spec :=
  AllOK.head (AllOK.f mixed (((AllOK.nil Try.prog).and ok59).and ok23) Try.func41 (by kernel_rfl) sGroup (fun x => noInv) (fun x => noInv) fun x h => vc41 x.1.1 x.1.2 x.2.1.1 x.2.1.2 h)
set_option maxRecDepth 100000 in
theorem ok47 : Callable Try.prog 47 ∧ Valid Try.prog 47 sSome.spec :=
  AllOK.head (AllOK.f mixed ((AllOK.nil Try.prog).and ok23) Try.func47 (by kernel_rfl) sSome (fun x => (invs [(3, inv47 x.1.1 x.1.2)])) (fun x => noInv) fun x h => vc47 x.1.1 x.1.2 h)
set_option maxRecDepth 100000 in
theorem ok17 : Callable Try.prog 17 ∧ Valid Try.prog 17 sTree.spec :=
  AllOK.head (AllOK.f mixed (((((((AllOK.nil Try.prog).and ok24).and ok59).and ok22).and ok72).and ok23).and ok70) Try.func17 (by kernel_rfl) sTree (fun x => (invs [(3, inv17 x.1.1 x.2.1 x.1.2)])) (fun x => noInv) fun x h => vc17 x.1.1 x.1.2 x.2.1 h)
set_option maxRecDepth 100000 in
theorem ok147 : Callable Try.prog 147 ∧ Valid Try.prog 147 sWithin.spec :=
  AllOK.head (AllOK.d mixed (AllOK.nil Try.prog) Try.func147 (by kernel_rfl) sWithin (fun x => noInv) (fun x => noInv) fun x h => vc147 x.1 x.2.1 x.2.2.1 h)
set_option maxRecDepth 100000 in
theorem ok119 : Callable Try.prog 119 ∧ Valid Try.prog 119 sWithin.spec :=
  AllOK.head (AllOK.d mixed (AllOK.nil Try.prog) Try.func119 (by kernel_rfl) sWithin (fun x => noInv) (fun x => noInv) fun x h => vc119 x.1 x.2.1 x.2.2.1 h)
set_option maxRecDepth 100000 in
theorem ok140 : Callable Try.prog 140 ∧ Valid Try.prog 140 sLimited.spec :=
  AllOK.head (AllOK.d mixed (AllOK.nil Try.prog) Try.func140 (by kernel_rfl) sLimited (fun x => noInv) (fun x => noInv) fun x h => vc140 x.1 h)
set_option maxRecDepth 100000 in
theorem ok57 : Callable Try.prog 57 ∧ Valid Try.prog 57 sLimited.spec :=
  AllOK.head (AllOK.d mixed (AllOK.nil Try.prog) Try.func57 (by kernel_rfl) sLimited (fun x => noInv) (fun x => noInv) fun x h => vc57 x.1 h)
set_option maxRecDepth 100000 in
theorem ok153 : Callable Try.prog 153 ∧ Valid Try.prog 153 sSum.spec :=
  AllOK.head (AllOK.d mixed (AllOK.nil Try.prog) Try.func153 (by kernel_rfl) sSum (fun x => (invs [(2, inv153 x.1 x.2.1)])) (fun x => noInv) fun x h => vc153 x.1 x.2.1 h)
set_option maxRecDepth 100000 in
theorem ok144 : Callable Try.prog 144 ∧ Valid Try.prog 144 sHeld.spec :=
  AllOK.head (AllOK.d mixed ((AllOK.nil Try.prog).and ok153) Try.func144 (by kernel_rfl) sHeld (fun x => noInv) (fun x => noInv) fun x h => vc144 x.1 h)
set_option maxRecDepth 100000 in
theorem ok125 : Callable Try.prog 125 ∧ Valid Try.prog 125 sClone.spec :=
  AllOK.head (AllOK.d mixed (AllOK.nil Try.prog) Try.func125 (by kernel_rfl) sClone (fun x => noInv) (fun x => noInv) fun x h => vc125 x.1 h)
set_option maxRecDepth 100000 in
theorem ok139 : Callable Try.prog 139 ∧ Valid Try.prog 139 sCopied.spec :=
  AllOK.head (AllOK.d mixed ((AllOK.nil Try.prog).and ok125) Try.func139 (by kernel_rfl) sCopied (fun x => noInv) (fun x => noInv) fun x h => vc139 x.1 h)
set_option maxRecDepth 100000 in
theorem ok60 : Callable Try.prog 60 ∧ Valid Try.prog 60 sHeld.spec :=
  AllOK.head (AllOK.d mixed (AllOK.nil Try.prog) Try.func60 (by kernel_rfl) sHeld (fun x => (invs [(3, inv60 x.1)])) (fun x => noInv) fun x h => vc60 x.1 h)
set_option maxRecDepth 100000 in
theorem ok118 : Callable Try.prog 118 ∧ Valid Try.prog 118 sCopied.spec :=
  AllOK.head (AllOK.d mixed (AllOK.nil Try.prog) Try.func118 (by kernel_rfl) sCopied (fun x => noInv) (fun x => noInv) fun x h => vc118 x.1 h)
set_option maxRecDepth 100000 in
theorem ok148 : Callable Try.prog 148 ∧ Valid Try.prog 148 sRates.spec :=
  AllOK.head (AllOK.d mixed (((AllOK.nil Try.prog).and ok140).and ok147) Try.func148 (by kernel_rfl) sRates (fun x => noInv) (fun x => noInv) fun x h => vc148 x.1 h)
set_option maxRecDepth 100000 in
theorem ok150 : Callable Try.prog 150 ∧ Valid Try.prog 150 sCount.spec :=
  AllOK.head (AllOK.d mixed ((AllOK.nil Try.prog).and ok147) Try.func150 (by kernel_rfl) sCount (fun x => noInv) (fun x => noInv) fun x h => vc150 x.1 h)
set_option maxRecDepth 100000 in
theorem ok149 : Callable Try.prog 149 ∧ Valid Try.prog 149 sHeldB.spec :=
  AllOK.head (AllOK.d mixed ((((AllOK.nil Try.prog).and ok144).and ok140).and ok147) Try.func149 (by kernel_rfl) sHeldB (fun x => (invs [(5, inv149 x.1)])) (fun x => noInv) fun x h => vc149 x.1 h)
set_option maxRecDepth 100000 in
theorem ok121 : Callable Try.prog 121 ∧ Valid Try.prog 121 sGoodB.spec :=
  AllOK.head (AllOK.d mixed (((((AllOK.nil Try.prog).and ok150).and ok149).and ok148).and ok147) Try.func121 (by kernel_rfl) sGoodB (fun x => noInv) (fun x => noInv) fun x h => vc121 x.1 h)
set_option maxRecDepth 100000 in
theorem ok116 : Callable Try.prog 116 ∧ Valid Try.prog 116 sGoodB.spec :=
  AllOK.head (AllOK.d mixed ((((AllOK.nil Try.prog).and ok60).and ok57).and ok119) Try.func116 (by kernel_rfl) sGoodB (fun x => (invs [(10, inv116 x.1)])) (fun x => noInv) fun x h => vc116 x.1 h)
set_option maxRecDepth 100000 in
theorem ok138 : Callable Try.prog 138 ∧ Valid Try.prog 138 sUse.spec :=
  AllOK.head (AllOK.d mixed ((AllOK.nil Try.prog).and ok121) Try.func138 (by kernel_rfl) sUse (fun x => noInv) (fun x => noInv) fun x h => vc138 x.1 x.2.1 h)
set_option maxRecDepth 100000 in
theorem ok142 : Callable Try.prog 142 ∧ Valid Try.prog 142 sUse.spec :=
  AllOK.head (AllOK.d mixed (((AllOK.nil Try.prog).and ok119).and ok116) Try.func142 (by kernel_rfl) sUse (fun x => noInv) (fun x => noInv) fun x h => vc142 x.1 x.2.1 h)
set_option maxRecDepth 100000 in
theorem ok137 : Callable Try.prog 137 ∧ Valid Try.prog 137 sRoom.spec :=
  AllOK.head (AllOK.d mixed (((AllOK.nil Try.prog).and ok140).and ok121) Try.func137 (by kernel_rfl) sRoom (fun x => noInv) (fun x => noInv) fun x h => vc137 x.1 x.2.1 h)
set_option maxRecDepth 100000 in
theorem ok62 : Callable Try.prog 62 ∧ Valid Try.prog 62 sRoom.spec :=
  AllOK.head (AllOK.d mixed ((((AllOK.nil Try.prog).and ok119).and ok57).and ok116) Try.func62 (by kernel_rfl) sRoom (fun x => noInv) (fun x => noInv) fun x h => vc62 x.1 x.2.1 h)
set_option maxRecDepth 100000 in
theorem ok141 : Callable Try.prog 141 ∧ Valid Try.prog 141 sTake.spec :=
  AllOK.head (AllOK.d mixed ((((AllOK.nil Try.prog).and ok140).and ok139).and ok138) Try.func141 (by kernel_rfl) sTake (fun x => noInv) (fun x => noInv) fun x h => vc141 x.1 x.2.1 h)
set_option maxRecDepth 100000 in
theorem ok143 : Callable Try.prog 143 ∧ Valid Try.prog 143 sTake.spec :=
  AllOK.head (AllOK.d mixed ((((AllOK.nil Try.prog).and ok57).and ok118).and ok142) Try.func143 (by kernel_rfl) sTake (fun x => noInv) (fun x => noInv) fun x h => vc143 x.1 x.2.1 h)
set_option maxRecDepth 100000 in
theorem ok107 : Callable Try.prog 107 ∧ Valid Try.prog 107 sSpend.spec :=
  AllOK.head (AllOK.d mixed (((((AllOK.nil Try.prog).and ok141).and ok140).and ok139).and ok138) Try.func107 (by kernel_rfl) sSpend (fun x => noInv) (fun x => noInv) fun x h => vc107 x.1 x.2.1 h)
set_option maxRecDepth 100000 in
theorem ok108 : Callable Try.prog 108 ∧ Valid Try.prog 108 sSpend.spec :=
  AllOK.head (AllOK.d mixed ((((((AllOK.nil Try.prog).and ok62).and ok143).and ok57).and ok118).and ok142) Try.func108 (by kernel_rfl) sSpend (fun x => noInv) (fun x => noInv) fun x h => vc108 x.1 x.2.1 h)
set_option maxRecDepth 100000 in
theorem ok113 : Callable Try.prog 113 ∧ Valid Try.prog 113 sRefill.spec :=
  AllOK.head (AllOK.d mixed (((((AllOK.nil Try.prog).and ok60).and ok57).and ok118).and ok116) Try.func113 (by kernel_rfl) sRefill (fun x => noInv) (fun x => noInv) fun x h => vc113 x.1 h)
set_option maxRecDepth 100000 in
theorem ok115 : Callable Try.prog 115 ∧ Valid Try.prog 115 sNewP.spec :=
  AllOK.head (AllOK.d mixed ((((AllOK.nil Try.prog).and ok121).and ok140).and ok147) Try.func115 (by kernel_rfl) sNewP (fun x => noInv) (fun x => noInv) fun x h => vc115 x.1 x.2.1 x.2.2.1 x.2.2.2.1 x.2.2.2.2.1 h)
set_option maxRecDepth 100000 in
theorem ok133 : Callable Try.prog 133 ∧ Valid Try.prog 133 sNewP.spec :=
  AllOK.head (AllOK.d mixed ((((AllOK.nil Try.prog).and ok116).and ok57).and ok119) Try.func133 (by kernel_rfl) sNewP (fun x => noInv) (fun x => noInv) fun x h => vc133 x.1 x.2.1 x.2.2.1 x.2.2.2.1 x.2.2.2.2.1 h)
set_option maxRecDepth 100000 in
theorem ok146 : Callable Try.prog 146 ∧ Valid Try.prog 146 sChange.spec :=
  AllOK.head (AllOK.d mixed ((((((AllOK.nil Try.prog).and ok140).and ok144).and ok148).and ok139).and ok121) Try.func146 (by kernel_rfl) sChange (fun x => (invs [(11, inv146 x.1 x.2.1 x.2.2.1)])) (fun x => noInv) fun x h => vc146 x.1 x.2.1 x.2.2.1 h)
set_option maxRecDepth 100000 in
theorem ok109 : Callable Try.prog 109 ∧ Valid Try.prog 109 sReturn.spec :=
  AllOK.head (AllOK.d mixed (((AllOK.nil Try.prog).and ok139).and ok138) Try.func109 (by kernel_rfl) sReturn (fun x => noInv) (fun x => noInv) fun x h => vc109 x.1 x.2.1 h)
set_option maxRecDepth 100000 in
theorem ok111 : Callable Try.prog 111 ∧ Valid Try.prog 111 sRefill.spec :=
  AllOK.head (AllOK.d mixed (((((AllOK.nil Try.prog).and ok144).and ok140).and ok139).and ok121) Try.func111 (by kernel_rfl) sRefill (fun x => noInv) (fun x => noInv) fun x h => vc111 x.1 h)
set_option maxRecDepth 100000 in
theorem ok135 : Callable Try.prog 135 ∧ Valid Try.prog 135 sAt1P.spec :=
  AllOK.head (AllOK.d mixed (AllOK.nil Try.prog) Try.func135 (by kernel_rfl) sAt1P (fun x => noInv) (fun x => noInv) fun x h => vc135 x.1 x.2.1 h)
set_option maxRecDepth 100000 in
theorem ok134 : Callable Try.prog 134 ∧ Valid Try.prog 134 sIdxF.spec :=
  AllOK.head (AllOK.d mixed ((AllOK.nil Try.prog).and ok135) Try.func134 (by kernel_rfl) sIdxF (fun x => (invs [(2, inv134 x.1 x.2.1)])) (fun x => noInv) fun x h => vc134 x.1 x.2.1 h)
set_option maxRecDepth 100000 in
theorem ok104 : Callable Try.prog 104 ∧ Valid Try.prog 104 sAtP.spec :=
  AllOK.head (AllOK.d mixed ((AllOK.nil Try.prog).and ok134) Try.func104 (by kernel_rfl) sAtP (fun x => noInv) (fun x => noInv) fun x h => vc104 x.1 x.2.1 h)
set_option maxRecDepth 100000 in
theorem ok136 : Callable Try.prog 136 ∧ Valid Try.prog 136 sCloneP.spec :=
  AllOK.head (AllOK.d mixed (AllOK.nil Try.prog) Try.func136 (by kernel_rfl) sCloneP (fun x => noInv) (fun x => noInv) fun x h => vc136 x.1 h)
set_option maxRecDepth 100000 in
theorem ok105 : Callable Try.prog 105 ∧ Valid Try.prog 105 sCopyP.spec :=
  AllOK.head (AllOK.d mixed (((AllOK.nil Try.prog).and ok125).and ok136) Try.func105 (by kernel_rfl) sCopyP (fun x => (invs [(3, inv105 x.1)])) (fun x => noInv) fun x h => vc105 x.1 h)
set_option maxRecDepth 100000 in
theorem ok103 : Callable Try.prog 103 ∧ Valid Try.prog 103 sCopyP.spec :=
  AllOK.head (AllOK.d mixed ((AllOK.nil Try.prog).and ok118) Try.func103 (by kernel_rfl) sCopyP (fun x => (invs [(3, inv103 x.1)])) (fun x => noInv) fun x h => vc103 x.1 h)
set_option maxRecDepth 100000 in
theorem ok66 : Callable Try.prog 66 ∧ Valid Try.prog 66 sThr.spec :=
  AllOK.head (AllOK.d mixed (((AllOK.nil Try.prog).and ok121).and ok83) Try.func66 (by kernel_rfl) sThr (fun x => (invs [(4, inv66 x.1.1 x.2.1)])) (fun x => noInv) fun x h => vc66 x.1.1 x.1.2 x.2.1 h)
set_option maxRecDepth 100000 in
theorem ok54 : Callable Try.prog 54 ∧ Valid Try.prog 54 sThr.spec :=
  AllOK.head (AllOK.d mixed (((AllOK.nil Try.prog).and ok116).and ok78) Try.func54 (by kernel_rfl) sThr (fun x => (invs [(4, inv54 x.1.1 x.2.1)])) (fun x => noInv) fun x h => vc54 x.1.1 x.1.2 x.2.1 h)
set_option maxRecDepth 100000 in
theorem ok58 : Callable Try.prog 58 ∧ Valid Try.prog 58 sGetP.spec :=
  AllOK.head (AllOK.d mixed ((AllOK.nil Try.prog).and ok118) Try.func58 (by kernel_rfl) sGetP (fun x => (invs [(2, inv58 x.1 x.2.1)])) (fun x => noInv) fun x h => vc58 x.1 x.2.1 h)
set_option maxRecDepth 100000 in
theorem ok120 : Callable Try.prog 120 ∧ Valid Try.prog 120 sRoom0.spec :=
  AllOK.head (AllOK.d mixed ((((AllOK.nil Try.prog).and ok137).and ok104).and ok73) Try.func120 (by kernel_rfl) sRoom0 (fun x => (invs [(3, inv120 x.1.1 x.2.1 x.2.2.1 x.2.2.2.1)])) (fun x => noInv) fun x h => vc120 x.1.1 x.1.2 x.2.1 x.2.2.1 x.2.2.2.1 h)
set_option maxRecDepth 100000 in
theorem ok106 : Callable Try.prog 106 ∧ Valid Try.prog 106 sBlk0.spec :=
  AllOK.head (AllOK.d mixed ((((AllOK.nil Try.prog).and ok137).and ok104).and ok73) Try.func106 (by kernel_rfl) sBlk0 (fun x => (invs [(2, inv106 x.1.1 x.2.1 x.2.2.1 x.2.2.2.1)])) (fun x => noInv) fun x h => vc106 x.1.1 x.1.2 x.2.1 x.2.2.1 x.2.2.2.1 h)
set_option maxRecDepth 100000 in
theorem ok65 : Callable Try.prog 65 ∧ Valid Try.prog 65 sRoomT.spec :=
  AllOK.head (AllOK.d mixed ((((AllOK.nil Try.prog).and ok120).and ok104).and ok66) Try.func65 (by kernel_rfl) sRoomT (fun x => noInv) (fun x => noInv) fun x h => vc65 x.1.1 x.1.2 x.2.1 x.2.2.1 x.2.2.2.1 h)
set_option maxRecDepth 100000 in
theorem ok63 : Callable Try.prog 63 ∧ Valid Try.prog 63 sBlkT.spec :=
  AllOK.head (AllOK.d mixed (((AllOK.nil Try.prog).and ok106).and ok66) Try.func63 (by kernel_rfl) sBlkT (fun x => noInv) (fun x => noInv) fun x h => vc63 x.1.1 x.1.2 x.2.1 x.2.2.1 x.2.2.2.1 h)
set_option maxRecDepth 100000 in
theorem ok68 : Callable Try.prog 68 ∧ Valid Try.prog 68 sBlkT.spec :=
  AllOK.head (AllOK.d mixed (((((AllOK.nil Try.prog).and ok62).and ok58).and ok54).and ok21) Try.func68 (by kernel_rfl) sBlkT (fun x => (invs [(5, inv68 x.1.1 x.1.2 x.2.1 x.2.2.1 x.2.2.2.1)])) (fun x => noInv) fun x h => vc68 x.1.1 x.1.2 x.2.1 x.2.2.1 x.2.2.2.1 h)
set_option maxRecDepth 100000 in
theorem ok42 : Callable Try.prog 42 ∧ Valid Try.prog 42 sSpT.spec :=
  AllOK.head (AllOK.d mixed (((((((AllOK.nil Try.prog).and ok73).and ok107).and ok106).and ok105).and ok104).and ok66) Try.func42 (by kernel_rfl) sSpT (fun x => (invs [(13, inv42 x.1.1 x.2.1 x.2.2.1 x.2.2.2.1)])) (fun x => noInv) fun x h => vc42 x.1.1 x.1.2 x.2.1 x.2.2.1 x.2.2.2.1 h)
set_option maxRecDepth 100000 in
theorem ok43 : Callable Try.prog 43 ∧ Valid Try.prog 43 sSpT.spec :=
  AllOK.head (AllOK.d mixed ((((((((AllOK.nil Try.prog).and ok64).and ok108).and ok68).and ok21).and ok103).and ok76).and ok54) Try.func43 (by kernel_rfl) sSpT (fun x => (invs [(11, inv43 x.1.1 x.1.2 x.2.1 x.2.2.1 x.2.2.2.1)])) (fun x => noInv) fun x h => vc43 x.1.1 x.1.2 x.2.1 x.2.2.1 x.2.2.2.1 h)
set_option maxRecDepth 100000 in
theorem ok49 : Callable Try.prog 49 ∧ Valid Try.prog 49 sRfT.spec :=
  AllOK.head (AllOK.d mixed (((((AllOK.nil Try.prog).and ok64).and ok113).and ok103).and ok54) Try.func49 (by kernel_rfl) sRfT (fun x => (invs [(5, inv49 x.2.1 x.2.2.1)])) (fun x => noInv) fun x h => vc49 x.1.1 x.1.2 x.2.1 x.2.2.1 h)
set_option maxRecDepth 100000 in
theorem ok61 : Callable Try.prog 61 ∧ Valid Try.prog 61 sSameP.spec :=
  AllOK.head (AllOK.d mixed (AllOK.nil Try.prog) Try.func61 (by kernel_rfl) sSameP (fun x => (invs [(4, inv61 x.1 x.2.1)])) (fun x => noInv) fun x h => vc61 x.1 x.2.1 h)
set_option maxRecDepth 100000 in
theorem ok45 : Callable Try.prog 45 ∧ Valid Try.prog 45 sIdT.spec :=
  AllOK.head (AllOK.d mixed ((((AllOK.nil Try.prog).and ok109).and ok105).and ok66) Try.func45 (by kernel_rfl) sIdT (fun x => (invs [(5, inv45 x.2.1 x.2.2.1)])) (fun x => noInv) fun x h => vc45 x.1.1 x.1.2 x.2.1 x.2.2.1 h)
set_option maxRecDepth 100000 in
theorem ok48 : Callable Try.prog 48 ∧ Valid Try.prog 48 sRfT.spec :=
  AllOK.head (AllOK.d mixed (((((AllOK.nil Try.prog).and ok112).and ok111).and ok105).and ok66) Try.func48 (by kernel_rfl) sRfT (fun x => (invs [(5, inv48 x.2.1 x.2.2.1)])) (fun x => noInv) fun x h => vc48 x.1.1 x.1.2 x.2.1 x.2.2.1 h)
set_option maxRecDepth 100000 in
theorem ok114 : Callable Try.prog 114 ∧ Valid Try.prog 114 sKept.spec :=
  AllOK.head (AllOK.d mixed ((((AllOK.nil Try.prog).and ok146).and ok105).and ok121) Try.func114 (by kernel_rfl) sKept (fun x => (invs [(2, inv114 x.1 x.2.1 x.2.2.2.2.1 x.2.2.2.2.2.1)])) (fun x => noInv) fun x h => vc114 x.1 x.2.1 x.2.2.1 x.2.2.2.1 x.2.2.2.2.1 x.2.2.2.2.2.1 h)
set_option maxRecDepth 100000 in
theorem ok51 : Callable Try.prog 51 ∧ Valid Try.prog 51 sSync.spec :=
  AllOK.head (AllOK.d mixed ((((AllOK.nil Try.prog).and ok115).and ok114).and ok83) Try.func51 (by kernel_rfl) sSync (fun x => (invs [(5, inv51 x.1.1 x.2.1 x.2.2.1 x.2.2.2.1 x.2.2.2.2.1 x.2.2.2.2.2.1)])) (fun x => noInv) fun x h => vc51 x.1.1 x.1.2 x.2.1 x.2.2.1 x.2.2.2.1 x.2.2.2.2.1 x.2.2.2.2.2.1 h)
set_option maxRecDepth 100000 in
theorem ok53 : Callable Try.prog 53 ∧ Valid Try.prog 53 sNewT.spec :=
  AllOK.head (AllOK.d mixed ((AllOK.nil Try.prog).and ok51) Try.func53 (by kernel_rfl) sNewT (fun x => noInv) (fun x => noInv) fun x h => vc53 x.1.1 x.1.2 x.2.1 x.2.2.1 x.2.2.2.1 x.2.2.2.2.1 h)
set_option maxRecDepth 100000 in
theorem ok102 : Callable Try.prog 102 ∧ Valid Try.prog 102 sNewT.spec :=
  AllOK.head (AllOK.d mixed (((AllOK.nil Try.prog).and ok133).and ok78) Try.func102 (by kernel_rfl) sNewT (fun x => (invs [(5, inv102 x.1.1 x.2.1 x.2.2.1 x.2.2.2.1 x.2.2.2.2.1)])) (fun x => noInv) fun x h => vc102 x.1.1 x.1.2 x.2.1 x.2.2.1 x.2.2.2.1 x.2.2.2.2.1 h)
set_option maxRecDepth 100000 in
theorem ok50 : Callable Try.prog 50 ∧ Valid Try.prog 50 sNums.spec :=
  AllOK.head (AllOK.f mixed (((AllOK.nil Try.prog).and ok23).and ok59) Try.func50 (by kernel_rfl) sNums (fun x => (invs [(3, inv50 x.1.1 x.1.2 x.2.1)])) (fun x => noInv) fun x h => vc50 x.1.1 x.1.2 x.2.1 h)
set_option maxRecDepth 100000 in
theorem ok39 : Callable Try.prog 39 ∧ Valid Try.prog 39 sPools.spec :=
  AllOK.head (AllOK.f mixed (((((((((AllOK.nil Try.prog).and ok49).and ok47).and ok59).and ok43).and ok41).and ok102).and ok23).and ok50) Try.func39 (by kernel_rfl) sPools (fun x => (invs [(4, inv39 x.1.1 x.1.2 x.2.1.1 x.2.1.2 x.2.2.1)])) (fun x => noInv) fun x h => vc39 x.1.1 x.1.2 x.2.1.1 x.2.1.2 x.2.2.1 h)
set_option maxRecDepth 100000 in
theorem ok38 : Callable Try.prog 38 ∧ Valid Try.prog 38 sSane18.spec :=
  AllOK.head (AllOK.d mixed ((((((AllOK.nil Try.prog).and ok63).and ok42).and ok53).and ok22).and ok70) Try.func38 (by kernel_rfl) sSane18 (fun x => noInv) (fun x => noInv) fun x h => vc38 () h)
set_option maxRecDepth 100000 in
theorem ok55 : Callable Try.prog 55 ∧ Valid Try.prog 55 sLeft.spec :=
  AllOK.head (AllOK.d mixed (AllOK.nil Try.prog) Try.func55 (by kernel_rfl) sLeft (fun x => noInv) (fun x => noInv) fun x h => vc55 x.1.1 x.1.2 h)
set_option maxRecDepth 100000 in
theorem ok56 : Callable Try.prog 56 ∧ Valid Try.prog 56 sSorted.spec :=
  AllOK.head (AllOK.f mixed (AllOK.nil Try.prog) Try.func56 (by kernel_rfl) sSorted (fun x => (invsS [(3, inv56a x.1), (6, inv56b x.1)])) (fun x => noInv) fun x h => vc56 x.1 h)
set_option maxRecDepth 100000 in
theorem walk9 (a0 : Option Addr) (len0 cap0 : Nat) (z0 : List Int) (w : World) (w0 : IsRow .i64 w a0 len0 cap0 z0) : Calls Try.prog 9 #[.slice a0 len0 cap0] w fun e w' => e = .returned (.bool true) ∧ Below w.heap.size w w' :=
  law_ofD (EV Try.prog [(14, sLight.spec), (38, sSane18.spec), (16, sRoll.spec), (17, sTree.spec), (23, sNext.spec), (39, sPools.spec), (48, sRfT.spec), (54, sThr.spec), (55, sLeft.spec), (47, sSome.spec), (56, sSorted.spec), (45, sIdT.spec), (41, sGroup.spec), (42, sSpT.spec), (21, sAnc.spec), (57, sLimited.spec)] (invsS [(9, inv9a), (18, inv9b (z0.take len0)), (34, inv9c), (26, inv9d), (43, inv9e)]) (invsS [(40, inv9j (z0.take len0))])) (((((((((((((((((AllOK.nil Try.prog).and ok57).and ok21).and ok42).and ok41).and ok45).and ok56).and ok47).and ok55).and ok54).and ok48).and ok39).and ok23).and ok17).and ok16).and ok38).and ok14) mixed Try.func9 (avs := [.irec true 0 (z0.take len0)]) (xs := [.slice a0 len0 cap0]) (.cons (row_rel w0) .nil) (vc9 (z0.take len0) trivial) rfl rfl rfl rfl
end Go.Proofs.Ytemffnpliflkgaa
