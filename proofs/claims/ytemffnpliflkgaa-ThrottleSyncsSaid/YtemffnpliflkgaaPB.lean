/-
  Lemmas and contracts on the way to the laws of this seat; each theorem states its own conditions, and there are no others.
-/
import Derived.Test.YtemffnpliflkgaaVB
namespace Go.Proofs.Ytemffnpliflkgaa
open Go Go.RowKit
set_option linter.unusedVariables false
set_option linter.unusedSimpArgs false

theorem hasR_iff {l : List Nod} {n g : Int} : hasR l n g = true ↔ ChkP l n ∧ g ∈ ids l := by
  rw [hasR, Bool.and_eq_true, chkB_iff, hasB_iff]
theorem add_ok {l : List Nod} {n p : Int} {s : ByteArray} (h : addE l n p s = 0) : ChkP l n ∧ nameB s = true ∧ p ∈ ids l ∧ (∀ i, i < l.length → ¬ ((nd l i).parent = p ∧ (nd l i).name = s)) ∧ (upT l p).length ≤ 8 ∧ l.length < 64 ∧ n ≤ 2147483647 := by
  unfold addE at h
  split at h
  · omega
  rename_i h1
  split at h
  · omega
  rename_i h2
  split at h
  · omega
  rename_i h3
  split at h
  · omega
  rename_i h4
  simp only [not_or, Bool.not_eq_false] at h1 h2 h3 h4
  obtain ⟨h5, h6⟩ := hasR_iff.1 h2
  have e : ancR l n p = upT l p := by rw [ancR, if_pos h2]
  rw [e] at h4
  exact ⟨h5, h1.2, h6, soleB_iff.1 h3, by omega, by omega, by omega⟩
theorem rm_ok {l : List Nod} {n g : Int} (h : rmE l n g = 0) : ChkP l n ∧ g ∈ ids l ∧ g ≠ 1 ∧ chn l g = [] := by
  unfold rmE at h
  split at h
  · omega
  rename_i h1
  split at h
  · omega
  rename_i h2
  split at h
  · omega
  rename_i h3
  split at h
  · omega
  rename_i h4
  simp only [Bool.not_eq_false] at h1 h2
  obtain ⟨h5, h6⟩ := hasR_iff.1 h2
  have e : chnR l n g = chn l g := by rw [chnR, if_pos h2]
  rw [e] at h4
  exact ⟨h5, h6, h3, List.eq_nil_of_length_eq_zero (by omega)⟩
theorem add_chk {l : List Nod} {n p : Int} {s : ByteArray} (h : addE l n p s = 0) : ChkP (addL l n p s) (addN l n p s) := by
  obtain ⟨h1, h2, h3, h4, h5, h6, h7⟩ := add_ok h
  rw [addL, addN, if_pos h, if_pos h]
  exact h1.add h3 h2 h4 h5 h6 h7
theorem rm_erase {l : List Nod} {n g : Int} (h : rmE l n g = 0) : ∃ r, 0 < r ∧ r < l.length ∧ (nd l r).id = g ∧ rmL l n g = l.eraseIdx r ∧ rmN l n g = n ∧ ChkP (l.eraseIdx r) n := by
  obtain ⟨h1, h2, h3, h4⟩ := rm_ok h
  obtain ⟨r, hr, e⟩ := ids_mem.1 h2
  have h0 : 0 < r := by
    rcases Nat.eq_zero_or_pos r with e0 | e0
    · subst e0
      have := (h1.asc.root (by omega)).1
      omega
    · exact e0
  refine ⟨r, h0, hr, e, ?_, by rw [rmN, if_pos h], h1.remove hr h0 (by rw [e]; exact h4)⟩
  rw [rmL, if_pos h, ← filter_erase h1.asc hr, e]
theorem rm_chk {l : List Nod} {n g : Int} (h : rmE l n g = 0) : ChkP (rmL l n g) (rmN l n g) := by
  obtain ⟨r, _, _, _, e1, e2, h3⟩ := rm_erase h
  rw [e1, e2]; exact h3
theorem tree_root : TreeP [⟨1, 0, ByteArray.empty, 0, 0, 0⟩] 2 := ⟨chkB_iff.1 (by decide), fun x hx => by simp at hx; subst hx; exact .inl rfl⟩
theorem tree_add {l : List Nod} {n p : Int} {s : ByteArray} (t : TreeP l n) (hs : s ∈ wordsS) (h : addE l n p s = 0) : TreeP (addL l n p s) (addN l n p s) ∧ (addL l n p s).length = l.length + 1 := by
  refine ⟨⟨add_chk h, fun x hx => ?_⟩, by rw [addL, if_pos h]; simp⟩
  rw [addL, if_pos h] at hx
  rcases List.mem_append.1 hx with hx | hx
  · exact t.word x hx
  · simp at hx; subst hx; exact .inr hs
theorem tree_rm {l : List Nod} {n g : Int} (t : TreeP l n) (h : rmE l n g = 0) : TreeP (rmL l n g) (rmN l n g) ∧ (rmL l n g).length ≤ l.length := by
  obtain ⟨r, _, _, _, e1, e2, h3⟩ := rm_erase h
  rw [e1, e2]
  refine ⟨⟨h3, fun x hx => t.word x ((List.eraseIdx_sublist l r).subset hx)⟩, (List.eraseIdx_sublist l r).length_le⟩
/-- Nodes whose numbers and names are those of a machine. -/
structure WfN (l : List Nod) : Prop where
  name : ∀ i, i < l.length → (bytesOf (nd l i).name).length ≤ 9223372036854775807
  ctl : ∀ i, i < l.length → (nd l i).control ≤ 9223372036854775807
  len : l.length ≤ 9223372036854775807
theorem ChkP.wf {l : List Nod} {n : Int} (h : ChkP l n) : WfN l where
  name := fun i hi => by
    by_cases e : i = 0
    · subst e
      rw [((h.nod 0 hi).root rfl).name]
      decide
    · have := (nameB_iff.1 ((h.nod i hi).fine (by omega)).name).2.1
      omega
  ctl := fun i hi => by have := (h.nod i hi).ctl.c1; omega
  len := by have := h.len2; omega
def idxN (l : List Nod) (g : Int) : Int := match l.findIdx? (fun x => decide (x.id = g)) with
  | some k => k
  | none => -1
theorem idx_first {l : List Nod} {g : Int} {i : Nat} (h : ∀ j, j < i → ¬ (nd l j).id = g) (hi : i < l.length) (e : (nd l i).id = g) : idxN l g = i := by
  have : l.findIdx? (fun x => decide (x.id = g)) = some i := by
    rw [List.findIdx?_eq_some_iff_getElem]
    have e1 : ∀ j (hj : j < l.length), nd l j = l[j] := fun j hj => by simp [nd, List.getD_eq_getElem?_getD, hj]
    refine ⟨hi, by rw [← e1 i hi]; simpa using e, fun j hj => ?_⟩
    have := h j hj
    rw [e1 j (by omega)] at this
    simpa using this
  rw [idxN, this]
theorem idx_all {l : List Nod} {g : Int} (h : ∀ j, j < l.length → ¬ (nd l j).id = g) : idxN l g = -1 := by
  have : l.findIdx? (fun x => decide (x.id = g)) = none := by
    rw [List.findIdx?_eq_none_iff]
    intro x hx
    obtain ⟨i, hi, e⟩ := mem_nd hx
    simpa [e] using h i hi
  rw [idxN, this]
theorem idx_cases (l : List Nod) (g : Int) : (∃ i : Nat, i < l.length ∧ (nd l i).id = g ∧ (∀ j, j < i → ¬ (nd l j).id = g) ∧ idxN l g = i) ∨ ((∀ j, j < l.length → ¬ (nd l j).id = g) ∧ idxN l g = -1) := by
  by_cases h : ∀ j, j < l.length → ¬ (nd l j).id = g
  · exact .inr ⟨h, idx_all h⟩
  · left
    have hex : ∃ i, i < l.length ∧ (nd l i).id = g := by
      apply Classical.byContradiction
      intro hn
      exact h fun j hj e => hn ⟨j, hj, e⟩
    obtain ⟨i, hi, e, hmin⟩ : ∃ i, i < l.length ∧ (nd l i).id = g ∧ ∀ j, j < i → ¬ (nd l j).id = g := by
      obtain ⟨i0, h0⟩ := hex
      induction i0 using Nat.strongRecOn with
      | _ i ih =>
        by_cases c : ∃ j, j < i ∧ (nd l j).id = g
        · obtain ⟨j, hj, ej⟩ := c
          exact ih j hj ⟨by omega, ej⟩
        · exact ⟨i, h0.1, h0.2, fun j hj e => c ⟨j, hj, e⟩⟩
    exact ⟨i, hi, e, hmin, idx_first hmin hi e⟩
theorem sub_ex {l : List Nod} (h : Asc l) (g : Int) : ∃ s, Sub l g s := by
  refine ⟨(ids l).filter fun x => decide (g ∈ upT l x), h.nodup.sublist List.filter_sublist, fun x => ?_⟩
  rw [List.mem_filter, decide_eq_true_eq]
  refine ⟨fun hh => hh.2, fun hh => ⟨?_, hh⟩⟩
  by_cases c : x ∈ ids l
  · exact c
  · rw [upT_none c] at hh; cases hh
/-- The depth of a group, in the first ones of a list; 0 for others. -/
def dpt (l : List Nod) (i : Nat) (g : Int) : Int := (((up (l.take i).reverse g).length - 1 : Nat) : Int)
theorem bits31 {c : Int} (h0 : 0 ≤ c) (h1 : c ≤ 9223372036854775807) : bitI .andNot .i64 c 31 = 0 ↔ c ≤ 31 := by
  obtain ⟨n, rfl⟩ := Int.eq_ofNat_of_zero_le h0
  have hn : n < 2 ^ 64 := by omega
  have key : BitVec.ofInt 64 (n : Int) &&& ~~~BitVec.ofInt 64 31 = 0#64 ↔ n ≤ 31 := by
    have e1 : BitVec.ofInt 64 (n : Int) = BitVec.ofNat 64 n := by simp
    have e2 : BitVec.ofInt 64 31 = BitVec.ofNat 64 (2 ^ 5 - 1) := by decide
    rw [e1, e2]
    constructor
    · intro h
      have h5 : n / 2 ^ 5 = 0 := by
        apply Nat.eq_of_testBit_eq
        intro i
        have hb := congrArg (fun v => BitVec.getLsbD v (5 + i)) h
        simp only [BitVec.getLsbD_and, BitVec.getLsbD_not, BitVec.getLsbD_ofNat, Nat.testBit_two_pow_sub_one, BitVec.getLsbD_zero] at hb
        rw [Nat.testBit_div_two_pow, Nat.zero_testBit, Nat.add_comm i 5]
        by_cases c : 5 + i < 64
        · have c2 : ¬ 5 + i < 5 := by omega
          simpa [c, c2] using hb
        · exact Nat.testBit_lt_two_pow (Nat.lt_of_lt_of_le hn (Nat.pow_le_pow_right (by omega) (by omega)))
      omega
    · intro h
      apply BitVec.eq_of_getLsbD_eq
      intro i hi
      simp only [BitVec.getLsbD_and, BitVec.getLsbD_not, BitVec.getLsbD_ofNat, Nat.testBit_two_pow_sub_one, BitVec.getLsbD_zero]
      by_cases c : i < 5
      · simp [c]
      · have : n.testBit i = false := Nat.testBit_lt_two_pow (by
          have : 2 ^ 5 ≤ 2 ^ i := Nat.pow_le_pow_right (by omega) (by omega)
          omega)
        simp [this]
  have hz : ∀ v : BitVec 64, IntKind.i64.wrap (v.toNat : Int) = 0 ↔ v = 0#64 := fun v => by
    have hv := v.isLt
    constructor
    · intro h
      simp only [IntKind.wrap, IntKind.bits, IntKind.signed] at h
      apply BitVec.eq_of_toNat_eq
      simp at h ⊢
      omega
    · intro h; subst h; rfl
  show IntKind.i64.wrap ((BitVec.ofInt 64 (n : Int) &&& ~~~BitVec.ofInt 64 31).toNat : Int) = 0 ↔ _
  rw [hz, key]
  omega
/-- The group with a number, an empty one if there is none. -/
def findD (l : List Nod) (g : Int) : Nod := (findN l g).getD nz
theorem findD_at {l : List Nod} {i : Nat} {g : Int} (h : ∀ j, j < i → ¬ (nd l j).id = g) (hi : i < l.length) (e : (nd l i).id = g) : findD l g = nd l i := by
  rw [findD, (find_first h hi e).1]; rfl
theorem findD_none {l : List Nod} {g : Int} (h : ∀ j, j < l.length → ¬ (nd l j).id = g) : findD l g = nz := by
  rw [findD, (find_all h).1]; rfl
theorem nd_snoc {l : List Nod} {x : Nod} : nd (l ++ [x]) l.length = x := nd_last
theorem parB_app {l m : List Nod} {i : Nat} {g : Int} (h : i ≤ l.length) : parB (l ++ m) i g = parB l i g := by
  unfold parB
  rw [Bool.eq_iff_iff, List.any_eq_true, List.any_eq_true]
  have e : ∀ k, k < i → nd (l ++ m) k = nd l k := fun k hk => by simp [nd, List.getD_eq_getElem?_getD, List.getElem?_append_left (show k < l.length by omega)]
  constructor
  · rintro ⟨k, hk, h1⟩
    rw [e k (by simpa using hk)] at h1
    exact ⟨k, hk, h1⟩
  · rintro ⟨k, hk, h1⟩
    exact ⟨k, hk, by rw [e k (by simpa using hk)]; exact h1⟩
theorem soleB_app {l m : List Nod} {i : Nat} {p : Int} {s : ByteArray} (h : i ≤ l.length) : soleB (l ++ m) i p s = soleB l i p s := by
  rw [Bool.eq_iff_iff, soleB_iff, soleB_iff]
  have e : ∀ k, k < i → nd (l ++ m) k = nd l k := fun k hk => by simp [nd, List.getD_eq_getElem?_getD, List.getElem?_append_left (show k < l.length by omega)]
  constructor
  · intro h1 k hk; rw [← e k hk]; exact h1 k hk
  · intro h1 k hk; rw [e k hk]; exact h1 k hk
theorem fineB_app {l m : List Nod} {i : Nat} (h : i < l.length) : fineB (l ++ m) i = fineB l i := by
  unfold fineB
  have e : ∀ k, k ≤ i → nd (l ++ m) k = nd l k := fun k hk => by simp [nd, List.getD_eq_getElem?_getD, List.getElem?_append_left (show k < l.length by omega)]
  rw [e i (Nat.le_refl _), e (i - 1) (by omega), parB_app (by omega), soleB_app (by omega)]
theorem take_snoc {l : List Nod} {i : Nat} (h : i < l.length) : l.take i ++ [nd l i] = l.take (i + 1) := by
  rw [List.take_add_one, List.getElem?_eq_getElem h]
  simp [nd, List.getD_eq_getElem?_getD, List.getElem?_eq_getElem h]
theorem fineB_take {l : List Nod} {i : Nat} (h : i < l.length) : fineB (l.take i ++ [nd l i]) i = fineB l i := by
  rw [take_snoc h]
  have := fineB_app (l := l.take (i + 1)) (m := l.drop (i + 1)) (i := i) (by simp; omega)
  rw [List.take_append_drop] at this
  exact this.symm

theorem bad_nod {l : List Nod} {x : Int} (h0 : 0 ≤ x) (h1 : x < l.length) (hw : WfN l) (hr : rootB (nd l 0) = true) :
    (decide ((nd l x.toNat).control < 0) || !decide (bitI .andNot .i64 (nd l x.toNat).control 31 = 0) || decide ((nd l x.toNat).owner < 0) || decide (1048576 < (nd l x.toNat).owner) || decide (0 < x) && !(fineB (l.take x.toNat ++ [nd l x.toNat]) (l.take x.toNat).length && (decide ((nd l x.toNat).kind = 0) || decide ((nd l x.toNat).kind = 1)))) = !nodB l x.toNat := by
  have hc := hw.ctl x.toNat (by omega)
  have hlen : (l.take x.toNat).length = x.toNat := by simp; omega
  rw [hlen, fineB_take (by omega)]
  have e1 : (decide ((nd l x.toNat).control < 0) || !decide (bitI .andNot .i64 (nd l x.toNat).control 31 = 0)) = !(decide (0 ≤ (nd l x.toNat).control) && decide ((nd l x.toNat).control ≤ 31)) := by
    by_cases c : 0 ≤ (nd l x.toNat).control
    · have := bits31 c hc
      have c2 : ¬ (nd l x.toNat).control < 0 := by omega
      by_cases d : (nd l x.toNat).control ≤ 31
      · simp [c2, this.2 d, c, d]
      · have d2 : ¬ bitI .andNot .i64 (nd l x.toNat).control 31 = 0 := fun e => d (this.1 e)
        simp [c2, d2, d]
    · have c2 : (nd l x.toNat).control < 0 := by omega
      simp [c, c2]
  have e2 : decide ((nd l x.toNat).owner < 0) = !decide (0 ≤ (nd l x.toNat).owner) := by
    by_cases c : 0 ≤ (nd l x.toNat).owner
    · have : ¬ (nd l x.toNat).owner < 0 := by omega
      simp [c, this]
    · have : (nd l x.toNat).owner < 0 := by omega
      simp [c, this]
  have e3 : decide (1048576 < (nd l x.toNat).owner) = !decide ((nd l x.toNat).owner ≤ 1048576) := by
    by_cases c : (nd l x.toNat).owner ≤ 1048576
    · have : ¬ 1048576 < (nd l x.toNat).owner := by omega
      simp [c, this]
    · have : 1048576 < (nd l x.toNat).owner := by omega
      simp [c, this]
  rw [e1, e2, e3]
  unfold nodB ctlB
  by_cases hx : x = 0
  · subst hx
    have k := (rootB_iff.1 hr).kind
    have e0 : Int.toNat 0 = 0 := rfl
    rw [e0, if_pos rfl, hr, k]
    have e4 : decide ((0 : Int) < 0) = false := rfl
    have e5 : decide ((0 : Int) = 0) = true := rfl
    rw [e4, e5]
    generalize decide (0 ≤ (nd l 0).control) = a1
    generalize decide ((nd l 0).control ≤ 31) = a2
    generalize decide (0 ≤ (nd l 0).owner) = a3
    generalize decide ((nd l 0).owner ≤ 1048576) = a4
    generalize fineB l 0 = a5
    generalize decide ((0 : Int) = 1) = a6
    revert a1 a2 a3 a4 a5 a6; decide
  · have e4 : decide (0 < x) = true := by rw [decide_eq_true_eq]; omega
    rw [if_neg (by omega), e4]
    generalize decide (0 ≤ (nd l x.toNat).control) = a1
    generalize decide ((nd l x.toNat).control ≤ 31) = a2
    generalize decide (0 ≤ (nd l x.toNat).owner) = a3
    generalize decide ((nd l x.toNat).owner ≤ 1048576) = a4
    generalize decide ((nd l x.toNat).kind = 0) = a5
    generalize decide ((nd l x.toNat).kind = 1) = a6
    generalize fineB l x.toNat = a7
    revert a1 a2 a3 a4 a5 a6 a7; decide
theorem dpt_zero (l : List Nod) : dpt l 0 = fun _ => 0 := rfl
theorem dpt_succ {l : List Nod} {i : Nat} (h : i < l.length) (g : Int) : dpt l (i + 1) g = if (nd l i).id = g then ((up (l.take i).reverse (nd l i).parent).length : Int) else dpt l i g := by
  unfold dpt
  rw [up_step h]
  by_cases c : (nd l i).id = g
  · rw [if_pos c, if_pos c]; simp
  · rw [if_neg c, if_neg c]
theorem up_has : ∀ {l : List Nod} {g : Int}, g ∈ l.map (·.id) → 1 ≤ (up l g).length
  | x :: r, g, h => by
    rw [up]
    split
    · simp
    · rename_i c
      rcases List.mem_cons.1 h with e | h
      · exact absurd e.symm c
      · exact up_has h
theorem dpt_par {l : List Nod} {i : Nat} (h : i < l.length) (hf : FineAt l i) : dpt l i (nd l i).parent + 1 = ((up (l.take i).reverse (nd l i).parent).length : Int) := by
  obtain ⟨k, hk, e⟩ := hf.par
  have : 1 ≤ (up (l.take i).reverse (nd l i).parent).length := by
    apply up_has
    rw [List.map_reverse, List.mem_reverse, List.mem_map]
    refine ⟨nd (l.take i) k, nd_mem (by simp; omega), ?_⟩
    rw [nd_take hk]; exact e
  unfold dpt
  omega
theorem dep_len {l : List Nod} {i : Nat} (h : i < l.length) : depB l i = decide ((up (l.take i).reverse (nd l i).parent).length ≤ 8) := by
  unfold depB
  rw [up_step h, if_pos rfl, decide_eq_decide]
  simp
end Go.Proofs.Ytemffnpliflkgaa
