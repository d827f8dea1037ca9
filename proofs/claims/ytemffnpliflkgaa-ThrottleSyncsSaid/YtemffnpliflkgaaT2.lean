/-
  Lemmas and contracts on the way to the laws of this seat; each theorem states its own conditions, and there are no others.
-/
import Derived.Test.YtemffnpliflkgaaT
namespace Go.Proofs.Ytemffnpliflkgaa
open Go
set_option linter.unusedVariables false
set_option linter.unusedSimpArgs false

/-- A tree, told by what lies on the way up. -/
theorem chk_of {l : List Nod} {n : Int} (h1 : 1 ≤ l.length) (h2 : l.length ≤ 64) (h3 : ∀ i, i < l.length → NodOk l i) (h4 : Asc l → ∀ i, i < l.length → (upT l (nd l i).id).length ≤ 9) (h5 : (nd l (l.length - 1)).id < n) (h6 : n ≤ 2147483648) : ChkP l n := by
  have ha : Asc l := by
    refine ⟨fun i j hij hj => ?_, fun h0 => ⟨((h3 0 h0).root rfl).id, ((h3 0 h0).root rfl).par⟩, fun i h0 hi => ((h3 i hi).fine h0).par⟩
    induction j with
    | zero => omega
    | succ j ih =>
      have h1 := ((h3 (j + 1) hj).fine (by omega)).asc
      simp only [Nat.add_sub_cancel] at h1
      by_cases e : i = j
      · subst e; exact h1
      · have := ih (by omega) (by omega); omega
  refine ⟨h1, h2, h3, fun i hi => ?_, h5, h6⟩
  have := h4 ha i hi
  have e := ha.skip (i := i) (j := l.length) hi (Nat.le_refl _)
  rw [List.take_length] at e
  unfold DepAt
  rw [← e]; exact this
theorem ChkP.up_len {l : List Nod} {n : Int} (h : ChkP l n) {i : Nat} (hi : i < l.length) : (upT l (nd l i).id).length ≤ 9 := by
  have h1 := h.dep i hi
  have e := h.asc.skip (i := i) (j := l.length) hi (Nat.le_refl _)
  rw [List.take_length] at e
  unfold upT
  rw [e]; exact h1
theorem nd_append {l : List Nod} {x : Nod} {i : Nat} (h : i < l.length) : nd (l ++ [x]) i = nd l i := by
  simp [nd, List.getD_eq_getElem?_getD, List.getElem?_append_left h]
theorem nd_last {l : List Nod} {x : Nod} : nd (l ++ [x]) l.length = x := by
  simp [nd, List.getD_eq_getElem?_getD]
theorem ChkP.lt_next {l : List Nod} {n : Int} (h : ChkP l n) {i : Nat} (hi : i < l.length) : (nd l i).id < n := by
  have h1 := h.nx1
  by_cases e : i = l.length - 1
  · subst e; exact h1
  · have := h.asc.lt i (l.length - 1) (by omega) (by omega); omega
theorem upT_append {l : List Nod} {x : Nod} {g : Int} (h : g ≠ x.id) : upT (l ++ [x]) g = upT l g := by
  unfold upT
  rw [List.reverse_append]
  show up (x :: l.reverse) g = _
  rw [up, if_neg fun e => h e.symm]
theorem upT_new {l : List Nod} {x : Nod} : upT (l ++ [x]) x.id = x.id :: upT l x.parent := by
  unfold upT
  rw [List.reverse_append]
  show up (x :: l.reverse) x.id = _
  rw [up, if_pos rfl]
/-- A group is added. -/
theorem ChkP.add {l : List Nod} {n : Int} (h : ChkP l n) {p : Int} {s : ByteArray} (hp : p ∈ ids l) (hs : nameB s = true) (hd : ∀ i, i < l.length → ¬ ((nd l i).parent = p ∧ (nd l i).name = s)) (hu : (upT l p).length ≤ 8) (hl : l.length < 64) (hn : n ≤ 2147483647) : ChkP (l ++ [⟨n, p, s, 0, 0, 0⟩]) (n + 1) := by
  obtain ⟨q, hq, eq⟩ := ids_mem.1 hp
  have h1 := h.len1
  refine chk_of (by simp) (by simp; omega) (fun i hi => ?_) (fun ha i hi => ?_) ?_ (by omega)
  · have hi' : i < l.length ∨ i = l.length := by simp at hi; omega
    rcases hi' with hi' | rfl
    · obtain ⟨c, r, f⟩ := h.nod i hi'
      refine ⟨by rw [nd_append hi']; exact c, fun e => by rw [nd_append (by omega)]; exact r e, fun e => ?_⟩
      obtain ⟨f1, f2, ⟨k, hk, f3⟩, f4⟩ := f e
      refine ⟨by rw [nd_append hi', nd_append (by omega)]; exact f1, by rw [nd_append hi']; exact f2, ⟨k, hk, by rw [nd_append hi', nd_append (by omega)]; exact f3⟩, fun k hk => ?_⟩
      rw [nd_append hi', nd_append (by omega)]; exact f4 k hk
    · refine ⟨by rw [nd_last]; exact ⟨Int.le_refl 0, (by show (0:Int) ≤ 31; omega), Int.le_refl 0, (by show (0:Int) ≤ 1048576; omega), .inl rfl⟩, fun e => by omega, fun e => ⟨?_, by rw [nd_last]; exact hs, ⟨q, hq, by rw [nd_last, nd_append hq]; exact eq⟩, fun k hk => ?_⟩⟩
      · rw [nd_last, nd_append (by omega)]; exact h.lt_next (by omega)
      · rw [nd_last, nd_append hk]; exact hd k hk
  · have hi' : i < l.length ∨ i = l.length := by simp at hi; omega
    rcases hi' with hi' | rfl
    · rw [nd_append hi', upT_append (by have := h.lt_next hi'; simp only; omega)]
      exact h.up_len hi'
    · rw [nd_last, upT_new]
      simp only [List.length_cons]
      omega
  · simp only [List.length_append, List.length_cons, List.length_nil, Nat.zero_add, Nat.add_sub_cancel, nd_last]
    omega
theorem nd_erase {l : List Nod} {r i : Nat} : nd (l.eraseIdx r) i = if i < r then nd l i else nd l (i + 1) := by
  unfold nd
  simp only [List.getD_eq_getElem?_getD, List.getElem?_eraseIdx]
  split <;> rfl
theorem filter_erase {l : List Nod} (h : Asc l) {r : Nat} (hr : r < l.length) : (l.filter fun x => !decide (x.id = (nd l r).id)) = l.eraseIdx r := by
  have key : ∀ (l : List Nod) (r : Nat), r < l.length → (∀ i, i < l.length → ((nd l i).id = (nd l r).id ↔ i = r)) → (l.filter fun x => !decide (x.id = (nd l r).id)) = l.eraseIdx r := by
    intro l
    induction l with
    | nil => intro r hr; simp at hr
    | cons x t ih =>
      intro r hr hk
      cases r with
      | zero =>
        have hx : nd (x :: t) 0 = x := rfl
        rw [hx] at hk ⊢
        rw [List.eraseIdx_zero, List.filter_cons]
        simp only [decide_true, Bool.not_true, Bool.false_eq_true, if_false, List.tail_cons]
        rw [List.filter_eq_self]
        intro y hy
        obtain ⟨i, hi, e⟩ := mem_nd hy
        have := hk (i + 1) (by simp; omega)
        have e2 : nd (x :: t) (i + 1) = nd t i := rfl
        rw [e2, e] at this
        simpa using fun e3 => absurd (this.1 e3) (by omega)
      | succ r =>
        have e2 : nd (x :: t) (r + 1) = nd t r := rfl
        have h0 := hk 0 (by simp)
        have hx : nd (x :: t) 0 = x := rfl
        rw [hx] at h0
        have hne : ¬ x.id = (nd (x :: t) (r + 1)).id := fun e => absurd (h0.1 e) (by omega)
        rw [List.eraseIdx_cons_succ, List.filter_cons, if_pos (by simpa using hne)]
        congr 1
        rw [e2] at hk ⊢
        refine ih r (by simpa using hr) fun i hi => ?_
        have := hk (i + 1) (by simp; omega)
        have e3 : nd (x :: t) (i + 1) = nd t i := rfl
        rw [e3] at this
        omega
  exact key l r hr fun i hi => ⟨fun e => h.inj hi hr e, fun e => by rw [e]⟩
/-- A group without children is removed. -/
theorem ChkP.remove {l : List Nod} {n : Int} (h : ChkP l n) {r : Nat} (hr : r < l.length) (h0 : 0 < r) (hc : chn l (nd l r).id = []) : ChkP (l.eraseIdx r) n := by
  have ha := h.asc
  have hlen : (l.eraseIdx r).length = l.length - 1 := by rw [List.length_eraseIdx, if_pos hr]
  have nopar : ∀ i, i < l.length → (nd l i).parent ≠ (nd l r).id := fun i hi e => by
    have : (nd l i).id ∈ chn l (nd l r).id := chn_mem.2 ⟨i, hi, rfl, e⟩
    rw [hc] at this; cases this
  -- the old place of a group
  let old : Nat → Nat := fun i => if i < r then i else i + 1
  have hold : ∀ i, nd (l.eraseIdx r) i = nd l (old i) := fun i => by
    rw [nd_erase]; simp only [old]; split <;> rfl
  have olt : ∀ i, i < l.length - 1 → old i < l.length := fun i hi => by simp only [old]; split <;> omega
  have one : ∀ i, old i ≠ r := fun i => by simp only [old]; split <;> omega
  have omono : ∀ i j, i < j → old i < old j := fun i j hij => by simp only [old]; split <;> split <;> omega
  have onew : ∀ i j, i < old j → i ≠ r → ∃ k, k < j ∧ old k = i := fun i j hij hne => by
    by_cases c : i < r
    · refine ⟨i, ?_, by simp only [old, if_pos c]⟩
      simp only [old] at hij
      split at hij <;> omega
    · refine ⟨i - 1, ?_, ?_⟩
      · simp only [old] at hij
        split at hij <;> omega
      · have : ¬ i - 1 < r := by omega
        simp only [old, if_neg this]; omega
  have hnod : ∀ i, i < (l.eraseIdx r).length → NodOk (l.eraseIdx r) i := fun i hi => by
    rw [hlen] at hi
    obtain ⟨c, ro, f⟩ := h.nod (old i) (olt i hi)
    refine ⟨by rw [hold]; exact c, fun e => ?_, fun e => ?_⟩
    · have e0 : old 0 = 0 := by simp only [old, if_pos h0]
      rw [hold, e0]
      subst e
      exact ro e0
    · have hp : 0 < old i := by simp only [old]; split <;> omega
      obtain ⟨f1, f2, ⟨k, hk, f3⟩, f4⟩ := f hp
      refine ⟨?_, by rw [hold]; exact f2, ?_, fun k hk => ?_⟩
      · rw [hold, hold]
        have h1 : old (i - 1) < old i := omono _ _ (by omega)
        exact ha.lt _ _ h1 (olt i hi)
      · have hkr : k ≠ r := fun e => by
          subst e
          exact nopar (old i) (olt i hi) f3.symm
        obtain ⟨k', hk', e'⟩ := onew k i hk hkr
        exact ⟨k', hk', by rw [hold, hold, e']; exact f3⟩
      · rw [hold, hold]
        exact f4 (old k) (omono _ _ hk)
  refine chk_of (by have := h.len1; omega) (by have := h.len2; omega) hnod (fun ha' i hi => ?_) ?_ h.nx2
  · have key : ∀ i, i < l.length - 1 → upT (l.eraseIdx r) (nd (l.eraseIdx r) i).id = upT l (nd l (old i)).id := by
      intro i
      induction i using Nat.strongRecOn with
      | _ i ih =>
        intro hi
        rw [ha'.upT_par (by omega), hold, ha.upT_par (olt i hi)]
        congr 1
        by_cases i0 : i = 0
        · subst i0
          have e0 : old 0 = 0 := by simp only [old, if_pos h0]
          rw [e0, (ha.root (by omega)).2, upT_none ha.notzero, upT_none ha'.notzero]
        · have hp : 0 < old i := by simp only [old]; split <;> omega
          obtain ⟨k, hk, e⟩ := ha.par (old i) hp (olt i hi)
          have hkr : k ≠ r := fun e2 => by
            rw [e2] at e
            exact nopar (old i) (olt i hi) e.symm
          obtain ⟨k', hk', e'⟩ := onew k i hk hkr
          rw [← e, ← e']
          have := ih k' hk' (by omega)
          rw [hold] at this
          exact this
    rw [key i (by omega)]
    exact h.up_len (olt i (by omega))
  · rw [hold, hlen]
    refine h.lt_next ?_
    have := h.len1
    have : l.length - 1 - 1 < l.length - 1 := by omega
    exact olt _ this

theorem parB_succ {l : List Nod} {i : Nat} {g : Int} : parB l (i + 1) g = (parB l i g || decide ((nd l i).id = g)) := by
  simp only [parB, List.range_succ, List.any_append, List.any_cons, List.any_nil, Bool.or_false]
theorem soleB_succ {l : List Nod} {i : Nat} {p : Int} {s : ByteArray} : soleB l (i + 1) p s = (soleB l i p s && !(decide ((nd l i).parent = p) && decide ((nd l i).name = s))) := by
  simp only [soleB, List.range_succ, List.all_append, List.all_cons, List.all_nil, Bool.and_true]
theorem chkB_alt {l : List Nod} {n : Int} : chkB l n = true ↔ 1 ≤ l.length ∧ l.length ≤ 64 ∧ (∀ i, i < l.length → nodB l i = true) ∧ (∀ i, i < l.length → (upT l (nd l i).id).length ≤ 9) ∧ (nd l (l.length - 1)).id < n ∧ n ≤ 2147483648 := by
  rw [chkB_iff]
  constructor
  · intro h
    exact ⟨h.len1, h.len2, fun i hi => nodB_iff.2 (h.nod i hi), fun i hi => h.up_len hi, h.nx1, h.nx2⟩
  · rintro ⟨h1, h2, h3, h4, h5, h6⟩
    exact chk_of h1 h2 (fun i hi => nodB_iff.1 (h3 i hi)) (fun _ => h4) h5 h6
theorem find_first {l : List Nod} {g : Int} {i : Nat} (h : ∀ j, j < i → ¬ (nd l j).id = g) (hi : i < l.length) (e : (nd l i).id = g) : findN l g = some (nd l i) ∧ hasB l g = true := by
  refine ⟨?_, hasB_iff.2 (ids_mem.2 ⟨i, hi, e⟩)⟩
  unfold findN
  rw [List.find?_eq_some_iff_getElem]
  refine ⟨by simpa using e, i, hi, by simp [nd, List.getD_eq_getElem?_getD, hi], fun j hj => ?_⟩
  have := h j hj
  have e2 : nd l j = l[j] := by simp [nd, List.getD_eq_getElem?_getD, show j < l.length by omega]
  rw [e2] at this
  simpa using this
theorem find_all {l : List Nod} {g : Int} (h : ∀ j, j < l.length → ¬ (nd l j).id = g) : findN l g = none ∧ hasB l g = false := by
  have hm : g ∉ ids l := fun hm => by
    obtain ⟨i, hi, e⟩ := ids_mem.1 hm
    exact h i hi e
  exact ⟨find_none hm, by rw [← Bool.not_eq_true, hasB_iff]; exact hm⟩
theorem filter_take {l : List Nod} {i : Nat} (h : i < l.length) (g : Int) : (l.take (i + 1)).filter (fun x => !decide (x.id = g)) = (l.take i).filter (fun x => !decide (x.id = g)) ++ (if (nd l i).id = g then [] else [nd l i]) := by
  have e : l.take (i + 1) = l.take i ++ [nd l i] := by
    rw [List.take_add_one, List.getElem?_eq_getElem h]
    simp [nd, List.getD_eq_getElem?_getD, List.getElem?_eq_getElem h]
  rw [e, List.filter_append]
  by_cases c : (nd l i).id = g <;> simp [c]
end Go.Proofs.Ytemffnpliflkgaa
