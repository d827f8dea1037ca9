/-
  Lemmas and contracts on the way to the laws of this seat; each theorem states its own conditions, and there are no others.
-/
import Derived.Test.YtemffnpliflkgaaQF
namespace Go.Proofs.Ytemffnpliflkgaa
open Go
set_option linter.unusedVariables false
set_option linter.unusedSimpArgs false
set_option linter.unusedVariables false

def isKp (g s c : Int) (p : Pool) : Bool := decide (p.g = g) && goodB p && decide (p.s = s) && decide ((p.l.length : Int) = c)
def keptP (ps : List Pool) (g s c : Int) : Option Pool := ps.find? (isKp g s c)
def keptG (ps : List Pool) (g q b s c : Int) : Pool × Bool := match keptP ps g s c with
  | none => (zeroP, false)
  | some p => if p.q = q ∧ p.bu = b then (p, true) else ((changeG p q b).1, decide ((changeG p q b).2 = 0))
def sync1 (ps : List Pool) (g q b s c : Int) : Pool × Int := if (keptG ps g q b s c).2 = true then ((keptG ps g q b s c).1, 0) else newG g q b s c
def syI (l : List Nod) (ps : List Pool) (qs bs : List Int) (s c : Int) (i : Nat) : Pool × Int := sync1 ps (nd l i).id (qs.getD i 0) (bs.getD i 0) s c
def syOk (l : List Nod) (ps : List Pool) (qs bs : List Int) (s c : Int) : Bool := (List.range l.length).all fun i => decide ((syI l ps qs bs s c i).2 = 0)
def syE (l : List Nod) (n : Int) (ps : List Pool) (qs bs : List Int) (s c : Int) : Int := if chkB l n = false ∨ qs.length ≠ l.length ∨ bs.length ≠ l.length then 1 else if syOk l ps qs bs s c = true then 0 else 3
def syT (l : List Nod) (ps : List Pool) (qs bs : List Int) (s c : Int) (i : Nat) : List Pool := (List.range i).map fun j => (syI l ps qs bs s c j).1
def syL (l : List Nod) (n : Int) (ps : List Pool) (qs bs : List Int) (s c : Int) : List Pool := if syE l n ps qs bs s c = 0 then syT l ps qs bs s c l.length else []
theorem syOk_iff {l : List Nod} {ps : List Pool} {qs bs : List Int} {s c : Int} : syOk l ps qs bs s c = true ↔ ∀ i, i < l.length → (syI l ps qs bs s c i).2 = 0 := by
  simp only [syOk, List.all_eq_true, List.mem_range, decide_eq_true_eq]
theorem syT_step (l : List Nod) (ps : List Pool) (qs bs : List Int) (s c : Int) (i : Nat) : syT l ps qs bs s c i ++ [(syI l ps qs bs s c i).1] = syT l ps qs bs s c (i + 1) := by
  simp [syT, List.range_succ]
theorem syT_len (l : List Nod) (ps : List Pool) (qs bs : List Int) (s c : Int) (i : Nat) : (syT l ps qs bs s c i).length = i := by simp [syT]
theorem new_err (g q b s c : Int) : (newG g q b s c).2 = 0 ∨ newG g q b s c = (zeroP, 3) := by
  unfold newG
  by_cases h : 1 ≤ c ∧ c ≤ 16 ∧ goodB (newP g q b s c.toNat) = true
  · rw [if_pos h]; exact .inl rfl
  · rw [if_neg h]; exact .inr rfl
theorem new_ok {g q b s c : Int} (h : (newG g q b s c).2 = 0) : (1 ≤ c ∧ c ≤ 16) ∧ Good (newP g q b s c.toNat) ∧ newG g q b s c = (newP g q b s c.toNat, 0) := by
  by_cases h2 : 1 ≤ c ∧ c ≤ 16 ∧ goodB (newP g q b s c.toNat) = true
  · exact ⟨⟨h2.1, h2.2.1⟩, goodB_iff.1 h2.2.2, by rw [newG, if_pos h2]⟩
  · rw [newG, if_neg h2] at h; cases h
theorem new_rates {g q b s c : Int} (h : (newG g q b s c).2 = 0) : ratesI q b = true := by
  have := (new_ok h).2.1.rates
  exact ratesI_iff.2 this
theorem sync_err (ps : List Pool) (g q b s c : Int) : (sync1 ps g q b s c).2 = 0 ∨ sync1 ps g q b s c = (zeroP, 3) := by
  unfold sync1
  by_cases h : (keptG ps g q b s c).2 = true
  · rw [if_pos h]; exact .inl rfl
  · rw [if_neg h]; exact new_err g q b s c
theorem syI_err (l : List Nod) (ps : List Pool) (qs bs : List Int) (s c : Int) (i : Nat) : (syI l ps qs bs s c i).2 = 0 ∨ (syI l ps qs bs s c i).2 = 3 := by
  rcases sync_err ps (nd l i).id (qs.getD i 0) (bs.getD i 0) s c with h | h
  · exact .inl h
  · right; rw [syI, h]
theorem kept_some {ps : List Pool} {g s c : Int} {p : Pool} (h : keptP ps g s c = some p) : p ∈ ps ∧ p.g = g ∧ Good p ∧ p.s = s ∧ (p.l.length : Int) = c := by
  have h1 := List.find?_some h
  have h2 := List.mem_of_find?_eq_some h
  simp only [isKp, Bool.and_eq_true, decide_eq_true_eq] at h1
  exact ⟨h2, h1.1.1.1, goodB_iff.1 h1.1.1.2, h1.1.2, h1.2⟩
theorem kept_at {ps : List Pool} {g s c : Int} {i : Nat} (h : ∀ j, j < i → ¬ isKp g s c (pn ps j) = true) (hi : i < ps.length) (e : isKp g s c (pn ps i) = true) : keptP ps g s c = some (pn ps i) := by
  rw [keptP, List.find?_eq_some_iff_getElem]
  refine ⟨e, i, hi, by rw [pn_get hi], fun j hj => ?_⟩
  have := h j hj
  rw [pn_get (by omega)] at this
  simpa using this
theorem kept_none {ps : List Pool} {g s c : Int} (h : ∀ j, j < ps.length → ¬ isKp g s c (pn ps j) = true) : keptP ps g s c = none := by
  rw [keptP, List.find?_eq_none]
  intro x hx
  obtain ⟨i, hi, e⟩ := mem_pn hx
  have := h i hi
  rwa [e] at this
theorem change_ok {p : Pool} {q b : Int} (hg : Good p) (hr : ratesI q b = true) : changeG p q b = (chD p q b, 0) := by
  rw [changeG, if_neg (by rw [goodB_iff.2 hg]; simp), if_neg (by rw [hr]; simp)]
theorem kept_true {ps : List Pool} {g q b s c : Int} {p : Pool} (h : keptP ps g s c = some p) (hr : ratesI q b = true) : keptG ps g q b s c = (if p.q = q ∧ p.bu = b then p else chD p q b, true) := by
  have hg := (kept_some h).2.2.1
  rw [keptG, h]
  dsimp only
  by_cases e : p.q = q ∧ p.bu = b
  · rw [if_pos e, if_pos e]
  · rw [if_neg e, if_neg e, change_ok hg hr]; rfl
theorem kept_rates {ps : List Pool} {g q b s c : Int} (h : (keptG ps g q b s c).2 = true) : ∃ p, keptP ps g s c = some p ∧ ratesI q b = true := by
  unfold keptG at h
  split at h
  · cases h
  · rename_i p hp
    refine ⟨p, hp, ?_⟩
    have hg := (kept_some hp).2.2.1
    by_cases e : p.q = q ∧ p.bu = b
    · obtain ⟨e1, e2⟩ := e
      subst e1; subst e2
      exact ratesI_iff.2 hg.rates
    · rw [if_neg e] at h
      simp only [decide_eq_true_eq] at h
      cases c2 : ratesI q b
      · rw [changeG, if_neg (by rw [goodB_iff.2 hg]; simp), if_pos c2] at h; cases h
      · rfl
theorem kept_new {ps : List Pool} {g q b s c : Int} {p : Pool} (h : keptP ps g s c = some p) (hr : ratesI q b = true) : (newG g q b s c).2 = 0 := by
  obtain ⟨_, h1, h2, h3, h4⟩ := kept_some h
  have := h2.g0; have := h2.g1; have := h2.s0; have := h2.s1; have := h2.n0; have := h2.n1
  rw [newG, if_pos ⟨by omega, by omega, goodB_iff.2 (new_good ⟨by omega, by omega⟩ (ratesI_iff.1 hr) ⟨by omega, by omega⟩ ⟨by omega, by omega⟩)⟩]
theorem sync_new (ps : List Pool) (g q b s c : Int) : (sync1 ps g q b s c).2 = 0 ↔ (newG g q b s c).2 = 0 := by
  unfold sync1
  by_cases h : (keptG ps g q b s c).2 = true
  · rw [if_pos h]
    obtain ⟨p, h1, h2⟩ := kept_rates h
    exact ⟨fun _ => kept_new h1 h2, fun _ => rfl⟩
  · rw [if_neg h]
theorem sync_some {ps : List Pool} {g q b s c : Int} {p : Pool} (h : keptP ps g s c = some p) (hr : ratesI q b = true) : sync1 ps g q b s c = (if p.q = q ∧ p.bu = b then p else chD p q b, 0) := by
  have e := kept_true h hr
  rw [sync1, e, if_pos rfl]
theorem sync_none {ps : List Pool} {g q b s c : Int} (h : keptP ps g s c = none) : sync1 ps g q b s c = newG g q b s c := by
  have e : keptG ps g q b s c = (zeroP, false) := by rw [keptG, h]
  rw [sync1, e, if_neg (by simp)]
theorem sync_nil (g q b s c : Int) : sync1 [] g q b s c = newG g q b s c := sync_none rfl
/-- The new list while old pools are taken over. -/
def syM (l : List Nod) (ps : List Pool) (qs bs : List Int) (s c : Int) (i : Nat) : List Pool := (List.range l.length).map fun j => if j < i then (syI l ps qs bs s c j).1 else (syI l [] qs bs s c j).1
theorem syM_zero (l : List Nod) (ps : List Pool) (qs bs : List Int) (s c : Int) : syM l ps qs bs s c 0 = syT l [] qs bs s c l.length := by simp [syM, syT]
theorem syM_all (l : List Nod) (ps : List Pool) (qs bs : List Int) (s c : Int) {i : Nat} (h : l.length ≤ i) : syM l ps qs bs s c i = syT l ps qs bs s c l.length := by
  unfold syM syT
  apply List.map_congr_left
  intro j hj
  rw [List.mem_range] at hj
  rw [if_pos (by omega)]
theorem syM_len (l : List Nod) (ps : List Pool) (qs bs : List Int) (s c : Int) (i : Nat) : (syM l ps qs bs s c i).length = l.length := by simp [syM]
theorem syM_get {l : List Nod} {ps : List Pool} {qs bs : List Int} {s c : Int} {i : Nat} (h : i < l.length) : pn (syM l ps qs bs s c i) i = (syI l [] qs bs s c i).1 := by
  rw [pn_get (by rw [syM_len]; exact h)]
  simp [syM]
theorem syM_step {l : List Nod} {ps : List Pool} {qs bs : List Int} {s c : Int} {i : Nat} (h : i < l.length) : (syM l ps qs bs s c i).set i (syI l ps qs bs s c i).1 = syM l ps qs bs s c (i + 1) := by
  apply List.ext_getElem (by simp [syM])
  intro j h1 h2
  rw [List.getElem_set]
  simp only [syM, List.length_map, List.length_range] at h2
  split
  · rename_i e
    subst e
    simp [syM]
  · rename_i e
    simp only [syM, List.getElem_map, List.getElem_range]
    by_cases h3 : j < i
    · rw [if_pos h3, if_pos (by omega)]
    · rw [if_neg h3, if_neg (by omega)]
theorem syM_same {l : List Nod} {ps : List Pool} {qs bs : List Int} {s c : Int} {i : Nat} (h : i < l.length) (e : syI l ps qs bs s c i = syI l [] qs bs s c i) : syM l ps qs bs s c i = syM l ps qs bs s c (i + 1) := by
  unfold syM
  apply List.map_congr_left
  intro j hj
  by_cases h3 : j < i
  · rw [if_pos h3, if_pos (by omega)]
  · rw [if_neg h3]
    by_cases h4 : j = i
    · subst h4; rw [if_pos (by omega), e]
    · rw [if_neg (by omega)]
theorem syE_nil {l : List Nod} {n : Int} {ps : List Pool} {qs bs : List Int} {s c : Int} : syE l n [] qs bs s c = syE l n ps qs bs s c := by
  have : syOk l [] qs bs s c = syOk l ps qs bs s c := by
    rw [Bool.eq_iff_iff, syOk_iff, syOk_iff]
    refine forall_congr' fun i => imp_congr Iff.rfl ?_
    rw [syI, syI, sync_new, sync_new]
  rw [syE, syE, this]
theorem ThrP.map {l : List Nod} {n : Int} {ps : List Pool} (h : ThrP l n ps) {F : Pool → Pool} (hF : ∀ i, i < l.length → Good (F (pn ps i)) ∧ (F (pn ps i)).g = (pn ps i).g ∧ (F (pn ps i)).l.length = (pn ps i).l.length) : ThrP l n (ps.map F) := by
  have hl := h.len
  have l1 := h.chk.len1
  have e : ∀ i, i < l.length → pn (ps.map F) i = F (pn ps i) := fun i hi => by
    rw [pn_get (by rw [List.length_map]; omega), pn_get (by omega), List.getElem_map]
  refine ⟨h.chk, by rw [List.length_map, hl], fun i hi => ?_, fun i hi => ?_, fun i hi => ?_⟩
  · rw [e i hi, (hF i hi).2.1, h.grp i hi]
  · rw [e i hi]; exact (hF i hi).1
  · rw [e i hi, e 0 (by omega), (hF i hi).2.2, (hF 0 (by omega)).2.2, h.loc i hi]
theorem map_pn {ps : List Pool} {F : Pool → Pool} {i : Nat} (hi : i < ps.length) : pn (ps.map F) i = F (pn ps i) := by
  rw [pn_get (by rw [List.length_map]; omega), pn_get hi, List.getElem_map]
theorem spend_same (p : Pool) (c : Nat) : (spendR p c).1.g = p.g ∧ (spendR p c).1.s = p.s := by
  unfold spendR
  split
  · exact ⟨rfl, rfl⟩
  · split
    · split
      · dsimp only
        unfold dryP
        split <;> exact ⟨rfl, rfl⟩
      · exact ⟨rfl, rfl⟩
    · exact ⟨rfl, rfl⟩
theorem spendG_ok {p : Pool} {c : Int} (hg : Good p) (h0 : 0 ≤ c) (h1 : c < p.l.length) : spendG p c = spendR p c.toNat := by
  rw [spendG, if_pos (use_of hg h0 h1)]
theorem returnG_ok {p : Pool} {c : Int} (hg : Good p) (h0 : 0 ≤ c) (h1 : c < p.l.length) : returnG p c = (returnP p c.toNat, 0) := by
  rw [returnG, if_pos (use_of hg h0 h1)]
theorem refillG_ok {p : Pool} (hg : Good p) (h0 : p.pe < 1099511627776) : refillG p = (refillP p, 0) := by
  rw [refillG, if_neg (by rw [goodB_iff.2 hg]; simp), if_neg (by omega)]
end Go.Proofs.Ytemffnpliflkgaa
