/-
  Lemmas and contracts on the way to the laws of this seat; each theorem states its own conditions, and there are no others.
-/
import Derived.Test.YtemffnpliflkgaaRQ2
namespace Go.Proofs.Ytemffnpliflkgaa
open Go
set_option linter.unusedVariables false
set_option linter.unusedSimpArgs false
set_option linter.unusedVariables false
set_option linter.unusedSimpArgs false
set_option linter.unusedVariables false

def isKp (g s c : Int) (p : Pool) : Bool := decide (p.g = g) && goodB p && decide (p.s = s) && decide ((p.l.length : Int) = c)
def keptP (ps : List Pool) (g s c : Int) : Option Pool := ps.find? (isKp g s c)
def keptG (ps : List Pool) (g q b s c : Int) : Pool × Bool := match keptP ps g s c with
  | none => (zeroP, false)
  | some p => if p.q = q ∧ p.bu = b then (p, true) else ((changeG p q b).1, decide ((changeG p q b).2 = 0))
def sync1 (ps : List Pool) (g q b s c : Int) : Pool × Int := if (keptG ps g q b s c).2 = true then ((keptG ps g q b s c).1, 0) else newG g q b s c
def syI (l : List Nod) (ps : List Pool) (qs bs : List Int) (s c : Int) (i : Nat) : Pool × Int := sync1 ps (nd l i).id (qs.getD i 0) (bs.getD i 0) s c
def syOk (l : List Nod) (ps : List Pool) (qs bs : List Int) (s c : Int) : Bool := (List.range l.length).all fun i => decide ((syI l ps qs bs s c i).2 = 0)
def syE (l : List Nod) (n : Int) (ps : List Pool) (qs bs : List Int) (s c : Int) : Int := if chkB l n = false ∨ qs.length ≠ l.length ∨ bs.length ≠ l.length then 1 else if syOk l ps qs bs s c = true then 0 else 3
def syT (l : List Nod) (ps : List Pool) (qs bs : List Int) (s c : Int) (i : Nat) : List Pool := (List.range i).map fun j => (syI l ps qs bs s c j).1
def syL (l : List Nod) (n : Int) (ps : List Pool) (qs bs : List Int) (s c : Int) : List Pool := if syE l n ps qs bs s c = 0 then syT l ps qs bs s c l.length else []
theorem syOk_iff {l : List Nod} {ps : List Pool} {qs bs : List Int} {s c : Int} : syOk l ps qs bs s c = true ↔ ∀ i, i < l.length → (syI l ps qs bs s c i).2 = 0 := by
  simp only [syOk, List.all_eq_true, List.mem_range, decide_eq_true_eq]
theorem syT_step (l : List Nod) (ps : List Pool) (qs bs : List Int) (s c : Int) (i : Nat) : syT l ps qs bs s c i ++ [(syI l ps qs bs s c i).1] = syT l ps qs bs s c (i + 1) := by
  simp [syT, List.range_succ]
theorem syT_len (l : List Nod) (ps : List Pool) (qs bs : List Int) (s c : Int) (i : Nat) : (syT l ps qs bs s c i).length = i := by simp [syT]
theorem new_err (g q b s c : Int) : (newG g q b s c).2 = 0 ∨ newG g q b s c = (zeroP, 3) := by
  unfold newG
  by_cases h : 1 ≤ c ∧ c ≤ 16 ∧ goodB (newP g q b s c.toNat) = true
  · rw [if_pos h]; exact .inl rfl
  · rw [if_neg h]; exact .inr rfl
theorem new_ok {g q b s c : Int} (h : (newG g q b s c).2 = 0) : (1 ≤ c ∧ c ≤ 16) ∧ Good (newP g q b s c.toNat) ∧ newG g q b s c = (newP g q b s c.toNat, 0) := by
  by_cases h2 : 1 ≤ c ∧ c ≤ 16 ∧ goodB (newP g q b s c.toNat) = true
  · exact ⟨⟨h2.1, h2.2.1⟩, goodB_iff.1 h2.2.2, by rw [newG, if_pos h2]⟩
  · rw [newG, if_neg h2] at h; cases h
theorem new_rates {g q b s c : Int} (h : (newG g q b s c).2 = 0) : ratesI q b = true := by
  have := (new_ok h).2.1.rates
  exact ratesI_iff.2 this
theorem sync_err (ps : List Pool) (g q b s c : Int) : (sync1 ps g q b s c).2 = 0 ∨ sync1 ps g q b s c = (zeroP, 3) := by
  unfold sync1
  by_cases h : (keptG ps g q b s c).2 = true
  · rw [if_pos h]; exact .inl rfl
  · rw [if_neg h]; exact new_err g q b s c
theorem syI_err (l : List Nod) (ps : List Pool) (qs bs : List Int) (s c : Int) (i : Nat) : (syI l ps qs bs s c i).2 = 0 ∨ (syI l ps qs bs s c i).2 = 3 := by
  rcases sync_err ps (nd l i).id (qs.getD i 0) (bs.getD i 0) s c with h | h
  · exact .inl h
  · right; rw [syI, h]
theorem kept_some {ps : List Pool} {g s c : Int} {p : Pool} (h : keptP ps g s c = some p) : p ∈ ps ∧ p.g = g ∧ Good p ∧ p.s = s ∧ (p.l.length : Int) = c := by
  have h1 := List.find?_some h
  have h2 := List.mem_of_find?_eq_some h
  simp only [isKp, Bool.and_eq_true, decide_eq_true_eq] at h1
  exact ⟨h2, h1.1.1.1, goodB_iff.1 h1.1.1.2, h1.1.2, h1.2⟩
theorem kept_at {ps : List Pool} {g s c : Int} {i : Nat} (h : ∀ j, j < i → ¬ isKp g s c (pn ps j) = true) (hi : i < ps.length) (e : isKp g s c (pn ps i) = true) : keptP ps g s c = some (pn ps i) := by
  rw [keptP, List.find?_eq_some_iff_getElem]
  refine ⟨e, i, hi, by rw [pn_get hi], fun j hj => ?_⟩
  have := h j hj
  rw [pn_get (by omega)] at this
  simpa using this
theorem kept_none {ps : List Pool} {g s c : Int} (h : ∀ j, j < ps.length → ¬ isKp g s c (pn ps j) = true) : keptP ps g s c = none := by
  rw [keptP, List.find?_eq_none]
  intro x hx
  obtain ⟨i, hi, e⟩ := mem_pn hx
  have := h i hi
  rwa [e] at this
theorem change_ok {p : Pool} {q b : Int} (hg : Good p) (hr : ratesI q b = true) : changeG p q b = (chD p q b, 0) := by
  rw [changeG, if_neg (by rw [goodB_iff.2 hg]; simp), if_neg (by rw [hr]; simp)]
theorem kept_true {ps : List Pool} {g q b s c : Int} {p : Pool} (h : keptP ps g s c = some p) (hr : ratesI q b = true) : keptG ps g q b s c = (if p.q = q ∧ p.bu = b then p else chD p q b, true) := by
  have hg := (kept_some h).2.2.1
  rw [keptG, h]
  dsimp only
  by_cases e : p.q = q ∧ p.bu = b
  · rw [if_pos e, if_pos e]
  · rw [if_neg e, if_neg e, change_ok hg hr]; rfl
theorem kept_rates {ps : List Pool} {g q b s c : Int} (h : (keptG ps g q b s c).2 = true) : ∃ p, keptP ps g s c = some p ∧ ratesI q b = true := by
  unfold keptG at h
  split at h
  · cases h
  · rename_i p hp
    refine ⟨p, hp, ?_⟩
    have hg := (kept_some hp).2.2.1
    by_cases e : p.q = q ∧ p.bu = b
    · obtain ⟨e1, e2⟩ := e
      subst e1; subst e2
      exact ratesI_iff.2 hg.rates
    · rw [if_neg e] at h
      simp only [decide_eq_true_eq] at h
      cases c2 : ratesI q b
      · rw [changeG, if_neg (by rw [goodB_iff.2 hg]; simp), if_pos c2] at h; cases h
      · rfl
theorem kept_new {ps : List Pool} {g q b s c : Int} {p : Pool} (h : keptP ps g s c = some p) (hr : ratesI q b = true) : (newG g q b s c).2 = 0 := by
  obtain ⟨_, h1, h2, h3, h4⟩ := kept_some h
  have := h2.g0; have := h2.g1; have := h2.s0; have := h2.s1; have := h2.n0; have := h2.n1
  rw [newG, if_pos ⟨by omega, by omega, goodB_iff.2 (new_good ⟨by omega, by omega⟩ (ratesI_iff.1 hr) ⟨by omega, by omega⟩ ⟨by omega, by omega⟩)⟩]
theorem sync_new (ps : List Pool) (g q b s c : Int) : (sync1 ps g q b s c).2 = 0 ↔ (newG g q b s c).2 = 0 := by
  unfold sync1
  by_cases h : (keptG ps g q b s c).2 = true
  · rw [if_pos h]
    obtain ⟨p, h1, h2⟩ := kept_rates h
    exact ⟨fun _ => kept_new h1 h2, fun _ => rfl⟩
  · rw [if_neg h]
theorem sync_some {ps : List Pool} {g q b s c : Int} {p : Pool} (h : keptP ps g s c = some p) (hr : ratesI q b = true) : sync1 ps g q b s c = (if p.q = q ∧ p.bu = b then p else chD p q b, 0) := by
  have e := kept_true h hr
  rw [sync1, e, if_pos rfl]
theorem sync_none {ps : List Pool} {g q b s c : Int} (h : keptP ps g s c = none) : sync1 ps g q b s c = newG g q b s c := by
  have e : keptG ps g q b s c = (zeroP, false) := by rw [keptG, h]
  rw [sync1, e, if_neg (by simp)]
theorem sync_nil (g q b s c : Int) : sync1 [] g q b s c = newG g q b s c := sync_none rfl
/-- The new list while old pools are taken over. -/
def syM (l : List Nod) (ps : List Pool) (qs bs : List Int) (s c : Int) (i : Nat) : List Pool := (List.range l.length).map fun j => if j < i then (syI l ps qs bs s c j).1 else (syI l [] qs bs s c j).1
theorem syM_zero (l : List Nod) (ps : List Pool) (qs bs : List Int) (s c : Int) : syM l ps qs bs s c 0 = syT l [] qs bs s c l.length := by simp [syM, syT]
theorem syM_all (l : List Nod) (ps : List Pool) (qs bs : List Int) (s c : Int) {i : Nat} (h : l.length ≤ i) : syM l ps qs bs s c i = syT l ps qs bs s c l.length := by
  unfold syM syT
  apply List.map_congr_left
  intro j hj
  rw [List.mem_range] at hj
  rw [if_pos (by omega)]
theorem syM_len (l : List Nod) (ps : List Pool) (qs bs : List Int) (s c : Int) (i : Nat) : (syM l ps qs bs s c i).length = l.length := by simp [syM]
theorem syM_get {l : List Nod} {ps : List Pool} {qs bs : List Int} {s c : Int} {i : Nat} (h : i < l.length) : pn (syM l ps qs bs s c i) i = (syI l [] qs bs s c i).1 := by
  rw [pn_get (by rw [syM_len]; exact h)]
  simp [syM]
theorem syM_step {l : List Nod} {ps : List Pool} {qs bs : List Int} {s c : Int} {i : Nat} (h : i < l.length) : (syM l ps qs bs s c i).set i (syI l ps qs bs s c i).1 = syM l ps qs bs s c (i + 1) := by
  apply List.ext_getElem (by simp [syM])
  intro j h1 h2
  rw [List.getElem_set]
  simp only [syM, List.length_map, List.length_range] at h2
  split
  · rename_i e
    subst e
    simp [syM]
  · rename_i e
    simp only [syM, List.getElem_map, List.getElem_range]
    by_cases h3 : j < i
    · rw [if_pos h3, if_pos (by omega)]
    · rw [if_neg h3, if_neg (by omega)]
theorem syM_same {l : List Nod} {ps : List Pool} {qs bs : List Int} {s c : Int} {i : Nat} (h : i < l.length) (e : syI l ps qs bs s c i = syI l [] qs bs s c i) : syM l ps qs bs s c i = syM l ps qs bs s c (i + 1) := by
  unfold syM
  apply List.map_congr_left
  intro j hj
  by_cases h3 : j < i
  · rw [if_pos h3, if_pos (by omega)]
  · rw [if_neg h3]
    by_cases h4 : j = i
    · subst h4; rw [if_pos (by omega), e]
    · rw [if_neg (by omega)]
theorem syE_nil {l : List Nod} {n : Int} {ps : List Pool} {qs bs : List Int} {s c : Int} : syE l n [] qs bs s c = syE l n ps qs bs s c := by
  have : syOk l [] qs bs s c = syOk l ps qs bs s c := by
    rw [Bool.eq_iff_iff, syOk_iff, syOk_iff]
    refine forall_congr' fun i => imp_congr Iff.rfl ?_
    rw [syI, syI, sync_new, sync_new]
  rw [syE, syE, this]
theorem ThrP.map {l : List Nod} {n : Int} {ps : List Pool} (h : ThrP l n ps) {F : Pool → Pool} (hF : ∀ i, i < l.length → Good (F (pn ps i)) ∧ (F (pn ps i)).g = (pn ps i).g ∧ (F (pn ps i)).l.length = (pn ps i).l.length) : ThrP l n (ps.map F) := by
  have hl := h.len
  have l1 := h.chk.len1
  have e : ∀ i, i < l.length → pn (ps.map F) i = F (pn ps i) := fun i hi => by
    rw [pn_get (by rw [List.length_map]; omega), pn_get (by omega), List.getElem_map]
  refine ⟨h.chk, by rw [List.length_map, hl], fun i hi => ?_, fun i hi => ?_, fun i hi => ?_⟩
  · rw [e i hi, (hF i hi).2.1, h.grp i hi]
  · rw [e i hi]; exact (hF i hi).1
  · rw [e i hi, e 0 (by omega), (hF i hi).2.2, (hF 0 (by omega)).2.2, h.loc i hi]
theorem map_pn {ps : List Pool} {F : Pool → Pool} {i : Nat} (hi : i < ps.length) : pn (ps.map F) i = F (pn ps i) := by
  rw [pn_get (by rw [List.length_map]; omega), pn_get hi, List.getElem_map]
theorem spend_same (p : Pool) (c : Nat) : (spendR p c).1.g = p.g ∧ (spendR p c).1.s = p.s := by
  unfold spendR
  split
  · exact ⟨rfl, rfl⟩
  · split
    · split
      · dsimp only
        unfold dryP
        split <;> exact ⟨rfl, rfl⟩
      · exact ⟨rfl, rfl⟩
    · exact ⟨rfl, rfl⟩
theorem spendG_ok {p : Pool} {c : Int} (hg : Good p) (h0 : 0 ≤ c) (h1 : c < p.l.length) : spendG p c = spendR p c.toNat := by
  rw [spendG, if_pos (use_of hg h0 h1)]
theorem returnG_ok {p : Pool} {c : Int} (hg : Good p) (h0 : 0 ≤ c) (h1 : c < p.l.length) : returnG p c = (returnP p c.toNat, 0) := by
  rw [returnG, if_pos (use_of hg h0 h1)]
theorem refillG_ok {p : Pool} (hg : Good p) (h0 : p.pe < 1099511627776) : refillG p = (refillP p, 0) := by
  rw [refillG, if_neg (by rw [goodB_iff.2 hg]; simp), if_neg (by omega)]
end Go.Proofs.Ytemffnpliflkgaa
namespace Go.Proofs.Ytemffnpliflkgaa
open Go
set_option linter.unusedVariables false

abbrev six {α β γ δ ε ζ : Type} (k : PK α) (k' : PK β) (k'' : PK γ) (k3 : PK δ) (k4 : PK ε) (k5 : PK ζ) : Sig (α × β × γ × δ × ε × ζ × Unit) := Sig.cons k (five k' k'' k3 k4 k5)
def BL (bs : List Int) : Prop := (∀ i, i < bs.length → -1152921504606846976 ≤ bs.getD i 0 ∧ bs.getD i 0 ≤ 1152921504606846976) ∧ bs.length ≤ 9223372036854775807
def sKept : DS := ⟨_, six pkPools pkI pkI pkI pkI pkI, fun x => TL x.1 ∧ -1152921504606846976 ≤ x.2.2.2.1 ∧ x.2.2.2.1 ≤ 1152921504606846976, fun x => .tup [retF (keptG x.1 x.2.1 x.2.2.1 x.2.2.2.1 x.2.2.2.2.1 x.2.2.2.2.2.1).1, .bool (keptG x.1 x.2.1 x.2.2.1 x.2.2.2.1 x.2.2.2.2.1 x.2.2.2.2.2.1).2], nou⟩
def sSync : DS := ⟨_, six pkTree pkPools pkInts pkInts pkI pkI, fun x => ((WfN x.1.1 ∧ TL x.2.1) ∧ BL x.2.2.2.1) ∧ x.2.2.1.length ≤ 9223372036854775807, fun x => .tup [.own 101 4, .int .i64 (syE x.1.1 x.1.2 x.2.1 x.2.2.1 x.2.2.2.1 x.2.2.2.2.1 x.2.2.2.2.2.1)], fun x => [(101, .rows 80 4 (syL x.1.1 x.1.2 x.2.1 x.2.2.1 x.2.2.2.1 x.2.2.2.2.1 x.2.2.2.2.2.1))]⟩
def sNewT : DS := ⟨_, five pkTree pkInts pkInts pkI pkI, fun x => (WfN x.1.1 ∧ BL x.2.2.1) ∧ x.2.1.length ≤ 9223372036854775807, fun x => .tup [.own 101 4, .int .i64 (syE x.1.1 x.1.2 [] x.2.1 x.2.2.1 x.2.2.2.1 x.2.2.2.2.1)], fun x => [(101, .rows 80 4 (syL x.1.1 x.1.2 [] x.2.1 x.2.2.1 x.2.2.2.1 x.2.2.2.2.1))]⟩

def inv114 (ps : List Pool) (g s c : Int) : Inv where
  X := Int
  ok := fun i => 0 ≤ i ∧ i ≤ ps.length ∧ ∀ j : Nat, (j : Int) < i → ¬ isKp g s c (pn ps j) = true
  sl := fun i => [(20, .int .i64 i)]
  hp := fun i => []
  keep := [10000]
  me := fun i => (ps.length - i).toNat
set_option maxRecDepth 100000 in
theorem vc114 (ps : List Pool) (g q b s c : Int) (hx : TL ps ∧ -1152921504606846976 ≤ b ∧ b ≤ 1152921504606846976) : sKept.vc (EV Try.prog [(121, sGoodB.spec), (105, sCopyP.spec), (146, sChange.spec)] (invs [(2, inv114 ps g s c)]) noInv) Try.f114 (ps, g, q, b, s, c, ()) := by
  have e : ((∃ (x : Int), (0 ≤ x ∧ x ≤ (↑ps.length : Int) ∧ ∀ (j : Nat), (↑j : Int) < x → ¬isKp g s c (pn ps j) = true) ∧ 0 = x ∧ (0 : Int) = 0 ∧ (0 : Int) = 0 ∧ (0 : Int) = 0 ∧ (0 : Int) = 0 ∧ (0 : Int) = 0 ∧ (0 : Int) = 0 ∧ (0 : Int) = 0 ∧ (0 : Int) = 0) ∧ ∀ (x : Int), (0 ≤ x ∧ x ≤ (↑ps.length : Int) ∧ ∀ (j : Nat), (↑j : Int) < x → ¬isKp g s c (pn ps j) = true) → (decide (x < (↑ps.length : Int)) = true → (0 ≤ x ∧ x < (↑ps.length : Int)) ∧ ((!decide ((ps.getD x.toNat pl0).g = g)) = false → (!decide ((ps.getD x.toNat pl0).g = g)) = false) ∧ ((!decide ((ps.getD x.toNat pl0).g = g)) = false → Tame (ps.getD x.toNat pl0)) ∧ ((!decide ((ps.getD x.toNat pl0).g = g)) = false → (!decide ((ps.getD x.toNat pl0).g = g)) = false) ∧ ((!decide ((ps.getD x.toNat pl0).g = g)) = false → (!decide ((ps.getD x.toNat pl0).g = g)) = false) ∧ ((!decide ((ps.getD x.toNat pl0).g = g) || !goodB (ps.getD x.toNat pl0)) = false → (!decide ((ps.getD x.toNat pl0).g = g) || !goodB (ps.getD x.toNat pl0)) = false) ∧ ((!decide ((ps.getD x.toNat pl0).g = g) || !goodB (ps.getD x.toNat pl0)) = false → (!decide ((ps.getD x.toNat pl0).g = g) || !goodB (ps.getD x.toNat pl0)) = false) ∧ ((!decide ((ps.getD x.toNat pl0).g = g) || !goodB (ps.getD x.toNat pl0)) = false → (!decide ((ps.getD x.toNat pl0).g = g) || !goodB (ps.getD x.toNat pl0)) = false) ∧ ((!decide ((ps.getD x.toNat pl0).g = g) || !goodB (ps.getD x.toNat pl0)) = false → (!decide ((ps.getD x.toNat pl0).g = g) || !goodB (ps.getD x.toNat pl0)) = false) ∧ ((!decide ((ps.getD x.toNat pl0).g = g) || !goodB (ps.getD x.toNat pl0) || !decide ((ps.getD x.toNat pl0).s = s)) = false → (!decide ((ps.getD x.toNat pl0).g = g) || !goodB (ps.getD x.toNat pl0) || !decide ((ps.getD x.toNat pl0).s = s)) = false) ∧ ((!decide ((ps.getD x.toNat pl0).g = g) || !goodB (ps.getD x.toNat pl0) || !decide ((ps.getD x.toNat pl0).s = s)) = false → (!decide ((ps.getD x.toNat pl0).g = g) || !goodB (ps.getD x.toNat pl0) || !decide ((ps.getD x.toNat pl0).s = s)) = false) ∧ ((!decide ((ps.getD x.toNat pl0).g = g) || !goodB (ps.getD x.toNat pl0) || !decide ((ps.getD x.toNat pl0).s = s)) = false → (!decide ((ps.getD x.toNat pl0).g = g) || !goodB (ps.getD x.toNat pl0) || !decide ((ps.getD x.toNat pl0).s = s)) = false) ∧ ((!decide ((ps.getD x.toNat pl0).g = g) || !goodB (ps.getD x.toNat pl0) || !decide ((ps.getD x.toNat pl0).s = s)) = false → (!decide ((ps.getD x.toNat pl0).g = g) || !goodB (ps.getD x.toNat pl0) || !decide ((ps.getD x.toNat pl0).s = s)) = false) ∧ ((!decide ((ps.getD x.toNat pl0).g = g) || !goodB (ps.getD x.toNat pl0) || !decide ((ps.getD x.toNat pl0).s = s)) = false → (!decide ((ps.getD x.toNat pl0).g = g) || !goodB (ps.getD x.toNat pl0) || !decide ((ps.getD x.toNat pl0).s = s)) = false) ∧ ((!decide ((ps.getD x.toNat pl0).g = g) || !goodB (ps.getD x.toNat pl0) || !decide ((ps.getD x.toNat pl0).s = s) || !decide ((↑(ps.getD x.toNat pl0).l.length : Int) = c)) = true → i64R (x + 1) ∧ ∃ (x' : Int), (0 ≤ x' ∧ x' ≤ (↑ps.length : Int) ∧ ∀ (j : Nat), (↑j : Int) < x' → ¬isKp g s c (pn ps j) = true) ∧ ((↑ps.length : Int) - x').toNat < ((↑ps.length : Int) - x).toNat ∧ x + 1 = x' ∧ (0 : Int) = 0 ∧ (0 : Int) = 0 ∧ (0 : Int) = 0 ∧ (0 : Int) = 0 ∧ (0 : Int) = 0 ∧ (0 : Int) = 0 ∧ (0 : Int) = 0 ∧ (0 : Int) = 0) ∧ ((!decide ((ps.getD x.toNat pl0).g = g) || !goodB (ps.getD x.toNat pl0) || !decide ((ps.getD x.toNat pl0).s = s) || !decide ((↑(ps.getD x.toNat pl0).l.length : Int) = c)) = false → (decide ((ps.getD x.toNat pl0).q = q) = true → decide ((ps.getD x.toNat pl0).q = q) = true) ∧ (decide ((ps.getD x.toNat pl0).q = q) = true → decide ((ps.getD x.toNat pl0).q = q) = true) ∧ (decide ((ps.getD x.toNat pl0).q = q) = true → decide ((ps.getD x.toNat pl0).q = q) = true) ∧ (decide ((ps.getD x.toNat pl0).q = q) = true → decide ((ps.getD x.toNat pl0).q = q) = true) ∧ ((decide ((ps.getD x.toNat pl0).q = q) && decide ((ps.getD x.toNat pl0).bu = b)) = true → TL (ps.getD x.toNat pl0 :: NilL Pool) ∧ ((0 : Int) ≤ 0 ∧ 0 < (↑(ps.getD x.toNat pl0 :: NilL Pool).length : Int)) ∧ ∃ (y : Unit), True ∧ (ps.getD x.toNat pl0).g = (keptG ps g q b s c).fst.g ∧ (ps.getD x.toNat pl0).q = (keptG ps g q b s c).fst.q ∧ (ps.getD x.toNat pl0).bu = (keptG ps g q b s c).fst.bu ∧ (ps.getD x.toNat pl0).s = (keptG ps g q b s c).fst.s ∧ (ps.getD x.toNat pl0).le = (keptG ps g q b s c).fst.le ∧ (ps.getD x.toNat pl0).l = (keptG ps g q b s c).fst.l ∧ (ps.getD x.toNat pl0).sp = (keptG ps g q b s c).fst.sp ∧ (ps.getD x.toNat pl0).pe = (keptG ps g q b s c).fst.pe ∧ (ps.getD x.toNat pl0).th = (keptG ps g q b s c).fst.th ∧ (ps.getD x.toNat pl0).em = (keptG ps g q b s c).fst.em ∧ true = (keptG ps g q b s c).snd) ∧ ((decide ((ps.getD x.toNat pl0).q = q) && decide ((ps.getD x.toNat pl0).bu = b)) = false → (Tame (ps.getD x.toNat pl0) ∧ (-1152921504606846976) ≤ b ∧ b ≤ 1152921504606846976) ∧ ∃ (y : Unit), True ∧ (changeG (ps.getD x.toNat pl0) q b).fst.g = (keptG ps g q b s c).fst.g ∧ (changeG (ps.getD x.toNat pl0) q b).fst.q = (keptG ps g q b s c).fst.q ∧ (changeG (ps.getD x.toNat pl0) q b).fst.bu = (keptG ps g q b s c).fst.bu ∧ (changeG (ps.getD x.toNat pl0) q b).fst.s = (keptG ps g q b s c).fst.s ∧ (changeG (ps.getD x.toNat pl0) q b).fst.le = (keptG ps g q b s c).fst.le ∧ (changeG (ps.getD x.toNat pl0) q b).fst.l = (keptG ps g q b s c).fst.l ∧ (changeG (ps.getD x.toNat pl0) q b).fst.sp = (keptG ps g q b s c).fst.sp ∧ (changeG (ps.getD x.toNat pl0) q b).fst.pe = (keptG ps g q b s c).fst.pe ∧ (changeG (ps.getD x.toNat pl0) q b).fst.th = (keptG ps g q b s c).fst.th ∧ (changeG (ps.getD x.toNat pl0) q b).fst.em = (keptG ps g q b s c).fst.em ∧ decide ((changeG (ps.getD x.toNat pl0) q b).snd = 0) = (keptG ps g q b s c).snd))) ∧ (decide (x < (↑ps.length : Int)) = false → ∃ (y : Unit), True ∧ 0 = (keptG ps g q b s c).fst.g ∧ 0 = (keptG ps g q b s c).fst.q ∧ 0 = (keptG ps g q b s c).fst.bu ∧ 0 = (keptG ps g q b s c).fst.s ∧ 0 = (keptG ps g q b s c).fst.le ∧ NilL Int = (keptG ps g q b s c).fst.l ∧ 0 = (keptG ps g q b s c).fst.sp ∧ 0 = (keptG ps g q b s c).fst.pe ∧ 0 = (keptG ps g q b s c).fst.th ∧ false = (keptG ps g q b s c).fst.em ∧ false = (keptG ps g q b s c).snd)) = sKept.vc (EV Try.prog [(121, sGoodB.spec), (105, sCopyP.spec), (146, sChange.spec)] (invs [(2, inv114 ps g s c)]) noInv) Try.f114 (ps, g, q, b, s, c, ()) := by kernel_rfl
  rw [← e]
  clear e
  delta pl0
  simp only [imp_self, true_and, and_true, exists_const]
  simp only [true_and, i64R, Int.reduceLE, Int.reduceNeg, decide_eq_true_eq, decide_eq_false_iff_not, Bool.not_eq_true', Bool.not_eq_false', Bool.and_eq_true, Bool.or_eq_true, Bool.and_eq_false_iff, Bool.or_eq_false_iff ]
  try simp only [NilL_eq, pn_fold]
  obtain ⟨⟨ht, hl⟩, hb0, hb1⟩ := hx
  refine ⟨⟨0, ⟨by omega, by omega, fun j hj => by omega⟩, rfl⟩, fun x hi => ⟨fun hlt => ⟨by omega, fun _ => ht _ (pn_mem (by omega)), fun hn => ⟨by omega, x + 1, ⟨by omega, by omega, fun j hj => ?_⟩, by omega, rfl⟩, fun hm => ?_⟩, fun hge => ?_⟩⟩
  · by_cases e : (j : Int) < x
    · exact hi.2.2 j e
    · have : j = x.toNat := by omega
      rw [this]
      simp only [isKp, Bool.and_eq_true, decide_eq_true_eq]
      rintro ⟨⟨⟨a, b⟩, c⟩, d⟩
      rcases hn with ((h | h) | h) | h
      · exact h a
      · rw [b] at h; cases h
      · exact h c
      · exact h d
  · have hk : keptP ps g s c = some (pn ps x.toNat) := kept_at (fun j hj => hi.2.2 j (by omega)) (by omega) (by simp only [isKp, Bool.and_eq_true, decide_eq_true_eq]; exact hm)
    have tp := ht _ (pn_mem (l := ps) (i := x.toNat) (by omega))
    refine ⟨fun he => ?_, fun he => ?_⟩
    · have e : keptG ps g q b s c = (pn ps x.toNat, true) := by rw [keptG, hk]; exact if_pos he
      rw [e]
      exact ⟨⟨fun y hy => by simp only [List.mem_cons, List.not_mem_nil, or_false] at hy; rw [hy]; exact tp, by simp⟩, by simp, rfl, rfl, rfl, rfl, rfl, rfl, rfl, rfl, rfl, rfl, rfl⟩
    · have e : keptG ps g q b s c = ((changeG (pn ps x.toNat) q b).1, decide ((changeG (pn ps x.toNat) q b).2 = 0)) := by rw [keptG, hk]; exact if_neg (by omega)
      rw [e]
      exact ⟨⟨tp, hb0, hb1⟩, rfl, rfl, rfl, rfl, rfl, rfl, rfl, rfl, rfl, rfl, rfl⟩
  · have e : keptG ps g q b s c = (zeroP, false) := by rw [keptG, kept_none fun j hj => hi.2.2 j (by omega)]
    rw [e]
    exact ⟨rfl, rfl, rfl, rfl, rfl, rfl, rfl, rfl, rfl, rfl, rfl⟩

def inv51 (l : List Nod) (ps : List Pool) (qs bs : List Int) (s c : Int) : Inv where
  X := Int
  ok := fun i => 0 ≤ i ∧ i ≤ l.length ∧ ∀ j : Nat, (j : Int) < i → (syI l ps qs bs s c j).2 = 0
  sl := fun i => [(43, .int .i64 i), (14, .own 101 4)]
  hp := fun i => [(101, .rows 80 4 (syT l ps qs bs s c i.toNat))]
  keep := [10000]
  me := fun i => (l.length - i).toNat
set_option maxRecDepth 100000 in
theorem vc51 (l : List Nod) (n : Int) (ps : List Pool) (qs bs : List Int) (s c : Int) (hx : ((WfN l ∧ TL ps) ∧ BL bs) ∧ qs.length ≤ 9223372036854775807) : sSync.vc (EV Try.prog [(83, sChkP.spec), (114, sKept.spec), (115, sNewP.spec)] (invs [(5, inv51 l ps qs bs s c)]) noInv) Try.f51 ((l, n), ps, qs, bs, s, c, ()) := by
  have e : (WfN l ∧ ((!chkB l n) = false → (!chkB l n) = false) ∧ ((!chkB l n) = false → (!chkB l n) = false) ∧ ((!chkB l n) = false → (!chkB l n) = false) ∧ ((!chkB l n) = false → (!chkB l n) = false) ∧ ((!chkB l n) = false → (!chkB l n) = false) ∧ ((!chkB l n) = false → (!chkB l n) = false) ∧ ((!chkB l n || !decide ((↑qs.length : Int) = (↑l.length : Int))) = false → (!chkB l n || !decide ((↑qs.length : Int) = (↑l.length : Int))) = false) ∧ ((!chkB l n || !decide ((↑qs.length : Int) = (↑l.length : Int))) = false → (!chkB l n || !decide ((↑qs.length : Int) = (↑l.length : Int))) = false) ∧ ((!chkB l n || !decide ((↑qs.length : Int) = (↑l.length : Int))) = false → (!chkB l n || !decide ((↑qs.length : Int) = (↑l.length : Int))) = false) ∧ ((!chkB l n || !decide ((↑qs.length : Int) = (↑l.length : Int))) = false → (!chkB l n || !decide ((↑qs.length : Int) = (↑l.length : Int))) = false) ∧ ((!chkB l n || !decide ((↑qs.length : Int) = (↑l.length : Int))) = false → (!chkB l n || !decide ((↑qs.length : Int) = (↑l.length : Int))) = false) ∧ ((!chkB l n || !decide ((↑qs.length : Int) = (↑l.length : Int))) = false → (!chkB l n || !decide ((↑qs.length : Int) = (↑l.length : Int))) = false) ∧ ((!chkB l n || !decide ((↑qs.length : Int) = (↑l.length : Int)) || !decide ((↑bs.length : Int) = (↑l.length : Int))) = true → ∃ (y : Unit), True ∧ 1 = syE l n ps qs bs s c ∧ NilL Pool = syL l n ps qs bs s c) ∧ ((!chkB l n || !decide ((↑qs.length : Int) = (↑l.length : Int)) || !decide ((↑bs.length : Int) = (↑l.length : Int))) = false → (∃ (x : Int), (0 ≤ x ∧ x ≤ (↑l.length : Int) ∧ ∀ (j : Nat), (↑j : Int) < x → (syI l ps qs bs s c j).snd = 0) ∧ 0 = x ∧ NilL Pool = syT l ps qs bs s c x.toNat ∧ l = l ∧ n = n) ∧ ∀ (x : Int), (0 ≤ x ∧ x ≤ (↑l.length : Int) ∧ ∀ (j : Nat), (↑j : Int) < x → (syI l ps qs bs s c j).snd = 0) → (decide (x < (↑l.length : Int)) = true → (0 ≤ x ∧ x < (↑l.length : Int)) ∧ (0 ≤ x ∧ x < (↑qs.length : Int)) ∧ (0 ≤ x ∧ x < (↑bs.length : Int)) ∧ (TL ps ∧ (-1152921504606846976) ≤ bs.getD x.toNat 0 ∧ bs.getD x.toNat (0 : Int) ≤ 1152921504606846976) ∧ ((!(keptG ps (l.getD x.toNat nd0).id (qs.getD x.toNat 0) (bs.getD x.toNat 0) s c).snd) = true → (0 ≤ x ∧ x < (↑qs.length : Int)) ∧ (0 ≤ x ∧ x < (↑bs.length : Int)) ∧ ((-1152921504606846976) ≤ bs.getD x.toNat 0 ∧ bs.getD x.toNat (0 : Int) ≤ 1152921504606846976) ∧ ((!decide ((newG (l.getD x.toNat nd0).id (qs.getD x.toNat 0) (bs.getD x.toNat 0) s c).snd = 0)) = true → ∃ (y : Unit), True ∧ (newG (l.getD x.toNat nd0).id (qs.getD x.toNat 0) (bs.getD x.toNat 0) s c).snd = syE l n ps qs bs s c ∧ NilL Pool = syL l n ps qs bs s c) ∧ ((!decide ((newG (l.getD x.toNat nd0).id (qs.getD x.toNat 0) (bs.getD x.toNat 0) s c).snd = 0)) = false → (syT l ps qs bs s c x.toNat).length + ((newG (l.getD x.toNat nd0).id (qs.getD x.toNat 0) (bs.getD x.toNat 0) s c).fst :: NilL Pool).length ≤ (68719476736 : Nat) ∧ i64R (x + 1) ∧ ∃ (x' : Int), (0 ≤ x' ∧ x' ≤ (↑l.length : Int) ∧ ∀ (j : Nat), (↑j : Int) < x' → (syI l ps qs bs s c j).snd = 0) ∧ ((↑l.length : Int) - x').toNat < ((↑l.length : Int) - x).toNat ∧ x + 1 = x' ∧ syT l ps qs bs s c x.toNat ++ (newG (l.getD x.toNat nd0).id (qs.getD x.toNat 0) (bs.getD x.toNat 0) s c).fst :: NilL Pool = syT l ps qs bs s c x'.toNat ∧ l = l ∧ n = n)) ∧ ((!(keptG ps (l.getD x.toNat nd0).id (qs.getD x.toNat 0) (bs.getD x.toNat 0) s c).snd) = false → (syT l ps qs bs s c x.toNat).length + ((keptG ps (l.getD x.toNat nd0).id (qs.getD x.toNat 0) (bs.getD x.toNat 0) s c).fst :: NilL Pool).length ≤ (68719476736 : Nat) ∧ i64R (x + 1) ∧ ∃ (x' : Int), (0 ≤ x' ∧ x' ≤ (↑l.length : Int) ∧ ∀ (j : Nat), (↑j : Int) < x' → (syI l ps qs bs s c j).snd = 0) ∧ ((↑l.length : Int) - x').toNat < ((↑l.length : Int) - x).toNat ∧ x + 1 = x' ∧ syT l ps qs bs s c x.toNat ++ (keptG ps (l.getD x.toNat nd0).id (qs.getD x.toNat 0) (bs.getD x.toNat 0) s c).fst :: NilL Pool = syT l ps qs bs s c x'.toNat ∧ l = l ∧ n = n)) ∧ (decide (x < (↑l.length : Int)) = false → ∃ (y : Unit), True ∧ 0 = syE l n ps qs bs s c ∧ syT l ps qs bs s c x.toNat = syL l n ps qs bs s c))) = sSync.vc (EV Try.prog [(83, sChkP.spec), (114, sKept.spec), (115, sNewP.spec)] (invs [(5, inv51 l ps qs bs s c)]) noInv) Try.f51 ((l, n), ps, qs, bs, s, c, ()) := by kernel_rfl
  rw [← e]
  clear e
  delta nd0
  simp only [imp_self, true_and, and_true, exists_const]
  simp only [i64R, Int.reduceNeg, decide_eq_true_eq, decide_eq_false_iff_not, Bool.not_eq_true', Bool.not_eq_false', Bool.or_eq_true, Bool.or_eq_false_iff ]
  try simp only [NilL_eq, nd_fold]
  obtain ⟨⟨⟨hw, ht⟩, hb, hbl⟩, hq⟩ := hx
  refine ⟨hw, fun h => ?_, fun h => ?_⟩
  · have e1 : syE l n ps qs bs s c = 1 := by
      rw [syE, if_pos]
      rcases h with (h | h) | h
      · exact .inl h
      · exact .inr (.inl (by omega))
      · exact .inr (.inr (by omega))
    exact ⟨e1.symm, by rw [syL, if_neg (by rw [e1]; omega)]⟩
  · have hc := chkB_iff.1 h.1.1
    have l2 := hc.len2
    have nb : ¬ (chkB l n = false ∨ qs.length ≠ l.length ∨ bs.length ≠ l.length) := by rw [h.1.1]; simp; omega
    refine ⟨⟨0, ⟨by omega, by omega, fun j hj => by omega⟩, rfl, rfl⟩, fun x hi => ⟨fun hlt => ?_, fun hge => ?_⟩⟩
    · have e : (x + 1).toNat = x.toNat + 1 := by omega
      have hbx := hb x.toNat (by omega)
      have hS : syI l ps qs bs s c x.toNat = sync1 ps (nd l x.toNat).id (qs.getD x.toNat 0) (bs.getD x.toNat 0) s c := rfl
      have nxt : (syI l ps qs bs s c x.toNat).2 = 0 → ∀ P, (syI l ps qs bs s c x.toNat).1 = P → (syT l ps qs bs s c x.toNat).length + [P].length ≤ 68719476736 ∧ (-9223372036854775808 ≤ x + 1 ∧ x + 1 ≤ 9223372036854775807) ∧ ∃ x', (0 ≤ x' ∧ x' ≤ (l.length : Int) ∧ ∀ j : Nat, (j : Int) < x' → (syI l ps qs bs s c j).2 = 0) ∧ ((l.length : Int) - x').toNat < ((l.length : Int) - x).toNat ∧ x + 1 = x' ∧ syT l ps qs bs s c x.toNat ++ [P] = syT l ps qs bs s c x'.toNat := fun h2 P hP => by
        refine ⟨by rw [syT_len]; simp; omega, by omega, x + 1, ⟨by omega, by omega, fun j hj => ?_⟩, by omega, rfl, by rw [e, ← syT_step, hP]⟩
        by_cases e2 : (j : Int) < x
        · exact hi.2.2 j e2
        · have : j = x.toNat := by omega
          rw [this]; exact h2
      refine ⟨by omega, by omega, by omega, ⟨ht, hbx⟩, fun hk => ⟨by omega, by omega, hbx, fun hn => ?_, fun hn => nxt ?_ _ ?_⟩, fun hk => nxt ?_ _ ?_⟩
      · have e0 : sync1 ps (nd l x.toNat).id (qs.getD x.toNat 0) (bs.getD x.toNat 0) s c = newG (nd l x.toNat).id (qs.getD x.toNat 0) (bs.getD x.toNat 0) s c := by rw [sync1, if_neg (by rw [hk]; simp)]
        have e3 : (newG (nd l x.toNat).id (qs.getD x.toNat 0) (bs.getD x.toNat 0) s c).2 = 3 := by
          rcases new_err (nd l x.toNat).id (qs.getD x.toNat 0) (bs.getD x.toNat 0) s c with a | a
          · exact absurd a hn
          · rw [a]
        have e4 : syE l n ps qs bs s c = 3 := by
          rw [syE, if_neg nb, if_neg]
          intro a
          have := syOk_iff.1 a x.toNat (by omega)
          rw [hS, e0] at this
          exact hn this
        rw [e3, e4]
        exact ⟨rfl, by rw [syL, if_neg (by rw [e4]; omega)]⟩
      · rw [hS, sync1, if_neg (by rw [hk]; simp)]; exact hn
      · rw [hS, sync1, if_neg (by rw [hk]; simp)]
      · rw [hS, sync1, if_pos hk]
      · rw [hS, sync1, if_pos hk]
    · have e4 : syE l n ps qs bs s c = 0 := by
        rw [syE, if_neg nb, if_pos]
        exact syOk_iff.2 fun i hi2 => hi.2.2 i (by omega)
      have e5 : x.toNat = l.length := by omega
      rw [e4, e5]
      exact ⟨rfl, by rw [syL, if_pos e4]⟩


set_option maxRecDepth 100000 in
theorem vc53 (l : List Nod) (n : Int) (qs bs : List Int) (s c : Int) (hx : (WfN l ∧ BL bs) ∧ qs.length ≤ 9223372036854775807) : sNewT.vc (EV Try.prog [(51, sSync.spec)] noInv noInv) Try.f53 ((l, n), qs, bs, s, c, ()) := by
  have e : ((((WfN l ∧ TL (NilL Pool)) ∧ BL bs) ∧ qs.length ≤ (9223372036854775807 : Nat)) ∧ ∃ (y : Unit), True ∧ syE l n (NilL Pool) qs bs s c = syE l n (NilL Pool) qs bs s c ∧ syL l n (NilL Pool) qs bs s c = syL l n (NilL Pool) qs bs s c) = sNewT.vc (EV Try.prog [(51, sSync.spec)] noInv noInv) Try.f53 ((l, n), qs, bs, s, c, ()) := by kernel_rfl
  rw [← e]
  clear e
  simp only [and_true, exists_const]
  refine ⟨⟨⟨hx.1.1, fun x hx => ?_, Nat.zero_le _⟩, hx.1.2⟩, hx.2⟩
  cases hx

def inv102 (l : List Nod) (qs bs : List Int) (s c : Int) : Inv where
  X := Int
  ok := fun i => 0 ≤ i ∧ i ≤ l.length ∧ ∀ j : Nat, (j : Int) < i → (syI l [] qs bs s c j).2 = 0
  sl := fun i => [(13, .int .i64 i), (12, .own 101 4)]
  hp := fun i => [(101, .rows 80 4 (syT l [] qs bs s c i.toNat))]
  keep := [10000]
  me := fun i => (l.length - i).toNat
set_option maxRecDepth 100000 in
theorem vc102 (l : List Nod) (n : Int) (qs bs : List Int) (s c : Int) (hx : (WfN l ∧ BL bs) ∧ qs.length ≤ 9223372036854775807) : sNewT.vc (EV Try.prog [(78, sChk.spec), (133, sNewP.spec)] (invs [(5, inv102 l qs bs s c)]) noInv) Try.f102 ((l, n), qs, bs, s, c, ()) := by
  have e : (True ∧ ((!chkB l n) = false → (!chkB l n) = false) ∧ ((!chkB l n) = false → (!chkB l n) = false) ∧ ((!chkB l n) = false → (!chkB l n) = false) ∧ ((!chkB l n) = false → (!chkB l n) = false) ∧ ((!chkB l n) = false → (!chkB l n) = false) ∧ ((!chkB l n) = false → (!chkB l n) = false) ∧ ((!chkB l n || !decide ((↑qs.length : Int) = (↑l.length : Int))) = false → (!chkB l n || !decide ((↑qs.length : Int) = (↑l.length : Int))) = false) ∧ ((!chkB l n || !decide ((↑qs.length : Int) = (↑l.length : Int))) = false → (!chkB l n || !decide ((↑qs.length : Int) = (↑l.length : Int))) = false) ∧ ((!chkB l n || !decide ((↑qs.length : Int) = (↑l.length : Int))) = false → (!chkB l n || !decide ((↑qs.length : Int) = (↑l.length : Int))) = false) ∧ ((!chkB l n || !decide ((↑qs.length : Int) = (↑l.length : Int))) = false → (!chkB l n || !decide ((↑qs.length : Int) = (↑l.length : Int))) = false) ∧ ((!chkB l n || !decide ((↑qs.length : Int) = (↑l.length : Int))) = false → (!chkB l n || !decide ((↑qs.length : Int) = (↑l.length : Int))) = false) ∧ ((!chkB l n || !decide ((↑qs.length : Int) = (↑l.length : Int))) = false → (!chkB l n || !decide ((↑qs.length : Int) = (↑l.length : Int))) = false) ∧ ((!chkB l n || !decide ((↑qs.length : Int) = (↑l.length : Int)) || !decide ((↑bs.length : Int) = (↑l.length : Int))) = true → ∃ (y : Unit), True ∧ 1 = syE l n (NilL Pool) qs bs s c ∧ NilL Pool = syL l n (NilL Pool) qs bs s c) ∧ ((!chkB l n || !decide ((↑qs.length : Int) = (↑l.length : Int)) || !decide ((↑bs.length : Int) = (↑l.length : Int))) = false → (∃ (x : Int), (0 ≤ x ∧ x ≤ (↑l.length : Int) ∧ ∀ (j : Nat), (↑j : Int) < x → (syI l (NilL Pool) qs bs s c j).snd = 0) ∧ 0 = x ∧ NilL Pool = syT l (NilL Pool) qs bs s c x.toNat ∧ l = l ∧ n = n) ∧ ∀ (x : Int), (0 ≤ x ∧ x ≤ (↑l.length : Int) ∧ ∀ (j : Nat), (↑j : Int) < x → (syI l (NilL Pool) qs bs s c j).snd = 0) → (decide (x < (↑l.length : Int)) = true → (0 ≤ x ∧ x < (↑l.length : Int)) ∧ (0 ≤ x ∧ x < (↑qs.length : Int)) ∧ (0 ≤ x ∧ x < (↑bs.length : Int)) ∧ ((-1152921504606846976) ≤ bs.getD x.toNat 0 ∧ bs.getD x.toNat (0 : Int) ≤ 1152921504606846976) ∧ ((!decide ((newG (l.getD x.toNat nd0).id (qs.getD x.toNat 0) (bs.getD x.toNat 0) s c).snd = 0)) = true → ∃ (y : Unit), True ∧ (newG (l.getD x.toNat nd0).id (qs.getD x.toNat 0) (bs.getD x.toNat 0) s c).snd = syE l n (NilL Pool) qs bs s c ∧ NilL Pool = syL l n (NilL Pool) qs bs s c) ∧ ((!decide ((newG (l.getD x.toNat nd0).id (qs.getD x.toNat 0) (bs.getD x.toNat 0) s c).snd = 0)) = false → (syT l (NilL Pool) qs bs s c x.toNat).length + ((newG (l.getD x.toNat nd0).id (qs.getD x.toNat 0) (bs.getD x.toNat 0) s c).fst :: NilL Pool).length ≤ (68719476736 : Nat) ∧ i64R (x + 1) ∧ ∃ (x' : Int), (0 ≤ x' ∧ x' ≤ (↑l.length : Int) ∧ ∀ (j : Nat), (↑j : Int) < x' → (syI l (NilL Pool) qs bs s c j).snd = 0) ∧ ((↑l.length : Int) - x').toNat < ((↑l.length : Int) - x).toNat ∧ x + 1 = x' ∧ syT l (NilL Pool) qs bs s c x.toNat ++ (newG (l.getD x.toNat nd0).id (qs.getD x.toNat 0) (bs.getD x.toNat 0) s c).fst :: NilL Pool = syT l (NilL Pool) qs bs s c x'.toNat ∧ l = l ∧ n = n)) ∧ (decide (x < (↑l.length : Int)) = false → ∃ (y : Unit), True ∧ 0 = syE l n (NilL Pool) qs bs s c ∧ syT l (NilL Pool) qs bs s c x.toNat = syL l n (NilL Pool) qs bs s c))) = sNewT.vc (EV Try.prog [(78, sChk.spec), (133, sNewP.spec)] (invs [(5, inv102 l qs bs s c)]) noInv) Try.f102 ((l, n), qs, bs, s, c, ()) := by kernel_rfl
  rw [← e]
  clear e
  delta nd0
  simp only [imp_self, true_and, and_true, exists_const]
  simp only [i64R, Int.reduceNeg, decide_eq_true_eq, decide_eq_false_iff_not, Bool.not_eq_true', Bool.not_eq_false', Bool.or_eq_true, Bool.or_eq_false_iff ]
  try simp only [NilL_eq, nd_fold]
  obtain ⟨⟨hw, hb, hbl⟩, hq⟩ := hx
  refine ⟨fun h => ?_, fun h => ?_⟩
  · have e1 : syE l n [] qs bs s c = 1 := by
      rw [syE, if_pos]
      rcases h with (h | h) | h
      · exact .inl h
      · exact .inr (.inl (by omega))
      · exact .inr (.inr (by omega))
    exact ⟨e1.symm, by rw [syL, if_neg (by rw [e1]; omega)]⟩
  · have hc := chkB_iff.1 h.1.1
    have l2 := hc.len2
    have nb : ¬ (chkB l n = false ∨ qs.length ≠ l.length ∨ bs.length ≠ l.length) := by rw [h.1.1]; simp; omega
    refine ⟨⟨0, ⟨by omega, by omega, fun j hj => by omega⟩, rfl, rfl⟩, fun x hi => ⟨fun hlt => ?_, fun hge => ?_⟩⟩
    · have e : (x + 1).toNat = x.toNat + 1 := by omega
      have hbx := hb x.toNat (by omega)
      have hS : syI l [] qs bs s c x.toNat = sync1 [] (nd l x.toNat).id (qs.getD x.toNat 0) (bs.getD x.toNat 0) s c := rfl
      have nxt : (syI l [] qs bs s c x.toNat).2 = 0 → ∀ P, (syI l [] qs bs s c x.toNat).1 = P → (syT l [] qs bs s c x.toNat).length + [P].length ≤ 68719476736 ∧ (-9223372036854775808 ≤ x + 1 ∧ x + 1 ≤ 9223372036854775807) ∧ ∃ x', (0 ≤ x' ∧ x' ≤ (l.length : Int) ∧ ∀ j : Nat, (j : Int) < x' → (syI l [] qs bs s c j).2 = 0) ∧ ((l.length : Int) - x').toNat < ((l.length : Int) - x).toNat ∧ x + 1 = x' ∧ syT l [] qs bs s c x.toNat ++ [P] = syT l [] qs bs s c x'.toNat := fun h2 P hP => by
        refine ⟨by rw [syT_len]; simp; omega, by omega, x + 1, ⟨by omega, by omega, fun j hj => ?_⟩, by omega, rfl, by rw [e, ← syT_step, hP]⟩
        by_cases e2 : (j : Int) < x
        · exact hi.2.2 j e2
        · have : j = x.toNat := by omega
          rw [this]; exact h2
      have e0 : syI l [] qs bs s c x.toNat = newG (nd l x.toNat).id (qs.getD x.toNat 0) (bs.getD x.toNat 0) s c := sync_nil _ _ _ _ _
      refine ⟨by omega, by omega, by omega, hbx, fun hn => ?_, fun hn => nxt (by rw [e0]; exact hn) _ (by rw [e0])⟩
      have e3 : (newG (nd l x.toNat).id (qs.getD x.toNat 0) (bs.getD x.toNat 0) s c).2 = 3 := by
        rcases new_err (nd l x.toNat).id (qs.getD x.toNat 0) (bs.getD x.toNat 0) s c with a | a
        · exact absurd a hn
        · rw [a]
      have e4 : syE l n [] qs bs s c = 3 := by
        rw [syE, if_neg nb, if_neg]
        intro a
        have := syOk_iff.1 a x.toNat (by omega)
        rw [e0] at this
        exact hn this
      rw [e3, e4]
      exact ⟨rfl, by rw [syL, if_neg (by rw [e4]; omega)]⟩
    · have e4 : syE l n [] qs bs s c = 0 := by
        rw [syE, if_neg nb, if_pos]
        exact syOk_iff.2 fun i hi2 => hi.2.2 i (by omega)
      have e5 : x.toNat = l.length := by omega
      rw [e4, e5]
      exact ⟨rfl, by rw [syL, if_pos e4]⟩
end Go.Proofs.Ytemffnpliflkgaa
namespace Go.Proofs.Ytemffnpliflkgaa
open Go
set_option linter.unusedVariables false

/-- Quotas and bursts. -/
structure NumOK (n : Nat) (q b : List Int) : Prop where
  lq : q.length = n
  lb : b.length = n
  ok : ∀ i, i < n → ratesI (q.getD i 0) (b.getD i 0) = true
theorem NumOK.zero : NumOK 0 [] [] := ⟨rfl, rfl, fun i hi => absurd hi (Nat.not_lt_zero _)⟩
theorem getD_snoc {l : List Int} {x : Int} {i : Nat} : (l ++ [x]).getD i 0 = if i < l.length then l.getD i 0 else if i = l.length then x else 0 := by
  rw [List.getD_eq_getElem?_getD]
  by_cases h : i < l.length
  · rw [if_pos h, List.getElem?_append_left h, List.getD_eq_getElem?_getD]
  · rw [if_neg h, List.getElem?_append_right (by omega)]
    by_cases h2 : i = l.length
    · rw [if_pos h2, h2, Nat.sub_self]; rfl
    · rw [if_neg h2, List.getElem?_eq_none (by simp; omega)]; rfl
theorem NumOK.snoc {n : Nat} {q b : List Int} (h : NumOK n q b) {x y : Int} (e : ratesI x y = true) : NumOK (n + 1) (q ++ [x]) (b ++ [y]) := by
  refine ⟨by rw [List.length_append, h.lq]; rfl, by rw [List.length_append, h.lb]; rfl, fun i hi => ?_⟩
  rw [getD_snoc, getD_snoc, h.lq, h.lb]
  by_cases c : i < n
  · rw [if_pos c, if_pos c]; exact h.ok i c
  · rw [if_neg c, if_neg c, if_pos (by omega), if_pos (by omega)]; exact e
theorem num_ex (n : Nat) : ∃ q b, NumOK n q b := by
  induction n with
  | zero => exact ⟨[], [], NumOK.zero⟩
  | succ n ih =>
    obtain ⟨q, b, h⟩ := ih
    exact ⟨_, _, h.snoc (x := 4611686018427387904) (y := 0) (by decide)⟩
theorem NumOK.bl {n : Nat} {q b : List Int} (h : NumOK n q b) (hn : n ≤ 1000) : BL b := by
  refine ⟨fun i hi => ?_, by rw [h.lb]; omega⟩
  rw [h.lb] at hi
  have := ratesI_iff.1 (h.ok i hi)
  omega
/-- Pools that are made: c cells each, the same slice, at most m periods. -/
structure PoolsK (l : List Nod) (n c m : Int) (ps : List Pool) : Prop where
  thr : ThrP l n ps
  loc : ((pn ps 0).l.length : Int) = c
  sl : ∀ i, i < l.length → (pn ps i).s = (pn ps 0).s
  pe : ∀ i, i < l.length → (pn ps i).pe ≤ m
  sp : ∀ i, i < l.length → (pn ps i).sp ≤ m
theorem PoolsK.locs {l : List Nod} {n c m : Int} {ps : List Pool} (h : PoolsK l n c m ps) {i : Nat} (hi : i < l.length) : ((pn ps i).l.length : Int) = c := by rw [h.thr.loc i hi]; exact h.loc
theorem PoolsK.tl {l : List Nod} {n c m : Int} {ps : List Pool} (h : PoolsK l n c m ps) : TL ps := by
  have := h.thr.len
  have := h.thr.chk.len2
  exact ⟨h.thr.tame, by omega⟩
theorem PoolsK.up {l : List Nod} {n c m m' : Int} {ps : List Pool} (h : PoolsK l n c m ps) (hm : m ≤ m') : PoolsK l n c m' ps := ⟨h.thr, h.loc, h.sl, fun i hi => by have := h.pe i hi; omega, fun i hi => by have := h.sp i hi; omega⟩
theorem PoolsK.map {l : List Nod} {n c m m' : Int} {ps : List Pool} (h : PoolsK l n c m ps) {F : Pool → Pool} (hF : ∀ i, i < l.length → Good (F (pn ps i)) ∧ (F (pn ps i)).g = (pn ps i).g ∧ (F (pn ps i)).l.length = (pn ps i).l.length ∧ (F (pn ps i)).s = (pn ps i).s ∧ (F (pn ps i)).pe ≤ m' ∧ (F (pn ps i)).sp ≤ m') : PoolsK l n c m' (ps.map F) := by
  have hl := h.thr.len
  have l1 := h.thr.chk.len1
  have e : ∀ i, i < l.length → pn (ps.map F) i = F (pn ps i) := fun i hi => map_pn (by omega)
  refine ⟨h.thr.map fun i hi => ⟨(hF i hi).1, (hF i hi).2.1, (hF i hi).2.2.1⟩, ?_, fun i hi => ?_, fun i hi => ?_, fun i hi => ?_⟩
  · rw [e 0 (by omega), (hF 0 (by omega)).2.2.1]; exact h.loc
  · rw [e i hi, e 0 (by omega), (hF i hi).2.2.2.1, (hF 0 (by omega)).2.2.2.1]; exact h.sl i hi
  · rw [e i hi]; exact (hF i hi).2.2.2.2.1
  · rw [e i hi]; exact (hF i hi).2.2.2.2.2
theorem ChkP.id_max {l : List Nod} {n : Int} (h : ChkP l n) {i : Nat} (hi : i < l.length) : 1 ≤ (nd l i).id ∧ (nd l i).id ≤ 2147483647 := by
  have h1 := h.lt_next hi
  have h2 := h.nx2
  have h3 := h.asc.pos hi
  omega
theorem new_is {l : List Nod} {n : Int} (hc : ChkP l n) {q b : List Int} {s c : Int} (hn : NumOK l.length q b) (hs : 1 ≤ s ∧ s ≤ 1000000) (hcc : 1 ≤ c ∧ c ≤ 16) {i : Nat} (hi : i < l.length) : syI l [] q b s c i = (newP (nd l i).id (q.getD i 0) (b.getD i 0) s c.toNat, 0) ∧ Good (newP (nd l i).id (q.getD i 0) (b.getD i 0) s c.toNat) := by
  have hg := new_good (hc.id_max hi) (ratesI_iff.1 (hn.ok i hi)) hs (c := c.toNat) ⟨by omega, by omega⟩
  refine ⟨?_, hg⟩
  rw [syI, sync_nil, newG, if_pos ⟨hcc.1, hcc.2, goodB_iff.2 hg⟩]
theorem pools_new {l : List Nod} {n : Int} (hc : ChkP l n) {q b : List Int} {s c : Int} (hn : NumOK l.length q b) (hs : 1 ≤ s ∧ s ≤ 1000000) (hcc : 1 ≤ c ∧ c ≤ 16) : syE l n [] q b s c = 0 ∧ PoolsK l n c 1 (syL l n [] q b s c) := by
  have l1 := hc.len1
  have hE : syE l n [] q b s c = 0 := by
    rw [syE, if_neg, if_pos]
    · exact syOk_iff.2 fun i hi => by rw [(new_is hc hn hs hcc hi).1]
    · rw [chkB_iff.2 hc, hn.lq, hn.lb]; simp
  have e : ∀ i, i < l.length → pn (syL l n [] q b s c) i = newP (nd l i).id (q.getD i 0) (b.getD i 0) s c.toNat := fun i hi => by
    rw [syL, if_pos hE, pn_get (by rw [syT_len]; exact hi)]
    simp only [syT, List.getElem_map, List.getElem_range]
    rw [(new_is hc hn hs hcc hi).1]
  have ln : ∀ i, i < l.length → (pn (syL l n [] q b s c) i).l.length = c.toNat := fun i hi => by rw [e i hi]; simp [newP]
  refine ⟨hE, ⟨hc, by rw [syL, if_pos hE, syT_len], fun i hi => by rw [e i hi]; rfl, fun i hi => by rw [e i hi]; exact (new_is hc hn hs hcc hi).2, fun i hi => by rw [ln i hi, ln 0 (by omega)]⟩, by rw [ln 0 (by omega)]; omega, fun i hi => by rw [e i hi, e 0 (by omega)]; rfl, fun i hi => by rw [e i hi]; exact Int.le_refl 1, fun i hi => by rw [e i hi]; show (0 : Int) ≤ 1; omega⟩
theorem spE_ok {l : List Nod} {n : Int} {ps : List Pool} {g c : Int} (h : spE l n ps g c = 0 ∨ spE l n ps g c = 11) : ThrP l n ps ∧ g ∈ ids l ∧ 0 ≤ c ∧ c < (pn ps 0).l.length := by
  unfold spE at h
  by_cases e : thrB l n ps = false
  · rw [if_pos e] at h; omega
  · rw [if_neg e] at h
    by_cases e2 : hasB l g = false
    · rw [if_pos e2] at h; omega
    · rw [if_neg e2] at h
      by_cases e3 : c < 0 ∨ ((pn ps 0).l.length : Int) ≤ c
      · rw [if_pos e3] at h; omega
      · exact ⟨thrB_iff.1 (by simpa using e), hasB_iff.1 (by simpa using e2), by omega, by omega⟩
theorem sp1_facts {l : List Nod} {n : Int} {ps : List Pool} (h : ThrP l n ps) {up : List Int} {c : Int} (h0 : 0 ≤ c) (h1 : c < (pn ps 0).l.length) {i : Nat} (hi : i < l.length) : Good (sp1 ps up c (pn ps i)) ∧ (sp1 ps up c (pn ps i)).g = (pn ps i).g ∧ (sp1 ps up c (pn ps i)).l.length = (pn ps i).l.length ∧ (sp1 ps up c (pn ps i)).s = (pn ps i).s ∧ (sp1 ps up c (pn ps i)).pe = (pn ps i).pe ∧ (sp1 ps up c (pn ps i)).q = (pn ps i).q ∧ (sp1 ps up c (pn ps i)).bu = (pn ps i).bu ∧ (sp1 ps up c (pn ps i)).sp ≤ (pn ps i).sp + 1 := by
  have hg := h.good i hi
  have hl : c < (pn ps i).l.length := by rw [h.loc i hi]; exact h1
  unfold sp1
  split
  · rw [spendG_ok hg h0 hl]
    obtain ⟨f1, f2, f3, f4, f5, f6, _⟩ := spend_facts hg (c := c.toNat) (by omega)
    obtain ⟨g1, g2⟩ := spend_same (pn ps i) c.toNat
    exact ⟨f1, g1, f5, g2, f4, f2, f3, f6⟩
  · exact ⟨hg, rfl, rfl, rfl, rfl, rfl, rfl, by omega⟩
theorem PoolsK.spend {l : List Nod} {n k m : Int} {ps : List Pool} (h : PoolsK l n k m ps) {g c : Int} (hE : spE l n ps g c = 0 ∨ spE l n ps g c = 11) : PoolsK l n k (m + 1) (spL l n ps g c) := by
  obtain ⟨hT, hg, h0, h1⟩ := spE_ok hE
  rw [spL, if_pos hE]
  refine h.map fun i hi => ?_
  obtain ⟨f1, f2, f3, f4, f5, _, _, f6⟩ := sp1_facts hT (up := upT l g) h0 h1 hi
  have p1 := h.pe i hi
  have p2 := h.sp i hi
  exact ⟨f1, f2, f3, f4, by omega, by omega⟩
theorem PoolsK.refill {l : List Nod} {n k m : Int} {ps : List Pool} (h : PoolsK l n k m ps) (hm : m < 1099511627776) (due : List Int) : PoolsK l n k (m + 1) (rfL l n ps due) := by
  rw [rfL, if_neg (by rw [thrB_iff.2 h.thr]; simp)]
  refine h.map fun i hi => ?_
  have hg := h.thr.good i hi
  have hp := h.pe i hi
  have hsp := h.sp i hi
  have hr := refillG_ok hg (by omega)
  have hp0 := hg.pe0
  unfold rf1
  split
  · rw [hr]
    exact ⟨(refill_facts hg (by omega)).1, rfl, rfl, rfl, by show (pn ps i).pe + 1 ≤ _; omega, by show (0 : Int) ≤ _; omega⟩
  · exact ⟨hg, rfl, rfl, rfl, by omega, by omega⟩
theorem PoolsK.idle {l : List Nod} {n k m : Int} {ps : List Pool} (h : PoolsK l n k m ps) (c : Int) : PoolsK l n k m (idL l n ps c) := by
  rw [idL, if_neg (by rw [thrB_iff.2 h.thr]; simp)]
  refine h.map fun i hi => ?_
  have hg := h.thr.good i hi
  unfold id1
  by_cases e : (returnG (pn ps i) c).2 = 0
  · rw [if_pos e]
    by_cases hu : useI (pn ps i) c = 0
    · obtain ⟨_, h0, h1⟩ := use_ok hu
      rw [returnG_ok hg h0 h1]
      exact ⟨hg.back (by omega), rfl, by simp [returnP], rfl, h.pe i hi, h.sp i hi⟩
    · rw [returnG, if_neg hu] at e
      exact absurd e hu
  · rw [if_neg e]; exact ⟨hg, rfl, rfl, rfl, h.pe i hi, h.sp i hi⟩
theorem pools_ex {l : List Nod} {n c : Int} (hc : ChkP l n) (hcc : 1 ≤ c ∧ c ≤ 16) : ∃ ps, PoolsK l n c 1 ps := by
  obtain ⟨q, b, h⟩ := num_ex l.length
  exact ⟨_, (pools_new hc h (s := 1) ⟨by omega, by omega⟩ hcc).2⟩
end Go.Proofs.Ytemffnpliflkgaa
namespace Go.Proofs.Ytemffnpliflkgaa
open Go
set_option linter.unusedVariables false

def sNums : FSp := ⟨_, Sig.dice (one pkI) (fun _ => rfl), fun x => DOK x.1 ∧ 0 ≤ x.2.1 ∧ x.2.1 ≤ 100, (List Int × List Int) × Int, fun x y => NumOK x.2.1.toNat y.1.1 y.1.2 ∧ x.1.2 ≤ y.2 ∧ y.2 ≤ x.1.1.length, fun _ _ => .tup [.own 101 0, .own 103 0], fun x y => [(0, diceO (x.1.1, y.2)), (101, .rows 3 0 y.1.1), (103, .rows 3 0 y.1.2)], fun x h => by
  obtain ⟨q, b, hn⟩ := num_ex x.2.1.toNat
  exact ⟨((q, b), x.1.2), hn, Int.le_refl _, h.1.hi⟩⟩
def sPools : FSp := ⟨_, Sig.dice (two pkTree pkI) (fun _ => rfl), fun x => (DOK x.1 ∧ ChkP x.2.1.1 x.2.1.2) ∧ 1 ≤ x.2.2.1 ∧ x.2.2.1 ≤ 16, List Pool × Int, fun x y => PoolsK x.2.1.1 x.2.1.2 x.2.2.1 25 y.1 ∧ x.1.2 ≤ y.2 ∧ y.2 ≤ x.1.1.length, fun _ _ => .own 101 4, fun x y => [(0, diceO (x.1.1, y.2)), (101, .rows 80 4 y.1)], fun x h => by
  obtain ⟨ps, hp⟩ := pools_ex h.1.2 h.2
  exact ⟨(ps, x.1.2), hp.up (by omega), Int.le_refl _, h.1.1.hi⟩⟩
def t1Ex : List Nod := [⟨1, 0, ByteArray.empty, 0, 0, 0⟩]
def t2Ex : List Nod := [⟨1, 0, ByteArray.empty, 0, 0, 0⟩, ⟨2, 1, ⟨#[97]⟩, 0, 0, 0⟩]
def t3Ex : List Nod := [⟨1, 0, ByteArray.empty, 0, 0, 0⟩, ⟨2, 1, ⟨#[97]⟩, 0, 0, 0⟩, ⟨3, 2, ⟨#[98]⟩, 0, 0, 0⟩]
def t4Ex : List Nod := [⟨1, 0, ByteArray.empty, 0, 0, 0⟩, ⟨2, 1, ⟨#[97]⟩, 0, 0, 0⟩, ⟨3, 2, ⟨#[98]⟩, 0, 0, 0⟩, ⟨4, 2, ⟨#[99]⟩, 0, 0, 0⟩]
def p0Ex : List Pool := [⟨1, 4611686018427387904, 0, 1, 0, [0], 0, 1, 0, false⟩, ⟨2, 2, 0, 1, 2, [0], 0, 1, 0, false⟩, ⟨3, 4611686018427387904, 0, 1, 0, [0], 0, 1, 0, false⟩, ⟨4, 4611686018427387904, 0, 1, 0, [0], 0, 1, 0, false⟩]
def p1Ex : List Pool := [⟨1, 4611686018427387904, 0, 1, 0, [0], 1, 1, 0, false⟩, ⟨2, 2, 0, 1, 1, [0], 1, 1, 0, false⟩, ⟨3, 4611686018427387904, 0, 1, 0, [0], 1, 1, 0, false⟩, ⟨4, 4611686018427387904, 0, 1, 0, [0], 0, 1, 0, false⟩]
def p2Ex : List Pool := [⟨1, 4611686018427387904, 0, 1, 0, [0], 2, 1, 0, false⟩, ⟨2, 2, 0, 1, 0, [0], 2, 1, 0, false⟩, ⟨3, 4611686018427387904, 0, 1, 0, [0], 1, 1, 0, false⟩, ⟨4, 4611686018427387904, 0, 1, 0, [0], 1, 1, 0, false⟩]
theorem t4Ex_chk : ChkP t4Ex 5 := chkB_iff.1 (by kernel_rfl)
theorem tl_ex {ps : List Pool} (h : ps.all goodB = true) (hl : ps.length ≤ 1048576) : TL ps := ⟨fun x hx => (goodB_iff.1 (List.all_eq_true.1 h x hx)).tame, hl⟩
def sSane18 : DS := ⟨_, Sig.nil, fun _ => True, fun _ => .bool true, nou⟩

def inv50 (L : List Int) (k n : Int) : Inv where
  X := (List Int × List Int) × Int × Int
  ok := fun x => (NumOK x.2.1.toNat x.1.1 x.1.2 ∧ 0 ≤ x.2.1 ∧ x.2.1 ≤ n) ∧ DOK (L, x.2.2) ∧ k ≤ x.2.2
  sl := fun x => [(8, .int .i64 x.2.1), (6, .own 101 0), (7, .own 103 0)]
  hp := fun x => [(0, diceO (L, x.2.2)), (101, .rows 3 0 x.1.1), (103, .rows 3 0 x.1.2)]
  keep := []
  me := fun x => (n - x.2.1).toNat
set_option maxRecDepth 100000 in
theorem vc50 (L : List Int) (k n : Int) (hx : DOK (L, k) ∧ 0 ≤ n ∧ n ≤ 100) : sNums.vc (EV Try.prog [(59, sBool.spec), (23, sNext.spec)] (invs [(3, inv50 L k n)]) noInv) Try.f50 ((L, k), n, ()) := by
  have e : ((∃ (x : (List Int × List Int) × Int × Int), ((NumOK x.snd.fst.toNat x.fst.fst x.fst.snd ∧ 0 ≤ x.snd.fst ∧ x.snd.fst ≤ n) ∧ DOK (L, x.snd.snd) ∧ k ≤ x.snd.snd) ∧ 0 = x.snd.fst ∧ L = L ∧ k = x.snd.snd ∧ NilL Int = x.fst.fst ∧ NilL Int = x.fst.snd) ∧ ∀ (x : (List Int × List Int) × Int × Int), (NumOK x.snd.fst.toNat x.fst.fst x.fst.snd ∧ 0 ≤ x.snd.fst ∧ x.snd.fst ≤ n) ∧ DOK (L, x.snd.snd) ∧ k ≤ x.snd.snd → (decide (x.snd.fst < n) = true → (DOK (L, x.snd.snd) ∧ (1 : Int) ≤ 2 ∧ (2 : Int) ≤ 1000) ∧ (∀ (y : Bool × Int), true = true) ∧ ∀ (y : Bool × Int), x.snd.snd ≤ y.snd ∧ y.snd ≤ (↑L.length : Int) → (y.fst = true → (DOK (L, y.snd) ∧ (6 : Int) ≤ 4611686018427387904) ∧ (∀ (y : Int × Int), true = true) ∧ ∀ (y_1 : Int × Int), ((1 : Int) ≤ 6 → 0 ≤ y_1.fst ∧ y_1.fst < 6) ∧ ((6 : Int) < 1 → y_1.fst = 0) ∧ y.snd ≤ y_1.snd ∧ y_1.snd ≤ (↑L.length : Int) → i64R (1 + y_1.fst) ∧ i64R (1 + y_1.fst + 1) ∧ (DOK (L, y_1.snd) ∧ 1 + y_1.fst + (1 : Int) ≤ 4611686018427387904) ∧ (∀ (y : Int × Int), true = true) ∧ ∀ (y : Int × Int), ((1 : Int) ≤ 1 + y_1.fst + 1 → 0 ≤ y.fst ∧ y.fst < 1 + y_1.fst + 1) ∧ (1 + y_1.fst + (1 : Int) < 1 → y.fst = 0) ∧ y_1.snd ≤ y.snd ∧ y.snd ≤ (↑L.length : Int) → x.fst.fst.length + ((1 + y_1.fst) :: NilL Int).length ≤ (68719476736 : Nat) ∧ x.fst.snd.length + (y.fst :: NilL Int).length ≤ (68719476736 : Nat) ∧ i64R (x.snd.fst + 1) ∧ ∃ (x' : (List Int × List Int) × Int × Int), ((NumOK x'.snd.fst.toNat x'.fst.fst x'.fst.snd ∧ 0 ≤ x'.snd.fst ∧ x'.snd.fst ≤ n) ∧ DOK (L, x'.snd.snd) ∧ k ≤ x'.snd.snd) ∧ (n - x'.snd.fst).toNat < (n - x.snd.fst).toNat ∧ x.snd.fst + 1 = x'.snd.fst ∧ L = L ∧ y.snd = x'.snd.snd ∧ x.fst.fst ++ (1 + y_1.fst) :: NilL Int = x'.fst.fst ∧ x.fst.snd ++ y.fst :: NilL Int = x'.fst.snd) ∧ (y.fst = false → x.fst.fst.length + (4611686018427387904 :: NilL Int).length ≤ (68719476736 : Nat) ∧ x.fst.snd.length + (0 :: NilL Int).length ≤ (68719476736 : Nat) ∧ i64R (x.snd.fst + 1) ∧ ∃ (x' : (List Int × List Int) × Int × Int), ((NumOK x'.snd.fst.toNat x'.fst.fst x'.fst.snd ∧ 0 ≤ x'.snd.fst ∧ x'.snd.fst ≤ n) ∧ DOK (L, x'.snd.snd) ∧ k ≤ x'.snd.snd) ∧ (n - x'.snd.fst).toNat < (n - x.snd.fst).toNat ∧ x.snd.fst + 1 = x'.snd.fst ∧ L = L ∧ y.snd = x'.snd.snd ∧ x.fst.fst ++ 4611686018427387904 :: NilL Int = x'.fst.fst ∧ x.fst.snd ++ 0 :: NilL Int = x'.fst.snd)) ∧ (decide (x.snd.fst < n) = false → ∃ (y : (List Int × List Int) × Int), (NumOK n.toNat y.fst.fst y.fst.snd ∧ k ≤ y.snd ∧ y.snd ≤ (↑L.length : Int)) ∧ L = L ∧ x.snd.snd = y.snd ∧ x.fst.fst = y.fst.fst ∧ x.fst.snd = y.fst.snd)) = sNums.vc (EV Try.prog [(59, sBool.spec), (23, sNext.spec)] (invs [(3, inv50 L k n)]) noInv) Try.f50 ((L, k), n, ()) := by kernel_rfl
  rw [← e]
  clear e
  simp only [true_and, implies_true]
  simp only [Prod.forall, Prod.exists, forall_const, true_and, and_true, i64R, Int.reduceLE, Int.reduceLT, Int.reduceNeg, false_implies, decide_eq_true_eq, decide_eq_false_iff_not]
  try simp only [NilL_eq]
  obtain ⟨hd0, n0, n1⟩ := hx
  have k0 : 0 ≤ k := hd0.lo
  have hd : ∀ j : Int, 0 ≤ j → j ≤ L.length → DOK (L, j) := fun j h1 h2 => ⟨h1, h2, hd0.len⟩
  refine ⟨⟨[], [], 0, k, ⟨⟨NumOK.zero, by omega, by omega⟩, hd0, by omega⟩, rfl, rfl, rfl, rfl⟩, fun q b i j hi => ?_⟩
  obtain ⟨⟨hn, i0, i1⟩, hj, hk⟩ := hi
  have lq := hn.lq
  have lb := hn.lb
  have nxt : ∀ x y : Int, ratesI x y = true → NumOK (i + 1).toNat (q ++ [x]) (b ++ [y]) := fun x y h => by
    have e : (i + 1).toNat = i.toNat + 1 := by omega
    rw [e]; exact hn.snoc h
  refine ⟨fun hlt => ⟨hj, fun t j2 h2 => ⟨fun _ => ⟨hd _ (by omega) (by omega), fun x j3 h3 => ⟨by omega, by omega, ⟨hd _ (by omega) (by omega), by omega⟩, fun y j4 h4 => ⟨by simp; omega, by simp; omega, by omega, _, _, i + 1, j4, ⟨⟨nxt _ _ (ratesI_iff.2 (.inr (by omega))), by omega, by omega⟩, hd _ (by omega) (by omega), by omega⟩, by omega, rfl, rfl, rfl, rfl⟩⟩⟩, fun _ => ⟨by simp; omega, by simp; omega, by omega, _, _, i + 1, j2, ⟨⟨nxt _ _ (by decide), by omega, by omega⟩, hd _ (by omega) (by omega), by omega⟩, by omega, rfl, rfl, rfl, rfl⟩⟩⟩, fun hge => ?_⟩
  have e : i = n := by omega
  subst e
  exact ⟨q, b, j, ⟨hn, hk, hj.hi⟩, rfl, rfl, rfl⟩

def inv39 (L : List Int) (k : Int) (l : List Nod) (n c : Int) : Inv where
  X := List Pool × Int × Int
  ok := fun x => (PoolsK l n c (25 - 2 * x.2.1) x.1 ∧ 0 ≤ x.2.1 ∧ x.2.1 ≤ 12) ∧ DOK (L, x.2.2) ∧ k ≤ x.2.2
  sl := fun x => [(11, .int .i64 x.2.1), (9, .own 101 4)]
  hp := fun x => [(0, diceO (L, x.2.2)), (101, .rows 80 4 x.1)]
  keep := [10000]
  me := fun x => x.2.1.toNat
set_option maxRecDepth 100000 in
theorem vc39 (L : List Int) (k : Int) (l : List Nod) (n c : Int) (hx : (DOK (L, k) ∧ ChkP l n) ∧ 1 ≤ c ∧ c ≤ 16) : sPools.vc (EV Try.prog [(50, sNums.spec), (23, sNext.spec), (102, sNewT.spec), (41, sGroup.spec), (43, sSpT.spec), (59, sBool.spec), (47, sSome.spec), (49, sRfT.spec)] (invs [(4, inv39 L k l n c)]) noInv) Try.f39 ((L, k), (l, n), c, ()) := by
  have e : ((DOK (L, k) ∧ 0 ≤ (↑l.length : Int) ∧ (↑l.length : Int) ≤ 100) ∧ (∀ (y : (List Int × List Int) × Int), true = true) ∧ ∀ (y : (List Int × List Int) × Int), NumOK (↑l.length : Int).toNat y.fst.fst y.fst.snd ∧ k ≤ y.snd ∧ y.snd ≤ (↑L.length : Int) → (DOK (L, y.snd) ∧ (3 : Int) ≤ 4611686018427387904) ∧ (∀ (y : Int × Int), true = true) ∧ ∀ (y_1 : Int × Int), ((1 : Int) ≤ 3 → 0 ≤ y_1.fst ∧ y_1.fst < 3) ∧ ((3 : Int) < 1 → y_1.fst = 0) ∧ y.snd ≤ y_1.snd ∧ y_1.snd ≤ (↑L.length : Int) → i64R (1 + y_1.fst) ∧ ((WfN l ∧ BL y.fst.snd) ∧ y.fst.fst.length ≤ (9223372036854775807 : Nat)) ∧ (DOK (L, y_1.snd) ∧ (12 : Int) ≤ 4611686018427387904) ∧ (∀ (y : Int × Int), true = true) ∧ ∀ (y_2 : Int × Int), ((1 : Int) ≤ 12 → 0 ≤ y_2.fst ∧ y_2.fst < 12) ∧ ((12 : Int) < 1 → y_2.fst = 0) ∧ y_1.snd ≤ y_2.snd ∧ y_2.snd ≤ (↑L.length : Int) → (∃ (x : List Pool × Int × Int), ((PoolsK l n c ((25 : Int) - 2 * x.snd.fst) x.fst ∧ 0 ≤ x.snd.fst ∧ x.snd.fst ≤ 12) ∧ DOK (L, x.snd.snd) ∧ k ≤ x.snd.snd) ∧ y_2.fst = x.snd.fst ∧ L = L ∧ y_2.snd = x.snd.snd ∧ syL l n (NilL Pool) y.fst.fst y.fst.snd (1 + y_1.fst) c = x.fst ∧ l = l ∧ n = n) ∧ ∀ (x : List Pool × Int × Int), (PoolsK l n c ((25 : Int) - 2 * x.snd.fst) x.fst ∧ 0 ≤ x.snd.fst ∧ x.snd.fst ≤ 12) ∧ DOK (L, x.snd.snd) ∧ k ≤ x.snd.snd → (decide (0 < x.snd.fst) = true → (DOK (L, x.snd.snd) ∧ (1 : Nat) ≤ l.length ∧ l.length ≤ (64 : Nat)) ∧ (∀ (y : Int × Int), true = true) ∧ ∀ (y : Int × Int), (y.fst ∈ ids l ∨ (-1) ≤ y.fst ∧ y.fst ≤ 7) ∧ x.snd.snd ≤ y.snd ∧ y.snd ≤ (↑L.length : Int) → (DOK (L, y.snd) ∧ c ≤ 4611686018427387904) ∧ (∀ (y : Int × Int), true = true) ∧ ∀ (y_3 : Int × Int), (1 ≤ c → 0 ≤ y_3.fst ∧ y_3.fst < c) ∧ (c < 1 → y_3.fst = 0) ∧ y.snd ≤ y_3.snd ∧ y_3.snd ≤ (↑L.length : Int) → (WfN l ∧ TL x.fst) ∧ (decide (spE l n x.fst y.fst y_3.fst = 0) = true → (DOK (L, y_3.snd) ∧ (1 : Int) ≤ 8 ∧ (8 : Int) ≤ 1000) ∧ (∀ (y : Bool × Int), true = true) ∧ ∀ (y_4 : Bool × Int), y_3.snd ≤ y_4.snd ∧ y_4.snd ≤ (↑L.length : Int) → (y_4.fst = true → DOK (L, y_4.snd) ∧ (∀ (y : List Int × Int), true = true) ∧ ∀ (y_5 : List Int × Int), (y_5.fst.length ≤ (5 : Nat) ∧ ∀ (z : Int), z ∈ y_5.fst → (-2) ≤ z ∧ z ≤ 9) ∧ y_4.snd ≤ y_5.snd ∧ y_5.snd ≤ (↑L.length : Int) → ((WfN l ∧ TL (spL l n x.fst y.fst y_3.fst)) ∧ y_5.fst.length ≤ (9223372036854775807 : Nat)) ∧ i64R (x.snd.fst - 1) ∧ ∃ (x' : List Pool × Int × Int), ((PoolsK l n c ((25 : Int) - 2 * x'.snd.fst) x'.fst ∧ 0 ≤ x'.snd.fst ∧ x'.snd.fst ≤ 12) ∧ DOK (L, x'.snd.snd) ∧ k ≤ x'.snd.snd) ∧ x'.snd.fst.toNat < x.snd.fst.toNat ∧ x.snd.fst - 1 = x'.snd.fst ∧ L = L ∧ y_5.snd = x'.snd.snd ∧ rfL l n (spL l n x.fst y.fst y_3.fst) y_5.fst = x'.fst ∧ l = l ∧ n = n) ∧ (y_4.fst = false → i64R (x.snd.fst - 1) ∧ ∃ (x' : List Pool × Int × Int), ((PoolsK l n c ((25 : Int) - 2 * x'.snd.fst) x'.fst ∧ 0 ≤ x'.snd.fst ∧ x'.snd.fst ≤ 12) ∧ DOK (L, x'.snd.snd) ∧ k ≤ x'.snd.snd) ∧ x'.snd.fst.toNat < x.snd.fst.toNat ∧ x.snd.fst - 1 = x'.snd.fst ∧ L = L ∧ y_4.snd = x'.snd.snd ∧ spL l n x.fst y.fst y_3.fst = x'.fst ∧ l = l ∧ n = n)) ∧ (decide (spE l n x.fst y.fst y_3.fst = 0) = false → (DOK (L, y_3.snd) ∧ (1 : Int) ≤ 8 ∧ (8 : Int) ≤ 1000) ∧ (∀ (y : Bool × Int), true = true) ∧ ∀ (y : Bool × Int), y_3.snd ≤ y.snd ∧ y.snd ≤ (↑L.length : Int) → (y.fst = true → DOK (L, y.snd) ∧ (∀ (y : List Int × Int), true = true) ∧ ∀ (y_4 : List Int × Int), (y_4.fst.length ≤ (5 : Nat) ∧ ∀ (z : Int), z ∈ y_4.fst → (-2) ≤ z ∧ z ≤ 9) ∧ y.snd ≤ y_4.snd ∧ y_4.snd ≤ (↑L.length : Int) → ((WfN l ∧ TL x.fst) ∧ y_4.fst.length ≤ (9223372036854775807 : Nat)) ∧ i64R (x.snd.fst - 1) ∧ ∃ (x' : List Pool × Int × Int), ((PoolsK l n c ((25 : Int) - 2 * x'.snd.fst) x'.fst ∧ 0 ≤ x'.snd.fst ∧ x'.snd.fst ≤ 12) ∧ DOK (L, x'.snd.snd) ∧ k ≤ x'.snd.snd) ∧ x'.snd.fst.toNat < x.snd.fst.toNat ∧ x.snd.fst - 1 = x'.snd.fst ∧ L = L ∧ y_4.snd = x'.snd.snd ∧ rfL l n x.fst y_4.fst = x'.fst ∧ l = l ∧ n = n) ∧ (y.fst = false → i64R (x.snd.fst - 1) ∧ ∃ (x' : List Pool × Int × Int), ((PoolsK l n c ((25 : Int) - 2 * x'.snd.fst) x'.fst ∧ 0 ≤ x'.snd.fst ∧ x'.snd.fst ≤ 12) ∧ DOK (L, x'.snd.snd) ∧ k ≤ x'.snd.snd) ∧ x'.snd.fst.toNat < x.snd.fst.toNat ∧ x.snd.fst - 1 = x'.snd.fst ∧ L = L ∧ y.snd = x'.snd.snd ∧ x.fst = x'.fst ∧ l = l ∧ n = n))) ∧ (decide (0 < x.snd.fst) = false → ∃ (y : List Pool × Int), (PoolsK l n c 25 y.fst ∧ k ≤ y.snd ∧ y.snd ≤ (↑L.length : Int)) ∧ L = L ∧ x.snd.snd = y.snd ∧ x.fst = y.fst)) = sPools.vc (EV Try.prog [(50, sNums.spec), (23, sNext.spec), (102, sNewT.spec), (41, sGroup.spec), (43, sSpT.spec), (59, sBool.spec), (47, sSome.spec), (49, sRfT.spec)] (invs [(4, inv39 L k l n c)]) noInv) Try.f39 ((L, k), (l, n), c, ()) := by kernel_rfl
  rw [← e]
  clear e
  simp only [true_and, and_true, implies_true]
  simp only [Prod.forall, Prod.exists, forall_const, true_and, and_true, i64R, Int.reduceLE, Int.reduceLT, Int.reduceNeg, false_implies, decide_eq_true_eq, decide_eq_false_iff_not]
  try simp only [NilL_eq]
  obtain ⟨⟨hd0, hc⟩, c1, c2⟩ := hx
  have k0 : 0 ≤ k := hd0.lo
  have l1 := hc.len1
  have l2 := hc.len2
  have hd : ∀ j : Int, 0 ≤ j → j ≤ L.length → DOK (L, j) := fun j h1 h2 => ⟨h1, h2, hd0.len⟩
  refine ⟨⟨hd0, by omega, by omega⟩, fun q b j1 h1 => ⟨hd _ (by omega) (by omega), fun s j2 h2 => ?_⟩⟩
  have hn : NumOK l.length q b := h1.1
  obtain ⟨e0, hp⟩ := pools_new hc hn (s := 1 + s) ⟨by omega, by omega⟩ ⟨c1, c2⟩
  refine ⟨by omega, ⟨⟨hc.wf, hn.bl (by omega)⟩, by rw [hn.lq]; omega⟩, hd _ (by omega) (by omega), fun i j3 h3 => ⟨⟨_, i, j3, ⟨⟨hp.up (by omega), by omega, by omega⟩, hd _ (by omega) (by omega), by omega⟩, rfl, rfl, rfl⟩, fun ps i j4 hi => ?_⟩⟩
  obtain ⟨⟨hps, i0, i1⟩, hj4, hk4⟩ := hi
  have u0 : 0 ≤ j4 := hj4.lo
  have u1 : j4 ≤ L.length := hj4.hi
  refine ⟨fun hlt => ⟨⟨hj4, l1, l2⟩, fun g j5 h5 => ⟨⟨hd _ (by omega) (by omega), by omega⟩, fun cp j6 h6 => ⟨⟨hc.wf, hps.tl⟩, fun hE => ?_, fun hE => ?_⟩⟩⟩, fun hge => ⟨ps, j4, ⟨hps.up (by omega), hk4, hj4.hi⟩, rfl, rfl⟩⟩
  · have hq : PoolsK l n c (25 - 2 * i + 1) (spL l n ps g cp) := hps.spend (.inl hE)
    refine ⟨hd _ (by omega) (by omega), fun t j7 h7 => ⟨fun _ => ⟨hd _ (by omega) (by omega), fun due j8 h8 => ⟨⟨⟨hc.wf, hq.tl⟩, by omega⟩, by omega, _, i - 1, j8, ⟨⟨(hq.refill (by omega) due).up (by omega), by omega, by omega⟩, hd _ (by omega) (by omega), by omega⟩, by omega, rfl, rfl, rfl⟩⟩, fun _ => ⟨by omega, _, i - 1, j7, ⟨⟨hq.up (by omega), by omega, by omega⟩, hd _ (by omega) (by omega), by omega⟩, by omega, rfl, rfl, rfl⟩⟩⟩
  · refine ⟨hd _ (by omega) (by omega), fun t j7 h7 => ⟨fun _ => ⟨hd _ (by omega) (by omega), fun due j8 h8 => ⟨⟨⟨hc.wf, hps.tl⟩, by omega⟩, by omega, _, i - 1, j8, ⟨⟨(hps.refill (by omega) due).up (by omega), by omega, by omega⟩, hd _ (by omega) (by omega), by omega⟩, by omega, rfl, rfl, rfl⟩⟩, fun _ => ⟨by omega, _, i - 1, j7, ⟨⟨hps.up (by omega), by omega, by omega⟩, hd _ (by omega) (by omega), by omega⟩, by omega, rfl, rfl, rfl⟩⟩⟩


set_option maxRecDepth 100000 in
theorem vc38 (u : Unit) (hx : True) : sSane18.vc (EV Try.prog [(70, sNew.spec), (22, sAdd.spec), (53, sNewT.spec), (42, sSpT.spec), (63, sBlkT.spec)] noInv noInv) Try.f38 () := by
  have e : (True ∧ True ∧ True ∧ True ∧ ((WfN (addL (addL (addL (nd1 :: NilL Nod) 2 1 by97) (addN (nd1 :: NilL Nod) 2 1 by97) (addI (nd1 :: NilL Nod) 2 1 by97) by98) (addN (addL (nd1 :: NilL Nod) 2 1 by97) (addN (nd1 :: NilL Nod) 2 1 by97) (addI (nd1 :: NilL Nod) 2 1 by97) by98) (addI (nd1 :: NilL Nod) 2 1 by97) { data := ((99 : UInt8) :: NilL UInt8).toArray : ByteArray }) ∧ BL (0 :: 0 :: 0 :: 0 :: NilL Int)) ∧ (4611686018427387904 :: 2 :: 4611686018427387904 :: 4611686018427387904 :: NilL Int).length ≤ (9223372036854775807 : Nat)) ∧ (WfN (addL (addL (addL (nd1 :: NilL Nod) 2 1 by97) (addN (nd1 :: NilL Nod) 2 1 by97) (addI (nd1 :: NilL Nod) 2 1 by97) by98) (addN (addL (nd1 :: NilL Nod) 2 1 by97) (addN (nd1 :: NilL Nod) 2 1 by97) (addI (nd1 :: NilL Nod) 2 1 by97) by98) (addI (nd1 :: NilL Nod) 2 1 by97) { data := ((99 : UInt8) :: NilL UInt8).toArray : ByteArray }) ∧ TL (syL (addL (addL (addL (nd1 :: NilL Nod) 2 1 by97) (addN (nd1 :: NilL Nod) 2 1 by97) (addI (nd1 :: NilL Nod) 2 1 by97) by98) (addN (addL (nd1 :: NilL Nod) 2 1 by97) (addN (nd1 :: NilL Nod) 2 1 by97) (addI (nd1 :: NilL Nod) 2 1 by97) by98) (addI (nd1 :: NilL Nod) 2 1 by97) { data := ((99 : UInt8) :: NilL UInt8).toArray : ByteArray }) (addN (addL (addL (nd1 :: NilL Nod) 2 1 by97) (addN (nd1 :: NilL Nod) 2 1 by97) (addI (nd1 :: NilL Nod) 2 1 by97) by98) (addN (addL (nd1 :: NilL Nod) 2 1 by97) (addN (nd1 :: NilL Nod) 2 1 by97) (addI (nd1 :: NilL Nod) 2 1 by97) by98) (addI (nd1 :: NilL Nod) 2 1 by97) { data := ((99 : UInt8) :: NilL UInt8).toArray : ByteArray }) (NilL Pool) (4611686018427387904 :: 2 :: 4611686018427387904 :: 4611686018427387904 :: NilL Int) (0 :: 0 :: 0 :: 0 :: NilL Int) 1 1)) ∧ (WfN (addL (addL (addL (nd1 :: NilL Nod) 2 1 by97) (addN (nd1 :: NilL Nod) 2 1 by97) (addI (nd1 :: NilL Nod) 2 1 by97) by98) (addN (addL (nd1 :: NilL Nod) 2 1 by97) (addN (nd1 :: NilL Nod) 2 1 by97) (addI (nd1 :: NilL Nod) 2 1 by97) by98) (addI (nd1 :: NilL Nod) 2 1 by97) { data := ((99 : UInt8) :: NilL UInt8).toArray : ByteArray }) ∧ TL (spL (addL (addL (addL (nd1 :: NilL Nod) 2 1 by97) (addN (nd1 :: NilL Nod) 2 1 by97) (addI (nd1 :: NilL Nod) 2 1 by97) by98) (addN (addL (nd1 :: NilL Nod) 2 1 by97) (addN (nd1 :: NilL Nod) 2 1 by97) (addI (nd1 :: NilL Nod) 2 1 by97) by98) (addI (nd1 :: NilL Nod) 2 1 by97) { data := ((99 : UInt8) :: NilL UInt8).toArray : ByteArray }) (addN (addL (addL (nd1 :: NilL Nod) 2 1 by97) (addN (nd1 :: NilL Nod) 2 1 by97) (addI (nd1 :: NilL Nod) 2 1 by97) by98) (addN (addL (nd1 :: NilL Nod) 2 1 by97) (addN (nd1 :: NilL Nod) 2 1 by97) (addI (nd1 :: NilL Nod) 2 1 by97) by98) (addI (nd1 :: NilL Nod) 2 1 by97) { data := ((99 : UInt8) :: NilL UInt8).toArray : ByteArray }) (syL (addL (addL (addL (nd1 :: NilL Nod) 2 1 by97) (addN (nd1 :: NilL Nod) 2 1 by97) (addI (nd1 :: NilL Nod) 2 1 by97) by98) (addN (addL (nd1 :: NilL Nod) 2 1 by97) (addN (nd1 :: NilL Nod) 2 1 by97) (addI (nd1 :: NilL Nod) 2 1 by97) by98) (addI (nd1 :: NilL Nod) 2 1 by97) { data := ((99 : UInt8) :: NilL UInt8).toArray : ByteArray }) (addN (addL (addL (nd1 :: NilL Nod) 2 1 by97) (addN (nd1 :: NilL Nod) 2 1 by97) (addI (nd1 :: NilL Nod) 2 1 by97) by98) (addN (addL (nd1 :: NilL Nod) 2 1 by97) (addN (nd1 :: NilL Nod) 2 1 by97) (addI (nd1 :: NilL Nod) 2 1 by97) by98) (addI (nd1 :: NilL Nod) 2 1 by97) { data := ((99 : UInt8) :: NilL UInt8).toArray : ByteArray }) (NilL Pool) (4611686018427387904 :: 2 :: 4611686018427387904 :: 4611686018427387904 :: NilL Int) (0 :: 0 :: 0 :: 0 :: NilL Int) 1 1) (addI (addL (nd1 :: NilL Nod) 2 1 by97) (addN (nd1 :: NilL Nod) 2 1 by97) (addI (nd1 :: NilL Nod) 2 1 by97) by98) 0)) ∧ (WfN (addL (addL (addL (nd1 :: NilL Nod) 2 1 by97) (addN (nd1 :: NilL Nod) 2 1 by97) (addI (nd1 :: NilL Nod) 2 1 by97) by98) (addN (addL (nd1 :: NilL Nod) 2 1 by97) (addN (nd1 :: NilL Nod) 2 1 by97) (addI (nd1 :: NilL Nod) 2 1 by97) by98) (addI (nd1 :: NilL Nod) 2 1 by97) { data := ((99 : UInt8) :: NilL UInt8).toArray : ByteArray }) ∧ TL (spL (addL (addL (addL (nd1 :: NilL Nod) 2 1 by97) (addN (nd1 :: NilL Nod) 2 1 by97) (addI (nd1 :: NilL Nod) 2 1 by97) by98) (addN (addL (nd1 :: NilL Nod) 2 1 by97) (addN (nd1 :: NilL Nod) 2 1 by97) (addI (nd1 :: NilL Nod) 2 1 by97) by98) (addI (nd1 :: NilL Nod) 2 1 by97) { data := ((99 : UInt8) :: NilL UInt8).toArray : ByteArray }) (addN (addL (addL (nd1 :: NilL Nod) 2 1 by97) (addN (nd1 :: NilL Nod) 2 1 by97) (addI (nd1 :: NilL Nod) 2 1 by97) by98) (addN (addL (nd1 :: NilL Nod) 2 1 by97) (addN (nd1 :: NilL Nod) 2 1 by97) (addI (nd1 :: NilL Nod) 2 1 by97) by98) (addI (nd1 :: NilL Nod) 2 1 by97) { data := ((99 : UInt8) :: NilL UInt8).toArray : ByteArray }) (spL (addL (addL (addL (nd1 :: NilL Nod) 2 1 by97) (addN (nd1 :: NilL Nod) 2 1 by97) (addI (nd1 :: NilL Nod) 2 1 by97) by98) (addN (addL (nd1 :: NilL Nod) 2 1 by97) (addN (nd1 :: NilL Nod) 2 1 by97) (addI (nd1 :: NilL Nod) 2 1 by97) by98) (addI (nd1 :: NilL Nod) 2 1 by97) { data := ((99 : UInt8) :: NilL UInt8).toArray : ByteArray }) (addN (addL (addL (nd1 :: NilL Nod) 2 1 by97) (addN (nd1 :: NilL Nod) 2 1 by97) (addI (nd1 :: NilL Nod) 2 1 by97) by98) (addN (addL (nd1 :: NilL Nod) 2 1 by97) (addN (nd1 :: NilL Nod) 2 1 by97) (addI (nd1 :: NilL Nod) 2 1 by97) by98) (addI (nd1 :: NilL Nod) 2 1 by97) { data := ((99 : UInt8) :: NilL UInt8).toArray : ByteArray }) (syL (addL (addL (addL (nd1 :: NilL Nod) 2 1 by97) (addN (nd1 :: NilL Nod) 2 1 by97) (addI (nd1 :: NilL Nod) 2 1 by97) by98) (addN (addL (nd1 :: NilL Nod) 2 1 by97) (addN (nd1 :: NilL Nod) 2 1 by97) (addI (nd1 :: NilL Nod) 2 1 by97) by98) (addI (nd1 :: NilL Nod) 2 1 by97) { data := ((99 : UInt8) :: NilL UInt8).toArray : ByteArray }) (addN (addL (addL (nd1 :: NilL Nod) 2 1 by97) (addN (nd1 :: NilL Nod) 2 1 by97) (addI (nd1 :: NilL Nod) 2 1 by97) by98) (addN (addL (nd1 :: NilL Nod) 2 1 by97) (addN (nd1 :: NilL Nod) 2 1 by97) (addI (nd1 :: NilL Nod) 2 1 by97) by98) (addI (nd1 :: NilL Nod) 2 1 by97) { data := ((99 : UInt8) :: NilL UInt8).toArray : ByteArray }) (NilL Pool) (4611686018427387904 :: 2 :: 4611686018427387904 :: 4611686018427387904 :: NilL Int) (0 :: 0 :: 0 :: 0 :: NilL Int) 1 1) (addI (addL (nd1 :: NilL Nod) 2 1 by97) (addN (nd1 :: NilL Nod) 2 1 by97) (addI (nd1 :: NilL Nod) 2 1 by97) by98) 0) (addI (addL (addL (nd1 :: NilL Nod) 2 1 by97) (addN (nd1 :: NilL Nod) 2 1 by97) (addI (nd1 :: NilL Nod) 2 1 by97) by98) (addN (addL (nd1 :: NilL Nod) 2 1 by97) (addN (nd1 :: NilL Nod) 2 1 by97) (addI (nd1 :: NilL Nod) 2 1 by97) by98) (addI (nd1 :: NilL Nod) 2 1 by97) { data := ((99 : UInt8) :: NilL UInt8).toArray : ByteArray }) 0)) ∧ (WfN (addL (addL (addL (nd1 :: NilL Nod) 2 1 by97) (addN (nd1 :: NilL Nod) 2 1 by97) (addI (nd1 :: NilL Nod) 2 1 by97) by98) (addN (addL (nd1 :: NilL Nod) 2 1 by97) (addN (nd1 :: NilL Nod) 2 1 by97) (addI (nd1 :: NilL Nod) 2 1 by97) by98) (addI (nd1 :: NilL Nod) 2 1 by97) { data := ((99 : UInt8) :: NilL UInt8).toArray : ByteArray }) ∧ TL (spL (addL (addL (addL (nd1 :: NilL Nod) 2 1 by97) (addN (nd1 :: NilL Nod) 2 1 by97) (addI (nd1 :: NilL Nod) 2 1 by97) by98) (addN (addL (nd1 :: NilL Nod) 2 1 by97) (addN (nd1 :: NilL Nod) 2 1 by97) (addI (nd1 :: NilL Nod) 2 1 by97) by98) (addI (nd1 :: NilL Nod) 2 1 by97) { data := ((99 : UInt8) :: NilL UInt8).toArray : ByteArray }) (addN (addL (addL (nd1 :: NilL Nod) 2 1 by97) (addN (nd1 :: NilL Nod) 2 1 by97) (addI (nd1 :: NilL Nod) 2 1 by97) by98) (addN (addL (nd1 :: NilL Nod) 2 1 by97) (addN (nd1 :: NilL Nod) 2 1 by97) (addI (nd1 :: NilL Nod) 2 1 by97) by98) (addI (nd1 :: NilL Nod) 2 1 by97) { data := ((99 : UInt8) :: NilL UInt8).toArray : ByteArray }) (spL (addL (addL (addL (nd1 :: NilL Nod) 2 1 by97) (addN (nd1 :: NilL Nod) 2 1 by97) (addI (nd1 :: NilL Nod) 2 1 by97) by98) (addN (addL (nd1 :: NilL Nod) 2 1 by97) (addN (nd1 :: NilL Nod) 2 1 by97) (addI (nd1 :: NilL Nod) 2 1 by97) by98) (addI (nd1 :: NilL Nod) 2 1 by97) { data := ((99 : UInt8) :: NilL UInt8).toArray : ByteArray }) (addN (addL (addL (nd1 :: NilL Nod) 2 1 by97) (addN (nd1 :: NilL Nod) 2 1 by97) (addI (nd1 :: NilL Nod) 2 1 by97) by98) (addN (addL (nd1 :: NilL Nod) 2 1 by97) (addN (nd1 :: NilL Nod) 2 1 by97) (addI (nd1 :: NilL Nod) 2 1 by97) by98) (addI (nd1 :: NilL Nod) 2 1 by97) { data := ((99 : UInt8) :: NilL UInt8).toArray : ByteArray }) (syL (addL (addL (addL (nd1 :: NilL Nod) 2 1 by97) (addN (nd1 :: NilL Nod) 2 1 by97) (addI (nd1 :: NilL Nod) 2 1 by97) by98) (addN (addL (nd1 :: NilL Nod) 2 1 by97) (addN (nd1 :: NilL Nod) 2 1 by97) (addI (nd1 :: NilL Nod) 2 1 by97) by98) (addI (nd1 :: NilL Nod) 2 1 by97) { data := ((99 : UInt8) :: NilL UInt8).toArray : ByteArray }) (addN (addL (addL (nd1 :: NilL Nod) 2 1 by97) (addN (nd1 :: NilL Nod) 2 1 by97) (addI (nd1 :: NilL Nod) 2 1 by97) by98) (addN (addL (nd1 :: NilL Nod) 2 1 by97) (addN (nd1 :: NilL Nod) 2 1 by97) (addI (nd1 :: NilL Nod) 2 1 by97) by98) (addI (nd1 :: NilL Nod) 2 1 by97) { data := ((99 : UInt8) :: NilL UInt8).toArray : ByteArray }) (NilL Pool) (4611686018427387904 :: 2 :: 4611686018427387904 :: 4611686018427387904 :: NilL Int) (0 :: 0 :: 0 :: 0 :: NilL Int) 1 1) (addI (addL (nd1 :: NilL Nod) 2 1 by97) (addN (nd1 :: NilL Nod) 2 1 by97) (addI (nd1 :: NilL Nod) 2 1 by97) by98) 0) (addI (addL (addL (nd1 :: NilL Nod) 2 1 by97) (addN (nd1 :: NilL Nod) 2 1 by97) (addI (nd1 :: NilL Nod) 2 1 by97) by98) (addN (addL (nd1 :: NilL Nod) 2 1 by97) (addN (nd1 :: NilL Nod) 2 1 by97) (addI (nd1 :: NilL Nod) 2 1 by97) by98) (addI (nd1 :: NilL Nod) 2 1 by97) { data := ((99 : UInt8) :: NilL UInt8).toArray : ByteArray }) 0)) ∧ (true = true → true = true) ∧ (true = true → true = true) ∧ (true = true → true = true) ∧ (true = true → true = true) ∧ (true = true → true = true) ∧ (true = true → true = true) ∧ (true = true → true = true) ∧ (true = true → true = true) ∧ (true = true → true = true) ∧ (true = true → true = true) ∧ ∃ (y : Unit), True ∧ true = true) = sSane18.vc (EV Try.prog [(70, sNew.spec), (22, sAdd.spec), (53, sNewT.spec), (42, sSpT.spec), (63, sBlkT.spec)] noInv noInv) Try.f38 () := by kernel_rfl
  rw [← e]
  clear e
  delta nd1 by97 by98
  simp only [NilL_eq]
  have a1 : addL [⟨1, 0, ByteArray.empty, 0, 0, 0⟩] 2 1 { data := [97].toArray } = t2Ex := by kernel_rfl
  have a2 : addN [⟨1, 0, ByteArray.empty, 0, 0, 0⟩] 2 1 { data := [97].toArray } = 3 := by kernel_rfl
  have a3 : addI [⟨1, 0, ByteArray.empty, 0, 0, 0⟩] 2 1 { data := [97].toArray } = 2 := by kernel_rfl
  simp only [a1, a2, a3]
  have b1 : addL t2Ex 3 2 { data := [98].toArray } = t3Ex := by kernel_rfl
  have b2 : addN t2Ex 3 2 { data := [98].toArray } = 4 := by kernel_rfl
  have b3 : addI t2Ex 3 2 { data := [98].toArray } = 3 := by kernel_rfl
  simp only [b1, b2, b3]
  have c1 : addL t3Ex 4 2 { data := [99].toArray } = t4Ex := by kernel_rfl
  have c2 : addN t3Ex 4 2 { data := [99].toArray } = 5 := by kernel_rfl
  have c3 : addI t3Ex 4 2 { data := [99].toArray } = 4 := by kernel_rfl
  simp only [c1, c2, c3]
  have d1 : syL t4Ex 5 [] [4611686018427387904, 2, 4611686018427387904, 4611686018427387904] [0, 0, 0, 0] 1 1 = p0Ex := by kernel_rfl
  have d2 : syE t4Ex 5 [] [4611686018427387904, 2, 4611686018427387904, 4611686018427387904] [0, 0, 0, 0] 1 1 = 0 := by kernel_rfl
  simp only [d1]
  have e1 : spL t4Ex 5 p0Ex 3 0 = p1Ex := by kernel_rfl
  have e2 : spE t4Ex 5 p0Ex 3 0 = 0 := by kernel_rfl
  simp only [e1]
  have f1 : spL t4Ex 5 p1Ex 4 0 = p2Ex := by kernel_rfl
  have f2 : spE t4Ex 5 p1Ex 4 0 = 0 := by kernel_rfl
  trace_state
  simp only [f1]
  have w : WfN t4Ex := t4Ex_chk.wf
  have t0 : TL p0Ex := tl_ex (by kernel_rfl) (by decide)
  have t1 : TL p1Ex := tl_ex (by kernel_rfl) (by decide)
  have t2 : TL p2Ex := tl_ex (by kernel_rfl) (by decide)
  have bl : BL [0, 0, 0, 0] := ⟨fun i hi => by
    match i, hi with
    | 0, _ => decide
    | 1, _ => decide
    | 2, _ => decide
    | 3, _ => decide
    | k + 4, h => exact absurd h (by simp), by decide⟩
  simp only [w, t0, t1, t2, bl, true_and, and_true, implies_true, exists_const]
  decide
end Go.Proofs.Ytemffnpliflkgaa
namespace Go.Proofs.Ytemffnpliflkgaa
open Go
set_option linter.unusedVariables false

def anyR (ps : List Pool) (c : Int) (up : List Int) : Bool := up.any fun g => decide (roomI (atP ps g) c = 0)
theorem anyR_step {ps : List Pool} {c : Int} {up : List Int} {i : Nat} (h : i < up.length) : anyR ps c (up.take (i + 1)) = (anyR ps c (up.take i) || decide (roomI (atP ps (up.getD i 0)) c = 0)) := by
  unfold anyR
  rw [List.take_add_one, List.any_append, List.getElem?_eq_getElem h]
  simp [List.getD_eq_getElem?_getD, h]
def anyI (x : Int) (up : List Int) : Bool := up.any fun g => decide (g = x)
theorem anyI_step {x : Int} {up : List Int} {i : Nat} (h : i < up.length) : anyI x (up.take (i + 1)) = (anyI x (up.take i) || decide (up.getD i 0 = x)) := by
  unfold anyI
  rw [List.take_add_one, List.any_append, List.getElem?_eq_getElem h]
  simp [List.getD_eq_getElem?_getD, h]
theorem anyI_iff {x : Int} {up : List Int} : anyI x up = true ↔ x ∈ up := by simp [anyI]
theorem blk_any (ps : List Pool) (c : Int) : ∀ up : List Int, (blkL ps c up).2 = anyR ps c up
  | [] => rfl
  | g :: r => by
    have ih := blk_any ps c r
    rw [blkL]
    unfold anyR at ih ⊢
    rw [List.any_cons]
    by_cases e : roomI (atP ps g) c = 0
    · rw [if_pos e]; simp [e]
    · rw [if_neg e, ih]; simp [e]
theorem room_fold {ps : List Pool} {c : Int} : ∀ (up : List Int) (m : Int), 0 ≤ m → (∀ g ∈ up, 0 ≤ roomI (atP ps g) c) → (up.foldl (fun m g => min m (roomI (atP ps g) c)) m = 0 ↔ m = 0 ∨ anyR ps c up = true)
  | [], m, h0, _ => by simp [anyR]
  | g :: r, m, h0, h => by
    have hg := h g (by simp)
    rw [List.foldl_cons, room_fold r _ (by omega) fun x hx => h x (by simp [hx])]
    unfold anyR
    rw [List.any_cons, Bool.or_eq_true, decide_eq_true_eq]
    constructor
    · rintro (e | e)
      · by_cases e2 : m = 0
        · exact .inl e2
        · exact .inr (.inl (by omega))
      · exact .inr (.inr e)
    · rintro (e | e | e)
      · exact .inl (by omega)
      · exact .inl (by omega)
      · exact .inr e
theorem room_nonneg {p : Pool} (hg : Good p) (c : Int) : 0 ≤ roomI p c := by
  unfold roomI
  by_cases h : useI p c = 0
  · obtain ⟨_, h0, h1⟩ := use_ok h
    have := hg.room h0 h1
    rw [if_neg (by omega)]
    split <;> omega
  · rw [if_pos h]; exact Int.le_refl 0
theorem ThrP.room_zero {l : List Nod} {n : Int} {ps : List Pool} (h : ThrP l n ps) (g c : Int) : decide (roomL ps c (upT l g) = 0) = anyR ps c (upT l g) := by
  have := room_fold (ps := ps) (c := c) (upT l g) 1099511627776 (by omega) fun x hx => by
    obtain ⟨i, hi, _, _, e, _, _⟩ := h.of_id (upT_sub hx)
    rw [e]; exact room_nonneg (h.good i hi) c
  rw [Bool.eq_iff_iff, decide_eq_true_eq]
  unfold roomL
  rw [this]
  simp
theorem spend_th {p : Pool} {c : Nat} (h : (spendR p c).2 = 0) : (spendR p c).1.th = p.th := by
  unfold spendR at h ⊢
  split
  · rfl
  · rename_i hq
    rw [if_neg hq] at h
    split
    · rename_i hl
      rw [if_pos hl] at h
      split
      · rename_i hle
        rw [if_pos hle] at h
        cases h
      · rfl
    · rfl
/-- What a spending along a path changes of one pool. -/
theorem sp1_law {l : List Nod} {n k m : Int} {ps : List Pool} (h : PoolsK l n k m ps) (hm : m < 1099511627776) {g c : Int} (h0 : 0 ≤ c) (h1 : c < k) {i : Nat} (hi : i < l.length) :
    (sp1 ps (upT l g) c (pn ps i)).sp - (pn ps i).sp = (if (blkL ps c (upT l g)).2 = false ∧ (pn ps i).g ∈ upT l g then 1 else 0) ∧
    ((pn ps i).q ≠ 4611686018427387904 → (pn ps i).le + (pn ps i).l.sum - ((sp1 ps (upT l g) c (pn ps i)).le + (sp1 ps (upT l g) c (pn ps i)).l.sum) = (if (blkL ps c (upT l g)).2 = false ∧ (pn ps i).g ∈ upT l g then 1 else 0)) ∧
    ((sp1 ps (upT l g) c (pn ps i)).th = (pn ps i).th ∨ (pn ps i).g = (blkL ps c (upT l g)).1) ∧
    ((pn ps i).g ∉ upT l g → sp1 ps (upT l g) c (pn ps i) = pn ps i) := by
  have hT := h.thr
  have hg := hT.good i hi
  have hl : c < (pn ps i).l.length := by rw [h.locs hi]; exact h1
  have hsp := h.sp i hi
  have hcn : c.toNat < (pn ps i).l.length := by omega
  obtain ⟨f1, f2, f3, f4, f5, f6, f7⟩ := spend_facts hg hcn
  have eG := spendG_ok hg h0 hl
  have eR : roomI (pn ps i) c = if (pn ps i).q = 4611686018427387904 then 1099511627776 else (pn ps i).le + (pn ps i).l.getD c.toNat 0 := by
    rw [roomI, if_neg (by have := use_of hg h0 hl; omega)]
  cases hb : (blkL ps c (upT l g)).2 with
  | true =>
    obtain ⟨m1, m2⟩ := blkL_mem hb
    by_cases e : (pn ps i).g = (blkL ps c (upT l g)).1
    · have eA : atP ps (blkL ps c (upT l g)).1 = pn ps i := by
        rw [← e, hT.grp i hi]; exact (hT.at hi).2.1
      rw [eA, eR] at m2
      have e1 : sp1 ps (upT l g) c (pn ps i) = (spendG (pn ps i) c).1 := by rw [sp1, if_pos (.inl ⟨hb, e⟩)]
      have hq : (pn ps i).q ≠ 4611686018427387904 := fun a => by rw [if_pos a] at m2; omega
      rw [if_neg hq] at m2
      have hd : spendR (pn ps i) c.toNat = (dryP (pn ps i), 11) := by
        rcases f7 with ⟨a, _⟩ | ⟨_, a, _⟩ | ⟨_, _, _, a⟩
        · exact absurd a hq
        · omega
        · exact a
      obtain ⟨d1, d2, d3, d4, d5, d6, _⟩ := dry_same (pn ps i)
      rw [e1, eG, hd]
      dsimp only
      rw [if_neg (by simp), d4, d5, d6]
      exact ⟨by omega, fun _ => by omega, .inr e, fun a => absurd (by rw [e]; exact m1) a⟩
    · have e1 : sp1 ps (upT l g) c (pn ps i) = pn ps i := by
        rw [sp1, if_neg]
        rintro (⟨_, a⟩ | ⟨a, _⟩)
        · exact e a
        · rw [hb] at a; cases a
      rw [e1, if_neg (by simp)]
      exact ⟨by omega, fun _ => by omega, .inl rfl, fun _ => rfl⟩
  | false =>
    obtain ⟨m1, m2⟩ := blkL_no hb
    by_cases e : (pn ps i).g ∈ upT l g
    · have e1 : sp1 ps (upT l g) c (pn ps i) = (spendG (pn ps i) c).1 := by rw [sp1, if_pos (.inr ⟨hb, e⟩)]
      have eA : atP ps (pn ps i).g = pn ps i := by
        rw [hT.grp i hi]; exact (hT.at hi).2.1
      have hr := m2 _ e
      rw [eA, eR] at hr
      rw [e1, eG, if_pos ⟨rfl, e⟩]
      rcases f7 with ⟨a1, a2, a3, a4, a5⟩ | ⟨a1, a2, a3, a4, a5⟩ | ⟨a1, a2, a3, a4⟩
      · exact ⟨by rw [a3]; omega, fun c => absurd a1 c, .inl (spend_th a2), fun c => absurd e c⟩
      · exact ⟨by rw [a4]; omega, fun _ => by omega, .inl (spend_th a3), fun c => absurd e c⟩
      · rw [if_neg a1] at hr
        omega
    · have e1 : sp1 ps (upT l g) c (pn ps i) = pn ps i := by
        rw [sp1, if_neg]
        rintro (⟨a, _⟩ | ⟨_, a⟩)
        · rw [hb] at a; cases a
        · exact e a
      rw [e1, if_neg (by intro a; exact e a.2)]
      exact ⟨by omega, fun _ => by omega, .inl rfl, fun _ => rfl⟩
theorem PoolsK.spE {l : List Nod} {n k m : Int} {ps : List Pool} (h : PoolsK l n k m ps) {g c : Int} (hg : g ∈ ids l) (h0 : 0 ≤ c) (h1 : c < k) : spE l n ps g c = (if (blkL ps c (upT l g)).2 = true then 11 else 0) ∧ spL l n ps g c = ps.map (sp1 ps (upT l g) c) := by
  have e : Go.Proofs.Ytemffnpliflkgaa.spE l n ps g c = (if (blkL ps c (upT l g)).2 = true then 11 else 0) := by
    have := h.loc
    rw [Go.Proofs.Ytemffnpliflkgaa.spE, if_neg (by rw [thrB_iff.2 h.thr]; simp), if_neg (by rw [hasB_iff.2 hg]; simp), if_neg (by omega)]
  refine ⟨e, ?_⟩
  rw [spL, if_pos]
  rw [e]
  split
  · exact .inr rfl
  · exact .inl rfl
theorem PoolsK.get {l : List Nod} {n k m : Int} {ps : List Pool} (h : PoolsK l n k m ps) {F : Pool → Pool} {i : Nat} (hi : i < l.length) : pn (ps.map F) i = F (pn ps i) := map_pn (by rw [h.thr.len]; exact hi)
theorem idle_held {l : List Nod} {n k m : Int} {ps : List Pool} (h : PoolsK l n k m ps) {c : Int} (h0 : 0 ≤ c) (h1 : c < k) {i : Nat} (hi : i < l.length) : (id1 c (pn ps i)).le + (id1 c (pn ps i)).l.sum = (pn ps i).le + (pn ps i).l.sum := by
  have hl : c < (pn ps i).l.length := by rw [h.locs hi]; exact h1
  rw [id1, returnG_ok (h.thr.good i hi) h0 hl, if_pos rfl]
  exact back_held (by omega)
theorem rf_held {l : List Nod} {n k m : Int} {ps : List Pool} (h : PoolsK l n k m ps) (hm : m < 1099511627776) (due : List Int) {i : Nat} (hi : i < l.length) : (rf1 due (pn ps i)).le + (rf1 due (pn ps i)).l.sum = if (pn ps i).g ∈ due ∧ (pn ps i).q ≠ 4611686018427387904 then min ((pn ps i).le + (pn ps i).l.sum + (pn ps i).q) ((pn ps i).q + (pn ps i).bu) else (pn ps i).le + (pn ps i).l.sum := by
  have hg := h.thr.good i hi
  have hp := h.pe i hi
  have hr := refillG_ok hg (by omega)
  obtain ⟨r1, r2, r3⟩ := refill_facts hg (by omega)
  unfold rf1
  by_cases e : (pn ps i).g ∈ due
  · rw [hr, if_pos ⟨rfl, e⟩]
    by_cases hq : (pn ps i).q = 4611686018427387904
    · rw [if_neg (fun a => a.2 hq)]
      have e2 : refillP (pn ps i) = { pn ps i with pe := (pn ps i).pe + 1, sp := 0, em := false } := by rw [refillP, if_pos hq]
      rw [e2]
    · rw [if_pos ⟨e, hq⟩]
      exact r3 hq
  · rw [if_neg (fun a => e a.2), if_neg (fun a => e a.1)]
theorem bne_t (a b : Bool) : ((a != b) = true) = ¬(a = true ↔ b = true) := by cases a <;> cases b <;> decide
theorem bne_f (a b : Bool) : ((a != b) = false) = (a = true ↔ b = true) := by cases a <;> cases b <;> decide
def rowsN (s : St) (b : Nat) : List Nod := match s.h b with
  | some (.rows _ 3 l) => l
  | _ => []
def sLaw18 : DS := ⟨_, one pkIntsP, fun _ => True, fun _ => .bool true, nou⟩
end Go.Proofs.Ytemffnpliflkgaa
namespace Go.Proofs.Ytemffnpliflkgaa
open Go
set_option linter.unusedVariables false


set_option maxRecDepth 100000 in
theorem vc109 (p : Pool) (c : Int) (hx : Tame p) : sReturn.vc (EV Try.prog [(138, sUse.spec), (139, sCopied.spec)] noInv noInv) Try.f109 (p, c, ()) := by
  have e : (Tame p ∧ ((!decide (useI p c = 0)) = true → ∃ (y : Unit), True ∧ 0 = (returnG p c).fst.g ∧ 0 = (returnG p c).fst.q ∧ 0 = (returnG p c).fst.bu ∧ 0 = (returnG p c).fst.s ∧ 0 = (returnG p c).fst.le ∧ 0 = (returnG p c).fst.sp ∧ 0 = (returnG p c).fst.pe ∧ 0 = (returnG p c).fst.th ∧ false = (returnG p c).fst.em ∧ useI p c = (returnG p c).snd ∧ NilL Int = (returnG p c).fst.l) ∧ ((!decide (useI p c = 0)) = false → p.l.length ≤ (1048576 : Nat) ∧ (0 ≤ c ∧ c < (↑p.l.length : Int)) ∧ i64R (p.le + p.l.getD c.toNat 0) ∧ (0 ≤ c ∧ c < (↑p.l.length : Int)) ∧ ∃ (y : Unit), True ∧ p.g = (returnG p c).fst.g ∧ p.q = (returnG p c).fst.q ∧ p.bu = (returnG p c).fst.bu ∧ p.s = (returnG p c).fst.s ∧ p.le + p.l.getD c.toNat 0 = (returnG p c).fst.le ∧ p.sp = (returnG p c).fst.sp ∧ p.pe = (returnG p c).fst.pe ∧ p.th = (returnG p c).fst.th ∧ p.em = (returnG p c).fst.em ∧ 0 = (returnG p c).snd ∧ p.l.set c.toNat 0 = (returnG p c).fst.l)) = sReturn.vc (EV Try.prog [(138, sUse.spec), (139, sCopied.spec)] noInv noInv) Try.f109 (p, c, ()) := by kernel_rfl
  rw [← e]
  clear e
  simp only [true_and, exists_const, NilL_eq ]
  simp only [i64R, Int.reduceNeg, decide_eq_true_eq, decide_eq_false_iff_not, Bool.not_eq_true', Bool.not_eq_false']
  refine ⟨hx, fun h => ?_, fun h => ?_⟩
  · have e : returnG p c = (zeroP, useI p c) := by rw [returnG, if_neg h]
    rw [e]; exact ⟨rfl, rfl, rfl, rfl, rfl, rfl, rfl, rfl, rfl, rfl, rfl⟩
  · have e : returnG p c = (returnP p c.toNat, 0) := by rw [returnG, if_pos h]
    obtain ⟨hg, h4, h5⟩ := use_ok h
    obtain ⟨m, hm, h0, h1, h2, h3⟩ := hg.most
    have hn := hg.n1
    have hr := hg.room h4 h5
    have := hg.s0
    have := hg.s1
    have := hg.sp0
    have := hg.sp1
    have := hg.th0
    have := hg.th1
    have hc : c.toNat < p.l.length := by omega
    have := hx.th
    rw [e]
    exact ⟨by omega, by omega, by omega, by omega, rfl, rfl, rfl, rfl, rfl, rfl, rfl, rfl, rfl, rfl, rfl⟩


set_option maxRecDepth 100000 in
theorem vc111 (p : Pool) (hx : Tame p) : sRefill.vc (EV Try.prog [(121, sGoodB.spec), (139, sCopied.spec), (140, sLimited.spec), (144, sHeld.spec)] noInv noInv) Try.f111 (p, ()) := by
  have e : (Tame p ∧ ((!goodB p) = true → ∃ (y : Unit), True ∧ 0 = (refillG p).fst.g ∧ 0 = (refillG p).fst.q ∧ 0 = (refillG p).fst.bu ∧ 0 = (refillG p).fst.s ∧ 0 = (refillG p).fst.le ∧ 0 = (refillG p).fst.sp ∧ 0 = (refillG p).fst.pe ∧ 0 = (refillG p).fst.th ∧ false = (refillG p).fst.em ∧ 1 = (refillG p).snd ∧ NilL Int = (refillG p).fst.l) ∧ ((!goodB p) = false → (decide (1099511627776 ≤ p.pe) = true → ∃ (y : Unit), True ∧ 0 = (refillG p).fst.g ∧ 0 = (refillG p).fst.q ∧ 0 = (refillG p).fst.bu ∧ 0 = (refillG p).fst.s ∧ 0 = (refillG p).fst.le ∧ 0 = (refillG p).fst.sp ∧ 0 = (refillG p).fst.pe ∧ 0 = (refillG p).fst.th ∧ false = (refillG p).fst.em ∧ 7 = (refillG p).snd ∧ NilL Int = (refillG p).fst.l) ∧ (decide (1099511627776 ≤ p.pe) = false → p.l.length ≤ (1048576 : Nat) ∧ True ∧ ((!decide (p.q = 4611686018427387904)) = true → i64R (p.q + p.bu) ∧ Small p.le p.l ∧ i64R (p.q + p.bu - (p.le + p.l.sum)) ∧ i64R (p.le + Min.min p.q (p.q + p.bu - (p.le + p.l.sum))) ∧ i64R (p.pe + 1) ∧ ∃ (y : Unit), True ∧ p.g = (refillG p).fst.g ∧ p.q = (refillG p).fst.q ∧ p.bu = (refillG p).fst.bu ∧ p.s = (refillG p).fst.s ∧ p.le + Min.min p.q (p.q + p.bu - (p.le + p.l.sum)) = (refillG p).fst.le ∧ 0 = (refillG p).fst.sp ∧ p.pe + 1 = (refillG p).fst.pe ∧ p.th = (refillG p).fst.th ∧ false = (refillG p).fst.em ∧ 0 = (refillG p).snd ∧ p.l = (refillG p).fst.l) ∧ ((!decide (p.q = 4611686018427387904)) = false → i64R (p.pe + 1) ∧ ∃ (y : Unit), True ∧ p.g = (refillG p).fst.g ∧ p.q = (refillG p).fst.q ∧ p.bu = (refillG p).fst.bu ∧ p.s = (refillG p).fst.s ∧ p.le = (refillG p).fst.le ∧ 0 = (refillG p).fst.sp ∧ p.pe + 1 = (refillG p).fst.pe ∧ p.th = (refillG p).fst.th ∧ false = (refillG p).fst.em ∧ 0 = (refillG p).snd ∧ p.l = (refillG p).fst.l)))) = sRefill.vc (EV Try.prog [(121, sGoodB.spec), (139, sCopied.spec), (140, sLimited.spec), (144, sHeld.spec)] noInv noInv) Try.f111 (p, ()) := by kernel_rfl
  rw [← e]
  clear e
  simp only [true_and, exists_const, NilL_eq ]
  simp only [i64R, Int.reduceNeg, decide_eq_true_eq, decide_eq_false_iff_not, Bool.not_eq_true', Bool.not_eq_false']
  refine ⟨hx, fun h => ?_, fun h => ⟨fun h2 => ?_, fun h2 => ?_⟩⟩
  · have e : refillG p = (zeroP, 1) := by rw [refillG, if_pos h]
    rw [e]; exact ⟨rfl, rfl, rfl, rfl, rfl, rfl, rfl, rfl, rfl, rfl, rfl⟩
  · have e : refillG p = (zeroP, 7) := by rw [refillG, if_neg (by rw [h]; simp), if_pos (by omega)]
    rw [e]; exact ⟨rfl, rfl, rfl, rfl, rfl, rfl, rfl, rfl, rfl, rfl, rfl⟩
  · have e : refillG p = (refillP p, 0) := by rw [refillG, if_neg (by rw [h]; simp), if_neg (by have := (goodB_iff.1 h).pe1; omega)]
    have hg := goodB_iff.1 h
    obtain ⟨m, hm, h0, h1, h2, h3⟩ := hg.most
    have hn := hg.n1
    have hs0 := sum_nonneg h1
    have := hg.pe0
    have := hg.pe1
    rw [e]
    have eP : ∀ hq : ¬ p.q = 4611686018427387904, refillP p = { p with le := p.le + min p.q (p.q + p.bu - (p.le + p.l.sum)), pe := p.pe + 1, sp := 0, em := false } := fun hq => by rw [refillP, if_neg hq]
    have eQ : p.q = 4611686018427387904 → refillP p = { p with pe := p.pe + 1, sp := 0, em := false } := fun hq => by rw [refillP, if_pos hq]
    refine ⟨by omega, fun hq => ?_, fun hq => ?_⟩
    · rw [eP hq]
      exact ⟨by omega, hg.small, by omega, by omega, by omega, rfl, rfl, rfl, rfl, rfl, rfl, rfl, rfl, rfl, rfl, rfl⟩
    · rw [eQ hq]
      exact ⟨by omega, rfl, rfl, rfl, rfl, rfl, rfl, rfl, rfl, rfl, rfl, rfl⟩
end Go.Proofs.Ytemffnpliflkgaa
namespace Go.Proofs.Ytemffnpliflkgaa
open Go
set_option linter.unusedVariables false


set_option maxRecDepth 100000 in
theorem vc110 (p : Pool) (c : Int) (hx : Tame p) : sReturn.vc (EV Try.prog [(142, sUse.spec), (118, sCopied.spec)] noInv noInv) Try.f110 (p, c, ()) := by
  have e : (Tame p ∧ ((!decide (useI p c = 0)) = true → ∃ (y : Unit), True ∧ 0 = (returnG p c).1.g ∧ 0 = (returnG p c).1.q ∧ 0 = (returnG p c).1.bu ∧ 0 = (returnG p c).1.s ∧ 0 = (returnG p c).1.le ∧ 0 = (returnG p c).1.sp ∧ 0 = (returnG p c).1.pe ∧ 0 = (returnG p c).1.th ∧ false = (returnG p c).1.em ∧ useI p c = (returnG p c).2 ∧ NilL Int = (returnG p c).1.l) ∧ ((!decide (useI p c = 0)) = false → p.l.length ≤ (1048576 : Nat) ∧ (0 ≤ c ∧ c < (↑p.l.length : Int)) ∧ i64R (p.le + p.l.getD c.toNat 0) ∧ (0 ≤ c ∧ c < (↑p.l.length : Int)) ∧ ∃ (y : Unit), True ∧ p.g = (returnG p c).1.g ∧ p.q = (returnG p c).1.q ∧ p.bu = (returnG p c).1.bu ∧ p.s = (returnG p c).1.s ∧ p.le + p.l.getD c.toNat 0 = (returnG p c).1.le ∧ p.sp = (returnG p c).1.sp ∧ p.pe = (returnG p c).1.pe ∧ p.th = (returnG p c).1.th ∧ p.em = (returnG p c).1.em ∧ 0 = (returnG p c).2 ∧ p.l.set c.toNat 0 = (returnG p c).1.l)) = sReturn.vc (EV Try.prog [(142, sUse.spec), (118, sCopied.spec)] noInv noInv) Try.f110 (p, c, ()) := by kernel_rfl
  rw [← e]
  clear e
  simp only [true_and, exists_const, NilL_eq ]
  simp only [i64R, Int.reduceNeg, decide_eq_true_eq, decide_eq_false_iff_not, Bool.not_eq_true', Bool.not_eq_false']
  refine ⟨hx, fun h => ?_, fun h => ?_⟩
  · have e : returnG p c = (zeroP, useI p c) := by rw [returnG, if_neg h]
    rw [e]; exact ⟨rfl, rfl, rfl, rfl, rfl, rfl, rfl, rfl, rfl, rfl, rfl⟩
  · have e : returnG p c = (returnP p c.toNat, 0) := by rw [returnG, if_pos h]
    obtain ⟨hg, h4, h5⟩ := use_ok h
    obtain ⟨m, hm, h0, h1, h2, h3⟩ := hg.most
    have hn := hg.n1
    have hr := hg.room h4 h5
    have := hg.s0
    have := hg.s1
    have := hg.sp0
    have := hg.sp1
    have := hg.th0
    have := hg.th1
    have hc : c.toNat < p.l.length := by omega
    have := hx.th
    rw [e]
    exact ⟨by omega, by omega, by omega, by omega, rfl, rfl, rfl, rfl, rfl, rfl, rfl, rfl, rfl, rfl, rfl⟩

def inv117 (p : Pool) (q bu : Int) : Inv where
  X := Half
  ok := fun h => (HalfOK p p.l.length (p.le + p.l.sum - overI p q bu) h ∧ h.i < p.l.length) ∧ rem1 p.l.length h = ((chD p q bu).le, (chD p q bu).l)
  sl := fun h => [(12, .int .i64 h.i), (10, .int .i64 h.over)]
  hp := fun h => [(40020, .cells 80 (poolAV (chP p q bu h) (.own 101 0)).flat), (101, .rows 3 0 h.l)]
  keep := [10000, 10010]
  me := fun h => (h.i + 1).toNat
set_option maxRecDepth 100000 in
theorem vc117 (p : Pool) (q bu : Int) (hx : Tame p ∧ -1152921504606846976 ≤ bu ∧ bu ≤ 1152921504606846976) : sChange.vc (EV Try.prog [(116, sGoodB.spec), (118, sCopied.spec), (119, sWithin.spec), (60, sHeld.spec), (57, sLimited.spec)] (invs [(15, inv117 p q bu)]) noInv) Try.f117 (p, q, bu, ()) := by
  have e : (Tame p ∧ ((!goodB p) = true → ∃ (y : Unit), True ∧ 0 = (changeG p q bu).1.g ∧ 0 = (changeG p q bu).1.q ∧ 0 = (changeG p q bu).1.bu ∧ 0 = (changeG p q bu).1.s ∧ 0 = (changeG p q bu).1.le ∧ 0 = (changeG p q bu).1.sp ∧ 0 = (changeG p q bu).1.pe ∧ 0 = (changeG p q bu).1.th ∧ false = (changeG p q bu).1.em ∧ 1 = (changeG p q bu).2 ∧ NilL Int = (changeG p q bu).1.l) ∧ ((!goodB p) = false → p.l.length ≤ (1048576 : Nat) ∧ True ∧ ((!decide (q = 4611686018427387904)) = true → True ∧ ((!(decide (1 ≤ q) && decide (q ≤ 1000000))) = false → (!(decide (1 ≤ q) && decide (q ≤ 1000000))) = false) ∧ ((!(decide (1 ≤ q) && decide (q ≤ 1000000))) = false → (!(decide (1 ≤ q) && decide (q ≤ 1000000))) = false) ∧ ((!(decide (1 ≤ q) && decide (q ≤ 1000000))) = false → True) ∧ ((!(decide (1 ≤ q) && decide (q ≤ 1000000))) = false → (!(decide (1 ≤ q) && decide (q ≤ 1000000))) = false) ∧ ((!(decide (1 ≤ q) && decide (q ≤ 1000000))) = false → (!(decide (1 ≤ q) && decide (q ≤ 1000000))) = false) ∧ ((!(decide (1 ≤ q) && decide (q ≤ 1000000)) || !(decide (0 ≤ bu) && decide (bu ≤ q))) = true → ∃ (y : Unit), True ∧ 0 = (changeG p q bu).1.g ∧ 0 = (changeG p q bu).1.q ∧ 0 = (changeG p q bu).1.bu ∧ 0 = (changeG p q bu).1.s ∧ 0 = (changeG p q bu).1.le ∧ 0 = (changeG p q bu).1.sp ∧ 0 = (changeG p q bu).1.pe ∧ 0 = (changeG p q bu).1.th ∧ false = (changeG p q bu).1.em ∧ 3 = (changeG p q bu).2 ∧ NilL Int = (changeG p q bu).1.l) ∧ ((!(decide (1 ≤ q) && decide (q ≤ 1000000)) || !(decide (0 ≤ bu) && decide (bu ≤ q))) = false → i64R (q + bu) ∧ Small p.le p.l ∧ i64R (p.le + p.l.sum - (q + bu)) ∧ i64R (p.le - Min.min (Max.max (p.le + p.l.sum - (q + bu)) 0) p.le) ∧ i64R (Max.max (p.le + p.l.sum - (q + bu)) 0 - Min.min (Max.max (p.le + p.l.sum - (q + bu)) 0) p.le) ∧ i64R ((↑p.l.length : Int) - 1) ∧ (∃ (x : Half), ((HalfOK p (↑p.l.length : Int) (p.le + p.l.sum - overI p q bu) x ∧ x.i < (↑p.l.length : Int)) ∧ rem1 p.l.length x = (p.le - Min.min (overI p q bu) p.le, drain p.l.length (overI p q bu - Min.min (overI p q bu) p.le) p.l)) ∧ (↑p.l.length : Int) - 1 = x.i ∧ Max.max (p.le + p.l.sum - (q + bu)) 0 - Min.min (Max.max (p.le + p.l.sum - (q + bu)) 0) p.le = x.over ∧ p.g = p.g ∧ q = q ∧ bu = bu ∧ p.s = p.s ∧ p.le - Min.min (Max.max (p.le + p.l.sum - (q + bu)) 0) p.le = x.le ∧ p.sp = p.sp ∧ p.pe = p.pe ∧ p.th = p.th ∧ p.em = p.em ∧ p.l = x.l ∧ p.g = p.g ∧ p.q = p.q ∧ p.bu = p.bu ∧ p.s = p.s ∧ p.le = p.le ∧ p.l = p.l ∧ p.sp = p.sp ∧ p.pe = p.pe ∧ p.th = p.th ∧ p.em = p.em ∧ (0 : Int) = 0 ∧ (0 : Int) = 0 ∧ (0 : Int) = 0 ∧ (0 : Int) = 0 ∧ (0 : Int) = 0 ∧ (0 : Int) = 0 ∧ (0 : Int) = 0 ∧ (0 : Int) = 0) ∧ ∀ (x : Half), (HalfOK p (↑p.l.length : Int) (p.le + p.l.sum - overI p q bu) x ∧ x.i < (↑p.l.length : Int)) ∧ rem1 p.l.length x = (p.le - Min.min (overI p q bu) p.le, drain p.l.length (overI p q bu - Min.min (overI p q bu) p.le) p.l) → (decide (0 ≤ x.i) = true → (0 ≤ x.i ∧ x.i < (↑x.l.length : Int)) ∧ (0 ≤ x.i ∧ x.i < (↑x.l.length : Int)) ∧ i64R (x.l.getD x.i.toNat 0 - Min.min x.over (x.l.getD x.i.toNat 0)) ∧ (0 ≤ x.i ∧ x.i < (↑x.l.length : Int)) ∧ i64R (x.over - Min.min x.over (x.l.getD x.i.toNat 0)) ∧ i64R (x.i - 1) ∧ ∃ (x' : Half), ((HalfOK p (↑p.l.length : Int) (p.le + p.l.sum - overI p q bu) x' ∧ x'.i < (↑p.l.length : Int)) ∧ rem1 p.l.length x' = (p.le - Min.min (overI p q bu) p.le, drain p.l.length (overI p q bu - Min.min (overI p q bu) p.le) p.l)) ∧ (x'.i + 1).toNat < (x.i + 1).toNat ∧ x.i - 1 = x'.i ∧ x.over - Min.min x.over (x.l.getD x.i.toNat 0) = x'.over ∧ p.g = p.g ∧ q = q ∧ bu = bu ∧ p.s = p.s ∧ x.le = x'.le ∧ p.sp = p.sp ∧ p.pe = p.pe ∧ p.th = p.th ∧ p.em = p.em ∧ x.l.set x.i.toNat (x.l.getD x.i.toNat 0 - Min.min x.over (x.l.getD x.i.toNat 0)) = x'.l ∧ p.g = p.g ∧ p.q = p.q ∧ p.bu = p.bu ∧ p.s = p.s ∧ p.le = p.le ∧ p.l = p.l ∧ p.sp = p.sp ∧ p.pe = p.pe ∧ p.th = p.th ∧ p.em = p.em ∧ (0 : Int) = 0 ∧ (0 : Int) = 0 ∧ (0 : Int) = 0 ∧ (0 : Int) = 0 ∧ (0 : Int) = 0 ∧ (0 : Int) = 0 ∧ (0 : Int) = 0 ∧ (0 : Int) = 0) ∧ (decide (0 ≤ x.i) = false → Tame { g := p.g, q := q, bu := bu, s := p.s, le := x.le, l := x.l, sp := p.sp, pe := p.pe, th := p.th, em := p.em : Pool } ∧ ((!goodB { g := p.g, q := q, bu := bu, s := p.s, le := x.le, l := x.l, sp := p.sp, pe := p.pe, th := p.th, em := p.em : Pool }) = true → ∃ (y : Unit), True ∧ 0 = (changeG p q bu).1.g ∧ 0 = (changeG p q bu).1.q ∧ 0 = (changeG p q bu).1.bu ∧ 0 = (changeG p q bu).1.s ∧ 0 = (changeG p q bu).1.le ∧ 0 = (changeG p q bu).1.sp ∧ 0 = (changeG p q bu).1.pe ∧ 0 = (changeG p q bu).1.th ∧ false = (changeG p q bu).1.em ∧ 3 = (changeG p q bu).2 ∧ NilL Int = (changeG p q bu).1.l) ∧ ((!goodB { g := p.g, q := q, bu := bu, s := p.s, le := x.le, l := x.l, sp := p.sp, pe := p.pe, th := p.th, em := p.em : Pool }) = false → ∃ (y : Unit), True ∧ p.g = (changeG p q bu).1.g ∧ q = (changeG p q bu).1.q ∧ bu = (changeG p q bu).1.bu ∧ p.s = (changeG p q bu).1.s ∧ x.le = (changeG p q bu).1.le ∧ p.sp = (changeG p q bu).1.sp ∧ p.pe = (changeG p q bu).1.pe ∧ p.th = (changeG p q bu).1.th ∧ p.em = (changeG p q bu).1.em ∧ 0 = (changeG p q bu).2 ∧ x.l = (changeG p q bu).1.l)))) ∧ ((!decide (q = 4611686018427387904)) = false → Small p.le p.l ∧ i64R (p.le + p.l.sum - 0) ∧ i64R (p.le - Min.min (Max.max (p.le + p.l.sum - 0) 0) p.le) ∧ i64R (Max.max (p.le + p.l.sum - 0) 0 - Min.min (Max.max (p.le + p.l.sum - 0) 0) p.le) ∧ i64R ((↑p.l.length : Int) - 1) ∧ (∃ (x : Half), ((HalfOK p (↑p.l.length : Int) (p.le + p.l.sum - overI p q bu) x ∧ x.i < (↑p.l.length : Int)) ∧ rem1 p.l.length x = (p.le - Min.min (overI p q bu) p.le, drain p.l.length (overI p q bu - Min.min (overI p q bu) p.le) p.l)) ∧ (↑p.l.length : Int) - 1 = x.i ∧ Max.max (p.le + p.l.sum - 0) 0 - Min.min (Max.max (p.le + p.l.sum - 0) 0) p.le = x.over ∧ p.g = p.g ∧ q = q ∧ bu = bu ∧ p.s = p.s ∧ p.le - Min.min (Max.max (p.le + p.l.sum - 0) 0) p.le = x.le ∧ p.sp = p.sp ∧ p.pe = p.pe ∧ p.th = p.th ∧ p.em = p.em ∧ p.l = x.l ∧ p.g = p.g ∧ p.q = p.q ∧ p.bu = p.bu ∧ p.s = p.s ∧ p.le = p.le ∧ p.l = p.l ∧ p.sp = p.sp ∧ p.pe = p.pe ∧ p.th = p.th ∧ p.em = p.em ∧ (0 : Int) = 0 ∧ (0 : Int) = 0 ∧ (0 : Int) = 0 ∧ (0 : Int) = 0 ∧ (0 : Int) = 0 ∧ (0 : Int) = 0 ∧ (0 : Int) = 0 ∧ (0 : Int) = 0) ∧ ∀ (x : Half), (HalfOK p (↑p.l.length : Int) (p.le + p.l.sum - overI p q bu) x ∧ x.i < (↑p.l.length : Int)) ∧ rem1 p.l.length x = (p.le - Min.min (overI p q bu) p.le, drain p.l.length (overI p q bu - Min.min (overI p q bu) p.le) p.l) → (decide (0 ≤ x.i) = true → (0 ≤ x.i ∧ x.i < (↑x.l.length : Int)) ∧ (0 ≤ x.i ∧ x.i < (↑x.l.length : Int)) ∧ i64R (x.l.getD x.i.toNat 0 - Min.min x.over (x.l.getD x.i.toNat 0)) ∧ (0 ≤ x.i ∧ x.i < (↑x.l.length : Int)) ∧ i64R (x.over - Min.min x.over (x.l.getD x.i.toNat 0)) ∧ i64R (x.i - 1) ∧ ∃ (x' : Half), ((HalfOK p (↑p.l.length : Int) (p.le + p.l.sum - overI p q bu) x' ∧ x'.i < (↑p.l.length : Int)) ∧ rem1 p.l.length x' = (p.le - Min.min (overI p q bu) p.le, drain p.l.length (overI p q bu - Min.min (overI p q bu) p.le) p.l)) ∧ (x'.i + 1).toNat < (x.i + 1).toNat ∧ x.i - 1 = x'.i ∧ x.over - Min.min x.over (x.l.getD x.i.toNat 0) = x'.over ∧ p.g = p.g ∧ q = q ∧ bu = bu ∧ p.s = p.s ∧ x.le = x'.le ∧ p.sp = p.sp ∧ p.pe = p.pe ∧ p.th = p.th ∧ p.em = p.em ∧ x.l.set x.i.toNat (x.l.getD x.i.toNat 0 - Min.min x.over (x.l.getD x.i.toNat 0)) = x'.l ∧ p.g = p.g ∧ p.q = p.q ∧ p.bu = p.bu ∧ p.s = p.s ∧ p.le = p.le ∧ p.l = p.l ∧ p.sp = p.sp ∧ p.pe = p.pe ∧ p.th = p.th ∧ p.em = p.em ∧ (0 : Int) = 0 ∧ (0 : Int) = 0 ∧ (0 : Int) = 0 ∧ (0 : Int) = 0 ∧ (0 : Int) = 0 ∧ (0 : Int) = 0 ∧ (0 : Int) = 0 ∧ (0 : Int) = 0) ∧ (decide (0 ≤ x.i) = false → Tame { g := p.g, q := q, bu := bu, s := p.s, le := x.le, l := x.l, sp := p.sp, pe := p.pe, th := p.th, em := p.em : Pool } ∧ ((!goodB { g := p.g, q := q, bu := bu, s := p.s, le := x.le, l := x.l, sp := p.sp, pe := p.pe, th := p.th, em := p.em : Pool }) = true → ∃ (y : Unit), True ∧ 0 = (changeG p q bu).1.g ∧ 0 = (changeG p q bu).1.q ∧ 0 = (changeG p q bu).1.bu ∧ 0 = (changeG p q bu).1.s ∧ 0 = (changeG p q bu).1.le ∧ 0 = (changeG p q bu).1.sp ∧ 0 = (changeG p q bu).1.pe ∧ 0 = (changeG p q bu).1.th ∧ false = (changeG p q bu).1.em ∧ 3 = (changeG p q bu).2 ∧ NilL Int = (changeG p q bu).1.l) ∧ ((!goodB { g := p.g, q := q, bu := bu, s := p.s, le := x.le, l := x.l, sp := p.sp, pe := p.pe, th := p.th, em := p.em : Pool }) = false → ∃ (y : Unit), True ∧ p.g = (changeG p q bu).1.g ∧ q = (changeG p q bu).1.q ∧ bu = (changeG p q bu).1.bu ∧ p.s = (changeG p q bu).1.s ∧ x.le = (changeG p q bu).1.le ∧ p.sp = (changeG p q bu).1.sp ∧ p.pe = (changeG p q bu).1.pe ∧ p.th = (changeG p q bu).1.th ∧ p.em = (changeG p q bu).1.em ∧ 0 = (changeG p q bu).2 ∧ x.l = (changeG p q bu).1.l))))) = sChange.vc (EV Try.prog [(116, sGoodB.spec), (118, sCopied.spec), (119, sWithin.spec), (60, sHeld.spec), (57, sLimited.spec)] (invs [(15, inv117 p q bu)]) noInv) Try.f117 (p, q, bu, ()) := by kernel_rfl
  rw [← e]
  clear e
  simp only [imp_self, true_and, and_true, exists_const, implies_true, NilL_eq ]
  simp only [i64R, Int.reduceNeg, decide_eq_true_eq, decide_eq_false_iff_not, Bool.not_eq_true', Bool.not_eq_false', Bool.and_eq_true, Bool.or_eq_true, Bool.and_eq_false_iff, Bool.or_eq_false_iff ]
  obtain ⟨hx, hb0, hb1⟩ := hx
  have eD : ((chD p q bu).le, (chD p q bu).l) = (p.le - min (overI p q bu) p.le, drain p.l.length (overI p q bu - min (overI p q bu) p.le) p.l) := rfl
  rw [← eD]
  have fin : ∀ x : Half, -1 ≤ x.i → ¬ 0 ≤ x.i → rem1 p.l.length x = ((chD p q bu).le, (chD p q bu).l) → x.le = (chD p q bu).le ∧ x.l = (chD p q bu).l := fun x h0 h1 h => by
    rw [rem_end h0 h1] at h
    exact Prod.mk.inj h
  refine ⟨hx, fun h => ?_, fun h => ?_⟩
  · have e : changeG p q bu = (zeroP, 1) := by rw [changeG, if_pos h]
    rw [e]; exact ⟨rfl, rfl, rfl, rfl, rfl, rfl, rfl, rfl, rfl, rfl, rfl⟩
  have hg := goodB_iff.1 h
  obtain ⟨m, hm, h0, h1, h2, h3⟩ := hg.most
  have hn := hg.n1
  have hn0 := hg.n0
  have hs := sum_nonneg h1
  have no : ratesI q bu = false → changeG p q bu = (zeroP, 3) := fun hr => by rw [changeG, if_neg (by rw [h]; simp), if_pos hr]
  have ok : ratesI q bu = true → changeG p q bu = (chD p q bu, 0) := fun hr => by rw [changeG, if_neg (by rw [h]; simp), if_neg (by rw [hr]; simp)]
  have o : (q = 4611686018427387904 ∨ 1 ≤ q ∧ q ≤ 1000000 ∧ 0 ≤ bu ∧ bu ≤ q) → 0 ≤ overI p q bu ∧ overI p q bu ≤ p.le + p.l.sum := fun hq => by
    unfold overI
    by_cases c : q = 4611686018427387904
    · rw [if_pos c]; omega
    · rw [if_neg c]; omega
  have s1 : ∀ o, rem1 p.l.length ⟨(p.l.length : Int) - 1, o - min o p.le, p.le - min o p.le, p.l⟩ = rem1 p.l.length ⟨p.l.length, o, p.le, p.l⟩ := fun o => rem_top (x := ⟨p.l.length, o, p.le, p.l⟩) rfl
  have s0 : rem1 p.l.length ⟨p.l.length, overI p q bu, p.le, p.l⟩ = ((chD p q bu).le, (chD p q bu).l) := by rw [rem1, if_pos rfl]; rfl
  have tm : ∀ x : Half, x.l.length = p.l.length → Tame ⟨p.g, q, bu, p.s, x.le, x.l, p.sp, p.pe, p.th, p.em⟩ := fun x hl => ⟨hb0, hb1, hx.th, hx.pe, hx.th0, hx.pe1, by show x.l.length ≤ _; omega⟩
  have round : ∀ x : Half, (HalfOK p p.l.length (p.le + p.l.sum - overI p q bu) x ∧ x.i < p.l.length) ∧ rem1 p.l.length x = ((chD p q bu).le, (chD p q bu).l) → 0 ≤ x.i → _ := fun x hxx hi => by
    obtain ⟨⟨hh, hlt⟩, hrem⟩ := hxx
    have hh2 := hh
    obtain ⟨a1, a2, a3, a4, a5, a6, a7, a8, a9⟩ := hh2
    have b1 := get_nonneg a5 x.i.toNat
    have b2 := get_le_sum a5 x.i.toNat
    have b3 := sum_nonneg a5
    have hl : x.i < x.l.length := by omega
    have b4 := sum_take_le a5 (x.i + 1).toNat
    rw [if_neg (by omega)] at a8
    exact (⟨⟨hi, hl⟩, ⟨hi, hl⟩, by omega, ⟨hi, hl⟩, by omega, by omega, _, ⟨⟨hh.stepL hi hl, by dsimp only; omega⟩, by rw [rem_step a6 hi hl]; exact hrem⟩, by dsimp only; omega, rfl, rfl, rfl, rfl⟩ : (0 ≤ x.i ∧ x.i < (x.l.length : Int)) ∧ (0 ≤ x.i ∧ x.i < (x.l.length : Int)) ∧ (-9223372036854775808 ≤ x.l.getD x.i.toNat 0 - min x.over (x.l.getD x.i.toNat 0) ∧ x.l.getD x.i.toNat 0 - min x.over (x.l.getD x.i.toNat 0) ≤ 9223372036854775807) ∧ (0 ≤ x.i ∧ x.i < (x.l.length : Int)) ∧ (-9223372036854775808 ≤ x.over - min x.over (x.l.getD x.i.toNat 0) ∧ x.over - min x.over (x.l.getD x.i.toNat 0) ≤ 9223372036854775807) ∧ (-9223372036854775808 ≤ x.i - 1 ∧ x.i - 1 ≤ 9223372036854775807) ∧ ∃ x', ((HalfOK p p.l.length (p.le + p.l.sum - overI p q bu) x' ∧ x'.i < p.l.length) ∧ rem1 p.l.length x' = ((chD p q bu).le, (chD p q bu).l)) ∧ (x'.i + 1).toNat < (x.i + 1).toNat ∧ x.i - 1 = x'.i ∧ x.over - min x.over (x.l.getD x.i.toNat 0) = x'.over ∧ x.le = x'.le ∧ x.l.set x.i.toNat (x.l.getD x.i.toNat 0 - min x.over (x.l.getD x.i.toNat 0)) = x'.l)
  have last : ∀ x : Half, (HalfOK p p.l.length (p.le + p.l.sum - overI p q bu) x ∧ x.i < p.l.length) ∧ rem1 p.l.length x = ((chD p q bu).le, (chD p q bu).l) → ¬ 0 ≤ x.i → x.l.length = p.l.length ∧ (⟨p.g, q, bu, p.s, x.le, x.l, p.sp, p.pe, p.th, p.em⟩ : Pool) = chD p q bu := fun x hxx hi => by
    obtain ⟨⟨hh, hlt⟩, hrem⟩ := hxx
    obtain ⟨f1, f2⟩ := fin x hh.lo hi hrem
    refine ⟨hh.len, ?_⟩
    rw [f1, f2]; rfl
  refine ⟨by omega, fun hq => ⟨fun hr => ?_, fun hr => ?_⟩, fun hq => ?_⟩
  · have hr2 : ratesI q bu = false := by
      cases c : ratesI q bu
      · rfl
      · have := ratesI_iff.1 c; omega
    rw [no hr2]; exact ⟨rfl, rfl, rfl, rfl, rfl, rfl, rfl, rfl, rfl, rfl, rfl⟩
  · have hr2 : ratesI q bu = true := ratesI_iff.2 (.inr ⟨hq, by omega⟩)
    obtain ⟨o0, o1⟩ := o (.inr (by omega))
    have eO : max (p.le + p.l.sum - (q + bu)) 0 = overI p q bu := by rw [overI, if_neg hq]; omega
    have st := (half_start hg o0 o1).stepE (by dsimp only; omega) (by dsimp only; omega)
    rw [eO, ok hr2]
    refine ⟨by omega, hg.small, by omega, by omega, by omega, by omega, ⟨_, ⟨⟨st, by dsimp only; omega⟩, by rw [s1]; exact s0⟩, rfl, rfl, rfl, rfl⟩, fun x hxx => ⟨round x hxx, fun hi => ?_⟩⟩
    obtain ⟨q1, q2⟩ := last x hxx hi
    refine ⟨tm x q1, fun hb => ?_, fun hb => ?_⟩
    · rw [q2, goodB_iff.2 (ch_good hg hr2)] at hb; cases hb
    · obtain ⟨f1, f2⟩ := fin x hxx.1.1.lo hi hxx.2
      exact ⟨rfl, rfl, rfl, rfl, f1, rfl, rfl, rfl, rfl, rfl, f2⟩
  · obtain ⟨o0, o1⟩ := o (.inl hq)
    have eO : max (p.le + p.l.sum - 0) 0 = overI p q bu := by rw [overI, if_pos hq]; omega
    have st := (half_start hg o0 o1).stepE (by dsimp only; omega) (by dsimp only; omega)
    rw [eO]
    refine ⟨hg.small, by omega, by omega, by omega, by omega, ⟨_, ⟨⟨st, by dsimp only; omega⟩, by rw [s1]; exact s0⟩, rfl, rfl, rfl, rfl⟩, fun x hxx => ⟨round x hxx, fun hi => ?_⟩⟩
    obtain ⟨q1, q2⟩ := last x hxx hi
    refine ⟨tm x q1, fun hb => ?_, fun hb => ?_⟩
    · have hr2 : ratesI q bu = false := by
        cases c : ratesI q bu
        · rfl
        · rw [q2, goodB_iff.2 (ch_good hg c)] at hb; cases hb
      rw [no hr2]; exact ⟨rfl, rfl, rfl, rfl, rfl, rfl, rfl, rfl, rfl, rfl, rfl⟩
    · have hr2 : ratesI q bu = true := by
        have := (goodB_iff.1 hb).rates
        exact ratesI_iff.2 this
      rw [ok hr2]
      obtain ⟨f1, f2⟩ := fin x hxx.1.1.lo hi hxx.2
      exact ⟨rfl, rfl, rfl, rfl, f1, rfl, rfl, rfl, rfl, rfl, f2⟩
end Go.Proofs.Ytemffnpliflkgaa
namespace Go.Proofs.Ytemffnpliflkgaa
open Go
set_option linter.unusedVariables false


end Go.Proofs.Ytemffnpliflkgaa
namespace Go.Proofs.Ytemffnpliflkgaa
open Go
set_option linter.unusedVariables false

def inv69 (l : List Nod) (n : Int) (ps : List Pool) (g c : Int) : Inv where
  X := Int
  ok := fun i => 0 ≤ i ∧ i ≤ (ancR l n g).length
  sl := fun i => [(11, .int .i64 i), (10, .int .i64 (roomL ps c ((ancR l n g).take i.toNat))), (9, .own 101 0)]
  hp := fun i => [(101, .rows 3 0 (ancR l n g))]
  keep := [10000]
  me := fun i => ((ancR l n g).length - i).toNat

def inv46 (ps : List Pool) (c : Int) : Inv where
  X := Int
  ok := fun i => 0 ≤ i ∧ i ≤ ps.length
  sl := fun i => [(8, .int .i64 i), (7, .own 103 4)]
  hp := fun i => [(103, .rows 80 4 (updK (id1 c) ps i.toNat))]
  keep := [10000]
  me := fun i => (ps.length - i).toNat
set_option maxRecDepth 100000 in
theorem vc46 (l : List Nod) (n : Int) (ps : List Pool) (c : Int) (hx : WfN l ∧ TL ps) : sIdT.vc (EV Try.prog [(54, sThr.spec), (103, sCopyP.spec), (110, sReturn.spec)] (invs [(5, inv46 ps c)]) noInv) Try.f46 ((l, n), ps, c, ()) := by
  have e : ((WfN l ∧ TL ps) ∧ ((!thrB l n ps) = true → ∃ (y : Unit), True ∧ NilL Pool = idL l n ps c) ∧ ((!thrB l n ps) = false → TL ps ∧ (∃ (x : Int), (0 ≤ x ∧ x ≤ (↑ps.length : Int)) ∧ 0 = x ∧ ps = updK (id1 c) ps x.toNat ∧ l = l ∧ n = n) ∧ ∀ (x : Int), 0 ≤ x ∧ x ≤ (↑ps.length : Int) → (decide (x < (↑(updK (id1 c) ps x.toNat).length : Int)) = true → (0 ≤ x ∧ x < (↑(updK (id1 c) ps x.toNat).length : Int)) ∧ Tame (pn (updK (id1 c) ps x.toNat) x.toNat) ∧ (decide ((returnG (pn (updK (id1 c) ps x.toNat) x.toNat) c).2 = 0) = true → (0 ≤ x ∧ x < (↑(updK (id1 c) ps x.toNat).length : Int)) ∧ i64R (x + 1) ∧ ∃ (x' : Int), (0 ≤ x' ∧ x' ≤ (↑ps.length : Int)) ∧ ((↑ps.length : Int) - x').toNat < ((↑ps.length : Int) - x).toNat ∧ x + 1 = x' ∧ (updK (id1 c) ps x.toNat).set x.toNat (returnG (pn (updK (id1 c) ps x.toNat) x.toNat) c).1 = updK (id1 c) ps x'.toNat ∧ l = l ∧ n = n) ∧ (decide ((returnG (pn (updK (id1 c) ps x.toNat) x.toNat) c).2 = 0) = false → i64R (x + 1) ∧ ∃ (x' : Int), (0 ≤ x' ∧ x' ≤ (↑ps.length : Int)) ∧ ((↑ps.length : Int) - x').toNat < ((↑ps.length : Int) - x).toNat ∧ x + 1 = x' ∧ updK (id1 c) ps x.toNat = updK (id1 c) ps x'.toNat ∧ l = l ∧ n = n)) ∧ (decide (x < (↑(updK (id1 c) ps x.toNat).length : Int)) = false → ∃ (y : Unit), True ∧ updK (id1 c) ps x.toNat = idL l n ps c))) = sIdT.vc (EV Try.prog [(54, sThr.spec), (103, sCopyP.spec), (110, sReturn.spec)] (invs [(5, inv46 ps c)]) noInv) Try.f46 ((l, n), ps, c, ()) := by kernel_rfl
  rw [← e]
  clear e
  simp only [true_and, and_true, exists_const]
  simp only [i64R, Int.reduceNeg, decide_eq_true_eq, decide_eq_false_iff_not, Bool.not_eq_true', Bool.not_eq_false']
  try simp only [NilL_eq]
  obtain ⟨hw, ht, hl⟩ := hx
  simp only [updK_len]
  refine ⟨⟨hw, ht, hl⟩, fun h => by rw [idL, if_pos h], fun h => ⟨⟨ht, hl⟩, ⟨0, by omega, rfl, (updK_zero _ _).symm⟩, fun x hi => ⟨fun hlt => ?_, fun hge => ?_⟩⟩⟩
  · have e : (x + 1).toNat = x.toNat + 1 := by omega
    rw [updK_get (by omega)]
    refine ⟨by omega, ht _ (pn_mem (by omega)), fun hb => ⟨by omega, by omega, x + 1, by omega, by omega, rfl, ?_⟩, fun hb => ⟨by omega, x + 1, by omega, by omega, rfl, ?_⟩⟩
    · rw [e, ← updK_step (by omega), id1, if_pos hb]
    · rw [e]
      exact updK_same (by omega) (by rw [id1, if_neg hb])
  · rw [updK_all _ _ (by omega), idL, if_neg (by rw [h]; simp)]

def inv44 (l m : List Pool) : Inv where
  X := Int
  ok := fun i => 0 ≤ i ∧ i ≤ l.length ∧ ∀ j : Nat, (j : Int) < i → pn l j = pn m j
  sl := fun i => [(5, .int .i64 i)]
  hp := fun i => []
  keep := []
  me := fun i => (l.length - i).toNat
set_option maxRecDepth 100000 in
theorem vc44 (l m : List Pool) (hx : TL l) : sSameL.vc (EV Try.prog [(61, sSameP.spec)] (invs [(4, inv44 l m)]) noInv) Try.f44 (l, m, ()) := by
  have e : (((!decide ((↑l.length : Int) = (↑m.length : Int))) = true → ∃ (y : Unit), True ∧ false = eqL l m) ∧ ((!decide ((↑l.length : Int) = (↑m.length : Int))) = false → (∃ (x : Int), (0 ≤ x ∧ x ≤ (↑l.length : Int) ∧ ∀ (j : Nat), (↑j : Int) < x → pn l j = pn m j) ∧ 0 = x) ∧ ∀ (x : Int), (0 ≤ x ∧ x ≤ (↑l.length : Int) ∧ ∀ (j : Nat), (↑j : Int) < x → pn l j = pn m j) → (decide (x < (↑l.length : Int)) = true → (0 ≤ x ∧ x < (↑l.length : Int)) ∧ (0 ≤ x ∧ x < (↑m.length : Int)) ∧ (pn l x.toNat).l.length ≤ (1048576 : Nat) ∧ ((!eqP (pn l x.toNat) (pn m x.toNat)) = true → ∃ (y : Unit), True ∧ false = eqL l m) ∧ ((!eqP (pn l x.toNat) (pn m x.toNat)) = false → i64R (x + 1) ∧ ∃ (x' : Int), (0 ≤ x' ∧ x' ≤ (↑l.length : Int) ∧ ∀ (j : Nat), (↑j : Int) < x' → pn l j = pn m j) ∧ ((↑l.length : Int) - x').toNat < ((↑l.length : Int) - x).toNat ∧ x + 1 = x')) ∧ (decide (x < (↑l.length : Int)) = false → ∃ (y : Unit), True ∧ true = eqL l m))) = sSameL.vc (EV Try.prog [(61, sSameP.spec)] (invs [(4, inv44 l m)]) noInv) Try.f44 (l, m, ()) := by kernel_rfl
  rw [← e]
  clear e
  simp only [true_and, exists_const]
  simp only [i64R, Int.reduceNeg, decide_eq_true_eq, decide_eq_false_iff_not, Bool.not_eq_true', Bool.not_eq_false']
  try simp only [NilL_eq, pn_fold]
  simp only [eqP_iff, eqP_no]
  unfold eqL
  obtain ⟨ht, hl⟩ := hx
  refine ⟨fun h => ?_, fun h => ⟨⟨0, ⟨by omega, by omega, fun j hj => by omega⟩, rfl⟩, fun x hi => ⟨fun hlt => ⟨by omega, by omega, (ht _ (pn_mem (by omega))).len, fun hne => ?_, fun he => ⟨by omega, x + 1, ⟨by omega, by omega, fun j hj => ?_⟩, by omega, rfl⟩⟩, fun hge => ?_⟩⟩⟩
  · symm; rw [decide_eq_false_iff_not]; intro e; rw [e] at h; exact h rfl
  · symm; rw [decide_eq_false_iff_not]; intro e; rw [e] at hne; exact hne rfl
  · by_cases e : (j : Int) < x
    · exact hi.2.2 j e
    · have : j = x.toNat := by omega
      rw [this]; exact he
  · symm; rw [decide_eq_true_eq]
    apply List.ext_getElem (by omega)
    intro i h1 h2
    have := hi.2.2 i (by omega)
    rwa [pn_get h1, pn_get h2] at this
end Go.Proofs.Ytemffnpliflkgaa
namespace Go.Proofs.Ytemffnpliflkgaa
open Go
set_option linter.unusedVariables false

def inv45 (ps : List Pool) (c : Int) : Inv where
  X := Int
  ok := fun i => 0 ≤ i ∧ i ≤ ps.length
  sl := fun i => [(20, .int .i64 i), (7, .own 103 4)]
  hp := fun i => [(103, .rows 80 4 (updK (id1 c) ps i.toNat))]
  keep := [10000]
  me := fun i => (ps.length - i).toNat
set_option maxRecDepth 100000 in
theorem vc45 (l : List Nod) (n : Int) (ps : List Pool) (c : Int) (hx : WfN l ∧ TL ps) : sIdT.vc (EV Try.prog [(66, sThr.spec), (105, sCopyP.spec), (109, sReturn.spec)] (invs [(5, inv45 ps c)]) noInv) Try.f45 ((l, n), ps, c, ()) := by
  have e : ((WfN l ∧ TL ps) ∧ ((!thrB l n ps) = true → ∃ (y : Unit), True ∧ NilL Pool = idL l n ps c) ∧ ((!thrB l n ps) = false → TL ps ∧ (∃ (x : Int), (0 ≤ x ∧ x ≤ (↑ps.length : Int)) ∧ 0 = x ∧ ps = updK (id1 c) ps x.toNat ∧ l = l ∧ n = n) ∧ ∀ (x : Int), 0 ≤ x ∧ x ≤ (↑ps.length : Int) → (decide (x < (↑ps.length : Int)) = true → (0 ≤ x ∧ x < (↑ps.length : Int)) ∧ Tame (pn ps x.toNat) ∧ (decide ((returnG (pn ps x.toNat) c).snd = 0) = true → (0 ≤ x ∧ x < (↑(updK (id1 c) ps x.toNat).length : Int)) ∧ i64R (x + 1) ∧ ∃ (x' : Int), (0 ≤ x' ∧ x' ≤ (↑ps.length : Int)) ∧ ((↑ps.length : Int) - x').toNat < ((↑ps.length : Int) - x).toNat ∧ x + 1 = x' ∧ (updK (id1 c) ps x.toNat).set x.toNat (returnG (pn ps x.toNat) c).fst = updK (id1 c) ps x'.toNat ∧ l = l ∧ n = n) ∧ (decide ((returnG (pn ps x.toNat) c).snd = 0) = false → i64R (x + 1) ∧ ∃ (x' : Int), (0 ≤ x' ∧ x' ≤ (↑ps.length : Int)) ∧ ((↑ps.length : Int) - x').toNat < ((↑ps.length : Int) - x).toNat ∧ x + 1 = x' ∧ updK (id1 c) ps x.toNat = updK (id1 c) ps x'.toNat ∧ l = l ∧ n = n)) ∧ (decide (x < (↑ps.length : Int)) = false → ∃ (y : Unit), True ∧ updK (id1 c) ps x.toNat = idL l n ps c))) = sIdT.vc (EV Try.prog [(66, sThr.spec), (105, sCopyP.spec), (109, sReturn.spec)] (invs [(5, inv45 ps c)]) noInv) Try.f45 ((l, n), ps, c, ()) := by kernel_rfl
  rw [← e]
  clear e
  simp only [true_and, and_true, exists_const]
  simp only [i64R, Int.reduceNeg, decide_eq_true_eq, decide_eq_false_iff_not, Bool.not_eq_true', Bool.not_eq_false']
  try simp only [NilL_eq]
  obtain ⟨hw, ht, hl⟩ := hx
  refine ⟨⟨hw, ht, hl⟩, fun h => by rw [idL, if_pos h], fun h => ⟨⟨ht, hl⟩, ⟨0, by omega, rfl, (updK_zero _ _).symm⟩, fun x hi => ⟨fun hlt => ?_, fun hge => ?_⟩⟩⟩
  · have e : (x + 1).toNat = x.toNat + 1 := by omega
    refine ⟨by omega, ht _ (pn_mem (by omega)), fun hb => ⟨by rw [updK_len]; omega, by omega, x + 1, by omega, by omega, rfl, ?_⟩, fun hb => ⟨by omega, x + 1, by omega, by omega, rfl, ?_⟩⟩
    · rw [e, ← updK_step (by omega), id1, if_pos hb]
    · rw [e]
      exact updK_same (by omega) (by rw [id1, if_neg hb])
  · rw [updK_all _ _ (by omega), idL, if_neg (by rw [h]; simp)]

def inv48 (ps : List Pool) (due : List Int) : Inv where
  X := Int
  ok := fun i => 0 ≤ i ∧ i ≤ ps.length
  sl := fun i => [(20, .int .i64 i), (7, .own 103 4)]
  hp := fun i => [(103, .rows 80 4 (updK (rf1 due) ps i.toNat))]
  keep := [10000]
  me := fun i => (ps.length - i).toNat
set_option maxRecDepth 100000 in
theorem vc48 (l : List Nod) (n : Int) (ps : List Pool) (due : List Int) (hx : (WfN l ∧ TL ps) ∧ due.length ≤ 9223372036854775807) : sRfT.vc (EV Try.prog [(66, sThr.spec), (105, sCopyP.spec), (111, sRefill.spec), (112, sHasI.spec)] (invs [(5, inv48 ps due)]) noInv) Try.f48 ((l, n), ps, due, ()) := by
  have e : ((WfN l ∧ TL ps) ∧ ((!thrB l n ps) = true → ∃ (y : Unit), True ∧ NilL Pool = rfL l n ps due) ∧ ((!thrB l n ps) = false → TL ps ∧ (∃ (x : Int), (0 ≤ x ∧ x ≤ (↑ps.length : Int)) ∧ 0 = x ∧ ps = updK (rf1 due) ps x.toNat ∧ l = l ∧ n = n) ∧ ∀ (x : Int), 0 ≤ x ∧ x ≤ (↑ps.length : Int) → (decide (x < (↑ps.length : Int)) = true → (0 ≤ x ∧ x < (↑ps.length : Int)) ∧ Tame (pn ps x.toNat) ∧ (decide ((refillG (pn ps x.toNat)).snd = 0) = true → decide ((refillG (pn ps x.toNat)).snd = 0) = true) ∧ (decide ((refillG (pn ps x.toNat)).snd = 0) = true → decide ((refillG (pn ps x.toNat)).snd = 0) = true) ∧ (decide ((refillG (pn ps x.toNat)).snd = 0) = true → decide ((refillG (pn ps x.toNat)).snd = 0) = true) ∧ (decide ((refillG (pn ps x.toNat)).snd = 0) = true → due.length ≤ (9223372036854775807 : Nat)) ∧ (decide ((refillG (pn ps x.toNat)).snd = 0) = true → decide ((refillG (pn ps x.toNat)).snd = 0) = true) ∧ ((decide ((refillG (pn ps x.toNat)).snd = 0) && memB due (pn ps x.toNat).g) = true → (0 ≤ x ∧ x < (↑(updK (rf1 due) ps x.toNat).length : Int)) ∧ i64R (x + 1) ∧ ∃ (x' : Int), (0 ≤ x' ∧ x' ≤ (↑ps.length : Int)) ∧ ((↑ps.length : Int) - x').toNat < ((↑ps.length : Int) - x).toNat ∧ x + 1 = x' ∧ (updK (rf1 due) ps x.toNat).set x.toNat (refillG (pn ps x.toNat)).fst = updK (rf1 due) ps x'.toNat ∧ l = l ∧ n = n) ∧ ((decide ((refillG (pn ps x.toNat)).snd = 0) && memB due (pn ps x.toNat).g) = false → i64R (x + 1) ∧ ∃ (x' : Int), (0 ≤ x' ∧ x' ≤ (↑ps.length : Int)) ∧ ((↑ps.length : Int) - x').toNat < ((↑ps.length : Int) - x).toNat ∧ x + 1 = x' ∧ updK (rf1 due) ps x.toNat = updK (rf1 due) ps x'.toNat ∧ l = l ∧ n = n)) ∧ (decide (x < (↑ps.length : Int)) = false → ∃ (y : Unit), True ∧ updK (rf1 due) ps x.toNat = rfL l n ps due))) = sRfT.vc (EV Try.prog [(66, sThr.spec), (105, sCopyP.spec), (111, sRefill.spec), (112, sHasI.spec)] (invs [(5, inv48 ps due)]) noInv) Try.f48 ((l, n), ps, due, ()) := by kernel_rfl
  rw [← e]
  clear e
  simp only [imp_self, true_and, and_true, exists_const]
  simp only [i64R, Int.reduceNeg, decide_eq_true_eq, decide_eq_false_iff_not, Bool.not_eq_true', Bool.not_eq_false', Bool.and_eq_true, Bool.and_eq_false_iff]
  try simp only [NilL_eq]
  obtain ⟨⟨hw, ht, hl⟩, hd⟩ := hx
  refine ⟨⟨hw, ht, hl⟩, fun h => by rw [rfL, if_pos h], fun h => ⟨⟨ht, hl⟩, ⟨0, by omega, rfl, (updK_zero _ _).symm⟩, fun x hi => ⟨fun hlt => ?_, fun hge => ?_⟩⟩⟩
  · have e : (x + 1).toNat = x.toNat + 1 := by omega
    refine ⟨by omega, ht _ (pn_mem (by omega)), fun _ => hd, fun hb => ⟨by rw [updK_len]; omega, by omega, x + 1, by omega, by omega, rfl, ?_⟩, fun hb => ⟨by omega, x + 1, by omega, by omega, rfl, ?_⟩⟩
    · rw [e, ← updK_step (by omega), rf1, if_pos ⟨hb.1, memB_iff.1 hb.2⟩]
    · rw [e]
      refine updK_same (by omega) ?_
      rw [rf1, if_neg]
      rintro ⟨a1, a2⟩
      rcases hb with b | b
      · exact b a1
      · rw [memB_iff.2 a2] at b; cases b
  · rw [updK_all _ _ (by omega), rfL, if_neg (by rw [h]; simp)]
end Go.Proofs.Ytemffnpliflkgaa
namespace Go.Proofs.Ytemffnpliflkgaa
open Go
set_option linter.unusedVariables false

/-- Pools that dice may change. -/
structure OddP (l : List Pool) : Prop where
  tl : TL l
  l1 : 1 ≤ l.length
  l2 : l.length ≤ 64
  g : ∀ x ∈ l, -1152921504606846976 ≤ x.g ∧ x.g ≤ 1152921504606846976
  loc : ∀ x ∈ l, x.l.length ≤ 1000
theorem TL.set {l : List Pool} (h : TL l) {i : Nat} {x : Pool} (hx : Tame x) : TL (l.set i x) := ⟨fun y hy => by
  rcases List.mem_or_eq_of_mem_set hy with h1 | h1
  · exact h.1 y h1
  · rw [h1]; exact hx, by rw [List.length_set]; exact h.2⟩
def sCopyD : DS := ⟨_, one (pkL 4), fun x => TL x.1, fun _ => .own 101 4, fun x => [(101, .deep 80 4 [0, 0, 0, 0, 0, 3, 0, 0, 0, 0] x.1 none)]⟩
def sOdd : FSp := ⟨_, Sig.dice (one (pkL 4)) (fun _ => rfl), fun x => DOK x.1 ∧ OddP x.2.1, List Pool × Int, fun x y => (TL y.1 ∧ y.1.length ≤ 64) ∧ x.1.2 ≤ y.2 ∧ y.2 ≤ x.1.1.length, fun _ y => .irec true 4 y.1, fun x y => [(0, diceO (x.1.1, y.2))], fun x h => ⟨(x.2.1, x.1.2), ⟨h.2.tl, h.2.l2⟩, Int.le_refl _, h.1.hi⟩⟩

def jnv103 (l : List Pool) : Inv where
  X := Int
  ok := fun i => 0 ≤ i ∧ i ≤ l.length
  sl := fun i => [(4, .int .i64 i), (3, .own 101 4)]
  hp := fun i => [(101, .deep 80 4 [0, 0, 0, 0, 0, 3, 0, 0, 0, 0] (l.take i.toNat) none)]
  keep := []
  me := fun i => (l.length - i).toNat
set_option maxRecDepth 100000 in
theorem vd103 (l : List Pool) (hx : TL l) : sCopyD.vc (EVD Try.prog [(118, sCopied.spec)] (invs [(3, jnv103 l)]) noInv [80]) Try.f103 (l, ()) := by
  have e : ((∃ (x : Int), (0 ≤ x ∧ x ≤ (↑l.length : Int)) ∧ 0 = x ∧ NilL Pool = List.take x.toNat l) ∧ ∀ (x : Int), 0 ≤ x ∧ x ≤ (↑l.length : Int) → (decide (x < (↑l.length : Int)) = true → (0 ≤ x ∧ x < (↑l.length : Int)) ∧ (pn l x.toNat).l.length ≤ (1048576 : Nat) ∧ AV.int Go.IntKind.i64 (pn l x.toNat).g :: AV.int Go.IntKind.i64 (pn l x.toNat).q :: AV.int Go.IntKind.i64 (pn l x.toNat).bu :: AV.int Go.IntKind.i64 (pn l x.toNat).s :: AV.int Go.IntKind.i64 (pn l x.toNat).le :: AV.irec true (0 : Nat) (pn l x.toNat).l :: AV.int Go.IntKind.i64 (pn l x.toNat).sp :: AV.int Go.IntKind.i64 (pn l x.toNat).pe :: AV.int Go.IntKind.i64 (pn l x.toNat).th :: AV.bool (pn l x.toNat).em :: NilL AV = (List.map nrm1 (AV.int Go.IntKind.i64 (pn l x.toNat).g :: AV.int Go.IntKind.i64 (pn l x.toNat).q :: AV.int Go.IntKind.i64 (pn l x.toNat).bu :: AV.int Go.IntKind.i64 (pn l x.toNat).s :: AV.int Go.IntKind.i64 (pn l x.toNat).le :: AV.own (nat_lit 60051) (nat_lit 0) :: AV.int Go.IntKind.i64 (pn l x.toNat).sp :: AV.int Go.IntKind.i64 (pn l x.toNat).pe :: AV.int Go.IntKind.i64 (pn l x.toNat).th :: AV.bool (pn l x.toNat).em :: NilL AV)).set ((0 : Nat) + (1 : Nat) + (1 : Nat) + (1 : Nat) + (1 : Nat) + (1 : Nat)) (AV.irec true (nat_lit 0) (pn l x.toNat).l) ∧ (List.take x.toNat l).length + (pn l x.toNat :: NilL Pool).length ≤ (68719476736 : Nat) ∧ i64R (x + 1) ∧ ∃ (x' : Int), (0 ≤ x' ∧ x' ≤ (↑l.length : Int)) ∧ ((↑l.length : Int) - x').toNat < ((↑l.length : Int) - x).toNat ∧ x + 1 = x' ∧ List.take x.toNat l ++ pn l x.toNat :: NilL Pool = List.take x'.toNat l) ∧ (decide (x < (↑l.length : Int)) = false → ∃ (y : Unit), True ∧ List.take x.toNat l = l)) = sCopyD.vc (EVD Try.prog [(118, sCopied.spec)] (invs [(3, jnv103 l)]) noInv [80]) Try.f103 (l, ()) := by kernel_rfl
  rw [← e]
  clear e
  simp only [true_and, exists_const]
  simp only [i64R, Int.reduceNeg, decide_eq_true_eq, decide_eq_false_iff_not]
  try simp only [NilL_eq]
  obtain ⟨ht, hl⟩ := hx
  refine ⟨⟨0, by omega, rfl, rfl⟩, fun x hx2 => ⟨fun hlt => ?_, fun hge => by rw [List.take_of_length_le (by omega)]⟩⟩
  have e : (x + 1).toNat = x.toNat + 1 := by omega
  refine ⟨by omega, (ht _ (pn_mem (by omega))).len, rfl, by rw [List.length_take]; simp; omega, by omega, x + 1, by omega, by omega, rfl, ?_⟩
  rw [e, take_pn (by omega)]


set_option maxRecDepth 100000 in
theorem vc40 (L : List Int) (k : Int) (l : List Pool) (hx : DOK (L, k) ∧ OddP l) : sOdd.vc (EVD Try.prog [(103, sCopyD.spec), (23, sNext.spec)] noInv noInv [80]) Try.f40 ((L, k), l, ()) := by
  have e : (TL l ∧ (DOK (L, k) ∧ (↑l.length : Int) ≤ 4611686018427387904) ∧ (∀ (y : Int × Int), true = true) ∧ ∀ (y : Int × Int), (1 ≤ (↑l.length : Int) → 0 ≤ y.1 ∧ y.1 < (↑l.length : Int)) ∧ ((↑l.length : Int) < 1 → y.1 = 0) ∧ k ≤ y.2 ∧ y.2 ≤ (↑L.length : Int) → (DOK (L, y.2) ∧ (5 : Int) ≤ 4611686018427387904) ∧ (∀ (y : Int × Int), true = true) ∧ ∀ (y_1 : Int × Int), ((1 : Int) ≤ 5 → 0 ≤ y_1.1 ∧ y_1.1 < 5) ∧ ((5 : Int) < 1 → y_1.1 = 0) ∧ y.2 ≤ y_1.2 ∧ y_1.2 ≤ (↑L.length : Int) → (decide (y_1.1 = 0) = true → (0 ≤ y.1 ∧ y.1 < (↑l.length : Int)) ∧ i64R ((pn l y.1.toNat).g + 1) ∧ (0 ≤ y.1 ∧ y.1 < (↑l.length : Int)) ∧ AV.int Go.IntKind.i64 ((pn l y.1.toNat).g + 1) :: AV.int Go.IntKind.i64 (pn l y.1.toNat).q :: AV.int Go.IntKind.i64 (pn l y.1.toNat).bu :: AV.int Go.IntKind.i64 (pn l y.1.toNat).s :: AV.int Go.IntKind.i64 (pn l y.1.toNat).le :: AV.irec true (0 : Nat) (pn l y.1.toNat).l :: AV.int Go.IntKind.i64 (pn l y.1.toNat).sp :: AV.int Go.IntKind.i64 (pn l y.1.toNat).pe :: AV.int Go.IntKind.i64 (pn l y.1.toNat).th :: AV.bool (pn l y.1.toNat).em :: NilL AV = (AV.int Go.IntKind.i64 (pn l y.1.toNat).g :: AV.int Go.IntKind.i64 (pn l y.1.toNat).q :: AV.int Go.IntKind.i64 (pn l y.1.toNat).bu :: AV.int Go.IntKind.i64 (pn l y.1.toNat).s :: AV.int Go.IntKind.i64 (pn l y.1.toNat).le :: AV.irec true (0 : Nat) (pn l y.1.toNat).l :: AV.int Go.IntKind.i64 (pn l y.1.toNat).sp :: AV.int Go.IntKind.i64 (pn l y.1.toNat).pe :: AV.int Go.IntKind.i64 (pn l y.1.toNat).th :: AV.bool (pn l y.1.toNat).em :: NilL AV).set (nat_lit 0 + (0 : Nat)) (AV.int Go.IntKind.i64 ((pn l y.1.toNat).g + 1)) ∧ ∃ (y_2 : List Pool × Int), ((TL y_2.1 ∧ y_2.1.length ≤ (64 : Nat)) ∧ k ≤ y_2.2 ∧ y_2.2 ≤ (↑L.length : Int)) ∧ l.set y.1.toNat { g := (pn l y.1.toNat).g + 1, q := (pn l y.1.toNat).q, bu := (pn l y.1.toNat).bu, s := (pn l y.1.toNat).s, le := (pn l y.1.toNat).le, l := (pn l y.1.toNat).l, sp := (pn l y.1.toNat).sp, pe := (pn l y.1.toNat).pe, th := (pn l y.1.toNat).th, em := (pn l y.1.toNat).em : Pool } = y_2.1 ∧ L = L ∧ y_1.2 = y_2.2) ∧ (decide (y_1.1 = 0) = false → (decide (y_1.1 = 1) = true → ((0 : Int) ≤ 1 ∧ 1 ≤ (↑l.length : Int)) ∧ ∃ (y : List Pool × Int), ((TL y.1 ∧ y.1.length ≤ (64 : Nat)) ∧ k ≤ y.2 ∧ y.2 ≤ (↑L.length : Int)) ∧ List.take ((↑l.length : Int) - 1).toNat (List.drop (nat_lit 1) l) = y.1 ∧ L = L ∧ y_1.2 = y.2) ∧ (decide (y_1.1 = 1) = false → (decide (y_1.1 = 2) = true → (0 ≤ y.1 ∧ y.1 < (↑l.length : Int)) ∧ AV.int Go.IntKind.i64 (pn l y.1.toNat).g :: AV.int Go.IntKind.i64 (pn l y.1.toNat).q :: AV.int Go.IntKind.i64 (pn l y.1.toNat).bu :: AV.int Go.IntKind.i64 (pn l y.1.toNat).s :: AV.int Go.IntKind.i64 (-1) :: AV.irec true (0 : Nat) (pn l y.1.toNat).l :: AV.int Go.IntKind.i64 (pn l y.1.toNat).sp :: AV.int Go.IntKind.i64 (pn l y.1.toNat).pe :: AV.int Go.IntKind.i64 (pn l y.1.toNat).th :: AV.bool (pn l y.1.toNat).em :: NilL AV = (AV.int Go.IntKind.i64 (pn l y.1.toNat).g :: AV.int Go.IntKind.i64 (pn l y.1.toNat).q :: AV.int Go.IntKind.i64 (pn l y.1.toNat).bu :: AV.int Go.IntKind.i64 (pn l y.1.toNat).s :: AV.int Go.IntKind.i64 (pn l y.1.toNat).le :: AV.irec true (0 : Nat) (pn l y.1.toNat).l :: AV.int Go.IntKind.i64 (pn l y.1.toNat).sp :: AV.int Go.IntKind.i64 (pn l y.1.toNat).pe :: AV.int Go.IntKind.i64 (pn l y.1.toNat).th :: AV.bool (pn l y.1.toNat).em :: NilL AV).set (nat_lit 0 + (4 : Nat)) (AV.int Go.IntKind.i64 (-1)) ∧ ∃ (y_2 : List Pool × Int), ((TL y_2.1 ∧ y_2.1.length ≤ (64 : Nat)) ∧ k ≤ y_2.2 ∧ y_2.2 ≤ (↑L.length : Int)) ∧ l.set y.1.toNat { g := (pn l y.1.toNat).g, q := (pn l y.1.toNat).q, bu := (pn l y.1.toNat).bu, s := (pn l y.1.toNat).s, le := (-1), l := (pn l y.1.toNat).l, sp := (pn l y.1.toNat).sp, pe := (pn l y.1.toNat).pe, th := (pn l y.1.toNat).th, em := (pn l y.1.toNat).em : Pool } = y_2.1 ∧ L = L ∧ y_1.2 = y_2.2) ∧ (decide (y_1.1 = 2) = false → (decide (y_1.1 = 3) = true → (0 ≤ y.1 ∧ y.1 < (↑l.length : Int)) ∧ (pn l y.1.toNat).l.length + (0 :: NilL Int).length ≤ (68719476736 : Nat) ∧ (0 ≤ y.1 ∧ y.1 < (↑l.length : Int)) ∧ y.1.toNat = y.1.toNat ∧ AV.int Go.IntKind.i64 (pn l y.1.toNat).g :: AV.int Go.IntKind.i64 (pn l y.1.toNat).q :: AV.int Go.IntKind.i64 (pn l y.1.toNat).bu :: AV.int Go.IntKind.i64 (pn l y.1.toNat).s :: AV.int Go.IntKind.i64 (pn l y.1.toNat).le :: AV.irec true (0 : Nat) ((pn l y.1.toNat).l ++ 0 :: NilL Int) :: AV.int Go.IntKind.i64 (pn l y.1.toNat).sp :: AV.int Go.IntKind.i64 (pn l y.1.toNat).pe :: AV.int Go.IntKind.i64 (pn l y.1.toNat).th :: AV.bool (pn l y.1.toNat).em :: NilL AV = (AV.int Go.IntKind.i64 (pn l y.1.toNat).g :: AV.int Go.IntKind.i64 (pn l y.1.toNat).q :: AV.int Go.IntKind.i64 (pn l y.1.toNat).bu :: AV.int Go.IntKind.i64 (pn l y.1.toNat).s :: AV.int Go.IntKind.i64 (pn l y.1.toNat).le :: AV.irec true (0 : Nat) (pn l y.1.toNat).l :: AV.int Go.IntKind.i64 (pn l y.1.toNat).sp :: AV.int Go.IntKind.i64 (pn l y.1.toNat).pe :: AV.int Go.IntKind.i64 (pn l y.1.toNat).th :: AV.bool (pn l y.1.toNat).em :: NilL AV).set (nat_lit 0 + (5 : Nat)) (AV.irec true (nat_lit 0) ((pn l y.1.toNat).l ++ 0 :: NilL Int)) ∧ ∃ (y_2 : List Pool × Int), ((TL y_2.1 ∧ y_2.1.length ≤ (64 : Nat)) ∧ k ≤ y_2.2 ∧ y_2.2 ≤ (↑L.length : Int)) ∧ l.set y.1.toNat { g := (pn l y.1.toNat).g, q := (pn l y.1.toNat).q, bu := (pn l y.1.toNat).bu, s := (pn l y.1.toNat).s, le := (pn l y.1.toNat).le, l := (pn l y.1.toNat).l ++ 0 :: NilL Int, sp := (pn l y.1.toNat).sp, pe := (pn l y.1.toNat).pe, th := (pn l y.1.toNat).th, em := (pn l y.1.toNat).em : Pool } = y_2.1 ∧ L = L ∧ y_1.2 = y_2.2) ∧ (decide (y_1.1 = 3) = false → (decide (y_1.1 = 4) = true → (0 ≤ y.1 ∧ y.1 < (↑l.length : Int)) ∧ AV.int Go.IntKind.i64 (pn l y.1.toNat).g :: AV.int Go.IntKind.i64 (pn l y.1.toNat).q :: AV.int Go.IntKind.i64 (pn l y.1.toNat).bu :: AV.int Go.IntKind.i64 9 :: AV.int Go.IntKind.i64 (pn l y.1.toNat).le :: AV.irec true (0 : Nat) (pn l y.1.toNat).l :: AV.int Go.IntKind.i64 (pn l y.1.toNat).sp :: AV.int Go.IntKind.i64 (pn l y.1.toNat).pe :: AV.int Go.IntKind.i64 (pn l y.1.toNat).th :: AV.bool (pn l y.1.toNat).em :: NilL AV = (AV.int Go.IntKind.i64 (pn l y.1.toNat).g :: AV.int Go.IntKind.i64 (pn l y.1.toNat).q :: AV.int Go.IntKind.i64 (pn l y.1.toNat).bu :: AV.int Go.IntKind.i64 (pn l y.1.toNat).s :: AV.int Go.IntKind.i64 (pn l y.1.toNat).le :: AV.irec true (0 : Nat) (pn l y.1.toNat).l :: AV.int Go.IntKind.i64 (pn l y.1.toNat).sp :: AV.int Go.IntKind.i64 (pn l y.1.toNat).pe :: AV.int Go.IntKind.i64 (pn l y.1.toNat).th :: AV.bool (pn l y.1.toNat).em :: NilL AV).set (nat_lit 0 + (3 : Nat)) (AV.int Go.IntKind.i64 9) ∧ ∃ (y_2 : List Pool × Int), ((TL y_2.1 ∧ y_2.1.length ≤ (64 : Nat)) ∧ k ≤ y_2.2 ∧ y_2.2 ≤ (↑L.length : Int)) ∧ l.set y.1.toNat { g := (pn l y.1.toNat).g, q := (pn l y.1.toNat).q, bu := (pn l y.1.toNat).bu, s := 9, le := (pn l y.1.toNat).le, l := (pn l y.1.toNat).l, sp := (pn l y.1.toNat).sp, pe := (pn l y.1.toNat).pe, th := (pn l y.1.toNat).th, em := (pn l y.1.toNat).em : Pool } = y_2.1 ∧ L = L ∧ y_1.2 = y_2.2) ∧ (decide (y_1.1 = 4) = false → ∃ (y : List Pool × Int), ((TL y.1 ∧ y.1.length ≤ (64 : Nat)) ∧ k ≤ y.2 ∧ y.2 ≤ (↑L.length : Int)) ∧ l = y.1 ∧ L = L ∧ y_1.2 = y.2)))))) = sOdd.vc (EVD Try.prog [(103, sCopyD.spec), (23, sNext.spec)] noInv noInv [80]) Try.f40 ((L, k), l, ()) := by kernel_rfl
  rw [← e]
  clear e
  simp only [true_and, implies_true]
  simp only [Prod.forall, Prod.exists, forall_const, true_and, and_true, i64R, Int.reduceLE, Int.reduceLT, Int.reduceNeg, false_implies, decide_eq_true_eq, decide_eq_false_iff_not]
  try simp only [NilL_eq]
  obtain ⟨hd0, ho⟩ := hx
  have hT := ho.tl
  have l1 := ho.l1
  have l2 := ho.l2
  have hdd : ∀ j : Int, k ≤ j → j ≤ L.length → DOK (L, j) := fun j h1 h2 => ⟨by have : 0 ≤ k := hd0.lo; show 0 ≤ j; omega, h2, hd0.len⟩
  refine ⟨hT, ⟨hd0, by omega⟩, fun a b hab => ⟨hdd _ (by omega) (by omega), fun c b1 hc => ?_⟩⟩
  have ha := hab.1 (by omega)
  have hm : pn l a.toNat ∈ l := pn_mem (by omega)
  have h := hT.1 _ hm
  have hg := ho.g _ hm
  have hlo := ho.loc _ hm
  have tm : ∀ g s le : Int, ∀ l' : List Int, l'.length ≤ 1048576 → Tame ⟨g, (pn l a.toNat).q, (pn l a.toNat).bu, s, le, l', (pn l a.toNat).sp, (pn l a.toNat).pe, (pn l a.toNat).th, (pn l a.toNat).em⟩ := fun g s le l' hl => ⟨h.bu0, h.bu1, h.th, h.pe, h.th0, h.pe1, hl⟩
  have fin : ∀ x : Pool, Tame x → (TL (l.set a.toNat x) ∧ (l.set a.toNat x).length ≤ 64) ∧ k ≤ b1 ∧ b1 ≤ (L.length : Int) := fun x hx => ⟨⟨hT.set hx, by rw [List.length_set]; exact l2⟩, by omega, by omega⟩
  refine ⟨fun _ => ⟨by omega, by omega, by omega, rfl, _, b1, fin _ (tm _ _ _ _ h.len), rfl, rfl⟩, fun _ => ⟨fun _ => ⟨by omega, _, b1, ⟨⟨⟨fun x hx => hT.1 x (List.mem_of_mem_drop (List.mem_of_mem_take hx)), ?_⟩, ?_⟩, by omega, by omega⟩, rfl, rfl⟩, fun _ => ⟨fun _ => ⟨by omega, rfl, _, b1, fin _ (tm _ _ _ _ h.len), rfl, rfl⟩, fun _ => ⟨fun _ => ⟨by omega, by simp; omega, by omega, rfl, _, b1, fin _ (tm _ _ _ ((pn l a.toNat).l ++ [0]) (by rw [List.length_append]; simp; omega)), rfl, rfl⟩, fun _ => ⟨fun _ => ⟨by omega, rfl, _, b1, fin _ (tm _ _ _ _ h.len), rfl, rfl⟩, fun _ => ⟨l, b1, ⟨⟨hT, l2⟩, by omega, by omega⟩, rfl, rfl⟩⟩⟩⟩⟩⟩
  · rw [List.length_take, List.length_drop]; omega
  · rw [List.length_take, List.length_drop]; omega
end Go.Proofs.Ytemffnpliflkgaa
namespace Go.Proofs.Ytemffnpliflkgaa
open Go
set_option linter.unusedVariables false

def contQ (s : St) (v : AV) : List (List Pool) := match v with
  | .nsl => []
  | v => match contentA s.h v with
    | some ⟨8, l⟩ => l
    | _ => []
theorem PoolsK.odd {l : List Nod} {n c m : Int} {ps : List Pool} (h : PoolsK l n c m ps) (hl : l.length ≤ 64) : OddP ps := by
  have hlen := h.thr.len
  have l1 := h.thr.chk.len1
  refine ⟨h.tl, by omega, by omega, fun x hx => ?_, fun x hx => ?_⟩
  · obtain ⟨i, hi, rfl⟩ := mem_pn hx
    have hg := h.thr.good i (by omega)
    have := hg.g0
    have := hg.g1
    omega
  · obtain ⟨i, hi, rfl⟩ := mem_pn hx
    have := (h.thr.good i (by omega)).n1
    omega
def sLaw18R : DS := ⟨_, three pkIntsP pkI pkI, fun _ => True, fun _ => .bool true, nou⟩

def inv12a (L : List Int) (s : St) : Inv where
  X := Int × Int
  ok := fun x => (0 ≤ x.1 ∧ x.1 ≤ 2) ∧ DOK (L, x.2)
  sl := fun x => [(44, .int .i64 x.1), (42, .own 101 8)]
  hp := fun x => [(101, .rows 59 8 (contQ s (s.t 42))), (40010, diceO (L, x.2))]
  keep := [50020, 50011]
  me := fun x => (2 - x.1).toNat
def inv12b (L : List Int) (s : St) : Inv where
  X := Int × Int
  ok := fun x => (0 ≤ x.1 ∧ x.1 ≤ 3) ∧ DOK (L, x.2)
  sl := fun x => [(64, .int .i64 x.1), (42, .own 101 8), (62, .own 103 0)]
  hp := fun x => [(101, .rows 59 8 (contQ s (s.t 42))), (103, .rows 3 0 (contI s (s.t 62))), (40010, diceO (L, x.2))]
  keep := [50020, 50011]
  me := fun x => (3 - x.1).toNat
def inv12c (s : St) : Inv where
  X := Int
  ok := fun x => 0 ≤ x ∧ x ≤ 3
  sl := fun x => [(95, .int .i64 x), (42, .own 101 8), (62, .own 103 0), (93, .own 105 0)]
  hp := fun x => [(101, .rows 59 8 (contQ s (s.t 42))), (103, .rows 3 0 (contI s (s.t 62))), (105, .rows 3 0 (contI s (s.t 93)))]
  keep := [50020, 50011, 40010]
  me := fun x => (3 - x).toNat
def jn12 (s : St) : Inv where
  X := List Pool
  ok := fun x => TL x
  sl := fun x => [(11, .irec true 4 x), (42, .own 101 8)]
  hp := fun x => [(101, .rows 59 8 (contQ s (s.t 42)))]
  keep := [50020, 50011, 40010]
  me := fun x => 0
end Go.Proofs.Ytemffnpliflkgaa
namespace Go.Proofs.Ytemffnpliflkgaa
open Go
set_option linter.unusedVariables false

theorem ch_len {p : Pool} {q b : Int} (hg : Good p) (hr : ratesI q b = true) : (chD p q b).l.length ≤ 1048576 := by
  have := (ch_good hg hr).n1
  omega

def inv52 (l : List Nod) (ps : List Pool) (qs bs : List Int) (s c : Int) (st : St) : Inv where
  X := Int
  ok := fun i => 0 ≤ i ∧ i ≤ l.length
  sl := fun i => [(16, .int .i64 i), (14, .own 101 4)]
  hp := fun i => [(101, .rows 80 4 (syM l ps qs bs s c i.toNat))]
  keep := [10000]
  me := fun i => (l.length - i).toNat
def inv52b (ps : List Pool) (s c : Int) (st : St) : Inv where
  X := Int
  ok := fun k => 0 ≤ k ∧ k ≤ ps.length ∧ ∀ j : Nat, (j : Int) < k → ¬ isKp (pn (contP st (st.t 14)) (slotI st 16).toNat).g s c (pn ps j) = true
  sl := fun k => [(17, .int .i64 k), (14, .own 101 4)]
  hp := fun k => [(101, .rows 80 4 (contP st (st.t 14)))]
  keep := [10000]
  me := fun k => (ps.length - k).toNat
set_option maxRecDepth 100000 in
theorem vc52 (l : List Nod) (n : Int) (ps : List Pool) (qs bs : List Int) (s c : Int) (hx : ((WfN l ∧ TL ps) ∧ BL bs) ∧ qs.length ≤ 9223372036854775807) : sSync.vc (EV Try.prog [(102, sNewT.spec), (116, sGoodB.spec), (117, sChange.spec), (118, sCopied.spec)] (invsS [(5, inv52 l ps qs bs s c), (8, inv52b ps s c)]) noInv) Try.f52 ((l, n), ps, qs, bs, s, c, ()) := by
  have e : (((WfN l ∧ BL bs) ∧ qs.length ≤ (9223372036854775807 : Nat)) ∧ ((!decide (syE l n (NilL Pool) qs bs s c = 0)) = true → ∃ (y : Unit), True ∧ syE l n (NilL Pool) qs bs s c = syE l n ps qs bs s c ∧ NilL Pool = syL l n ps qs bs s c) ∧ ((!decide (syE l n (NilL Pool) qs bs s c = 0)) = false → (∃ (x : Int), (0 ≤ x ∧ x ≤ (↑l.length : Int)) ∧ 0 = x ∧ syL l n (NilL Pool) qs bs s c = syM l ps qs bs s c x.toNat ∧ l = l ∧ n = n) ∧ ∀ (x : Int), 0 ≤ x ∧ x ≤ (↑l.length : Int) → (decide (x < (↑(syM l ps qs bs s c x.toNat).length : Int)) = true → (∃ (x_1 : Int), (0 ≤ x_1 ∧ x_1 ≤ (↑ps.length : Int) ∧ ∀ (j : Nat), (↑j : Int) < x_1 → ¬isKp (pn (syM l ps qs bs s c x.toNat) x.toNat).g s c (pn ps j) = true) ∧ 0 = x_1 ∧ syM l ps qs bs s c x.toNat = syM l ps qs bs s c x.toNat ∧ l = l ∧ n = n) ∧ ∀ (x_1 : Int), (0 ≤ x_1 ∧ x_1 ≤ (↑ps.length : Int) ∧ ∀ (j : Nat), (↑j : Int) < x_1 → ¬isKp (pn (syM l ps qs bs s c x.toNat) x.toNat).g s c (pn ps j) = true) → (decide (x_1 < (↑ps.length : Int)) = true → (0 ≤ x_1 ∧ x_1 < (↑ps.length : Int)) ∧ (0 ≤ x ∧ x < (↑(syM l ps qs bs s c x.toNat).length : Int)) ∧ ((!decide ((pn ps x_1.toNat).g = (pn (syM l ps qs bs s c x.toNat) x.toNat).g)) = false → (!decide ((pn ps x_1.toNat).g = (pn (syM l ps qs bs s c x.toNat) x.toNat).g)) = false) ∧ ((!decide ((pn ps x_1.toNat).g = (pn (syM l ps qs bs s c x.toNat) x.toNat).g)) = false → Tame (pn ps x_1.toNat)) ∧ ((!decide ((pn ps x_1.toNat).g = (pn (syM l ps qs bs s c x.toNat) x.toNat).g)) = false → (!decide ((pn ps x_1.toNat).g = (pn (syM l ps qs bs s c x.toNat) x.toNat).g)) = false) ∧ ((!decide ((pn ps x_1.toNat).g = (pn (syM l ps qs bs s c x.toNat) x.toNat).g)) = false → (!decide ((pn ps x_1.toNat).g = (pn (syM l ps qs bs s c x.toNat) x.toNat).g)) = false) ∧ ((!decide ((pn ps x_1.toNat).g = (pn (syM l ps qs bs s c x.toNat) x.toNat).g) || !goodB (pn ps x_1.toNat)) = false → (!decide ((pn ps x_1.toNat).g = (pn (syM l ps qs bs s c x.toNat) x.toNat).g) || !goodB (pn ps x_1.toNat)) = false) ∧ ((!decide ((pn ps x_1.toNat).g = (pn (syM l ps qs bs s c x.toNat) x.toNat).g) || !goodB (pn ps x_1.toNat)) = false → (!decide ((pn ps x_1.toNat).g = (pn (syM l ps qs bs s c x.toNat) x.toNat).g) || !goodB (pn ps x_1.toNat)) = false) ∧ ((!decide ((pn ps x_1.toNat).g = (pn (syM l ps qs bs s c x.toNat) x.toNat).g) || !goodB (pn ps x_1.toNat)) = false → (!decide ((pn ps x_1.toNat).g = (pn (syM l ps qs bs s c x.toNat) x.toNat).g) || !goodB (pn ps x_1.toNat)) = false) ∧ ((!decide ((pn ps x_1.toNat).g = (pn (syM l ps qs bs s c x.toNat) x.toNat).g) || !goodB (pn ps x_1.toNat)) = false → (!decide ((pn ps x_1.toNat).g = (pn (syM l ps qs bs s c x.toNat) x.toNat).g) || !goodB (pn ps x_1.toNat)) = false) ∧ ((!decide ((pn ps x_1.toNat).g = (pn (syM l ps qs bs s c x.toNat) x.toNat).g) || !goodB (pn ps x_1.toNat) || !decide ((pn ps x_1.toNat).s = s)) = false → (!decide ((pn ps x_1.toNat).g = (pn (syM l ps qs bs s c x.toNat) x.toNat).g) || !goodB (pn ps x_1.toNat) || !decide ((pn ps x_1.toNat).s = s)) = false) ∧ ((!decide ((pn ps x_1.toNat).g = (pn (syM l ps qs bs s c x.toNat) x.toNat).g) || !goodB (pn ps x_1.toNat) || !decide ((pn ps x_1.toNat).s = s)) = false → (!decide ((pn ps x_1.toNat).g = (pn (syM l ps qs bs s c x.toNat) x.toNat).g) || !goodB (pn ps x_1.toNat) || !decide ((pn ps x_1.toNat).s = s)) = false) ∧ ((!decide ((pn ps x_1.toNat).g = (pn (syM l ps qs bs s c x.toNat) x.toNat).g) || !goodB (pn ps x_1.toNat) || !decide ((pn ps x_1.toNat).s = s)) = false → (!decide ((pn ps x_1.toNat).g = (pn (syM l ps qs bs s c x.toNat) x.toNat).g) || !goodB (pn ps x_1.toNat) || !decide ((pn ps x_1.toNat).s = s)) = false) ∧ ((!decide ((pn ps x_1.toNat).g = (pn (syM l ps qs bs s c x.toNat) x.toNat).g) || !goodB (pn ps x_1.toNat) || !decide ((pn ps x_1.toNat).s = s)) = false → (!decide ((pn ps x_1.toNat).g = (pn (syM l ps qs bs s c x.toNat) x.toNat).g) || !goodB (pn ps x_1.toNat) || !decide ((pn ps x_1.toNat).s = s)) = false) ∧ ((!decide ((pn ps x_1.toNat).g = (pn (syM l ps qs bs s c x.toNat) x.toNat).g) || !goodB (pn ps x_1.toNat) || !decide ((pn ps x_1.toNat).s = s)) = false → (!decide ((pn ps x_1.toNat).g = (pn (syM l ps qs bs s c x.toNat) x.toNat).g) || !goodB (pn ps x_1.toNat) || !decide ((pn ps x_1.toNat).s = s)) = false) ∧ ((!decide ((pn ps x_1.toNat).g = (pn (syM l ps qs bs s c x.toNat) x.toNat).g) || !goodB (pn ps x_1.toNat) || !decide ((pn ps x_1.toNat).s = s) || !decide ((↑(pn ps x_1.toNat).l.length : Int) = c)) = true → i64R (x_1 + 1) ∧ ∃ (x' : Int), (0 ≤ x' ∧ x' ≤ (↑ps.length : Int) ∧ ∀ (j : Nat), (↑j : Int) < x' → ¬isKp (pn (syM l ps qs bs s c x.toNat) x.toNat).g s c (pn ps j) = true) ∧ ((↑ps.length : Int) - x').toNat < ((↑ps.length : Int) - x_1).toNat ∧ x_1 + 1 = x' ∧ syM l ps qs bs s c x.toNat = syM l ps qs bs s c x.toNat ∧ l = l ∧ n = n) ∧ ((!decide ((pn ps x_1.toNat).g = (pn (syM l ps qs bs s c x.toNat) x.toNat).g) || !goodB (pn ps x_1.toNat) || !decide ((pn ps x_1.toNat).s = s) || !decide ((↑(pn ps x_1.toNat).l.length : Int) = c)) = false → (0 ≤ x ∧ x < (↑qs.length : Int)) ∧ ((!decide ((pn ps x_1.toNat).q = qs.getD x.toNat 0)) = false → (!decide ((pn ps x_1.toNat).q = qs.getD x.toNat 0)) = false) ∧ ((!decide ((pn ps x_1.toNat).q = qs.getD x.toNat 0)) = false → (!decide ((pn ps x_1.toNat).q = qs.getD x.toNat 0)) = false) ∧ ((!decide ((pn ps x_1.toNat).q = qs.getD x.toNat 0)) = false → (!decide ((pn ps x_1.toNat).q = qs.getD x.toNat 0)) = false) ∧ ((!decide ((pn ps x_1.toNat).q = qs.getD x.toNat 0)) = false → 0 ≤ x ∧ x < (↑bs.length : Int)) ∧ ((!decide ((pn ps x_1.toNat).q = qs.getD x.toNat 0)) = false → (!decide ((pn ps x_1.toNat).q = qs.getD x.toNat 0)) = false) ∧ ((!decide ((pn ps x_1.toNat).q = qs.getD x.toNat 0)) = false → (!decide ((pn ps x_1.toNat).q = qs.getD x.toNat 0)) = false) ∧ ((!decide ((pn ps x_1.toNat).q = qs.getD x.toNat 0)) = false → (!decide ((pn ps x_1.toNat).q = qs.getD x.toNat 0)) = false) ∧ ((!decide ((pn ps x_1.toNat).q = qs.getD x.toNat 0)) = false → (!decide ((pn ps x_1.toNat).q = qs.getD x.toNat 0)) = false) ∧ ((!decide ((pn ps x_1.toNat).q = qs.getD x.toNat 0) || !decide ((pn ps x_1.toNat).bu = bs.getD x.toNat 0)) = true → (0 ≤ x ∧ x < (↑qs.length : Int)) ∧ (0 ≤ x ∧ x < (↑bs.length : Int)) ∧ (Tame (pn ps x_1.toNat) ∧ (-1152921504606846976) ≤ bs.getD x.toNat 0 ∧ bs.getD x.toNat (0 : Int) ≤ 1152921504606846976) ∧ (changeG (pn ps x_1.toNat) (qs.getD x.toNat 0) (bs.getD x.toNat 0)).1.l.length ≤ (1048576 : Nat) ∧ (0 ≤ x ∧ x < (↑(syM l ps qs bs s c x.toNat).length : Int)) ∧ i64R (x + 1) ∧ ∃ (x' : Int), (0 ≤ x' ∧ x' ≤ (↑l.length : Int)) ∧ ((↑l.length : Int) - x').toNat < ((↑l.length : Int) - x).toNat ∧ x + 1 = x' ∧ (syM l ps qs bs s c x.toNat).set x.toNat (changeG (pn ps x_1.toNat) (qs.getD x.toNat 0) (bs.getD x.toNat 0)).1 = syM l ps qs bs s c x'.toNat ∧ l = l ∧ n = n) ∧ ((!decide ((pn ps x_1.toNat).q = qs.getD x.toNat 0) || !decide ((pn ps x_1.toNat).bu = bs.getD x.toNat 0)) = false → (pn ps x_1.toNat).l.length ≤ (1048576 : Nat) ∧ (0 ≤ x ∧ x < (↑(syM l ps qs bs s c x.toNat).length : Int)) ∧ i64R (x + 1) ∧ ∃ (x' : Int), (0 ≤ x' ∧ x' ≤ (↑l.length : Int)) ∧ ((↑l.length : Int) - x').toNat < ((↑l.length : Int) - x).toNat ∧ x + 1 = x' ∧ (syM l ps qs bs s c x.toNat).set x.toNat (pn ps x_1.toNat) = syM l ps qs bs s c x'.toNat ∧ l = l ∧ n = n))) ∧ (decide (x_1 < (↑ps.length : Int)) = false → i64R (x + 1) ∧ ∃ (x' : Int), (0 ≤ x' ∧ x' ≤ (↑l.length : Int)) ∧ ((↑l.length : Int) - x').toNat < ((↑l.length : Int) - x).toNat ∧ x + 1 = x' ∧ syM l ps qs bs s c x.toNat = syM l ps qs bs s c x'.toNat ∧ l = l ∧ n = n)) ∧ (decide (x < (↑(syM l ps qs bs s c x.toNat).length : Int)) = false → ∃ (y : Unit), True ∧ 0 = syE l n ps qs bs s c ∧ syM l ps qs bs s c x.toNat = syL l n ps qs bs s c))) = sSync.vc (EV Try.prog [(102, sNewT.spec), (116, sGoodB.spec), (117, sChange.spec), (118, sCopied.spec)] (invsS [(5, inv52 l ps qs bs s c), (8, inv52b ps s c)]) noInv) Try.f52 ((l, n), ps, qs, bs, s, c, ()) := by kernel_rfl
  rw [← e]
  clear e
  simp only [imp_self, true_and, and_true, exists_const]
  simp only [i64R, Int.reduceNeg, decide_eq_true_eq, decide_eq_false_iff_not, Bool.not_eq_true', Bool.not_eq_false', Bool.or_eq_true, Bool.or_eq_false_iff ]
  try simp only [NilL_eq]
  obtain ⟨⟨⟨hw, ht, hl⟩, hb, hbl⟩, hq⟩ := hx
  simp only [syM_len]
  refine ⟨⟨⟨hw, hb, hbl⟩, hq⟩, fun h => ?_, fun h => ?_⟩
  · rw [syE_nil (ps := ps)] at h
    exact ⟨syE_nil, by rw [syL, if_neg h]⟩
  have hE : syE l n ps qs bs s c = 0 := by
    rw [syE_nil (ps := ps)] at h
    exact h
  have hA : ¬(chkB l n = false ∨ qs.length ≠ l.length ∨ bs.length ≠ l.length) ∧ syOk l ps qs bs s c = true := by
    unfold syE at hE
    by_cases c1 : chkB l n = false ∨ qs.length ≠ l.length ∨ bs.length ≠ l.length
    · rw [if_pos c1] at hE; omega
    · rw [if_neg c1] at hE
      by_cases c2 : syOk l ps qs bs s c = true
      · exact ⟨c1, c2⟩
      · rw [if_neg c2] at hE; omega
  obtain ⟨nb, ok⟩ := hA
  have hc : chkB l n = true := by
    cases e : chkB l n
    · exact absurd (.inl e) nb
    · rfl
  have l2 := (chkB_iff.1 hc).len2
  have eq : qs.length = l.length := Decidable.byContradiction fun h => nb (.inr (.inl h))
  have eb : bs.length = l.length := Decidable.byContradiction fun h => nb (.inr (.inr h))
  have okI := syOk_iff.1 ok
  have okN : ∀ i, i < l.length → (newG (nd l i).id (qs.getD i 0) (bs.getD i 0) s c).2 = 0 := fun i hi => by
    have := okI i hi
    rw [syI, sync_new] at this
    exact this
  have gI : ∀ x : Int, 0 ≤ x → x < l.length → (pn (syM l ps qs bs s c x.toNat) x.toNat).g = (nd l x.toNat).id := fun x h0 h1 => by
    rw [syM_get (by omega), syI, sync_nil, (new_ok (okN _ (by omega))).2.2]
    rfl
  refine ⟨⟨0, by omega, rfl, ?_⟩, fun x hx => ⟨fun hlt => ⟨⟨0, ⟨by omega, by omega, fun j hj => by omega⟩, rfl⟩, fun k hk => ⟨fun hk2 => ⟨by omega, by omega, fun _ => ht _ (pn_mem (by omega)), fun hn => ⟨by omega, k + 1, ⟨by omega, by omega, fun j hj => ?_⟩, by omega, rfl⟩, fun hm => ?_⟩, fun hge => ?_⟩⟩, fun hge => ?_⟩⟩
  · rw [syL, if_pos h]
    exact (syM_zero _ _ _ _ _ _).symm
  · by_cases e : (j : Int) < k
    · exact hk.2.2 j e
    · have : j = k.toNat := by omega
      rw [this]
      simp only [isKp, Bool.and_eq_true, decide_eq_true_eq]
      rintro ⟨⟨⟨a, b⟩, c⟩, d⟩
      rcases hn with ((h | h) | h) | h
      · exact h a
      · rw [b] at h; cases h
      · exact h c
      · exact h d
  · have eg := gI x hx.1 hlt
    rw [eg] at hm hk
    have hk3 : keptP ps (nd l x.toNat).id s c = some (pn ps k.toNat) := kept_at (fun j hj => hk.2.2 j (by omega)) (by omega) (by simp only [isKp, Bool.and_eq_true, decide_eq_true_eq]; exact hm)
    have hr := new_rates (okN x.toNat (by omega))
    have hS : syI l ps qs bs s c x.toNat = (if (pn ps k.toNat).q = qs.getD x.toNat 0 ∧ (pn ps k.toNat).bu = bs.getD x.toNat 0 then pn ps k.toNat else chD (pn ps k.toNat) (qs.getD x.toNat 0) (bs.getD x.toNat 0), 0) := sync_some hk3 hr
    have hg := (kept_some hk3).2.2.1
    have tp := ht _ (pn_mem (l := ps) (i := k.toNat) (by omega))
    have hbx := hb x.toNat (by omega)
    have e1 : (x + 1).toNat = x.toNat + 1 := by omega
    have nxt : ∀ P, (syI l ps qs bs s c x.toNat).1 = P → (-9223372036854775808 ≤ x + 1 ∧ x + 1 ≤ 9223372036854775807) ∧ ∃ x', (0 ≤ x' ∧ x' ≤ (l.length : Int)) ∧ ((l.length : Int) - x').toNat < ((l.length : Int) - x).toNat ∧ x + 1 = x' ∧ (syM l ps qs bs s c x.toNat).set x.toNat P = syM l ps qs bs s c x'.toNat := fun P hP => ⟨by omega, x + 1, by omega, by omega, rfl, by rw [← hP, syM_step (by omega), e1]⟩
    refine ⟨by omega, fun _ => by omega, fun he => ⟨by omega, by omega, ⟨tp, hbx⟩, ?_, by omega, nxt _ ?_⟩, fun he => ⟨tp.len, by omega, nxt _ ?_⟩⟩
    · rw [change_ok hg hr]; exact ch_len hg hr
    · rw [hS, change_ok hg hr, if_neg (by rintro ⟨a, b⟩; rcases he with h | h; exact h a; exact h b)]
    · rw [hS, if_pos he]
  · have eg := gI x hx.1 hlt
    rw [eg] at hk
    have hk3 : keptP ps (nd l x.toNat).id s c = none := kept_none fun j hj => hk.2.2 j (by omega)
    refine ⟨by omega, x + 1, by omega, by omega, rfl, ?_⟩
    rw [show (x + 1).toNat = x.toNat + 1 by omega]
    exact syM_same (by omega) (by rw [syI, syI, sync_none hk3, sync_nil])
  · have hx2 : l.length ≤ x.toNat := by omega
    exact ⟨hE.symm, by rw [syM_all _ _ _ _ _ _ hx2, syL, if_pos hE]⟩
end Go.Proofs.Ytemffnpliflkgaa
namespace Go.Proofs.Ytemffnpliflkgaa
open Go
set_option linter.unusedVariables false

theorem TL.nil : TL [] := ⟨fun x h => (by cases h), Nat.zero_le _⟩
theorem TL.map {ps : List Pool} (h : TL ps) {F : Pool → Pool} (hF : ∀ p, p ∈ ps → Tame (F p)) : TL (ps.map F) := ⟨fun x hx => by
  obtain ⟨y, hy, rfl⟩ := List.mem_map.1 hx
  exact hF y hy, by rw [List.length_map]; exact h.2⟩
theorem id1_tame {p : Pool} {c : Int} (h : Tame p) : Tame (id1 c p) := by
  unfold id1
  split
  · rename_i e
    by_cases hu : useI p c = 0
    · obtain ⟨hg, h0, h1⟩ := use_ok hu
      rw [returnG_ok hg h0 h1]
      exact (hg.back (by omega)).tame
    · rw [returnG, if_neg hu] at e
      exact absurd e hu
  · exact h
theorem idL_tl {l : List Nod} {n : Int} {ps : List Pool} {c : Int} (h : TL ps) : TL (idL l n ps c) := by
  unfold idL
  split
  · exact TL.nil
  · exact h.map fun p hp => id1_tame (h.1 p hp)
theorem rf1_tame {p : Pool} {due : List Int} (h : Tame p) : Tame (rf1 due p) := by
  unfold rf1
  split
  · rename_i e
    by_cases c1 : goodB p = false
    · rw [refillG, if_pos c1] at e
      cases e.1
    · by_cases c2 : 1099511627776 ≤ p.pe
      · rw [refillG, if_neg c1, if_pos c2] at e
        cases e.1
      · rw [refillG, if_neg c1, if_neg c2]
        exact (refill_facts (goodB_iff.1 (by simpa using c1)) (by omega)).1.tame
  · exact h
theorem rfL_tl {l : List Nod} {n : Int} {ps : List Pool} {due : List Int} (h : TL ps) : TL (rfL l n ps due) := by
  unfold rfL
  split
  · exact TL.nil
  · exact h.map fun p hp => rf1_tame (h.1 p hp)
theorem spL_tl {l : List Nod} {n : Int} {ps : List Pool} {g c : Int} (h : TL ps) : TL (spL l n ps g c) := by
  unfold spL
  split
  · rename_i hE
    obtain ⟨hT, hg, h0, h1⟩ := spE_ok hE
    refine h.map fun p hp => ?_
    obtain ⟨i, hi, rfl⟩ := mem_pn hp
    exact (sp1_facts hT h0 h1 (by rw [← hT.len]; exact hi)).1.tame
  · exact TL.nil
theorem syE_ok {l : List Nod} {n : Int} {ps : List Pool} {qs bs : List Int} {s c : Int} (hE : syE l n ps qs bs s c = 0) : ChkP l n ∧ ∀ i, i < l.length → (syI l ps qs bs s c i).2 = 0 := by
  unfold syE at hE
  by_cases c1 : chkB l n = false ∨ qs.length ≠ l.length ∨ bs.length ≠ l.length
  · rw [if_pos c1] at hE; omega
  · rw [if_neg c1] at hE
    by_cases c2 : syOk l ps qs bs s c = true
    · refine ⟨?_, syOk_iff.1 c2⟩
      cases e : chkB l n
      · exact absurd (.inl e) c1
      · exact chkB_iff.1 e
    · rw [if_neg c2] at hE; omega
theorem sync_tame {ps : List Pool} {g q b s c : Int} (h : (sync1 ps g q b s c).2 = 0) : Tame (sync1 ps g q b s c).1 := by
  unfold sync1 at h ⊢
  by_cases e : (keptG ps g q b s c).2 = true
  · rw [if_pos e]
    obtain ⟨p, h1, h2⟩ := kept_rates e
    rw [kept_true h1 h2]
    dsimp only
    have hg := (kept_some h1).2.2.1
    split
    · exact hg.tame
    · exact (ch_good hg h2).tame
  · rw [if_neg e] at h ⊢
    obtain ⟨_, h2, h3⟩ := new_ok h
    rw [h3]
    exact h2.tame
theorem syL_tl {l : List Nod} {n : Int} {ps : List Pool} {qs bs : List Int} {s c : Int} : TL (syL l n ps qs bs s c) := by
  unfold syL
  split
  · rename_i hE
    obtain ⟨hc, hi⟩ := syE_ok hE
    have l2 := hc.len2
    refine ⟨fun x hx => ?_, by rw [syT_len]; omega⟩
    obtain ⟨j, hj, rfl⟩ := List.mem_map.1 hx
    rw [List.mem_range] at hj
    exact sync_tame (hi j hj)
  · exact TL.nil
theorem new_thr {l : List Nod} {n : Int} {q b : List Int} {s c : Int} (hE : syE l n [] q b s c = 0) : thrB l n (syL l n [] q b s c) = true := by
  obtain ⟨hc, hi⟩ := syE_ok hE
  have l1 := hc.len1
  have o : ∀ i, i < l.length → Good (newP (nd l i).id (q.getD i 0) (b.getD i 0) s c.toNat) ∧ syI l [] q b s c i = (newP (nd l i).id (q.getD i 0) (b.getD i 0) s c.toNat, 0) := fun i h => by
    have h1 := hi i h
    rw [syI, sync_nil] at h1 ⊢
    obtain ⟨_, h2, h3⟩ := new_ok h1
    exact ⟨h2, h3⟩
  have e : ∀ i, i < l.length → pn (syL l n [] q b s c) i = newP (nd l i).id (q.getD i 0) (b.getD i 0) s c.toNat := fun i h => by
    rw [syL, if_pos hE, pn_get (by rw [syT_len]; exact h)]
    simp only [syT, List.getElem_map, List.getElem_range]
    rw [(o i h).2]
  have ln : ∀ i, i < l.length → (pn (syL l n [] q b s c) i).l.length = c.toNat := fun i h => by rw [e i h]; simp [newP]
  exact thrB_iff.2 ⟨hc, by rw [syL, if_pos hE, syT_len], fun i h => by rw [e i h]; rfl, fun i h => by rw [e i h]; exact (o i h).1, fun i h => by rw [ln i h, ln 0 (by omega)]⟩
def rowsT (s : St) (id : Nat) : List Nod := match s.h id with
  | some (.cells _ [v, _]) => (match contentA s.h v with
    | some ⟨3, l⟩ => l
    | _ => [])
  | _ => []
def cellT (s : St) (id : Nat) : Int := match s.h id with
  | some (.cells _ [_, .int .i64 n]) => n
  | _ => 0
def contTR (s : St) (v : AV) : List TreeR := match v with
  | .nsl => []
  | v => match contentA s.h v with
    | some ⟨9, l⟩ => l
    | _ => []

def inv8a (L : List Int) (s : St) : Inv where
  X := Int × Int
  ok := fun x => (0 ≤ x.1 ∧ x.1 ≤ 2) ∧ DOK (L, x.2)
  sl := fun x => [(54, .int .i64 x.1), (52, .own 101 8)]
  hp := fun x => [(101, .rows 59 8 (contQ s (s.t 52))), (40010, diceO (L, x.2)), (50040, .cells 29 [.irec true 3 (rowsT s 50040), .int .i64 (cellT s 50040)]), (50050, .cells 29 [.irec true 3 (rowsT s 50050), .int .i64 (cellT s 50050)])]
  keep := []
  me := fun x => (2 - x.1).toNat
def inv8b (L : List Int) (s : St) : Inv where
  X := Int × Int
  ok := fun x => (0 ≤ x.1 ∧ x.1 ≤ 3) ∧ DOK (L, x.2)
  sl := fun x => [(64, .int .i64 x.1), (52, .own 101 8), (62, .own 103 0)]
  hp := fun x => [(101, .rows 59 8 (contQ s (s.t 52))), (103, .rows 3 0 (contI s (s.t 62))), (40010, diceO (L, x.2))]
  keep := [50040, 50050]
  me := fun x => (3 - x.1).toNat
def inv8c (L : List Int) (s : St) : Inv where
  X := Int × Int
  ok := fun x => (0 ≤ x.1 ∧ x.1 ≤ 2) ∧ DOK (L, x.2)
  sl := fun x => [(125, .int .i64 x.1), (52, .own 101 8), (123, .own 103 9)]
  hp := fun x => [(101, .rows 59 8 (contQ s (s.t 52))), (103, .rows 29 9 (contTR s (s.t 123))), (40010, diceO (L, x.2))]
  keep := [50040, 50050]
  me := fun x => (2 - x.1).toNat
def jn8a (s : St) : Inv where
  X := List Pool
  ok := fun x => TL x
  sl := fun x => [(13, .irec true 4 x), (52, .own 101 8)]
  hp := fun x => [(101, .rows 59 8 (contQ s (s.t 52)))]
  keep := [50040, 50050, 40010]
  me := fun x => 0
def jn8b (s : St) : Inv where
  X := List Nod × Int
  ok := fun x => ChkP x.1 x.2 ∧ x.1.length ≤ 64
  sl := fun x => [(23, .ptr 105 0), (52, .own 101 8), (123, .own 103 9)]
  hp := fun x => [(101, .rows 59 8 (contQ s (s.t 52))), (103, .rows 29 9 (contTR s (s.t 123))), (105, .cells 29 [.irec true 3 x.1, .int .i64 x.2])]
  keep := [50040, 50050, 40010]
  me := fun x => 0
set_option maxRecDepth 100000 in
theorem vc8 (L : List Int) (sl cp : Int) (hx : True) : sLaw18R.vc (EV Try.prog [(14, sLight.spec), (38, sSane18.spec), (16, sRoll.spec), (17, sTree.spec), (23, sNext.spec), (39, sPools.spec), (40, sOdd.spec), (41, sGroup.spec), (42, sSpT.spec), (43, sSpT.spec), (44, sSameL.spec), (45, sIdT.spec), (46, sIdT.spec), (47, sSome.spec), (48, sRfT.spec), (49, sRfT.spec), (50, sNums.spec), (51, sSync.spec), (52, sSync.spec), (53, sNewT.spec), (54, sThr.spec)] (invsS [(8, inv8a L), (11, inv8b L), (23, inv8c L)]) (invsS [(10, jn8a), (25, jn8b)])) Try.f8 (L, sl, cp, ()) := by
  have e : (True ∧ ((!decide ((↑L.length : Int) ≤ 600)) = true → True ∧ ∃ (y : Unit), True ∧ true = true) ∧ ((!decide ((↑L.length : Int) ≤ 600)) = false → True ∧ (DOK (L, 0) ∧ (0 : Int) ≤ 7 ∧ (7 : Int) ≤ 20) ∧ (∀ (y : (List Nod × Int) × Int), true = true) ∧ ∀ (y : (List Nod × Int) × Int), (TreeP y.1.1 y.1.2 ∧ (↑y.1.1.length : Int) ≤ (7 : Int) + 1) ∧ 0 ≤ y.2 ∧ y.2 ≤ (↑L.length : Int) → (DOK (L, y.2) ∧ (0 : Int) ≤ 7 ∧ (7 : Int) ≤ 20) ∧ (∀ (y : (List Nod × Int) × Int), true = true) ∧ ∀ (y_1 : (List Nod × Int) × Int), (TreeP y_1.1.1 y_1.1.2 ∧ (↑y_1.1.1.length : Int) ≤ (7 : Int) + 1) ∧ y.2 ≤ y_1.2 ∧ y_1.2 ≤ (↑L.length : Int) → (DOK (L, y_1.2) ∧ (3 : Int) ≤ 4611686018427387904) ∧ (∀ (y : Int × Int), true = true) ∧ ∀ (y_2 : Int × Int), ((1 : Int) ≤ 3 → 0 ≤ y_2.1 ∧ y_2.1 < 3) ∧ ((3 : Int) < 1 → y_2.1 = 0) ∧ y_1.2 ≤ y_2.2 ∧ y_2.2 ≤ (↑L.length : Int) → i64R (1 + y_2.1) ∧ ((DOK (L, y_2.2) ∧ ChkP y.1.1 y.1.2) ∧ (1 : Int) ≤ 1 + y_2.1 ∧ 1 + y_2.1 ≤ 16) ∧ (∀ (y : List Pool × Int), true = true) ∧ ∀ (y_3 : List Pool × Int), PoolsK y.1.1 y.1.2 (1 + y_2.1) 25 y_3.1 ∧ y_2.2 ≤ y_3.2 ∧ y_3.2 ≤ (↑L.length : Int) → (DOK (L, y_3.2) ∧ OddP y_3.1) ∧ (∀ (y : List Pool × Int), true = true) ∧ ∀ (y_4 : List Pool × Int), (TL y_4.1 ∧ y_4.1.length ≤ (64 : Nat)) ∧ y_3.2 ≤ y_4.2 ∧ y_4.2 ≤ (↑L.length : Int) → (∃ (x : Int × Int), ((0 ≤ x.1 ∧ x.1 ≤ 2) ∧ DOK (L, x.2)) ∧ 0 = x.1 ∧ y_3.1 :: y_4.1 :: NilL (List Pool) = y_3.1 :: y_4.1 :: NilL (List Pool) ∧ L = L ∧ y_4.2 = x.2 ∧ y.1.1 = y.1.1 ∧ y.1.2 = y.1.2 ∧ y_1.1.1 = y_1.1.1 ∧ y_1.1.2 = y_1.1.2) ∧ ∀ (x : Int × Int), (0 ≤ x.1 ∧ x.1 ≤ 2) ∧ DOK (L, x.2) → (decide (x.1 < (↑(y_3.1 :: y_4.1 :: NilL (List Pool)).length : Int)) = true → ((0 ≤ x.1 ∧ x.1 < (↑(y_3.1 :: y_4.1 :: NilL (List Pool)).length : Int)) ∧ ∃ (x_1 : List Pool), TL x_1 ∧ (y_3.1 :: y_4.1 :: NilL (List Pool)).getD x.1.toNat (NilL Pool) = x_1 ∧ y_3.1 :: y_4.1 :: NilL (List Pool) = y_3.1 :: y_4.1 :: NilL (List Pool) ∧ y.1.1 = y.1.1 ∧ y.1.2 = y.1.2 ∧ y_1.1.1 = y_1.1.1 ∧ y_1.1.2 = y_1.1.2 ∧ L = L ∧ x.2 = x.2) ∧ ∀ (x_1 : List Pool), TL x_1 → (DOK (L, x.2) ∧ (4 : Int) ≤ 4611686018427387904) ∧ (∀ (y : Int × Int), true = true) ∧ ∀ (y_5 : Int × Int), ((1 : Int) ≤ 4 → 0 ≤ y_5.1 ∧ y_5.1 < 4) ∧ ((4 : Int) < 1 → y_5.1 = 0) ∧ x.2 ≤ y_5.2 ∧ y_5.2 ≤ (↑L.length : Int) → i64R (y_5.1 - 1) ∧ (∃ (x : Int × Int), ((0 ≤ x.1 ∧ x.1 ≤ 3) ∧ DOK (L, x.2)) ∧ 0 = x.1 ∧ y_3.1 :: y_4.1 :: NilL (List Pool) = y_3.1 :: y_4.1 :: NilL (List Pool) ∧ cp :: (y_5.1 - 1) :: 0 :: NilL Int = cp :: (y_5.1 - 1) :: 0 :: NilL Int ∧ L = L ∧ y_5.2 = x.2 ∧ y.1.1 = y.1.1 ∧ y.1.2 = y.1.2 ∧ y_1.1.1 = y_1.1.1 ∧ y_1.1.2 = y_1.1.2) ∧ ∀ (x_2 : Int × Int), (0 ≤ x_2.1 ∧ x_2.1 ≤ 3) ∧ DOK (L, x_2.2) → (decide (x_2.1 < (↑(cp :: (y_5.1 - 1) :: 0 :: NilL Int).length : Int)) = true → (0 ≤ x_2.1 ∧ x_2.1 < (↑(cp :: (y_5.1 - 1) :: 0 :: NilL Int).length : Int)) ∧ (DOK (L, x_2.2) ∧ (1 : Nat) ≤ y.1.1.length ∧ y.1.1.length ≤ (64 : Nat)) ∧ (∀ (y : Int × Int), true = true) ∧ ∀ (y_6 : Int × Int), (y_6.1 ∈ ids y.1.1 ∨ (-1) ≤ y_6.1 ∧ y_6.1 ≤ 7) ∧ x_2.2 ≤ y_6.2 ∧ y_6.2 ≤ (↑L.length : Int) → (WfN y.1.1 ∧ TL x_1) ∧ (WfN y.1.1 ∧ TL x_1) ∧ ((!decide (spE y.1.1 y.1.2 x_1 y_6.1 ((cp :: (y_5.1 - 1) :: 0 :: NilL Int).getD x_2.1.toNat 0) = spE y.1.1 y.1.2 x_1 y_6.1 ((cp :: (y_5.1 - 1) :: 0 :: NilL Int).getD x_2.1.toNat 0))) = false → (!decide (spE y.1.1 y.1.2 x_1 y_6.1 ((cp :: (y_5.1 - 1) :: 0 :: NilL Int).getD x_2.1.toNat 0) = spE y.1.1 y.1.2 x_1 y_6.1 ((cp :: (y_5.1 - 1) :: 0 :: NilL Int).getD x_2.1.toNat 0))) = false) ∧ ((!decide (spE y.1.1 y.1.2 x_1 y_6.1 ((cp :: (y_5.1 - 1) :: 0 :: NilL Int).getD x_2.1.toNat 0) = spE y.1.1 y.1.2 x_1 y_6.1 ((cp :: (y_5.1 - 1) :: 0 :: NilL Int).getD x_2.1.toNat 0))) = false → (!decide (spE y.1.1 y.1.2 x_1 y_6.1 ((cp :: (y_5.1 - 1) :: 0 :: NilL Int).getD x_2.1.toNat 0) = spE y.1.1 y.1.2 x_1 y_6.1 ((cp :: (y_5.1 - 1) :: 0 :: NilL Int).getD x_2.1.toNat 0))) = false) ∧ ((!decide (spE y.1.1 y.1.2 x_1 y_6.1 ((cp :: (y_5.1 - 1) :: 0 :: NilL Int).getD x_2.1.toNat 0) = spE y.1.1 y.1.2 x_1 y_6.1 ((cp :: (y_5.1 - 1) :: 0 :: NilL Int).getD x_2.1.toNat 0))) = false → TL (spL y.1.1 y.1.2 x_1 y_6.1 ((cp :: (y_5.1 - 1) :: 0 :: NilL Int).getD x_2.1.toNat 0))) ∧ ((!decide (spE y.1.1 y.1.2 x_1 y_6.1 ((cp :: (y_5.1 - 1) :: 0 :: NilL Int).getD x_2.1.toNat 0) = spE y.1.1 y.1.2 x_1 y_6.1 ((cp :: (y_5.1 - 1) :: 0 :: NilL Int).getD x_2.1.toNat 0))) = false → (!decide (spE y.1.1 y.1.2 x_1 y_6.1 ((cp :: (y_5.1 - 1) :: 0 :: NilL Int).getD x_2.1.toNat 0) = spE y.1.1 y.1.2 x_1 y_6.1 ((cp :: (y_5.1 - 1) :: 0 :: NilL Int).getD x_2.1.toNat 0))) = false) ∧ ((!decide (spE y.1.1 y.1.2 x_1 y_6.1 ((cp :: (y_5.1 - 1) :: 0 :: NilL Int).getD x_2.1.toNat 0) = spE y.1.1 y.1.2 x_1 y_6.1 ((cp :: (y_5.1 - 1) :: 0 :: NilL Int).getD x_2.1.toNat 0))) = false → (!decide (spE y.1.1 y.1.2 x_1 y_6.1 ((cp :: (y_5.1 - 1) :: 0 :: NilL Int).getD x_2.1.toNat 0) = spE y.1.1 y.1.2 x_1 y_6.1 ((cp :: (y_5.1 - 1) :: 0 :: NilL Int).getD x_2.1.toNat 0))) = false) ∧ ((!decide (spE y.1.1 y.1.2 x_1 y_6.1 ((cp :: (y_5.1 - 1) :: 0 :: NilL Int).getD x_2.1.toNat 0) = spE y.1.1 y.1.2 x_1 y_6.1 ((cp :: (y_5.1 - 1) :: 0 :: NilL Int).getD x_2.1.toNat 0)) || !eqL (spL y.1.1 y.1.2 x_1 y_6.1 ((cp :: (y_5.1 - 1) :: 0 :: NilL Int).getD x_2.1.toNat 0)) (spL y.1.1 y.1.2 x_1 y_6.1 ((cp :: (y_5.1 - 1) :: 0 :: NilL Int).getD x_2.1.toNat 0))) = false → (!decide (spE y.1.1 y.1.2 x_1 y_6.1 ((cp :: (y_5.1 - 1) :: 0 :: NilL Int).getD x_2.1.toNat 0) = spE y.1.1 y.1.2 x_1 y_6.1 ((cp :: (y_5.1 - 1) :: 0 :: NilL Int).getD x_2.1.toNat 0)) || !eqL (spL y.1.1 y.1.2 x_1 y_6.1 ((cp :: (y_5.1 - 1) :: 0 :: NilL Int).getD x_2.1.toNat 0)) (spL y.1.1 y.1.2 x_1 y_6.1 ((cp :: (y_5.1 - 1) :: 0 :: NilL Int).getD x_2.1.toNat 0))) = false) ∧ ((!decide (spE y.1.1 y.1.2 x_1 y_6.1 ((cp :: (y_5.1 - 1) :: 0 :: NilL Int).getD x_2.1.toNat 0) = spE y.1.1 y.1.2 x_1 y_6.1 ((cp :: (y_5.1 - 1) :: 0 :: NilL Int).getD x_2.1.toNat 0)) || !eqL (spL y.1.1 y.1.2 x_1 y_6.1 ((cp :: (y_5.1 - 1) :: 0 :: NilL Int).getD x_2.1.toNat 0)) (spL y.1.1 y.1.2 x_1 y_6.1 ((cp :: (y_5.1 - 1) :: 0 :: NilL Int).getD x_2.1.toNat 0))) = false → (!decide (spE y.1.1 y.1.2 x_1 y_6.1 ((cp :: (y_5.1 - 1) :: 0 :: NilL Int).getD x_2.1.toNat 0) = spE y.1.1 y.1.2 x_1 y_6.1 ((cp :: (y_5.1 - 1) :: 0 :: NilL Int).getD x_2.1.toNat 0)) || !eqL (spL y.1.1 y.1.2 x_1 y_6.1 ((cp :: (y_5.1 - 1) :: 0 :: NilL Int).getD x_2.1.toNat 0)) (spL y.1.1 y.1.2 x_1 y_6.1 ((cp :: (y_5.1 - 1) :: 0 :: NilL Int).getD x_2.1.toNat 0))) = false) ∧ ((!decide (spE y.1.1 y.1.2 x_1 y_6.1 ((cp :: (y_5.1 - 1) :: 0 :: NilL Int).getD x_2.1.toNat 0) = spE y.1.1 y.1.2 x_1 y_6.1 ((cp :: (y_5.1 - 1) :: 0 :: NilL Int).getD x_2.1.toNat 0)) || !eqL (spL y.1.1 y.1.2 x_1 y_6.1 ((cp :: (y_5.1 - 1) :: 0 :: NilL Int).getD x_2.1.toNat 0)) (spL y.1.1 y.1.2 x_1 y_6.1 ((cp :: (y_5.1 - 1) :: 0 :: NilL Int).getD x_2.1.toNat 0))) = false → (!decide (spE y.1.1 y.1.2 x_1 y_6.1 ((cp :: (y_5.1 - 1) :: 0 :: NilL Int).getD x_2.1.toNat 0) = spE y.1.1 y.1.2 x_1 y_6.1 ((cp :: (y_5.1 - 1) :: 0 :: NilL Int).getD x_2.1.toNat 0)) || !eqL (spL y.1.1 y.1.2 x_1 y_6.1 ((cp :: (y_5.1 - 1) :: 0 :: NilL Int).getD x_2.1.toNat 0)) (spL y.1.1 y.1.2 x_1 y_6.1 ((cp :: (y_5.1 - 1) :: 0 :: NilL Int).getD x_2.1.toNat 0))) = false) ∧ ((!decide (spE y.1.1 y.1.2 x_1 y_6.1 ((cp :: (y_5.1 - 1) :: 0 :: NilL Int).getD x_2.1.toNat 0) = spE y.1.1 y.1.2 x_1 y_6.1 ((cp :: (y_5.1 - 1) :: 0 :: NilL Int).getD x_2.1.toNat 0)) || !eqL (spL y.1.1 y.1.2 x_1 y_6.1 ((cp :: (y_5.1 - 1) :: 0 :: NilL Int).getD x_2.1.toNat 0)) (spL y.1.1 y.1.2 x_1 y_6.1 ((cp :: (y_5.1 - 1) :: 0 :: NilL Int).getD x_2.1.toNat 0))) = false → WfN y.1.1 ∧ TL x_1) ∧ ((!decide (spE y.1.1 y.1.2 x_1 y_6.1 ((cp :: (y_5.1 - 1) :: 0 :: NilL Int).getD x_2.1.toNat 0) = spE y.1.1 y.1.2 x_1 y_6.1 ((cp :: (y_5.1 - 1) :: 0 :: NilL Int).getD x_2.1.toNat 0)) || !eqL (spL y.1.1 y.1.2 x_1 y_6.1 ((cp :: (y_5.1 - 1) :: 0 :: NilL Int).getD x_2.1.toNat 0)) (spL y.1.1 y.1.2 x_1 y_6.1 ((cp :: (y_5.1 - 1) :: 0 :: NilL Int).getD x_2.1.toNat 0))) = false → (!decide (spE y.1.1 y.1.2 x_1 y_6.1 ((cp :: (y_5.1 - 1) :: 0 :: NilL Int).getD x_2.1.toNat 0) = spE y.1.1 y.1.2 x_1 y_6.1 ((cp :: (y_5.1 - 1) :: 0 :: NilL Int).getD x_2.1.toNat 0)) || !eqL (spL y.1.1 y.1.2 x_1 y_6.1 ((cp :: (y_5.1 - 1) :: 0 :: NilL Int).getD x_2.1.toNat 0)) (spL y.1.1 y.1.2 x_1 y_6.1 ((cp :: (y_5.1 - 1) :: 0 :: NilL Int).getD x_2.1.toNat 0))) = false) ∧ ((!decide (spE y.1.1 y.1.2 x_1 y_6.1 ((cp :: (y_5.1 - 1) :: 0 :: NilL Int).getD x_2.1.toNat 0) = spE y.1.1 y.1.2 x_1 y_6.1 ((cp :: (y_5.1 - 1) :: 0 :: NilL Int).getD x_2.1.toNat 0)) || !eqL (spL y.1.1 y.1.2 x_1 y_6.1 ((cp :: (y_5.1 - 1) :: 0 :: NilL Int).getD x_2.1.toNat 0)) (spL y.1.1 y.1.2 x_1 y_6.1 ((cp :: (y_5.1 - 1) :: 0 :: NilL Int).getD x_2.1.toNat 0))) = false → (!decide (spE y.1.1 y.1.2 x_1 y_6.1 ((cp :: (y_5.1 - 1) :: 0 :: NilL Int).getD x_2.1.toNat 0) = spE y.1.1 y.1.2 x_1 y_6.1 ((cp :: (y_5.1 - 1) :: 0 :: NilL Int).getD x_2.1.toNat 0)) || !eqL (spL y.1.1 y.1.2 x_1 y_6.1 ((cp :: (y_5.1 - 1) :: 0 :: NilL Int).getD x_2.1.toNat 0)) (spL y.1.1 y.1.2 x_1 y_6.1 ((cp :: (y_5.1 - 1) :: 0 :: NilL Int).getD x_2.1.toNat 0))) = false) ∧ ((!decide (spE y.1.1 y.1.2 x_1 y_6.1 ((cp :: (y_5.1 - 1) :: 0 :: NilL Int).getD x_2.1.toNat 0) = spE y.1.1 y.1.2 x_1 y_6.1 ((cp :: (y_5.1 - 1) :: 0 :: NilL Int).getD x_2.1.toNat 0)) || !eqL (spL y.1.1 y.1.2 x_1 y_6.1 ((cp :: (y_5.1 - 1) :: 0 :: NilL Int).getD x_2.1.toNat 0)) (spL y.1.1 y.1.2 x_1 y_6.1 ((cp :: (y_5.1 - 1) :: 0 :: NilL Int).getD x_2.1.toNat 0))) = false → (!decide (spE y.1.1 y.1.2 x_1 y_6.1 ((cp :: (y_5.1 - 1) :: 0 :: NilL Int).getD x_2.1.toNat 0) = spE y.1.1 y.1.2 x_1 y_6.1 ((cp :: (y_5.1 - 1) :: 0 :: NilL Int).getD x_2.1.toNat 0)) || !eqL (spL y.1.1 y.1.2 x_1 y_6.1 ((cp :: (y_5.1 - 1) :: 0 :: NilL Int).getD x_2.1.toNat 0)) (spL y.1.1 y.1.2 x_1 y_6.1 ((cp :: (y_5.1 - 1) :: 0 :: NilL Int).getD x_2.1.toNat 0))) = false) ∧ ((!decide (spE y.1.1 y.1.2 x_1 y_6.1 ((cp :: (y_5.1 - 1) :: 0 :: NilL Int).getD x_2.1.toNat 0) = spE y.1.1 y.1.2 x_1 y_6.1 ((cp :: (y_5.1 - 1) :: 0 :: NilL Int).getD x_2.1.toNat 0)) || !eqL (spL y.1.1 y.1.2 x_1 y_6.1 ((cp :: (y_5.1 - 1) :: 0 :: NilL Int).getD x_2.1.toNat 0)) (spL y.1.1 y.1.2 x_1 y_6.1 ((cp :: (y_5.1 - 1) :: 0 :: NilL Int).getD x_2.1.toNat 0))) = false → WfN y.1.1 ∧ TL x_1) ∧ ((!decide (spE y.1.1 y.1.2 x_1 y_6.1 ((cp :: (y_5.1 - 1) :: 0 :: NilL Int).getD x_2.1.toNat 0) = spE y.1.1 y.1.2 x_1 y_6.1 ((cp :: (y_5.1 - 1) :: 0 :: NilL Int).getD x_2.1.toNat 0)) || !eqL (spL y.1.1 y.1.2 x_1 y_6.1 ((cp :: (y_5.1 - 1) :: 0 :: NilL Int).getD x_2.1.toNat 0)) (spL y.1.1 y.1.2 x_1 y_6.1 ((cp :: (y_5.1 - 1) :: 0 :: NilL Int).getD x_2.1.toNat 0))) = false → (!decide (spE y.1.1 y.1.2 x_1 y_6.1 ((cp :: (y_5.1 - 1) :: 0 :: NilL Int).getD x_2.1.toNat 0) = spE y.1.1 y.1.2 x_1 y_6.1 ((cp :: (y_5.1 - 1) :: 0 :: NilL Int).getD x_2.1.toNat 0)) || !eqL (spL y.1.1 y.1.2 x_1 y_6.1 ((cp :: (y_5.1 - 1) :: 0 :: NilL Int).getD x_2.1.toNat 0)) (spL y.1.1 y.1.2 x_1 y_6.1 ((cp :: (y_5.1 - 1) :: 0 :: NilL Int).getD x_2.1.toNat 0))) = false) ∧ ((!decide (spE y.1.1 y.1.2 x_1 y_6.1 ((cp :: (y_5.1 - 1) :: 0 :: NilL Int).getD x_2.1.toNat 0) = spE y.1.1 y.1.2 x_1 y_6.1 ((cp :: (y_5.1 - 1) :: 0 :: NilL Int).getD x_2.1.toNat 0)) || !eqL (spL y.1.1 y.1.2 x_1 y_6.1 ((cp :: (y_5.1 - 1) :: 0 :: NilL Int).getD x_2.1.toNat 0)) (spL y.1.1 y.1.2 x_1 y_6.1 ((cp :: (y_5.1 - 1) :: 0 :: NilL Int).getD x_2.1.toNat 0))) = false → (!decide (spE y.1.1 y.1.2 x_1 y_6.1 ((cp :: (y_5.1 - 1) :: 0 :: NilL Int).getD x_2.1.toNat 0) = spE y.1.1 y.1.2 x_1 y_6.1 ((cp :: (y_5.1 - 1) :: 0 :: NilL Int).getD x_2.1.toNat 0)) || !eqL (spL y.1.1 y.1.2 x_1 y_6.1 ((cp :: (y_5.1 - 1) :: 0 :: NilL Int).getD x_2.1.toNat 0)) (spL y.1.1 y.1.2 x_1 y_6.1 ((cp :: (y_5.1 - 1) :: 0 :: NilL Int).getD x_2.1.toNat 0))) = false) ∧ ((!decide (spE y.1.1 y.1.2 x_1 y_6.1 ((cp :: (y_5.1 - 1) :: 0 :: NilL Int).getD x_2.1.toNat 0) = spE y.1.1 y.1.2 x_1 y_6.1 ((cp :: (y_5.1 - 1) :: 0 :: NilL Int).getD x_2.1.toNat 0)) || !eqL (spL y.1.1 y.1.2 x_1 y_6.1 ((cp :: (y_5.1 - 1) :: 0 :: NilL Int).getD x_2.1.toNat 0)) (spL y.1.1 y.1.2 x_1 y_6.1 ((cp :: (y_5.1 - 1) :: 0 :: NilL Int).getD x_2.1.toNat 0))) = false → TL (idL y.1.1 y.1.2 x_1 ((cp :: (y_5.1 - 1) :: 0 :: NilL Int).getD x_2.1.toNat 0))) ∧ ((!decide (spE y.1.1 y.1.2 x_1 y_6.1 ((cp :: (y_5.1 - 1) :: 0 :: NilL Int).getD x_2.1.toNat 0) = spE y.1.1 y.1.2 x_1 y_6.1 ((cp :: (y_5.1 - 1) :: 0 :: NilL Int).getD x_2.1.toNat 0)) || !eqL (spL y.1.1 y.1.2 x_1 y_6.1 ((cp :: (y_5.1 - 1) :: 0 :: NilL Int).getD x_2.1.toNat 0)) (spL y.1.1 y.1.2 x_1 y_6.1 ((cp :: (y_5.1 - 1) :: 0 :: NilL Int).getD x_2.1.toNat 0))) = false → (!decide (spE y.1.1 y.1.2 x_1 y_6.1 ((cp :: (y_5.1 - 1) :: 0 :: NilL Int).getD x_2.1.toNat 0) = spE y.1.1 y.1.2 x_1 y_6.1 ((cp :: (y_5.1 - 1) :: 0 :: NilL Int).getD x_2.1.toNat 0)) || !eqL (spL y.1.1 y.1.2 x_1 y_6.1 ((cp :: (y_5.1 - 1) :: 0 :: NilL Int).getD x_2.1.toNat 0)) (spL y.1.1 y.1.2 x_1 y_6.1 ((cp :: (y_5.1 - 1) :: 0 :: NilL Int).getD x_2.1.toNat 0))) = false) ∧ ((!decide (spE y.1.1 y.1.2 x_1 y_6.1 ((cp :: (y_5.1 - 1) :: 0 :: NilL Int).getD x_2.1.toNat 0) = spE y.1.1 y.1.2 x_1 y_6.1 ((cp :: (y_5.1 - 1) :: 0 :: NilL Int).getD x_2.1.toNat 0)) || !eqL (spL y.1.1 y.1.2 x_1 y_6.1 ((cp :: (y_5.1 - 1) :: 0 :: NilL Int).getD x_2.1.toNat 0)) (spL y.1.1 y.1.2 x_1 y_6.1 ((cp :: (y_5.1 - 1) :: 0 :: NilL Int).getD x_2.1.toNat 0))) = false → (!decide (spE y.1.1 y.1.2 x_1 y_6.1 ((cp :: (y_5.1 - 1) :: 0 :: NilL Int).getD x_2.1.toNat 0) = spE y.1.1 y.1.2 x_1 y_6.1 ((cp :: (y_5.1 - 1) :: 0 :: NilL Int).getD x_2.1.toNat 0)) || !eqL (spL y.1.1 y.1.2 x_1 y_6.1 ((cp :: (y_5.1 - 1) :: 0 :: NilL Int).getD x_2.1.toNat 0)) (spL y.1.1 y.1.2 x_1 y_6.1 ((cp :: (y_5.1 - 1) :: 0 :: NilL Int).getD x_2.1.toNat 0))) = false) ∧ ((!decide (spE y.1.1 y.1.2 x_1 y_6.1 ((cp :: (y_5.1 - 1) :: 0 :: NilL Int).getD x_2.1.toNat 0) = spE y.1.1 y.1.2 x_1 y_6.1 ((cp :: (y_5.1 - 1) :: 0 :: NilL Int).getD x_2.1.toNat 0)) || !eqL (spL y.1.1 y.1.2 x_1 y_6.1 ((cp :: (y_5.1 - 1) :: 0 :: NilL Int).getD x_2.1.toNat 0)) (spL y.1.1 y.1.2 x_1 y_6.1 ((cp :: (y_5.1 - 1) :: 0 :: NilL Int).getD x_2.1.toNat 0)) || !eqL (idL y.1.1 y.1.2 x_1 ((cp :: (y_5.1 - 1) :: 0 :: NilL Int).getD x_2.1.toNat 0)) (idL y.1.1 y.1.2 x_1 ((cp :: (y_5.1 - 1) :: 0 :: NilL Int).getD x_2.1.toNat 0))) = true → ∃ (y : Unit), True ∧ false = true) ∧ ((!decide (spE y.1.1 y.1.2 x_1 y_6.1 ((cp :: (y_5.1 - 1) :: 0 :: NilL Int).getD x_2.1.toNat 0) = spE y.1.1 y.1.2 x_1 y_6.1 ((cp :: (y_5.1 - 1) :: 0 :: NilL Int).getD x_2.1.toNat 0)) || !eqL (spL y.1.1 y.1.2 x_1 y_6.1 ((cp :: (y_5.1 - 1) :: 0 :: NilL Int).getD x_2.1.toNat 0)) (spL y.1.1 y.1.2 x_1 y_6.1 ((cp :: (y_5.1 - 1) :: 0 :: NilL Int).getD x_2.1.toNat 0)) || !eqL (idL y.1.1 y.1.2 x_1 ((cp :: (y_5.1 - 1) :: 0 :: NilL Int).getD x_2.1.toNat 0)) (idL y.1.1 y.1.2 x_1 ((cp :: (y_5.1 - 1) :: 0 :: NilL Int).getD x_2.1.toNat 0))) = false → i64R (x_2.1 + 1) ∧ ∃ (x' : Int × Int), ((0 ≤ x'.1 ∧ x'.1 ≤ 3) ∧ DOK (L, x'.2)) ∧ (3 - x'.1).toNat < (3 - x_2.1).toNat ∧ x_2.1 + 1 = x'.1 ∧ y_3.1 :: y_4.1 :: NilL (List Pool) = y_3.1 :: y_4.1 :: NilL (List Pool) ∧ cp :: (y_5.1 - 1) :: 0 :: NilL Int = cp :: (y_5.1 - 1) :: 0 :: NilL Int ∧ L = L ∧ y_6.2 = x'.2 ∧ y.1.1 = y.1.1 ∧ y.1.2 = y.1.2 ∧ y_1.1.1 = y_1.1.1 ∧ y_1.1.2 = y_1.1.2)) ∧ (decide (x_2.1 < (↑(cp :: (y_5.1 - 1) :: 0 :: NilL Int).length : Int)) = false → DOK (L, x_2.2) ∧ (∀ (y : List Int × Int), true = true) ∧ ∀ (y_6 : List Int × Int), (y_6.1.length ≤ (5 : Nat) ∧ ∀ (z : Int), z ∈ y_6.1 → (-2) ≤ z ∧ z ≤ 9) ∧ x_2.2 ≤ y_6.2 ∧ y_6.2 ≤ (↑L.length : Int) → ((WfN y.1.1 ∧ TL x_1) ∧ y_6.1.length ≤ (9223372036854775807 : Nat)) ∧ ((WfN y.1.1 ∧ TL x_1) ∧ y_6.1.length ≤ (9223372036854775807 : Nat)) ∧ TL (rfL y.1.1 y.1.2 x_1 y_6.1) ∧ ((!eqL (rfL y.1.1 y.1.2 x_1 y_6.1) (rfL y.1.1 y.1.2 x_1 y_6.1)) = true → ∃ (y : Unit), True ∧ false = true) ∧ ((!eqL (rfL y.1.1 y.1.2 x_1 y_6.1) (rfL y.1.1 y.1.2 x_1 y_6.1)) = false → (∃ (x : Int × Int), ((0 ≤ x.1 ∧ x.1 ≤ 2) ∧ DOK (L, x.2)) ∧ 0 = x.1 ∧ y_3.1 :: y_4.1 :: NilL (List Pool) = y_3.1 :: y_4.1 :: NilL (List Pool) ∧ { nodes := y.1.1, next := y.1.2 : TreeR } :: { nodes := y_1.1.1, next := y_1.1.2 : TreeR } :: NilL TreeR = { nodes := y.1.1, next := y.1.2 : TreeR } :: { nodes := y_1.1.1, next := y_1.1.2 : TreeR } :: NilL TreeR ∧ L = L ∧ y_6.2 = x.2 ∧ y.1.1 = y.1.1 ∧ y.1.2 = y.1.2 ∧ y_1.1.1 = y_1.1.1 ∧ y_1.1.2 = y_1.1.2) ∧ ∀ (x_3 : Int × Int), (0 ≤ x_3.1 ∧ x_3.1 ≤ 2) ∧ DOK (L, x_3.2) → (decide (x_3.1 < (↑({ nodes := y.1.1, next := y.1.2 : TreeR } :: { nodes := y_1.1.1, next := y_1.1.2 : TreeR } :: NilL TreeR).length : Int)) = true → ((0 ≤ x_3.1 ∧ x_3.1 < (↑({ nodes := y.1.1, next := y.1.2 : TreeR } :: { nodes := y_1.1.1, next := y_1.1.2 : TreeR } :: NilL TreeR).length : Int)) ∧ ∃ (x : List Nod × Int), (ChkP x.1 x.2 ∧ x.1.length ≤ (64 : Nat)) ∧ y_3.1 :: y_4.1 :: NilL (List Pool) = y_3.1 :: y_4.1 :: NilL (List Pool) ∧ { nodes := y.1.1, next := y.1.2 : TreeR } :: { nodes := y_1.1.1, next := y_1.1.2 : TreeR } :: NilL TreeR = { nodes := y.1.1, next := y.1.2 : TreeR } :: { nodes := y_1.1.1, next := y_1.1.2 : TreeR } :: NilL TreeR ∧ (({ nodes := y.1.1, next := y.1.2 : TreeR } :: { nodes := y_1.1.1, next := y_1.1.2 : TreeR } :: NilL TreeR).getD x_3.1.toNat { nodes := NilL Nod, next := 0 : TreeR }).nodes = x.1 ∧ (({ nodes := y.1.1, next := y.1.2 : TreeR } :: { nodes := y_1.1.1, next := y_1.1.2 : TreeR } :: NilL TreeR).getD x_3.1.toNat { nodes := NilL Nod, next := 0 : TreeR }).next = x.2 ∧ y.1.1 = y.1.1 ∧ y.1.2 = y.1.2 ∧ y_1.1.1 = y_1.1.1 ∧ y_1.1.2 = y_1.1.2 ∧ L = L ∧ x_3.2 = x_3.2) ∧ ∀ (x : List Nod × Int), ChkP x.1 x.2 ∧ x.1.length ≤ (64 : Nat) → (DOK (L, x_3.2) ∧ (8 : Int) ≤ 4611686018427387904) ∧ (∀ (y : Int × Int), true = true) ∧ ∀ (y_7 : Int × Int), ((1 : Int) ≤ 8 → 0 ≤ y_7.1 ∧ y_7.1 < 8) ∧ ((8 : Int) < 1 → y_7.1 = 0) ∧ x_3.2 ≤ y_7.2 ∧ y_7.2 ≤ (↑L.length : Int) → (0 ≤ y_7.1 ∧ (0 : Int) < 7) ∧ i64R y_7.1 ∧ i64R ((↑x.1.length : Int) + y_7.1 / 7) ∧ (DOK (L, y_7.2) ∧ 0 ≤ (↑x.1.length : Int) + y_7.1 / 7 ∧ (↑x.1.length : Int) + y_7.1 / (7 : Int) ≤ 100) ∧ (∀ (y : (List Int × List Int) × Int), true = true) ∧ ∀ (y_8 : (List Int × List Int) × Int), NumOK ((↑x.1.length : Int) + y_7.1 / 7).toNat y_8.1.1 y_8.1.2 ∧ y_7.2 ≤ y_8.2 ∧ y_8.2 ≤ (↑L.length : Int) → (DOK (L, y_8.2) ∧ (3 : Int) ≤ 4611686018427387904) ∧ (∀ (y : Int × Int), true = true) ∧ ∀ (y_9 : Int × Int), ((1 : Int) ≤ 3 → 0 ≤ y_9.1 ∧ y_9.1 < 3) ∧ ((3 : Int) < 1 → y_9.1 = 0) ∧ y_8.2 ≤ y_9.2 ∧ y_9.2 ≤ (↑L.length : Int) → i64R (1 + y_9.1) ∧ (DOK (L, y_9.2) ∧ (3 : Int) ≤ 4611686018427387904) ∧ (∀ (y : Int × Int), true = true) ∧ ∀ (y_10 : Int × Int), ((1 : Int) ≤ 3 → 0 ≤ y_10.1 ∧ y_10.1 < 3) ∧ ((3 : Int) < 1 → y_10.1 = 0) ∧ y_9.2 ≤ y_10.2 ∧ y_10.2 ≤ (↑L.length : Int) → (0 ≤ y_10.1 ∧ y_10.1 < (↑(sl :: (1 + y_9.1) :: 1 :: NilL Int).length : Int)) ∧ (((WfN x.1 ∧ TL x_1) ∧ BL y_8.1.2) ∧ y_8.1.1.length ≤ (9223372036854775807 : Nat)) ∧ (((WfN x.1 ∧ TL x_1) ∧ BL y_8.1.2) ∧ y_8.1.1.length ≤ (9223372036854775807 : Nat)) ∧ ((!decide (syE x.1 x.2 x_1 y_8.1.1 y_8.1.2 ((sl :: (1 + y_9.1) :: 1 :: NilL Int).getD y_10.1.toNat 0) (1 + y_2.1) = syE x.1 x.2 x_1 y_8.1.1 y_8.1.2 ((sl :: (1 + y_9.1) :: 1 :: NilL Int).getD y_10.1.toNat 0) (1 + y_2.1))) = false → (!decide (syE x.1 x.2 x_1 y_8.1.1 y_8.1.2 ((sl :: (1 + y_9.1) :: 1 :: NilL Int).getD y_10.1.toNat 0) (1 + y_2.1) = syE x.1 x.2 x_1 y_8.1.1 y_8.1.2 ((sl :: (1 + y_9.1) :: 1 :: NilL Int).getD y_10.1.toNat 0) (1 + y_2.1))) = false) ∧ ((!decide (syE x.1 x.2 x_1 y_8.1.1 y_8.1.2 ((sl :: (1 + y_9.1) :: 1 :: NilL Int).getD y_10.1.toNat 0) (1 + y_2.1) = syE x.1 x.2 x_1 y_8.1.1 y_8.1.2 ((sl :: (1 + y_9.1) :: 1 :: NilL Int).getD y_10.1.toNat 0) (1 + y_2.1))) = false → (!decide (syE x.1 x.2 x_1 y_8.1.1 y_8.1.2 ((sl :: (1 + y_9.1) :: 1 :: NilL Int).getD y_10.1.toNat 0) (1 + y_2.1) = syE x.1 x.2 x_1 y_8.1.1 y_8.1.2 ((sl :: (1 + y_9.1) :: 1 :: NilL Int).getD y_10.1.toNat 0) (1 + y_2.1))) = false) ∧ ((!decide (syE x.1 x.2 x_1 y_8.1.1 y_8.1.2 ((sl :: (1 + y_9.1) :: 1 :: NilL Int).getD y_10.1.toNat 0) (1 + y_2.1) = syE x.1 x.2 x_1 y_8.1.1 y_8.1.2 ((sl :: (1 + y_9.1) :: 1 :: NilL Int).getD y_10.1.toNat 0) (1 + y_2.1))) = false → TL (syL x.1 x.2 x_1 y_8.1.1 y_8.1.2 ((sl :: (1 + y_9.1) :: 1 :: NilL Int).getD y_10.1.toNat 0) (1 + y_2.1))) ∧ ((!decide (syE x.1 x.2 x_1 y_8.1.1 y_8.1.2 ((sl :: (1 + y_9.1) :: 1 :: NilL Int).getD y_10.1.toNat 0) (1 + y_2.1) = syE x.1 x.2 x_1 y_8.1.1 y_8.1.2 ((sl :: (1 + y_9.1) :: 1 :: NilL Int).getD y_10.1.toNat 0) (1 + y_2.1))) = false → (!decide (syE x.1 x.2 x_1 y_8.1.1 y_8.1.2 ((sl :: (1 + y_9.1) :: 1 :: NilL Int).getD y_10.1.toNat 0) (1 + y_2.1) = syE x.1 x.2 x_1 y_8.1.1 y_8.1.2 ((sl :: (1 + y_9.1) :: 1 :: NilL Int).getD y_10.1.toNat 0) (1 + y_2.1))) = false) ∧ ((!decide (syE x.1 x.2 x_1 y_8.1.1 y_8.1.2 ((sl :: (1 + y_9.1) :: 1 :: NilL Int).getD y_10.1.toNat 0) (1 + y_2.1) = syE x.1 x.2 x_1 y_8.1.1 y_8.1.2 ((sl :: (1 + y_9.1) :: 1 :: NilL Int).getD y_10.1.toNat 0) (1 + y_2.1))) = false → (!decide (syE x.1 x.2 x_1 y_8.1.1 y_8.1.2 ((sl :: (1 + y_9.1) :: 1 :: NilL Int).getD y_10.1.toNat 0) (1 + y_2.1) = syE x.1 x.2 x_1 y_8.1.1 y_8.1.2 ((sl :: (1 + y_9.1) :: 1 :: NilL Int).getD y_10.1.toNat 0) (1 + y_2.1))) = false) ∧ ((!decide (syE x.1 x.2 x_1 y_8.1.1 y_8.1.2 ((sl :: (1 + y_9.1) :: 1 :: NilL Int).getD y_10.1.toNat 0) (1 + y_2.1) = syE x.1 x.2 x_1 y_8.1.1 y_8.1.2 ((sl :: (1 + y_9.1) :: 1 :: NilL Int).getD y_10.1.toNat 0) (1 + y_2.1)) || !eqL (syL x.1 x.2 x_1 y_8.1.1 y_8.1.2 ((sl :: (1 + y_9.1) :: 1 :: NilL Int).getD y_10.1.toNat 0) (1 + y_2.1)) (syL x.1 x.2 x_1 y_8.1.1 y_8.1.2 ((sl :: (1 + y_9.1) :: 1 :: NilL Int).getD y_10.1.toNat 0) (1 + y_2.1))) = true → ∃ (y : Unit), True ∧ false = true) ∧ ((!decide (syE x.1 x.2 x_1 y_8.1.1 y_8.1.2 ((sl :: (1 + y_9.1) :: 1 :: NilL Int).getD y_10.1.toNat 0) (1 + y_2.1) = syE x.1 x.2 x_1 y_8.1.1 y_8.1.2 ((sl :: (1 + y_9.1) :: 1 :: NilL Int).getD y_10.1.toNat 0) (1 + y_2.1)) || !eqL (syL x.1 x.2 x_1 y_8.1.1 y_8.1.2 ((sl :: (1 + y_9.1) :: 1 :: NilL Int).getD y_10.1.toNat 0) (1 + y_2.1)) (syL x.1 x.2 x_1 y_8.1.1 y_8.1.2 ((sl :: (1 + y_9.1) :: 1 :: NilL Int).getD y_10.1.toNat 0) (1 + y_2.1))) = false → (DOK (L, y_10.2) ∧ (18 : Int) ≤ 4611686018427387904) ∧ (∀ (y : Int × Int), true = true) ∧ ∀ (y_11 : Int × Int), ((1 : Int) ≤ 18 → 0 ≤ y_11.1 ∧ y_11.1 < 18) ∧ ((18 : Int) < 1 → y_11.1 = 0) ∧ y_10.2 ≤ y_11.2 ∧ y_11.2 ≤ (↑L.length : Int) → ((WfN x.1 ∧ BL y_8.1.2) ∧ y_8.1.1.length ≤ (9223372036854775807 : Nat)) ∧ (decide (syE x.1 x.2 (NilL Pool) y_8.1.1 y_8.1.2 ((sl :: (1 + y_9.1) :: 1 :: NilL Int).getD y_10.1.toNat 0) y_11.1 = 0) = true → decide (syE x.1 x.2 (NilL Pool) y_8.1.1 y_8.1.2 ((sl :: (1 + y_9.1) :: 1 :: NilL Int).getD y_10.1.toNat 0) y_11.1 = 0) = true) ∧ (decide (syE x.1 x.2 (NilL Pool) y_8.1.1 y_8.1.2 ((sl :: (1 + y_9.1) :: 1 :: NilL Int).getD y_10.1.toNat 0) y_11.1 = 0) = true → decide (syE x.1 x.2 (NilL Pool) y_8.1.1 y_8.1.2 ((sl :: (1 + y_9.1) :: 1 :: NilL Int).getD y_10.1.toNat 0) y_11.1 = 0) = true) ∧ (decide (syE x.1 x.2 (NilL Pool) y_8.1.1 y_8.1.2 ((sl :: (1 + y_9.1) :: 1 :: NilL Int).getD y_10.1.toNat 0) y_11.1 = 0) = true → WfN x.1 ∧ TL (syL x.1 x.2 (NilL Pool) y_8.1.1 y_8.1.2 ((sl :: (1 + y_9.1) :: 1 :: NilL Int).getD y_10.1.toNat 0) y_11.1)) ∧ (decide (syE x.1 x.2 (NilL Pool) y_8.1.1 y_8.1.2 ((sl :: (1 + y_9.1) :: 1 :: NilL Int).getD y_10.1.toNat 0) y_11.1 = 0) = true → decide (syE x.1 x.2 (NilL Pool) y_8.1.1 y_8.1.2 ((sl :: (1 + y_9.1) :: 1 :: NilL Int).getD y_10.1.toNat 0) y_11.1 = 0) = true) ∧ (decide (syE x.1 x.2 (NilL Pool) y_8.1.1 y_8.1.2 ((sl :: (1 + y_9.1) :: 1 :: NilL Int).getD y_10.1.toNat 0) y_11.1 = 0) = true → decide (syE x.1 x.2 (NilL Pool) y_8.1.1 y_8.1.2 ((sl :: (1 + y_9.1) :: 1 :: NilL Int).getD y_10.1.toNat 0) y_11.1 = 0) = true) ∧ ((decide (syE x.1 x.2 (NilL Pool) y_8.1.1 y_8.1.2 ((sl :: (1 + y_9.1) :: 1 :: NilL Int).getD y_10.1.toNat 0) y_11.1 = 0) && !thrB x.1 x.2 (syL x.1 x.2 (NilL Pool) y_8.1.1 y_8.1.2 ((sl :: (1 + y_9.1) :: 1 :: NilL Int).getD y_10.1.toNat 0) y_11.1)) = true → ∃ (y : Unit), True ∧ false = true) ∧ ((decide (syE x.1 x.2 (NilL Pool) y_8.1.1 y_8.1.2 ((sl :: (1 + y_9.1) :: 1 :: NilL Int).getD y_10.1.toNat 0) y_11.1 = 0) && !thrB x.1 x.2 (syL x.1 x.2 (NilL Pool) y_8.1.1 y_8.1.2 ((sl :: (1 + y_9.1) :: 1 :: NilL Int).getD y_10.1.toNat 0) y_11.1)) = false → i64R (x_3.1 + 1) ∧ ∃ (x' : Int × Int), ((0 ≤ x'.1 ∧ x'.1 ≤ 2) ∧ DOK (L, x'.2)) ∧ (2 - x'.1).toNat < (2 - x_3.1).toNat ∧ x_3.1 + 1 = x'.1 ∧ y_3.1 :: y_4.1 :: NilL (List Pool) = y_3.1 :: y_4.1 :: NilL (List Pool) ∧ { nodes := y.1.1, next := y.1.2 : TreeR } :: { nodes := y_1.1.1, next := y_1.1.2 : TreeR } :: NilL TreeR = { nodes := y.1.1, next := y.1.2 : TreeR } :: { nodes := y_1.1.1, next := y_1.1.2 : TreeR } :: NilL TreeR ∧ L = L ∧ y_11.2 = x'.2 ∧ y.1.1 = y.1.1 ∧ y.1.2 = y.1.2 ∧ y_1.1.1 = y_1.1.1 ∧ y_1.1.2 = y_1.1.2))) ∧ (decide (x_3.1 < (↑({ nodes := y.1.1, next := y.1.2 : TreeR } :: { nodes := y_1.1.1, next := y_1.1.2 : TreeR } :: NilL TreeR).length : Int)) = false → i64R (x.1 + 1) ∧ ∃ (x' : Int × Int), ((0 ≤ x'.1 ∧ x'.1 ≤ 2) ∧ DOK (L, x'.2)) ∧ (2 - x'.1).toNat < (2 - x.1).toNat ∧ x.1 + 1 = x'.1 ∧ y_3.1 :: y_4.1 :: NilL (List Pool) = y_3.1 :: y_4.1 :: NilL (List Pool) ∧ L = L ∧ x_3.2 = x'.2 ∧ y.1.1 = y.1.1 ∧ y.1.2 = y.1.2 ∧ y_1.1.1 = y_1.1.1 ∧ y_1.1.2 = y_1.1.2)))) ∧ (decide (x.1 < (↑(y_3.1 :: y_4.1 :: NilL (List Pool)).length : Int)) = false → True ∧ ∃ (y : Unit), True ∧ true = true))) = sLaw18R.vc (EV Try.prog [(14, sLight.spec), (38, sSane18.spec), (16, sRoll.spec), (17, sTree.spec), (23, sNext.spec), (39, sPools.spec), (40, sOdd.spec), (41, sGroup.spec), (42, sSpT.spec), (43, sSpT.spec), (44, sSameL.spec), (45, sIdT.spec), (46, sIdT.spec), (47, sSome.spec), (48, sRfT.spec), (49, sRfT.spec), (50, sNums.spec), (51, sSync.spec), (52, sSync.spec), (53, sNewT.spec), (54, sThr.spec)] (invsS [(8, inv8a L), (11, inv8b L), (23, inv8c L)]) (invsS [(10, jn8a), (25, jn8b)])) Try.f8 (L, sl, cp, ()) := by kernel_rfl
  rw [← e]
  clear e
  simp only [imp_self, true_and, and_true, exists_const, implies_true]
  try simp only [Prod.forall, Prod.exists, not_true_eq_false, false_or, forall_const, true_and, and_true, i64R, Int.reduceLE, Int.reduceLT, Int.reduceNeg, false_implies, decide_eq_true_eq, decide_eq_false_iff_not, Bool.not_eq_true', Bool.not_eq_false', Bool.false_eq_true, Bool.and_eq_true, Bool.or_eq_true, Bool.and_eq_false_iff, Bool.or_eq_false_iff ]
  try simp only [NilL_eq]
  simp only [List.length_cons, List.length_nil]
  intro hL
  have hd : ∀ j : Int, 0 ≤ j → j ≤ L.length → DOK (L, j) := fun j h1 h2 => ⟨h1, h2, by show L.length ≤ 600; omega⟩
  refine ⟨hd 0 (by omega) (by omega), fun l n j1 ht => ?_⟩
  obtain ⟨⟨htp, htl⟩, t1, t2⟩ := ht
  have hc := htp.chk
  have l1 := hc.len1
  have hw := hc.wf
  refine ⟨hd _ (by omega) (by omega), fun l' n' j2 ht' => ?_⟩
  obtain ⟨⟨htp', htl'⟩, t1', t2'⟩ := ht'
  have hc' := htp'.chk
  refine ⟨hd _ (by omega) (by omega), fun r j3 hr => ⟨by omega, ⟨⟨hd _ (by omega) (by omega), hc⟩, by omega, by omega⟩, fun ps j4 hp => ?_⟩⟩
  obtain ⟨hp, p1, p2⟩ := hp
  refine ⟨⟨hd _ (by omega) (by omega), hp.odd (by omega)⟩, fun qs j5 hq => ?_⟩
  obtain ⟨⟨hq, hq2⟩, q1, q2⟩ := hq
  refine ⟨⟨0, j5, ⟨by omega, hd _ (by omega) (by omega)⟩, rfl, rfl⟩, fun i k hi hlt => ⟨⟨⟨hi.1.1, hlt⟩, _, ?_, rfl⟩, fun y hy => ?_⟩⟩
  · have : i.toNat = 0 ∨ i.toNat = 1 := by omega
    rcases this with e | e <;> rw [e]
    · exact hp.tl
    · exact hq
  obtain ⟨hi, hk⟩ := hi
  have k0 : 0 ≤ k := hk.lo
  refine ⟨hk, fun c1 k1 h1 => ⟨by omega, ⟨0, k1, ⟨by omega, hd _ (by omega) (by omega)⟩, rfl, rfl⟩, fun b k2 hb => ?_⟩⟩
  obtain ⟨hb, hk2⟩ := hb
  have k20 : 0 ≤ k2 := hk2.lo
  refine ⟨fun hlt2 => ⟨⟨by omega, hlt2⟩, ⟨hk2, by omega, by omega⟩, fun g k3 h3 => ⟨⟨hw, hy⟩, ⟨hw, hy⟩, spL_tl hy, fun _ => ⟨hw, hy⟩, fun _ => ⟨hw, hy⟩, fun _ => idL_tl hy, fun h => ?_, fun _ => ⟨by omega, b + 1, k3, ⟨by omega, hd _ (by omega) (by omega)⟩, by omega, rfl, rfl⟩⟩⟩, fun hge2 => ⟨hk2, fun due k3 h3 => ?_⟩⟩
  · rcases h with h | h <;> exact eqL_no.1 h rfl
  obtain ⟨⟨d5, _⟩, d1, d2⟩ := h3
  refine ⟨⟨⟨hw, hy⟩, by omega⟩, ⟨⟨hw, hy⟩, by omega⟩, rfL_tl hy, fun h => eqL_no.1 h rfl, fun _ => ⟨⟨0, k3, ⟨by omega, hd _ (by omega) (by omega)⟩, rfl, rfl⟩, fun j k4 hj => ?_⟩⟩
  obtain ⟨hj, hk4⟩ := hj
  have k40 : 0 ≤ k4 := hk4.lo
  refine ⟨fun hlt3 => ⟨⟨⟨by omega, hlt3⟩, _, _, ⟨?_, ?_⟩, rfl, rfl⟩, fun u un hu => ?_⟩, fun hge3 => ⟨by omega, i + 1, k4, ⟨by omega, hk4⟩, by omega, rfl, rfl⟩⟩
  · have : j.toNat = 0 ∨ j.toNat = 1 := by omega
    rcases this with e | e <;> rw [e]
    · exact hc
    · exact hc'
  · have : j.toNat = 0 ∨ j.toNat = 1 := by omega
    rcases this with e | e <;> rw [e]
    · show l.length ≤ 64; omega
    · show l'.length ≤ 64; omega
  obtain ⟨hu, hul⟩ := hu
  have huw := hu.wf
  refine ⟨hk4, fun v k5 h5 => ⟨by omega, by omega, by omega, ⟨hd _ (by omega) (by omega), by omega, by omega⟩, fun q bs k6 h6 => ?_⟩⟩
  obtain ⟨hn, n1, n2⟩ := h6
  have hbl : BL bs := hn.bl (by omega)
  have hql : q.length ≤ 9223372036854775807 := by have := hn.lq; omega
  refine ⟨hd _ (by omega) (by omega), fun s1 k7 h7 => ⟨by omega, hd _ (by omega) (by omega), fun s2 k8 h8 => ⟨by omega, ⟨⟨⟨huw, hy⟩, hbl⟩, hql⟩, ⟨⟨⟨huw, hy⟩, hbl⟩, hql⟩, syL_tl, fun h => eqL_no.1 h rfl, fun _ => ⟨hd _ (by omega) (by omega), fun s3 k9 h9 => ⟨⟨⟨huw, hbl⟩, hql⟩, fun _ => ⟨huw, syL_tl⟩, fun h => ?_, fun _ => ⟨by omega, j + 1, k9, ⟨by omega, hd _ (by omega) (by omega)⟩, by omega, rfl, rfl⟩⟩⟩⟩⟩⟩
  have h2 := h.2
  rw [new_thr h.1] at h2
  cases h2
end Go.Proofs.Ytemffnpliflkgaa
