/-
  Lemmas and contracts on the way to the laws of this seat; each theorem states its own conditions, and there are no others.
-/
import Derived.Test.YtemffnpliflkgaaQD
import Derived.Test.YtemffnpliflkgaaTS
namespace Go.Proofs.Ytemffnpliflkgaa
open Go
set_option linter.unusedVariables false
set_option linter.unusedSimpArgs false
set_option linter.unusedVariables false

theorem up_len64 {l : List Nod} {n : Int} (hc : ChkP l n) (g : Int) : (upT l g).length ≤ 64 := by
  by_cases c : g ∈ ids l
  · obtain ⟨i, hi, e⟩ := ids_mem.1 c
    have := hc.up_len hi
    rw [e] at this; omega
  · rw [upT_none c]; simp
def pn (l : List Pool) (i : Nat) : Pool := l.getD i zeroP
theorem pn_fold (l : List Pool) (k : Nat) : l.getD k ⟨0, 0, 0, 0, 0, [], 0, 0, 0, false⟩ = pn l k := rfl
theorem pn_get {l : List Pool} {i : Nat} (h : i < l.length) : pn l i = l[i] := by simp [pn, List.getD_eq_getElem?_getD, h]
theorem pn_mem {l : List Pool} {i : Nat} (h : i < l.length) : pn l i ∈ l := by rw [pn_get h]; exact List.getElem_mem h
theorem mem_pn {l : List Pool} {x : Pool} (h : x ∈ l) : ∃ i, i < l.length ∧ pn l i = x := by
  obtain ⟨i, hi, e⟩ := List.getElem_of_mem h
  exact ⟨i, hi, by rw [pn_get hi, e]⟩
def idxQ (l : List Pool) (g : Int) : Int := match l.findIdx? (fun x => decide (x.g = g)) with
  | some i => i
  | none => -1
theorem idxQ_first {l : List Pool} {g : Int} {i : Nat} (h : ∀ j, j < i → ¬ (pn l j).g = g) (hi : i < l.length) (e : (pn l i).g = g) : idxQ l g = i := by
  have : l.findIdx? (fun x => decide (x.g = g)) = some i := by
    rw [List.findIdx?_eq_some_iff_getElem]
    refine ⟨hi, by rw [← pn_get hi]; simpa using e, fun j hj => ?_⟩
    have := h j hj
    rw [pn_get (by omega)] at this
    simpa using this
  rw [idxQ, this]
theorem idxQ_all {l : List Pool} {g : Int} (h : ∀ j, j < l.length → ¬ (pn l j).g = g) : idxQ l g = -1 := by
  have : l.findIdx? (fun x => decide (x.g = g)) = none := by
    rw [List.findIdx?_eq_none_iff]
    intro x hx
    obtain ⟨i, hi, e⟩ := mem_pn hx
    have := h i hi
    rw [e] at this
    simpa using this
  rw [idxQ, this]
def atP (l : List Pool) (g : Int) : Pool := (l.find? fun x => decide (x.g = g)).getD zeroP
def hasP (l : List Pool) (g : Int) : Bool := (l.map (·.g)).contains g
theorem hasP_iff {l : List Pool} {g : Int} : hasP l g = true ↔ ∃ i, i < l.length ∧ (pn l i).g = g := by
  simp only [hasP, List.contains_iff_mem, List.mem_map]
  constructor
  · rintro ⟨x, hx, e⟩
    obtain ⟨i, hi, e2⟩ := mem_pn hx
    exact ⟨i, hi, by rw [e2]; exact e⟩
  · rintro ⟨i, hi, e⟩
    exact ⟨pn l i, pn_mem hi, e⟩
theorem atP_first {l : List Pool} {g : Int} {i : Nat} (h : ∀ j, j < i → ¬ (pn l j).g = g) (hi : i < l.length) (e : (pn l i).g = g) : atP l g = pn l i ∧ hasP l g = true := by
  have : l.find? (fun x => decide (x.g = g)) = some (pn l i) := by
    rw [List.find?_eq_some_iff_getElem]
    refine ⟨by simpa using e, i, hi, by rw [pn_get hi], fun j hj => ?_⟩
    have := h j hj
    rw [pn_get (by omega)] at this
    simpa using this
  exact ⟨by rw [atP, this]; rfl, hasP_iff.2 ⟨i, hi, e⟩⟩
theorem atP_all {l : List Pool} {g : Int} (h : ∀ j, j < l.length → ¬ (pn l j).g = g) : atP l g = zeroP ∧ hasP l g = false := by
  have : l.find? (fun x => decide (x.g = g)) = none := by
    rw [List.find?_eq_none]
    intro x hx
    obtain ⟨i, hi, e⟩ := mem_pn hx
    have := h i hi
    rw [e] at this
    simpa using this
  refine ⟨by rw [atP, this]; rfl, ?_⟩
  cases c : hasP l g
  · rfl
  · obtain ⟨i, hi, e⟩ := hasP_iff.1 c
    exact absurd e (h i hi)
theorem idxQ_cases (l : List Pool) (g : Int) : (∃ i : Nat, i < l.length ∧ (pn l i).g = g ∧ (∀ j, j < i → ¬ (pn l j).g = g) ∧ idxQ l g = i ∧ atP l g = pn l i ∧ hasP l g = true) ∨ ((∀ j, j < l.length → ¬ (pn l j).g = g) ∧ idxQ l g = -1 ∧ atP l g = zeroP ∧ hasP l g = false) := by
  by_cases h : ∃ i, i < l.length ∧ (pn l i).g = g
  · left
    obtain ⟨i, hi, e⟩ := h
    have key : ∀ n, ∀ i, i ≤ n → i < l.length → (pn l i).g = g → ∃ k, k < l.length ∧ (pn l k).g = g ∧ ∀ j, j < k → ¬ (pn l j).g = g := by
      intro n
      induction n with
      | zero => exact fun i hn hi e => ⟨i, hi, e, fun j hj => by omega⟩
      | succ n ih =>
        intro i hn hi e
        by_cases h2 : ∃ j, j < i ∧ (pn l j).g = g
        · obtain ⟨j, hj, ej⟩ := h2
          exact ih j (by omega) (by omega) ej
        · exact ⟨i, hi, e, fun j hj ej => h2 ⟨j, hj, ej⟩⟩
    obtain ⟨k, hk, ek, h2⟩ := key i i (Nat.le_refl _) hi e
    obtain ⟨a1, a2⟩ := atP_first h2 hk ek
    exact ⟨k, hk, ek, h2, idxQ_first h2 hk ek, a1, a2⟩
  · right
    have h2 : ∀ j, j < l.length → ¬ (pn l j).g = g := fun j hj e => h ⟨j, hj, e⟩
    obtain ⟨a1, a2⟩ := atP_all h2
    exact ⟨h2, idxQ_all h2, a1, a2⟩
/-- There is a good pool for each group, with as many cells. -/
structure ThrP (l : List Nod) (n : Int) (ps : List Pool) : Prop where
  chk : ChkP l n
  len : ps.length = l.length
  grp : ∀ i, i < l.length → (pn ps i).g = (nd l i).id
  good : ∀ i, i < l.length → Good (pn ps i)
  loc : ∀ i, i < l.length → (pn ps i).l.length = (pn ps 0).l.length
def tc1 (l : List Nod) (ps : List Pool) (i : Nat) : Bool := decide ((pn ps i).g = (nd l i).id) && goodB (pn ps i) && decide ((pn ps i).l.length = (pn ps 0).l.length)
def thrB (l : List Nod) (n : Int) (ps : List Pool) : Bool := chkB l n && decide (ps.length = l.length) && (List.range l.length).all (tc1 l ps)
theorem thrB_all {l : List Nod} {n : Int} {ps : List Pool} : thrB l n ps = true ↔ (chkB l n = true ∧ ps.length = l.length) ∧ ∀ i, i < l.length → tc1 l ps i = true := by
  simp only [thrB, Bool.and_eq_true, decide_eq_true_eq, List.all_eq_true, List.mem_range]
theorem thrB_iff {l : List Nod} {n : Int} {ps : List Pool} : thrB l n ps = true ↔ ThrP l n ps := by
  rw [thrB_all]
  simp only [tc1, Bool.and_eq_true, decide_eq_true_eq, chkB_iff, goodB_iff]
  exact ⟨fun ⟨⟨h1, h2⟩, h3⟩ => ⟨h1, h2, fun i hi => (h3 i hi).1.1, fun i hi => (h3 i hi).1.2, fun i hi => (h3 i hi).2⟩, fun h => ⟨⟨h.chk, h.len⟩, fun i hi => ⟨⟨h.grp i hi, h.good i hi⟩, h.loc i hi⟩⟩⟩
theorem thrB_no {l : List Nod} {n : Int} {ps : List Pool} (h : ThrP l n ps → False) : false = thrB l n ps := by
  cases e : thrB l n ps
  · rfl
  · exact absurd (thrB_iff.1 e) h
theorem ThrP.at {l : List Nod} {n : Int} {ps : List Pool} (h : ThrP l n ps) {i : Nat} (hi : i < l.length) : idxQ ps (nd l i).id = i ∧ atP ps (nd l i).id = pn ps i ∧ hasP ps (nd l i).id = true := by
  have h2 : ∀ j, j < i → ¬ (pn ps j).g = (nd l i).id := fun j hj e => by
    rw [h.grp j (by omega)] at e
    have := h.chk.asc.lt j i hj hi
    omega
  have h3 := h.len
  exact ⟨idxQ_first h2 (by omega) (h.grp i hi), atP_first h2 (by omega) (h.grp i hi)⟩
theorem ThrP.no {l : List Nod} {n : Int} {ps : List Pool} (h : ThrP l n ps) {g : Int} (hg : g ∉ ids l) : idxQ ps g = -1 ∧ atP ps g = zeroP ∧ hasP ps g = false := by
  have h3 := h.len
  have h2 : ∀ j, j < ps.length → ¬ (pn ps j).g = g := fun j hj e => by
    rw [h.grp j (by omega)] at e
    exact hg (ids_mem.2 ⟨j, by omega, e⟩)
  exact ⟨idxQ_all h2, atP_all h2⟩
theorem ThrP.of_id {l : List Nod} {n : Int} {ps : List Pool} (h : ThrP l n ps) {g : Int} (hg : g ∈ ids l) : ∃ i : Nat, i < l.length ∧ (nd l i).id = g ∧ idxQ ps g = i ∧ atP ps g = pn ps i ∧ (pn ps i).g = g ∧ hasP ps g = true := by
  obtain ⟨i, hi, e⟩ := ids_mem.1 hg
  subst e
  obtain ⟨h1, h2, h3⟩ := h.at hi
  exact ⟨i, hi, rfl, h1, h2, h.grp i hi, h3⟩
theorem ThrP.has {l : List Nod} {n : Int} {ps : List Pool} (h : ThrP l n ps) (g : Int) : hasP ps g = hasB l g := by
  by_cases hg : g ∈ ids l
  · obtain ⟨i, _, _, _, _, _, e⟩ := h.of_id hg
    rw [e, hasB_iff.2 hg]
  · have : hasB l g = false := by
      cases c : hasB l g
      · rfl
      · exact absurd (hasB_iff.1 c) hg
    rw [(h.no hg).2.2, this]
theorem ThrP.tame {l : List Nod} {n : Int} {ps : List Pool} (h : ThrP l n ps) : ∀ x ∈ ps, Tame x := fun x hx => by
  obtain ⟨i, hi, e⟩ := mem_pn hx
  rw [← e]
  exact (h.good i (by rw [← h.len]; exact hi)).tame
theorem ThrP.loc_pos {l : List Nod} {n : Int} {ps : List Pool} (h : ThrP l n ps) : 1 ≤ (pn ps 0).l.length ∧ (pn ps 0).l.length ≤ 16 := by
  have h1 := h.chk.len1
  exact ⟨(h.good 0 (by omega)).n0, (h.good 0 (by omega)).n1⟩
theorem ThrP.inj {l : List Nod} {n : Int} {ps : List Pool} (h : ThrP l n ps) {i j : Nat} (hi : i < ps.length) (hj : j < ps.length) (e : (pn ps i).g = (pn ps j).g) : i = j := by
  have h3 := h.len
  rw [h.grp i (by omega), h.grp j (by omega)] at e
  exact h.chk.asc.inj (by omega) (by omega) e
/-- The first pools are changed by F. -/
def updK (F : Pool → Pool) (ps : List Pool) (i : Nat) : List Pool := (ps.take i).map F ++ ps.drop i
theorem updK_zero (F : Pool → Pool) (ps : List Pool) : updK F ps 0 = ps := by simp [updK]
theorem updK_all (F : Pool → Pool) (ps : List Pool) {i : Nat} (h : ps.length ≤ i) : updK F ps i = ps.map F := by
  rw [updK, List.take_of_length_le h, List.drop_eq_nil_of_le h, List.append_nil]
theorem updK_len (F : Pool → Pool) (ps : List Pool) (i : Nat) : (updK F ps i).length = ps.length := by
  simp only [updK, List.length_append, List.length_map, List.length_take, List.length_drop]; omega
theorem drop_pn {ps : List Pool} {i : Nat} (h : i < ps.length) : ps.drop i = pn ps i :: ps.drop (i + 1) := by
  rw [List.drop_eq_getElem_cons h, pn_get h]
theorem take_pn {ps : List Pool} {i : Nat} (h : i < ps.length) : ps.take (i + 1) = ps.take i ++ [pn ps i] := by
  rw [List.take_add_one, List.getElem?_eq_getElem h, pn_get h]; rfl
theorem updK_get {F : Pool → Pool} {ps : List Pool} {i : Nat} (h : i < ps.length) : pn (updK F ps i) i = pn ps i := by
  have e : ((ps.take i).map F).length = i := by rw [List.length_map, List.length_take]; omega
  rw [pn, updK, drop_pn h, List.getD_eq_getElem?_getD, List.getElem?_append_right (by omega), e, Nat.sub_self]; rfl
theorem updK_step {F : Pool → Pool} {ps : List Pool} {i : Nat} (h : i < ps.length) : (updK F ps i).set i (F (pn ps i)) = updK F ps (i + 1) := by
  have e : ((ps.take i).map F).length = i := by rw [List.length_map, List.length_take]; omega
  rw [updK, drop_pn h, List.set_append_right _ _ (by omega), e, Nat.sub_self, List.set_cons_zero, updK, take_pn h, List.map_append, List.append_assoc]; rfl
theorem updK_same {F : Pool → Pool} {ps : List Pool} {i : Nat} (h : i < ps.length) (e : F (pn ps i) = pn ps i) : updK F ps i = updK F ps (i + 1) := by
  rw [← updK_step h, e]
  apply List.ext_getElem (by rw [List.length_set])
  intro j h1 h2
  rw [List.getElem_set]
  split
  · rename_i c
    subst c
    rw [← pn_get h1, updK_get h]
  · rfl
theorem map_set {ps : List Pool} {F G : Pool → Pool} {i : Nat} (hi : i < ps.length) (h : ∀ j, j < ps.length → j ≠ i → F (pn ps j) = G (pn ps j)) : (ps.map F).set i (G (pn ps i)) = ps.map G := by
  apply List.ext_getElem (by simp)
  intro j h1 h2
  rw [List.getElem_set]
  simp only [List.length_map, List.length_set] at h1 h2
  split
  · rename_i c
    subst c
    rw [List.getElem_map, pn_get hi]
  · rename_i c
    rw [List.getElem_map, List.getElem_map]
    have := h j h2 (fun e => c e.symm)
    rwa [pn_get h2] at this
def roomL (ps : List Pool) (c : Int) (up : List Int) : Int := up.foldl (fun m g => min m (roomI (atP ps g) c)) 1099511627776
theorem roomL_step {ps : List Pool} {c : Int} {up : List Int} {i : Nat} (h : i < up.length) : roomL ps c (up.take (i + 1)) = min (roomL ps c (up.take i)) (roomI (atP ps (up.getD i 0)) c) := by
  unfold roomL
  rw [List.take_add_one, List.foldl_append]
  simp [List.getD_eq_getElem?_getD, h]
def blkL (ps : List Pool) (c : Int) : List Int → Int × Bool
  | [] => (0, false)
  | g :: r => if roomI (atP ps g) c = 0 then (g, true) else blkL ps c r
theorem blkL_at {ps : List Pool} {c : Int} : ∀ {up : List Int} {i : Nat}, (∀ j, j < i → ¬ roomI (atP ps (up.getD j 0)) c = 0) → i < up.length → roomI (atP ps (up.getD i 0)) c = 0 → blkL ps c up = (up.getD i 0, true)
  | g :: r, 0, h, hi, e => by rw [blkL, if_pos (by simpa using e)]; rfl
  | g :: r, i + 1, h, hi, e => by
    have h0 := h 0 (by omega)
    rw [blkL, if_neg (by simpa using h0), blkL_at (i := i) (fun j hj => by simpa using h (j + 1) (by omega)) (by simpa using hi) (by simpa using e)]
    simp
theorem blkL_none {ps : List Pool} {c : Int} : ∀ {up : List Int}, (∀ j, j < up.length → ¬ roomI (atP ps (up.getD j 0)) c = 0) → blkL ps c up = (0, false)
  | [], h => rfl
  | g :: r, h => by
    have h0 := h 0 (by simp)
    rw [blkL, if_neg (by simpa using h0), blkL_none fun j hj => by simpa using h (j + 1) (by simpa using hj)]
theorem blkL_mem {ps : List Pool} {c : Int} : ∀ {up : List Int}, (blkL ps c up).2 = true → (blkL ps c up).1 ∈ up ∧ roomI (atP ps (blkL ps c up).1) c = 0
  | [], h => by cases h
  | g :: r, h => by
    rw [blkL] at h ⊢
    by_cases e : roomI (atP ps g) c = 0
    · rw [if_pos e]; exact ⟨by simp, e⟩
    · rw [if_neg e] at h ⊢
      exact ⟨List.mem_cons_of_mem _ (blkL_mem h).1, (blkL_mem h).2⟩
theorem blkL_no {ps : List Pool} {c : Int} : ∀ {up : List Int}, (blkL ps c up).2 = false → blkL ps c up = (0, false) ∧ ∀ g ∈ up, ¬ roomI (atP ps g) c = 0
  | [], h => ⟨rfl, fun g hg => by cases hg⟩
  | g :: r, h => by
    rw [blkL] at h ⊢
    by_cases e : roomI (atP ps g) c = 0
    · rw [if_pos e] at h; cases h
    · rw [if_neg e] at h ⊢
      obtain ⟨h1, h2⟩ := blkL_no h
      refine ⟨h1, fun x hx => ?_⟩
      rcases List.mem_cons.1 hx with e2 | hx
      · rw [e2]; exact e
      · exact h2 x hx
def roomT (l : List Nod) (n : Int) (ps : List Pool) (g c : Int) : Int := if thrB l n ps = false then 0 else if hasB l g = false then 0 else roomL ps c (upT l g)
def blkT (l : List Nod) (n : Int) (ps : List Pool) (g c : Int) : Int × Bool := if thrB l n ps = false then (0, false) else blkL ps c (upT l g)
def spE (l : List Nod) (n : Int) (ps : List Pool) (g c : Int) : Int := if thrB l n ps = false then 1 else if hasB l g = false then 4 else if c < 0 ∨ ((pn ps 0).l.length : Int) ≤ c then 3 else if (blkL ps c (upT l g)).2 = true then 11 else 0
def sp1 (ps : List Pool) (up : List Int) (c : Int) (p : Pool) : Pool := if ((blkL ps c up).2 = true ∧ p.g = (blkL ps c up).1) ∨ ((blkL ps c up).2 = false ∧ p.g ∈ up) then (spendG p c).1 else p
def spL (l : List Nod) (n : Int) (ps : List Pool) (g c : Int) : List Pool := if spE l n ps g c = 0 ∨ spE l n ps g c = 11 then ps.map (sp1 ps (upT l g) c) else []
def id1 (c : Int) (p : Pool) : Pool := if (returnG p c).2 = 0 then (returnG p c).1 else p
def idL (l : List Nod) (n : Int) (ps : List Pool) (c : Int) : List Pool := if thrB l n ps = false then [] else ps.map (id1 c)
def rf1 (due : List Int) (p : Pool) : Pool := if (refillG p).2 = 0 ∧ p.g ∈ due then (refillG p).1 else p
def rfL (l : List Nod) (n : Int) (ps : List Pool) (due : List Int) : List Pool := if thrB l n ps = false then [] else ps.map (rf1 due)
end Go.Proofs.Ytemffnpliflkgaa
