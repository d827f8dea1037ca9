/-
  Lemmas and contracts on the way to the laws of this seat; each theorem states its own conditions, and there are no others.
-/
import Derived.Test.YtglkagaammnojaaVD
namespace Go.Proofs.Ytglkagaammnojaa
open Go Go.RowKit
set_option linter.unusedVariables false
set_option linter.unusedSimpArgs false

def inB (n lo hi : Int) : Bool := decide (lo ≤ n) && decide (n ≤ hi)
theorem asc_lt {f : Nat → Int} {n : Nat} (h : ∀ i, 0 < i → i < n → f (i - 1) < f i) : ∀ j, j < n → ∀ i, i < j → f i < f j := by
  intro j
  induction j with
  | zero => intro _ i hi; omega
  | succ j ih =>
    intro hj i hi
    have h1 := h (j + 1) (by omega) hj
    simp only [Nat.add_sub_cancel] at h1
    by_cases e : i = j
    · subst e; exact h1
    · have := ih (by omega) i (by omega); omega
theorem nodup_get {l : List Int} (h : ∀ j, j < l.length → ∀ i, i < j → l.getD i 0 < l.getD j 0) : l.Nodup := by
  unfold List.Nodup
  rw [List.pairwise_iff_getElem]
  intro i j hi hj hij
  have := h j hj i hij
  simp only [List.getD_eq_getElem?_getD, List.getElem?_eq_getElem hi, List.getElem?_eq_getElem hj, Option.getD_some] at this
  omega
/-- One depth, given the ones ahead. -/
def dv1 (l : List Nod) (ds : List Dep) (i : Nat) : Bool := hasB l (dn ds i).group && (decide (i = 0) || decide ((dn ds (i - 1)).group < (dn ds i).group)) && inB (dn ds i).target 0 1048576 && inB (dn ds i).depth 1 256
def dvB (l : List Nod) (n : Int) (ds : List Dep) : Bool := chkB l n && (List.range ds.length).all (dv1 l ds)
theorem dvB_all {l : List Nod} {n : Int} {ds : List Dep} : dvB l n ds = true ↔ chkB l n = true ∧ ∀ i, i < ds.length → dv1 l ds i = true := by
  simp only [dvB, Bool.and_eq_true, List.all_eq_true, List.mem_range]
theorem grp_len {l : List Nod} {gs : List Int} (ha : ∀ i, 0 < i → i < gs.length → gs.getD (i - 1) 0 < gs.getD i 0) (hg : ∀ g ∈ gs, g ∈ ids l) : gs.length ≤ l.length := by
  have h1 : gs.Nodup := nodup_get (asc_lt (f := fun i => gs.getD i 0) ha)
  have := nodup_le h1 hg
  simpa [ids] using this
theorem dn_grp {ds : List Dep} {i : Nat} (h : i < ds.length) : (ds.map (·.group)).getD i 0 = (dn ds i).group := by
  simp [dn, List.getD_eq_getElem?_getD, h]
theorem dn_mem {ds : List Dep} {i : Nat} (h : i < ds.length) : dn ds i ∈ ds := by
  simp only [dn, List.getD_eq_getElem?_getD, List.getElem?_eq_getElem h, Option.getD_some]
  exact List.getElem_mem h
theorem mem_dn {ds : List Dep} {x : Dep} (h : x ∈ ds) : ∃ i, i < ds.length ∧ dn ds i = x := by
  obtain ⟨i, hi, e⟩ := List.getElem_of_mem h
  exact ⟨i, hi, by simp [dn, List.getD_eq_getElem?_getD, hi, e]⟩
theorem dvB_iff {l : List Nod} {n : Int} {ds : List Dep} : dvB l n ds = true ↔ ChkP l n ∧ DepOK l ds := by
  rw [dvB_all, chkB_iff]
  simp only [dv1, inB, Bool.and_eq_true, Bool.or_eq_true, decide_eq_true_eq, hasB_iff]
  constructor
  · rintro ⟨h1, h2⟩
    have ha : ∀ i, 0 < i → i < ds.length → (dn ds (i - 1)).group < (dn ds i).group := fun i h0 hi => by
      rcases (h2 i hi).1.1.2 with e | e
      · omega
      · exact e
    refine ⟨h1, ?_, ha, fun i hi => (h2 i hi).1.1.1, fun i hi => (h2 i hi).1.2, fun i hi => (h2 i hi).2⟩
    have := grp_len (l := l) (gs := ds.map (·.group)) (fun i h0 hi => by
      rw [List.length_map] at hi
      rw [dn_grp (by omega), dn_grp hi]; exact ha i h0 hi) (fun g hg => by
      obtain ⟨x, hx, e⟩ := List.mem_map.1 hg
      obtain ⟨i, hi, e2⟩ := mem_dn hx
      rw [← e, ← e2]; exact (h2 i hi).1.1.1)
    rw [List.length_map] at this
    have := h1.len2
    omega
  · rintro ⟨h1, h2⟩
    refine ⟨h1, fun i hi => ⟨⟨⟨h2.grp i hi, ?_⟩, h2.tgt i hi⟩, h2.dep i hi⟩⟩
    by_cases e : i = 0
    · exact .inl e
    · exact .inr (h2.asc i (by omega) hi)
/-- The depth of a group. -/
def gDep (ds : List Dep) (g : Int) : Dep := (ds.find? fun x => decide (x.group = g)).getD ⟨g, 0, 256⟩
theorem gDep_at {ds : List Dep} {g : Int} {i : Nat} (h : ∀ j, j < i → ¬ (dn ds j).group = g) (hi : i < ds.length) (e : (dn ds i).group = g) : gDep ds g = dn ds i := by
  have : ds.find? (fun x => decide (x.group = g)) = some (dn ds i) := by
    rw [List.find?_eq_some_iff_getElem]
    refine ⟨by simpa using e, i, hi, by simp [dn, List.getD_eq_getElem?_getD, hi], fun j hj => ?_⟩
    have := h j hj
    have e2 : dn ds j = ds[j] := by simp [dn, List.getD_eq_getElem?_getD, show j < ds.length by omega]
    rw [e2] at this
    simpa using this
  rw [gDep, this]; rfl
theorem gDep_none {ds : List Dep} {g : Int} (h : ∀ j, j < ds.length → ¬ (dn ds j).group = g) : gDep ds g = ⟨g, 0, 256⟩ := by
  have : ds.find? (fun x => decide (x.group = g)) = none := by
    rw [List.find?_eq_none]
    intro x hx
    obtain ⟨i, hi, e⟩ := mem_dn hx
    have := h i hi
    rw [e] at this
    simpa using this
  rw [gDep, this]; rfl
theorem gDep_cases (ds : List Dep) (g : Int) : (∃ x ∈ ds, x.group = g ∧ gDep ds g = x) ∨ ((∀ x ∈ ds, x.group ≠ g) ∧ gDep ds g = ⟨g, 0, 256⟩) := by
  unfold gDep
  cases e : ds.find? (fun x => decide (x.group = g)) with
  | some x =>
    have h1 := List.find?_some e
    have h2 := List.mem_of_find?_eq_some e
    exact .inl ⟨x, h2, by simpa using h1, rfl⟩
  | none =>
    rw [List.find?_eq_none] at e
    exact .inr ⟨fun x hx => by simpa using e x hx, rfl⟩
/-- Counts of samples. -/
def latA (ss : List Smp) (g : Int) : Nat := ss.countP fun s => decide (s.group = g)
def latB (ds : List Dep) (ss : List Smp) (g : Int) : Nat := ss.countP fun s => decide (s.group = g) && decide ((gDep ds g).target < s.lat)
def latF (ds : List Dep) (ss : List Smp) : Int → Two := fun g => ⟨latA ss g, latB ds ss g⟩
theorem sm_take {ss : List Smp} {i : Nat} (h : i < ss.length) : ss.take (i + 1) = ss.take i ++ [sm ss i] := by
  rw [List.take_add_one, List.getElem?_eq_getElem h]
  simp [sm, List.getD_eq_getElem?_getD, h]
theorem latF_nil (ds : List Dep) : latF ds [] = fun _ => ⟨0, 0⟩ := rfl
theorem latF_step {ds : List Dep} {ss : List Smp} {i : Nat} (h : i < ss.length) : latF ds (ss.take (i + 1)) = updF 8 (latF ds (ss.take i)) (sm ss i).group (if (gDep ds (sm ss i).group).target < (sm ss i).lat then ⟨(latF ds (ss.take i) (sm ss i).group).a + 1, (latF ds (ss.take i) (sm ss i).group).b + 1⟩ else ⟨(latF ds (ss.take i) (sm ss i).group).a + 1, (latF ds (ss.take i) (sm ss i).group).b⟩) := by
  funext g
  rw [sm_take h]
  unfold updF latF latA latB
  simp only [List.countP_append, List.countP_singleton]
  by_cases e : g = (sm ss i).group
  · subst e
    rw [if_pos rfl]
    by_cases c : (gDep ds (sm ss i).group).target < (sm ss i).lat
    · simp [c]
    · simp [c]
  · have e2 : ¬ (sm ss i).group = g := fun h => e h.symm
    rw [if_neg e]
    simp [e2]
theorem latA_le (ss : List Smp) (g : Int) : latA ss g ≤ ss.length := List.countP_le_length
theorem latB_le (ds : List Dep) (ss : List Smp) (g : Int) : latB ds ss g ≤ ss.length := List.countP_le_length
def missB (ds : List Dep) (f : Int → Two) (g : Int) : Bool := decide (0 < (gDep ds g).target) && decide ((f g).a < 8 * (f g).b)
/-- A depth after a window. -/
def nxD (d : Dep) (t : Int) : Dep := if t = 0 then ⟨d.group, d.target, min 256 (d.depth + max 1 (d.depth / 4))⟩ else if d.target = 0 ∨ t < d.target then ⟨d.group, d.target, max 1 (d.depth / 2)⟩ else d
def tgt1 (ds : List Dep) (f : Int → Two) (id a g : Int) : Int := if g ≠ id ∧ missB ds f g = true ∧ (a = 0 ∨ (gDep ds g).target < a) then (gDep ds g).target else a
def tgtF (ds : List Dep) (f : Int → Two) (id : Int) (c : List Int) : Int := c.foldl (tgt1 ds f id) 0
theorem tgtF_step {ds : List Dep} {f : Int → Two} {id : Int} {c : List Int} {i : Nat} (h : i < c.length) : tgtF ds f id (c.take (i + 1)) = tgt1 ds f id (tgtF ds f id (c.take i)) (c.getD i 0) := by
  rw [List.take_add_one, List.getElem?_eq_getElem h]
  unfold tgtF
  rw [List.foldl_append]
  simp [List.getD_eq_getElem?_getD, h]
def newD (l : List Nod) (ds : List Dep) (f : Int → Two) (x : Nod) : Dep := nxD (gDep ds x.id) (tgtF ds f x.id (chn l x.parent))
def outD (l : List Nod) (ds : List Dep) (f : Int → Two) (m : List Nod) : List Dep := m.filterMap fun x => if newD l ds f x = ⟨x.id, 0, 256⟩ then none else some (newD l ds f x)
theorem outD_step {l : List Nod} {ds : List Dep} {f : Int → Two} {i : Nat} (h : i < l.length) : outD l ds f (l.take (i + 1)) = outD l ds f (l.take i) ++ (if newD l ds f (nd l i) = ⟨(nd l i).id, 0, 256⟩ then [] else [newD l ds f (nd l i)]) := by
  rw [← take_snoc h]
  unfold outD
  rw [List.filterMap_append]
  by_cases c : newD l ds f (nd l i) = ⟨(nd l i).id, 0, 256⟩ <;> simp [c]
def smB (s : Smp) : Bool := inB s.lat 0 1048576
def stpE (l : List Nod) (n : Int) (ds : List Dep) (ss : List Smp) : Int := if dvB l n ds = false then 1 else if 1024 < ss.length then 7 else if ss.all smB = false then 3 else 0
def stpL (l : List Nod) (n : Int) (ds : List Dep) (ss : List Smp) : List Dep := if stpE l n ds ss = 0 then outD l ds (latF ds ss) l else []
theorem all_sm {ss : List Smp} : ss.all smB = true ↔ ∀ i, i < ss.length → smB (sm ss i) = true := by
  rw [List.all_eq_true]
  constructor
  · intro h i hi
    apply h
    simp only [sm, List.getD_eq_getElem?_getD, List.getElem?_eq_getElem hi, Option.getD_some]
    exact List.getElem_mem hi
  · intro h x hx
    obtain ⟨i, hi, e⟩ := List.getElem_of_mem hx
    have := h i hi
    simpa [sm, List.getD_eq_getElem?_getD, hi, e] using this
/-- Charges. -/
def gn (l : List Chg) (i : Nat) : Chg := l.getD i ⟨0, 0⟩
theorem gn_fold (l : List Chg) (k : Nat) : l.getD k ⟨0, 0⟩ = gn l k := rfl
def gv1 (l : List Nod) (gs : List Chg) (i : Nat) : Bool := hasB l (gn gs i).group && (decide (i = 0) || decide ((gn gs (i - 1)).group < (gn gs i).group)) && inB (gn gs i).own 0 256
def gvB (l : List Nod) (gs : List Chg) : Bool := (List.range gs.length).all (gv1 l gs)
theorem gvB_all {l : List Nod} {gs : List Chg} : gvB l gs = true ↔ ∀ i, i < gs.length → gv1 l gs i = true := by
  simp only [gvB, List.all_eq_true, List.mem_range]
def ownF (gs : List Chg) : Int → Int := gs.foldl (fun f x => updF 0 f x.group x.own) fun _ => 0
theorem ownF_step {gs : List Chg} {i : Nat} (h : i < gs.length) : ownF (gs.take (i + 1)) = updF 0 (ownF (gs.take i)) (gn gs i).group (gn gs i).own := by
  rw [List.take_add_one, List.getElem?_eq_getElem h]
  unfold ownF
  rw [List.foldl_append]
  simp [gn, List.getD_eq_getElem?_getD, h]
def sumI (f : Int → Int) (s : List Int) : Int := (s.map f).sum
theorem sumI_step {f : Int → Int} {s : List Int} {i : Nat} (h : i < s.length) : sumI f (s.take (i + 1)) = sumI f (s.take i) + f (s.getD i 0) := by
  rw [List.take_add_one, List.getElem?_eq_getElem h]
  unfold sumI
  rw [List.map_append, List.sum_append]
  simp [List.getD_eq_getElem?_getD, h]
theorem perm_sum {s t : List Int} (h : s.Perm t) : s.sum = t.sum := by
  induction h with
  | nil => rfl
  | cons x _ ih => simp only [List.sum_cons, ih]
  | swap x y l => simp only [List.sum_cons]; omega
  | trans _ _ h1 h2 => exact h1.trans h2
/-- The groups below a group, in the order of the tree. -/
def subL (l : List Nod) (g : Int) : List Int := (ids l).filter fun x => decide (g ∈ upT l x)
theorem subL_sub {l : List Nod} (h : Asc l) (g : Int) : Sub l g (subL l g) := by
  refine ⟨h.nodup.sublist List.filter_sublist, fun x => ?_⟩
  unfold subL
  rw [List.mem_filter, decide_eq_true_eq]
  refine ⟨fun hh => hh.2, fun hh => ⟨?_, hh⟩⟩
  by_cases c : x ∈ ids l
  · exact c
  · rw [upT_none c] at hh; cases hh
theorem sub_sum {l : List Nod} {g : Int} {s t : List Int} (h1 : Sub l g s) (h2 : Sub l g t) (f : Int → Int) : sumI f s = sumI f t := by
  have : s.Perm t := (List.perm_ext_iff_of_nodup h1.1 h2.1).2 fun x => (h1.2 x).trans (h2.2 x).symm
  unfold sumI
  exact perm_sum (this.map f)
def alwE (l : List Nod) (n : Int) (ds : List Dep) (gs : List Chg) (g : Int) : Int := if dvB l n ds = false then 1 else if gvB l gs = false then 1 else if hasB l g = false then 4 else 0
def roomB (l : List Nod) (ds : List Dep) (f : Int → Int) (g : Int) : Bool := decide (sumI f (subL l g) < (gDep ds g).depth)
def alwB (l : List Nod) (n : Int) (ds : List Dep) (gs : List Chg) (g : Int) : Bool := decide (alwE l n ds gs g = 0) && (upT l g).all (roomB l ds (ownF gs))
theorem gDep_rng {l : List Nod} {ds : List Dep} (h : DepOK l ds) (g : Int) : 1 ≤ (gDep ds g).depth ∧ (gDep ds g).depth ≤ 256 := by
  rcases gDep_cases ds g with ⟨x, hx, _, e⟩ | ⟨_, e⟩
  · obtain ⟨i, hi, e2⟩ := mem_dn hx
    rw [e, ← e2]; exact h.dep i hi
  · rw [e]; exact ⟨by show (1 : Int) ≤ 256; omega, by show (256 : Int) ≤ 256; omega⟩
theorem own_rng {l : List Nod} {gs : List Chg} (h : gvB l gs = true) (g : Int) : 0 ≤ ownF gs g ∧ ownF gs g ≤ 256 := by
  have key : ∀ i, i ≤ gs.length → ∀ g, 0 ≤ ownF (gs.take i) g ∧ ownF (gs.take i) g ≤ 256 := by
    intro i
    induction i with
    | zero => intro _ g; exact ⟨by show (0 : Int) ≤ 0; omega, by show (0 : Int) ≤ 256; omega⟩
    | succ i ih =>
      intro hi g
      rw [ownF_step (by omega)]
      unfold updF
      by_cases e : g = (gn gs i).group
      · rw [if_pos e]
        have := gvB_all.1 h i (by omega)
        simp only [gv1, inB, Bool.and_eq_true, decide_eq_true_eq] at this
        exact this.2
      · rw [if_neg e]; exact ih (by omega) g
  have := key gs.length (Nat.le_refl _) g
  rw [List.take_length] at this
  exact this
theorem sumI_rng {f : Int → Int} (h : ∀ g, 0 ≤ f g ∧ f g ≤ 256) (s : List Int) : ∀ i, i ≤ s.length → 0 ≤ sumI f (s.take i) ∧ sumI f (s.take i) ≤ 256 * i
  | 0, _ => by simp [sumI]
  | i + 1, hi => by
    have h1 := sumI_rng h s i (by omega)
    have h2 := h (s.getD i 0)
    rw [sumI_step (by omega)]
    omega
theorem getD_mem {l : List Int} {i : Nat} (h : i < l.length) : l.getD i 0 ∈ l := by
  rw [List.getD_eq_getElem?_getD, List.getElem?_eq_getElem h]
  exact List.getElem_mem h
theorem up_len64 {l : List Nod} {n : Int} (hc : ChkP l n) (g : Int) : (upT l g).length ≤ 64 := by
  by_cases c : g ∈ ids l
  · obtain ⟨i, hi, e⟩ := ids_mem.1 c
    have := hc.up_len hi
    rw [e] at this; omega
  · rw [upT_none c]; simp
end Go.Proofs.Ytglkagaammnojaa
