/-
  Lemmas and contracts on the way to the laws of this seat; each theorem states its own conditions, and there are no others.
-/
import Derived.Test.YtglkagaammnojaaPE
namespace Go.Proofs.Ytglkagaammnojaa
open Go Go.RowKit
set_option linter.unusedVariables false
set_option linter.unusedSimpArgs false

theorem gDep_grp (ds : List Dep) (g : Int) : (gDep ds g).group = g := by
  rcases gDep_cases ds g with ⟨x, _, h, e⟩ | ⟨_, e⟩
  · rw [e]; exact h
  · rw [e]
theorem nxD_grp (d : Dep) (t : Int) : (nxD d t).group = d.group ∧ (nxD d t).target = d.target := by
  unfold nxD
  split
  · exact ⟨rfl, rfl⟩
  · split <;> exact ⟨rfl, rfl⟩
theorem nxD_rng {d : Dep} (t : Int) (h : 1 ≤ d.depth ∧ d.depth ≤ 256) : 1 ≤ (nxD d t).depth ∧ (nxD d t).depth ≤ 256 := by
  unfold nxD
  split
  · show 1 ≤ min 256 (d.depth + max 1 (d.depth / 4)) ∧ min 256 (d.depth + max 1 (d.depth / 4)) ≤ 256; omega
  · split
    · show 1 ≤ max 1 (d.depth / 2) ∧ max 1 (d.depth / 2) ≤ 256; omega
    · exact h
theorem newD_grp (l : List Nod) (ds : List Dep) (f : Int → Two) (x : Nod) : (newD l ds f x).group = x.id ∧ (newD l ds f x).target = (gDep ds x.id).target := by
  unfold newD
  have h := nxD_grp (gDep ds x.id) (tgtF ds f x.id (chn l x.parent))
  rw [h.1, h.2, gDep_grp]; exact ⟨rfl, rfl⟩
theorem out_mem {l m : List Nod} {ds : List Dep} {f : Int → Two} {x : Dep} : x ∈ outD l ds f m ↔ ∃ y ∈ m, newD l ds f y ≠ ⟨y.id, 0, 256⟩ ∧ newD l ds f y = x := by
  unfold outD
  rw [List.mem_filterMap]
  constructor
  · rintro ⟨y, hy, h⟩
    by_cases c : newD l ds f y = ⟨y.id, 0, 256⟩
    · rw [if_pos c] at h; cases h
    · rw [if_neg c, Option.some.injEq] at h; exact ⟨y, hy, c, h⟩
  · rintro ⟨y, hy, c, h⟩
    exact ⟨y, hy, by rw [if_neg c, h]⟩
theorem gDep_out {l : List Nod} {ds : List Dep} {f : Int → Two} (ha : Asc l) {i : Nat} (hi : i < l.length) : gDep (outD l ds f l) (nd l i).id = newD l ds f (nd l i) := by
  rcases gDep_cases (outD l ds f l) (nd l i).id with ⟨x, hx, h, e⟩ | ⟨h, e⟩
  · obtain ⟨y, hy, _, e2⟩ := out_mem.1 hx
    obtain ⟨j, hj, e3⟩ := mem_nd hy
    rw [← e2, (newD_grp l ds f y).1, ← e3] at h
    have := ha.inj hj hi h
    rw [e, ← e2, ← e3, this]
  · rw [e]
    apply Classical.byContradiction
    intro hn
    exact h _ (out_mem.2 ⟨nd l i, nd_mem hi, fun h2 => hn h2.symm, rfl⟩) (newD_grp l ds f (nd l i)).1
theorem out_ok {l : List Nod} {n : Int} {ds : List Dep} {f : Int → Two} (hc : ChkP l n) (ho : DepOK l ds) : DepOK l (outD l ds f l) := by
  have ha := hc.asc
  have hp : (outD l ds f l).Pairwise fun a b => a.group < b.group := by
    unfold outD
    rw [List.pairwise_filterMap]
    have hl : l.Pairwise fun a b => a.id < b.id := by
      rw [List.pairwise_iff_getElem]
      intro i j hi hj hij
      have := ha.lt i j hij hj
      simpa [nd, List.getD_eq_getElem?_getD, hi, hj] using this
    refine hl.imp fun {a b} hab x hx y hy => ?_
    have key : ∀ {a : Nod} {x : Dep}, (if newD l ds f a = ⟨a.id, 0, 256⟩ then none else some (newD l ds f a)) = some x → x.group = a.id := fun {a x} h => by
      by_cases c : newD l ds f a = ⟨a.id, 0, 256⟩
      · rw [if_pos c] at h; cases h
      · rw [if_neg c, Option.some.injEq] at h
        rw [← h]; exact (newD_grp l ds f a).1
    rw [key hx, key hy]; exact hab
  have hm : ∀ i, i < (outD l ds f l).length → ∃ k, k < l.length ∧ dn (outD l ds f l) i = newD l ds f (nd l k) := fun i hi => by
    obtain ⟨y, hy, _, e⟩ := out_mem.1 (dn_mem hi)
    obtain ⟨k, hk, e2⟩ := mem_nd hy
    exact ⟨k, hk, by rw [← e, e2]⟩
  refine ⟨?_, fun i h0 hi => ?_, fun i hi => ?_, fun i hi => ?_, fun i hi => ?_⟩
  · have h5 := List.length_filterMap_le (fun x => if newD l ds f x = ⟨x.id, 0, 256⟩ then none else some (newD l ds f x)) l
    have := hc.len2
    unfold outD; omega
  · rw [List.pairwise_iff_getElem] at hp
    have := hp (i - 1) i (by omega) hi (by omega)
    simpa [dn, List.getD_eq_getElem?_getD, hi, show i - 1 < (outD l ds f l).length by omega] using this
  · obtain ⟨k, hk, e⟩ := hm i hi
    rw [e, (newD_grp l ds f _).1]; exact ids_mem.2 ⟨k, hk, rfl⟩
  · obtain ⟨k, hk, e⟩ := hm i hi
    rw [e, (newD_grp l ds f _).2]
    rcases gDep_cases ds (nd l k).id with ⟨x, hx, _, e2⟩ | ⟨_, e2⟩
    · obtain ⟨j, hj, e3⟩ := mem_dn hx
      rw [e2, ← e3]; exact ho.tgt j hj
    · rw [e2]; exact ⟨by show (0 : Int) ≤ 0; omega, by show (0 : Int) ≤ 1048576; omega⟩
  · obtain ⟨k, hk, e⟩ := hm i hi
    rw [e]; exact nxD_rng _ (gDep_rng ho _)
theorem tgt_not {ds : List Dep} {f : Int → Two} {id : Int} {c : List Int} (h : ∀ g ∈ c, g ≠ id → missB ds f g = false) : tgtF ds f id c = 0 := by
  have key : ∀ (c : List Int) (a : Int), (∀ g ∈ c, g ≠ id → missB ds f g = false) → c.foldl (tgt1 ds f id) a = a := by
    intro c
    induction c with
    | nil => intro a _; rfl
    | cons x c ih =>
      intro a h
      rw [List.foldl_cons]
      have : tgt1 ds f id a x = a := by
        rw [tgt1, if_neg]
        rintro ⟨h1, h2, _⟩
        rw [h x (by simp) h1] at h2; cases h2
      rw [this]
      exact ih a fun g hg => h g (by simp [hg])
  exact key c 0 h
theorem tgt_cases (ds : List Dep) (f : Int → Two) (id : Int) (c : List Int) : tgtF ds f id c = 0 ∨ ∃ g ∈ c, g ≠ id ∧ missB ds f g = true ∧ tgtF ds f id c = (gDep ds g).target := by
  have key : ∀ (c : List Int) (a : Int), c.foldl (tgt1 ds f id) a = a ∨ ∃ g ∈ c, g ≠ id ∧ missB ds f g = true ∧ c.foldl (tgt1 ds f id) a = (gDep ds g).target := by
    intro c
    induction c with
    | nil => intro a; exact .inl rfl
    | cons x c ih =>
      intro a
      rw [List.foldl_cons]
      rcases ih (tgt1 ds f id a x) with h | ⟨g, h1, h2, h3, h4⟩
      · rw [h]
        by_cases t : x ≠ id ∧ missB ds f x = true ∧ (a = 0 ∨ (gDep ds x).target < a)
        · rw [tgt1, if_pos t]; exact .inr ⟨x, by simp, t.1, t.2.1, rfl⟩
        · rw [tgt1, if_neg t]; exact .inl rfl
      · exact .inr ⟨g, by simp [h1], h2, h3, h4⟩
  exact key c 0
theorem stp_zero {l : List Nod} {n : Int} {ds : List Dep} {ss : List Smp} (hc : ChkP l n) (ho : DepOK l ds) (hs : SmpOK ss) : stpE l n ds ss = 0 := by
  rw [stpE, if_neg (by rw [dvB_iff.2 ⟨hc, ho⟩]; simp), if_neg (by have := hs.len; omega), if_neg]
  rw [all_sm.2 fun i hi => by
    have := hs.lat i hi
    simp only [smB, inB, Bool.and_eq_true, decide_eq_true_eq]; exact this]
  simp
theorem stp_out {l : List Nod} {n : Int} {ds : List Dep} {ss : List Smp} (hc : ChkP l n) (ho : DepOK l ds) (hs : SmpOK ss) : stpL l n ds ss = outD l ds (latF ds ss) l := by
  rw [stpL, if_pos (stp_zero hc ho hs)]
/-- The children that the law looks at: the siblings. -/
theorem sib {l : List Nod} {n : Int} (hc : ChkP l n) {i : Nat} (hi : i < l.length) {g : Int} (hg : g ∈ chn l (nd l i).parent) (hn : g ≠ (nd l i).id) : g ∈ chnR l n (nd l i).parent := by
  have ha := hc.asc
  obtain ⟨k, hk, e1, e2⟩ := chn_mem.1 hg
  have hp : (nd l i).parent ∈ ids l := by
    rcases Nat.eq_zero_or_pos i with h0 | h0
    · subst h0
      have hr := ha.root (by omega)
      have h0k : 0 < k := by
        rcases Nat.eq_zero_or_pos k with h | h
        · subst h; exact absurd e1.symm hn
        · exact h
      obtain ⟨j, hj, ej⟩ := ha.par k h0k hk
      rw [e2] at ej
      rw [← ej]; exact ids_mem.2 ⟨j, by omega, rfl⟩
    · obtain ⟨j, hj, ej⟩ := ha.par i h0 hi
      rw [← ej]; exact ids_mem.2 ⟨j, by omega, rfl⟩
  rw [chnR, if_pos (hasR_iff.2 ⟨hc, hp⟩)]; exact hg
theorem chnR_sub {l : List Nod} {n p g : Int} (h : g ∈ chnR l n p) : g ∈ chn l p := by
  unfold chnR at h
  split at h
  · exact h
  · cases h
/-- How much the depth is after some windows without samples, at least. -/
def loD : Nat → Int
  | 0 => 1
  | i + 1 => min 256 (loD i + max 1 (loD i / 4))
theorem loD_rng : ∀ i, 1 ≤ loD i ∧ loD i ≤ 256
  | 0 => by decide
  | i + 1 => by
    have := loD_rng i
    rw [loD]; omega
def lsB (ds : List Dep) (id t g : Int) : Bool := decide (g = id) || decide ((gDep ds g).target = 0) || decide (t ≤ (gDep ds g).target)
def msB (ds : List Dep) (f : Int → Two) (id g : Int) : Bool := !decide (g = id) && missB ds f g
theorem latF_perm {ds : List Dep} {ss tt : List Smp} (h : ss.Perm tt) : latF ds ss = latF ds tt := by
  funext g
  unfold latF latA latB
  rw [h.countP_eq, h.countP_eq]
theorem outD_congr {l : List Nod} {ds : List Dep} {f f' : Int → Two} (h : ∀ g, missB ds f g = missB ds f' g) (m : List Nod) : outD l ds f m = outD l ds f' m := by
  have e1 : ∀ id, tgt1 ds f id = tgt1 ds f' id := fun id => by
    funext a g
    unfold tgt1
    rw [h g]
  have e2 : ∀ x, newD l ds f x = newD l ds f' x := fun x => by
    unfold newD tgtF
    rw [e1]
  unfold outD
  congr 1
  funext x
  rw [e2]
def fewS (ds : List Dep) (ss : List Smp) : List Smp := ss.filter fun s => decide (0 < (gDep ds s.group).target)
theorem few_miss (ds : List Dep) (ss : List Smp) (g : Int) : missB ds (latF ds (fewS ds ss)) g = missB ds (latF ds ss) g := by
  unfold missB
  by_cases c : 0 < (gDep ds g).target
  · have e1 : latA (fewS ds ss) g = latA ss g := by
      unfold latA fewS
      rw [List.countP_filter]
      congr 1
      funext s
      by_cases e : s.group = g
      · subst e; simp [c]
      · simp [e]
    have e2 : latB ds (fewS ds ss) g = latB ds ss g := by
      unfold latB fewS
      rw [List.countP_filter]
      congr 1
      funext s
      by_cases e : s.group = g
      · subst e; simp [c]
      · simp [e]
    unfold latF
    rw [e1, e2]
  · simp [c]
theorem few_step {ds : List Dep} {ss : List Smp} {i : Nat} (h : i < ss.length) : fewS ds (ss.take (i + 1)) = fewS ds (ss.take i) ++ (if 0 < (gDep ds (sm ss i).group).target then [sm ss i] else []) := by
  rw [sm_take h]
  unfold fewS
  rw [List.filter_append]
  by_cases c : 0 < (gDep ds (sm ss i).group).target <;> simp [c]
theorem sm_mem {ss : List Smp} {i : Nat} (h : i < ss.length) : sm ss i ∈ ss := by
  simp only [sm, List.getD_eq_getElem?_getD, List.getElem?_eq_getElem h, Option.getD_some]
  exact List.getElem_mem h
theorem SmpOK.sub {ss tt : List Smp} (h : SmpOK ss) (hl : tt.length ≤ ss.length) (hm : ∀ x ∈ tt, x ∈ ss) : SmpOK tt := by
  refine ⟨by have := h.len; omega, fun i hi => ?_⟩
  have h1 := hm _ (sm_mem hi)
  obtain ⟨j, hj, e⟩ := List.getElem_of_mem h1
  have := h.lat j hj
  have e2 : sm ss j = ss[j] := by simp [sm, List.getD_eq_getElem?_getD, hj]
  rw [e2, e] at this
  exact this
end Go.Proofs.Ytglkagaammnojaa
