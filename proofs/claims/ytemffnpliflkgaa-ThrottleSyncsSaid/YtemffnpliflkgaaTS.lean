/-
  Lemmas and contracts on the way to the laws of this seat; each theorem states its own conditions, and there are no others.
-/
import Derived.Test.YtemffnpliflkgaaVD
namespace Go.Proofs.Ytemffnpliflkgaa
open Go
set_option linter.unusedVariables false
set_option linter.unusedSimpArgs false
set_option linter.unusedVariables false
theorem getD_mem {l : List Int} {i : Nat} (h : i < l.length) : l.getD i 0 ∈ l := by
  rw [List.getD_eq_getElem?_getD, List.getElem?_eq_getElem h]
  exact List.getElem_mem h

theorem Asc.chn_gt {l : List Nod} (h : Asc l) {g c : Int} (hg : g ∈ ids l) (hc : c ∈ chn l g) : c ∈ ids l ∧ g < c ∧ upT l c = c :: upT l g := by
  obtain ⟨i, hi, e1, e2⟩ := chn_mem.1 hc
  refine ⟨ids_mem.2 ⟨i, hi, e1⟩, ?_, by rw [← e1, h.upT_par hi, e2]⟩
  by_cases i0 : i = 0
  · subst i0
    rw [(h.root (by omega)).2] at e2
    rw [← e2] at hg
    exact absurd hg h.notzero
  · obtain ⟨q, hq, eq⟩ := h.par i (by omega) hi
    have h3 := h.lt q i hq hi
    rw [eq, e2, e1] at h3
    exact h3
/-- Of two children of a group, at most one is above another group. -/
theorem Asc.one_way {l : List Nod} (h : Asc l) {g c d : Int} (hg : g ∈ ids l) (hc : c ∈ chn l g) (hd : d ∈ chn l g) : ∀ i, i < l.length → c ∈ upT l (nd l i).id → d ∈ upT l (nd l i).id → c = d := by
  obtain ⟨c1, c2, c3⟩ := h.chn_gt hg hc
  obtain ⟨d1, d2, d3⟩ := h.chn_gt hg hd
  obtain ⟨k, hk, ek⟩ := ids_mem.1 hg
  have no : ∀ a, g < a → ¬ a ∈ upT l g := fun a ha hm => by
    have := h.le_of_up k hk a (by rw [ek]; exact hm)
    omega
  intro i
  induction i using Nat.strongRecOn with
  | _ i ih =>
    intro hi hci hdi
    by_cases e1 : (nd l i).id = c
    · rw [e1, c3] at hdi
      rcases List.mem_cons.1 hdi with e | e
      · exact e.symm
      · exact absurd e (no d d2)
    · by_cases e2 : (nd l i).id = d
      · rw [e2, d3] at hci
        rcases List.mem_cons.1 hci with e | e
        · exact e
        · exact absurd e (no c c2)
      · rw [h.upT_par hi] at hci hdi
        rcases List.mem_cons.1 hci with e | hci
        · exact absurd e.symm e1
        rcases List.mem_cons.1 hdi with e | hdi
        · exact absurd e.symm e2
        by_cases i0 : i = 0
        · subst i0
          rw [(h.root (by omega)).2, upT_none h.notzero] at hci; cases hci
        · obtain ⟨q, hq, eq⟩ := h.par i (by omega) hi
          rw [← eq] at hci hdi
          exact ih q hq (by omega) hci hdi
def cn_ (l : List Nod) (g : Int) (k : Nat) : Int := (chn l g).getD k 0
theorem cn__mem {l : List Nod} {g : Int} {k : Nat} (h : k < (chn l g).length) : cn_ l g k ∈ chn l g := getD_mem h
theorem cn__ne {l : List Nod} (ha : Asc l) {g : Int} {j k : Nat} (h : k < (chn l g).length) (hj : j < k) : cn_ l g j ≠ cn_ l g k := by
  have hn := ha.chn_nodup g
  rw [List.nodup_iff_pairwise_ne, List.pairwise_iff_getElem] at hn
  have := hn j k (by omega) h hj
  simpa [cn_, List.getD_eq_getElem?_getD, h, show j < (chn l g).length by omega] using this
/-- What the walk from child to child has gathered. -/
def SubK (l : List Nod) (g : Int) (k : Nat) (s : List Int) : Prop := s.Nodup ∧ ∀ x, x ∈ s ↔ x = g ∨ ∃ j, j < k ∧ cn_ l g j ∈ upT l x
theorem subK_zero (l : List Nod) (g : Int) : SubK l g 0 [g] := ⟨by simp, fun x => by simp⟩
theorem subK_step {l : List Nod} (h : Asc l) {g : Int} (hg : g ∈ ids l) {k : Nat} {s y : List Int} (hk : k < (chn l g).length) (H : SubK l g k s) (S : Sub l (cn_ l g k) y) : SubK l g (k + 1) (s ++ y) := by
  have hck := cn__mem hk
  obtain ⟨c1, c2, c3⟩ := h.chn_gt hg hck
  refine ⟨?_, fun x => ?_⟩
  · rw [List.nodup_append]
    refine ⟨H.1, S.1, fun a ha b hb e => ?_⟩
    subst e
    have hb2 := (S.2 a).1 hb
    rcases (H.2 a).1 ha with e | ⟨j, hj, hja⟩
    · subst e
      obtain ⟨q, hq, eq⟩ := ids_mem.1 hg
      have := h.le_of_up q hq _ (by rw [eq]; exact hb2)
      omega
    · have hm : a ∈ ids l := by
        by_cases hx : a ∈ ids l
        · exact hx
        · rw [upT_none hx] at hb2; cases hb2
      obtain ⟨i, hi, ei⟩ := ids_mem.1 hm
      rw [← ei] at hja hb2
      exact cn__ne h hk hj (h.one_way hg (cn__mem (by omega)) hck i hi hja hb2)
  · rw [List.mem_append, H.2, S.2]
    constructor
    · rintro ((e | ⟨j, hj, hm⟩) | hm)
      · exact .inl e
      · exact .inr ⟨j, by omega, hm⟩
      · exact .inr ⟨k, by omega, hm⟩
    · rintro (e | ⟨j, hj, hm⟩)
      · exact .inl (.inl e)
      · by_cases e : j = k
        · subst e; exact .inr hm
        · exact .inl (.inr ⟨j, by omega, hm⟩)
theorem subK_fin {l : List Nod} (h : Asc l) {g : Int} (hg : g ∈ ids l) {s : List Int} (H : SubK l g (chn l g).length s) : Sub l g s := by
  refine ⟨H.1, fun x => ?_⟩
  rw [H.2]
  have W := (Walk.start h hg).step h
  constructor
  · rintro (e | ⟨j, hj, hm⟩)
    · subst e; exact h.self_mem hg
    · have hx : x ∈ ids l := by
        by_cases hx : x ∈ ids l
        · exact hx
        · rw [upT_none hx] at hm; cases hm
      obtain ⟨i, hi, ei⟩ := ids_mem.1 hx
      rw [← ei] at hm ⊢
      refine h.up_trans i hi _ g hm ?_
      rw [(h.chn_gt hg (cn__mem hj)).2.2]
      exact List.mem_cons_of_mem _ (h.self_mem hg)
  · intro hm
    rcases W.cover x hm with e | ⟨a, ha, h2⟩
    · left; simpa using e
    · right
      have ha : a ∈ chn l g := by simpa using ha
      obtain ⟨j, hj, ej⟩ := List.getElem_of_mem ha
      exact ⟨j, hj, by rw [cn_, List.getD_eq_getElem?_getD, List.getElem?_eq_getElem hj, Option.getD_some, ej]; exact h2⟩
theorem subK_len {l : List Nod} {g : Int} (hg : g ∈ ids l) {k : Nat} {s : List Int} (H : SubK l g k s) : s.length ≤ l.length := by
  have h1 : s ⊆ ids l := fun x hx => by
    rcases (H.2 x).1 hx with e | ⟨j, hj, hm⟩
    · subst e; exact hg
    · by_cases hx : x ∈ ids l
      · exact hx
      · rw [upT_none hx] at hm; cases hm
  have := nodup_le H.1 h1
  simpa [ids] using this
theorem sub_len {l : List Nod} {g : Int} {s : List Int} (H : Sub l g s) : s.length ≤ l.length := by
  have h1 : s ⊆ ids l := fun x hx => by
    have hm := (H.2 x).1 hx
    by_cases hx : x ∈ ids l
    · exact hx
    · rw [upT_none hx] at hm; cases hm
  have := nodup_le H.1 h1
  simpa [ids] using this
theorem sub_nil {l : List Nod} {g : Int} (hg : g ∉ ids l) : Sub l g [] := by
  refine ⟨by simp, fun x => ?_⟩
  constructor
  · intro h; cases h
  · intro hm; exact absurd (upT_sub hm) hg
/-- How many groups have greater numbers. -/
def abv (l : List Nod) (g : Int) : Nat := (ids l).countP fun x => decide (g < x)
theorem cnt_lt {c g : Int} (h : g < c) : ∀ {L : List Int}, c ∈ L → L.countP (fun x => decide (c < x)) < L.countP (fun x => decide (g < x))
  | a :: L, hm => by
    have le : L.countP (fun x => decide (c < x)) ≤ L.countP (fun x => decide (g < x)) := List.countP_mono_left fun x _ hx => by
      simp only [decide_eq_true_eq] at hx ⊢
      omega
    rw [List.countP_cons, List.countP_cons]
    by_cases e : a = c
    · subst e
      simp [h]
      omega
    · have hm2 : c ∈ L := by
        rcases List.mem_cons.1 hm with e2 | e2
        · exact absurd e2.symm e
        · exact e2
      have := cnt_lt h hm2
      by_cases x1 : c < a
      · have x2 : g < a := by omega
        simp [x1, x2]; omega
      · simp [x1]; omega
theorem abv_lt {l : List Nod} (h : Asc l) {g c : Int} (hg : g ∈ ids l) (hc : c ∈ chn l g) : abv l c < abv l g := by
  obtain ⟨c1, c2, _⟩ := h.chn_gt hg hc
  exact cnt_lt c2 c1
end Go.Proofs.Ytemffnpliflkgaa
