/-
  Lemmas and contracts on the way to the laws of this seat; each theorem states its own conditions, and there are no others.
-/
import Derived.Test.YtemffnpliflkgaaPL
namespace Go.Proofs.Ytemffnpliflkgaa
open Go
set_option linter.unusedVariables false
set_option linter.unusedSimpArgs false
set_option linter.unusedVariables false

theorem fresh_er {l : List Nod} {n p : Int} (t : TreeP l n) (hp : p ∈ ids l) : addE l n p ⟨#[102, 114, 101, 115, 104]⟩ = 0 ∨ addE l n p ⟨#[102, 114, 101, 115, 104]⟩ = 7 := by
  have h1 : nameB ⟨#[102, 114, 101, 115, 104]⟩ = true := by decide
  have h2 : hasR l n p = true := by unfold hasR; rw [chkB_iff.2 t.chk, hasB_iff.2 hp]; rfl
  have h3 : soleB l l.length p ⟨#[102, 114, 101, 115, 104]⟩ = true := soleB_iff.2 fun i hi h => by
    have hw := t.word _ (nd_mem hi)
    rw [h.2] at hw
    rcases hw with hw | hw
    · have : bytesOf ⟨#[102, 114, 101, 115, 104]⟩ = bytesOf ByteArray.empty := by rw [hw]
      exact absurd this (by decide)
    · have h2 : bytesOf ⟨#[102, 114, 101, 115, 104]⟩ ∈ wordsS.map bytesOf := List.mem_map_of_mem hw
      exact absurd h2 (by decide)
  rw [addE, if_neg (by rw [chkB_iff.2 t.chk, h1]; simp), if_neg (by rw [h2]; simp), if_neg (by rw [h3]; simp)]
  split <;> simp
theorem lowF_congr {c d : List Cfg} : ∀ (up : List Int) (s : Stg), (∀ g ∈ up, getC c g = getC d g) → lowF c s up = lowF d s up
  | [], s, _ => rfl
  | g :: r, s, h => by
    show lowF c (minS s (getC c g)) r = lowF d (minS s (getC d g)) r
    rw [h g (by simp), lowF_congr r _ fun x hx => h x (by simp [hx])]
/-- Groups that are not below the group that was set. -/
theorem apart_law {l : List Nod} {n : Int} {c : List Cfg} {s : Stg} (h : CfgsP l c) (hc : ChkP l n) (hs : MS s) {i k : Nat} (hi : i < l.length) (hk : k < l.length) (hn : (nd l i).id ∉ upT l (nd l k).id) : lowS l n c (nd l k).id = lowS l n (setL l n c (nd l i).id s) (nd l k).id := by
  obtain ⟨k1, k2, k3, k4⟩ := set_law h hc hs hi
  have hm : (nd l k).id ∈ ids l := ids_mem.2 ⟨k, hk, rfl⟩
  have key : ∀ g ∈ upT l (nd l k).id, getC c g = getC (setL l n c (nd l i).id s) g := fun g hg => by
    obtain ⟨j, hj, e⟩ := ids_mem.1 (upT_sub hg)
    rw [← e]
    exact (k4 j hj (by rw [e]; rintro rfl; exact hn hg)).symm
  rw [low_at h hc hm, low_at k2 hc hm, lowF_congr _ _ key, key _ (hc.asc.self_mem hm)]
theorem anyI_iff {g : Int} {l : List Int} : anyI g l = true ↔ g ∈ l := by
  simp only [anyI, List.any_eq_true, decide_eq_true_eq]
  constructor
  · rintro ⟨x, hx, rfl⟩; exact hx
  · intro h; exact ⟨g, h, rfl⟩
theorem anyI_step {g : Int} {l : List Int} {k : Nat} (h : k < l.length) : (anyI g (l.take k) || decide (l.getD k 0 = g)) = anyI g (l.take (k + 1)) := by
  rw [List.take_add_one, List.getElem?_eq_getElem h, anyI, anyI, List.any_append, List.getD_eq_getElem?_getD, List.getElem?_eq_getElem h]
  simp
theorem adj_at {l : List Nod} {n : Int} {c : List Cfg} (hc : ChkP l n) {i : Nat} (hi : i < l.length) : (adjL l n c).length = l.length ∧ cn (adjL l n c) i = cfgS (nd l i).id (getC c (nd l i).id) := by
  rw [adjL, if_pos (chkB_iff.2 hc)]
  refine ⟨by simp, ?_⟩
  rw [cn_get (by simpa using hi), List.getElem_map, nd, List.getD_eq_getElem?_getD, List.getElem?_eq_getElem hi]
  rfl
theorem adj_cfgs {l z : List Nod} {n m : Int} {c : List Cfg} (h : CfgsP l c) (hl : ChkP l n) (hz : ChkP z m) : CfgsP z (adjL z m c) := by
  refine ⟨?_, fun i hi => ?_⟩
  · rw [adjL, if_pos (chkB_iff.2 hz)]; simp
  · rw [(adj_at hz hi).2]
    refine ⟨rfl, ?_⟩
    show MS (getC c (nd z i).id)
    rcases idxC_cases c (nd z i).id with ⟨j, hj, e, h1, _⟩ | ⟨h1, _⟩
    · rw [getC_at h1 hj e]; exact (h.at_ j (by rw [← h.len]; exact hj)).2
    · rw [getC_none h1]; exact MS.dS
theorem adj_get {l z : List Nod} {n m : Int} {c : List Cfg} (h : CfgsP l c) (hl : ChkP l n) (hz : ChkP z m) {i : Nat} (hi : i < z.length) : getC (adjL z m c) (nd z i).id = getC c (nd z i).id := by
  rw [((adj_cfgs h hl hz).get hz hi).1, (adj_at hz hi).2]; rfl
theorem get_new {l : List Nod} {n : Int} {c : List Cfg} (h : CfgsP l c) (hl : ChkP l n) : getC c n = dS := by
  refine getC_none fun j hj e => ?_
  rw [(h.at_ j (by rw [← h.len]; exact hj)).1] at e
  have := hl.lt_next (i := j) (by rw [← h.len]; exact hj)
  omega
theorem set_len {l : List Int} {n : Int} (h : setB l n = true) : ∀ i : Nat, i < l.length → (i : Int) ≤ l.getD i 0 ∧ l.getD i 0 < n
  | 0, hi => by
    have := setB_iff.1 h 0 hi
    simp only [set1, Bool.and_eq_true, Bool.or_eq_true, decide_eq_true_eq] at this
    omega
  | i + 1, hi => by
    have h1 := set_len h i (by omega)
    have := setB_iff.1 h (i + 1) hi
    simp only [set1, Bool.and_eq_true, Bool.or_eq_true, decide_eq_true_eq, Nat.add_sub_cancel] at this
    omega
theorem set_short {l : List Int} {n : Int} (h : setB l n = true) (h0 : 0 ≤ n) : (l.length : Int) ≤ n := by
  by_cases c : l.length = 0
  · omega
  · have := set_len h (l.length - 1) (by omega)
    omega
theorem ms_len {s : Stg} (h : MS s) : s.cpus.length ≤ 1000 ∧ s.mems.length ≤ 1000 ∧ s.devs.length ≤ 1000 := by
  have h2 := h.1
  simp only [chkS, Bool.and_eq_true] at h2
  have h3 := set_short h2.1.1.1.1.2 (by omega)
  have h4 := set_short h2.1.1.1.2 (by omega)
  have h5 := (devB_iff.1 h2.2).2
  omega
end Go.Proofs.Ytemffnpliflkgaa
