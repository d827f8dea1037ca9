/-
  Lemmas and contracts on the way to the laws of this seat; each theorem states its own conditions, and there are no others.
-/
import Derived.Test.YtglkagaammnojaaVE
namespace Go.Proofs.Ytglkagaammnojaa
open Go Go.RowKit
set_option linter.unusedVariables false
set_option linter.unusedSimpArgs false

theorem mx_spec (cs : List Cnd) (t : Int) : ∀ i, ∃ k, k ≤ i ∧ mx cs t i = cn cs k ∧ (∀ j, j ≤ i → scoreI (cn cs j) t ≤ scoreI (cn cs k) t) ∧ (∀ j, j < k → scoreI (cn cs j) t < scoreI (cn cs k) t)
  | 0 => by
    refine ⟨0, Nat.le_refl _, rfl, fun j hj => ?_, fun j hj => absurd hj (Nat.not_lt_zero _)⟩
    have : j = 0 := by omega
    subst this
    exact Int.le_refl _
  | i + 1 => by
    obtain ⟨k, h1, h2, h3, h4⟩ := mx_spec cs t i
    rw [mx, h2]
    by_cases c : scoreI (cn cs k) t < scoreI (cn cs (i + 1)) t
    · rw [if_pos c]
      refine ⟨i + 1, Nat.le_refl _, rfl, fun j hj => ?_, fun j hj => ?_⟩
      · by_cases e : j = i + 1
        · subst e; exact Int.le_refl _
        · have := h3 j (by omega); omega
      · have := h3 j (by omega); omega
    · rw [if_neg c]
      refine ⟨k, by omega, rfl, fun j hj => ?_, h4⟩
      by_cases e : j = i + 1
      · subst e; omega
      · exact h3 j (by omega)
theorem CndOK.pair {l : List Nod} {cs : List Cnd} (h : CndOK l cs) : cs.Pairwise fun a b => a.proc < b.proc := by
  rw [List.pairwise_iff_getElem]
  have key : ∀ i j, i < j → j < cs.length → (cn cs i).proc < (cn cs j).proc := fun i j hij hj => by
    induction j with
    | zero => omega
    | succ j ih =>
      have h1 := h.asc (j + 1) (by omega) hj
      simp only [Nat.add_sub_cancel] at h1
      by_cases e : i = j
      · subst e; exact h1
      · have := ih (by omega) (by omega); omega
  intro i j hi hj hij
  have := key i j hij hj
  simpa [cn, List.getD_eq_getElem?_getD, hi, hj] using this
theorem pair_cn {cs : List Cnd} (h : cs.Pairwise fun a b => a.proc < b.proc) {i j : Nat} (hij : i < j) (hj : j < cs.length) : (cn cs i).proc < (cn cs j).proc := by
  rw [List.pairwise_iff_getElem] at h
  have := h i j (by omega) hj hij
  simpa [cn, List.getD_eq_getElem?_getD, show i < cs.length by omega, hj] using this
/-- What a victim is. -/
structure VicIs (l : List Nod) (cs : List Cnd) (g t : Int) (V : Cnd) : Prop where
  mem : V ∈ cs
  may : mayB l g V = true
  max : ∀ x ∈ cs, mayB l g x = true → scoreI x t ≤ scoreI V t
  fst : ∀ x ∈ cs, mayB l g x = true → scoreI x t = scoreI V t → V.proc ≤ x.proc
theorem vic_is {l : List Nod} {n : Int} {cs : List Cnd} {g t : Int} (h : vicE l n cs g t = 0) : VicIs l cs g t (vicC l n cs g t) := by
  obtain ⟨_, ho, _, _, hl, e⟩ := vic_ok h
  have hp : (withL l cs g).Pairwise fun a b => a.proc < b.proc := ho.pair.sublist List.filter_sublist
  obtain ⟨k, h1, h2, h3, h4⟩ := mx_spec (withL l cs g) t ((withL l cs g).length - 1)
  have e2 : vicC l n cs g t = cn (withL l cs g) k := by rw [e]; exact h2
  have hk : cn (withL l cs g) k ∈ withL l cs g := cn_mem (by omega)
  have hs := withL_sub hk
  rw [e2]
  refine ⟨hs.1, hs.2, fun x hx hm => ?_, fun x hx hm he => ?_⟩
  · obtain ⟨j, hj, ej⟩ := mem_cn (cs := withL l cs g) (List.mem_filter.2 ⟨hx, hm⟩)
    rw [← ej]; exact h3 j (by omega)
  · obtain ⟨j, hj, ej⟩ := mem_cn (cs := withL l cs g) (List.mem_filter.2 ⟨hx, hm⟩)
    rw [← ej] at he ⊢
    rcases Nat.lt_trichotomy j k with c | c | c
    · have := h4 j c; omega
    · rw [c]; exact Int.le_refl _
    · have := pair_cn hp c hj; omega
theorem vic_cases {l : List Nod} {n : Int} {cs : List Cnd} {g t : Int} (hc : ChkP l n) (ho : CndOK l cs) (hg : g ∈ ids l) (t0 : 0 ≤ t) (t1 : t ≤ 16777216) : vicE l n cs g t = 0 ∨ (vicE l n cs g t = 21 ∧ vicC l n cs g t = cz ∧ ∀ x ∈ cs, mayB l g x = false) := by
  have n1 : ¬ cvB l n cs = false := by rw [cvB_iff.2 ⟨hc, ho⟩]; simp
  have n2 : ¬ hasB l g = false := by rw [hasB_iff.2 hg]; simp
  by_cases hw : (withL l cs g).length = 0
  · have e : vicE l n cs g t = 21 := by rw [vicE, if_neg n1, if_neg n2, if_neg (by omega), if_pos hw]
    refine .inr ⟨e, by rw [vicC, if_neg (by rw [e]; omega)], fun x hx => ?_⟩
    cases hm : mayB l g x
    · rfl
    · have : x ∈ withL l cs g := List.mem_filter.2 ⟨hx, hm⟩
      rw [List.eq_nil_of_length_eq_zero hw] at this; cases this
  · left
    rw [vicE, if_neg n1, if_neg n2, if_neg (by omega), if_neg hw]
/-- The one with a number, among the first ones. -/
def bestOf (cs : List Cnd) (v : Int) : Nat → Cnd
  | 0 => cz
  | i + 1 => if (cn cs i).proc = v then cn cs i else bestOf cs v i
theorem best_none {cs : List Cnd} {v : Int} : ∀ {i : Nat}, (∀ j, j < i → (cn cs j).proc ≠ v) → bestOf cs v i = cz
  | 0, _ => rfl
  | i + 1, h => by
    rw [bestOf, if_neg (h i (by omega))]
    exact best_none fun j hj => h j (by omega)
theorem best_at {l : List Nod} {cs : List Cnd} (ho : CndOK l cs) {k : Nat} : ∀ {i : Nat}, k < i → i ≤ cs.length → bestOf cs (cn cs k).proc i = cn cs k
  | 0, h, _ => by omega
  | i + 1, h, hi => by
    rw [bestOf]
    by_cases e : i = k
    · subst e; rw [if_pos rfl]
    · rw [if_neg, best_at ho (by omega) (by omega)]
      have := pair_cn ho.pair (i := k) (j := i) (by omega) (by omega)
      omega
theorem best_mem {l : List Nod} {cs : List Cnd} (ho : CndOK l cs) {x : Cnd} (hx : x ∈ cs) : bestOf cs x.proc cs.length = x := by
  obtain ⟨k, hk, e⟩ := mem_cn hx
  rw [← e]; exact best_at ho hk (Nat.le_refl _)
theorem best_zero {l : List Nod} {cs : List Cnd} (ho : CndOK l cs) : bestOf cs 0 cs.length = cz :=
  best_none fun j hj => by have := ho.pos j hj; omega
theorem anc_eq {l : List Nod} {n g : Int} (hc : ChkP l n) : ancR l n g = upT l g := by
  unfold ancR
  by_cases h : hasR l n g = true
  · rw [if_pos h]
  · rw [if_neg h, upT_none fun hm => h (hasR_iff.2 ⟨hc, hm⟩)]
theorem scE_ok {c : Cnd} {t : Int} (h : SoundC c) (t0 : 0 ≤ t) (t1 : t ≤ 16777216) : scE c t = 0 ∧ scN c t = scoreI c t := by
  have e : scE c t = 0 := by rw [scE, if_neg (by rw [soundB_iff.2 h]; simp), if_neg (by omega)]
  exact ⟨e, by rw [scN, if_pos e]⟩
end Go.Proofs.Ytglkagaammnojaa
