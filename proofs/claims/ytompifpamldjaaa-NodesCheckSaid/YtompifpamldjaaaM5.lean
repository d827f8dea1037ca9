/-
  Lemmas and contracts on the way to the laws of this seat; each theorem states its own conditions, and there are no others.
-/
import Derived.Test.YtompifpamldjaaaM4
namespace Go.Proofs.Ytompifpamldjaaa
set_option linter.unusedVariables false
set_option linter.unusedSimpArgs false
set_option linter.unusedVariables false

def sumF (f : Nat → Int) : Nat → Int
  | 0 => 0
  | n + 1 => sumF f n + f n
theorem sumF_congr {f g : Nat → Int} {n : Nat} (h : ∀ i, i < n → f i = g i) : sumF f n = sumF g n := by
  induction n with
  | zero => rfl
  | succ n ih => simp only [sumF]; rw [ih fun i hi => h i (by omega), h n (by omega)]
theorem sumF_le {f g : Nat → Int} {n : Nat} (h : ∀ i, i < n → f i ≤ g i) : sumF f n ≤ sumF g n := by
  induction n with
  | zero => exact Int.le_refl _
  | succ n ih => have := ih fun i hi => h i (by omega); have := h n (by omega); simp only [sumF]; omega
theorem sumF_lt {f g : Nat → Int} {n k : Nat} (h : ∀ i, i < n → f i ≤ g i) (hk : k < n) (hlt : f k < g k) : sumF f n < sumF g n := by
  induction n with
  | zero => omega
  | succ n ih =>
    simp only [sumF]
    have a := h n (by omega)
    by_cases e : k = n
    · subst e
      have := sumF_le (n := k) fun i hi => h i (by omega)
      omega
    · have := ih (fun i hi => h i (by omega)) (by omega); omega
theorem sumF_zero (n : Nat) : sumF (fun _ => 0) n = 0 := by
  induction n with
  | zero => rfl
  | succ n ih => simp only [sumF, ih]; rfl
theorem sumF_nonneg {f : Nat → Int} {n : Nat} (h : ∀ i, i < n → 0 ≤ f i) : 0 ≤ sumF f n := by
  have := sumF_le (f := fun _ => 0) (g := f) h
  rw [sumF_zero] at this; exact this
theorem sumF_add (f g : Nat → Int) (n : Nat) : sumF (fun i => f i + g i) n = sumF f n + sumF g n := by
  induction n with
  | zero => rfl
  | succ n ih => simp only [sumF, ih]; omega
theorem sumF_swap (f : Nat → Nat → Int) (n m : Nat) : sumF (fun i => sumF (fun j => f i j) m) n = sumF (fun j => sumF (fun i => f i j) n) m := by
  induction n with
  | zero => simp only [sumF]; rw [sumF_zero]
  | succ n ih => simp only [sumF]; rw [ih, ← sumF_add]
theorem sumF_shift (f : Nat → Int) (n : Nat) : sumF f (n + 1) = f 0 + sumF (fun i => f (i + 1)) n := by
  induction n with
  | zero => simp [sumF]
  | succ n ih => rw [sumF, ih]; simp only [sumF]; omega
theorem sumF_list (l : List Int) : l.sum = sumF (nth l) l.length := by
  induction l with
  | nil => rfl
  | cons a r ih =>
    rw [List.sum_cons, List.length_cons, sumF_shift, ih]
    rfl
theorem sumF_cell {f : Nat → Int} {n k : Nat} (h : ∀ i, i < n → 0 ≤ f i) (hk : k < n) : f k ≤ sumF f n := by
  induction n with
  | zero => omega
  | succ n ih =>
    simp only [sumF]
    by_cases e : k = n
    · subst e
      have := sumF_nonneg (n := k) fun i hi => h i (by omega)
      omega
    · have := ih (fun i hi => h i (by omega)) (by omega)
      have := h n (by omega)
      omega
theorem colS_sum (M : List (List Int)) (j : Nat) : colS M j = sumF (fun r => nth (rowAt M r) j) M.length := by
  unfold colS
  rw [sumF_list, List.length_map]
  refine sumF_congr fun i hi => ?_
  rw [nth, List.getD_eq_getElem?_getD, List.getElem?_map, rowAt, List.getD_eq_getElem?_getD, List.getElem?_eq_getElem hi]; rfl
theorem row_out {M : List (List Int)} {r : Nat} (h : M.length ≤ r) : rowAt M r = [] := by
  rw [rowAt, List.getD_eq_getElem?_getD, List.getElem?_eq_none h]; rfl
theorem nth_out {l : List Int} {i : Nat} (h : l.length ≤ i) : nth l i = 0 := by
  unfold nth; rw [List.getD_eq_getElem?_getD, List.getElem?_eq_none h]; rfl
theorem cell_le {M : List (List Int)} {j : Nat} (h : ∀ r, 0 ≤ nth (rowAt M r) j) (r : Nat) : nth (rowAt M r) j ≤ colS M j := by
  rw [colS_sum]
  by_cases e : r < M.length
  · exact sumF_cell (f := fun r => nth (rowAt M r) j) (fun i _ => h i) e
  · rw [row_out (by omega), nth_out (by simp)]
    exact sumF_nonneg fun i _ => h i
/-- What Place knows while it puts the demand i, of which k pages are left. -/
structure PV (C : List Chg) (A : List NSet) (cap L : List Int) (M : List (List Int)) (i k : Int) : Prop where
  f : FVal A L M
  ll : L.length = cap.length
  la : A.length = C.length
  cs : ∀ j, colS M j + nth L j = nth cap j
  rs : ∀ r : Nat, r < C.length → (rowAt M r).sum = if (r : Int) < i then ownAt C r else if (r : Int) = i then ownAt C r - k else 0
/-- How much is wanted on some nodes alone. -/
def need (C : List Chg) (A : List NSet) (S : List Int) : Int := sumF (fun i => if ∀ x ∈ nodesAt A i, x ∈ S then ownAt C i else 0) C.length
/-- Nodes that refuse. -/
structure IsRef (C : List Chg) (A : List NSet) (cap S : List Int) : Prop where
  asc : Asc S cap.length
  gt : (S.map fun x => nth cap x.toNat).sum < need C A S
/-- The nodes that are reached, of the first n. -/
def reach' (N : List Int) : Nat → List Int
  | 0 => []
  | n + 1 => reach' N n ++ if 0 ≤ nth N n then [(n : Int)] else []
theorem reach'_mem {N : List Int} {x : Int} : ∀ {n : Nat}, x ∈ reach' N n ↔ ∃ j : Nat, j < n ∧ x = j ∧ 0 ≤ nth N j
  | 0 => by simp [reach']
  | n + 1 => by
    rw [reach', List.mem_append, reach'_mem]
    constructor
    · rintro (⟨j, h1, h2, h3⟩ | h)
      · exact ⟨j, by omega, h2, h3⟩
      · split at h
        · rename_i e
          exact ⟨n, by omega, by simpa using h, e⟩
        · simp at h
    · rintro ⟨j, h1, h2, h3⟩
      by_cases e : j = n
      · subst e
        right; rw [if_pos h3]; simp [h2]
      · exact .inl ⟨j, by omega, h2, h3⟩
theorem reach'_sum {N cap : List Int} : ∀ {n : Nat}, ((reach' N n).map fun x => nth cap x.toNat).sum = sumF (fun j => if 0 ≤ nth N j then nth cap j else 0) n
  | 0 => rfl
  | n + 1 => by
    rw [reach', List.map_append, List.sum_append, reach'_sum, sumF]
    split <;> simp
theorem reach'_asc {N : List Int} : ∀ {n : Nat}, Asc (reach' N n) n
  | 0 => fun i hi => by simp [reach'] at hi
  | n + 1 => fun i hi => by
    have ih := reach'_asc (N := N) (n := n)
    by_cases h : i < (reach' N n).length
    · obtain ⟨h1, h2, h3⟩ := ih i h
      have e : ∀ i', i' < (reach' N n).length → nth (reach' N (n + 1)) i' = nth (reach' N n) i' := fun i' hi' => by
        rw [reach', nth, List.getD_eq_getElem?_getD, List.getElem?_append_left hi', ← List.getD_eq_getElem?_getD]
      unfold ascO
      rw [e i h]
      refine ⟨h1, by omega, fun h0 => ?_⟩
      rw [e (i - 1) (by omega)]; exact h3 h0
    · have hl : (reach' N (n + 1)).length ≤ (reach' N n).length + 1 := by rw [reach', List.length_append]; split <;> simp
      have ei : i = (reach' N n).length := by omega
      have hN : 0 ≤ nth N n := by
        rcases int_lt_or (nth N n) 0 with h0 | h0
        · rw [reach', if_neg (by omega), List.append_nil] at hi; omega
        · exact h0
      have en : nth (reach' N (n + 1)) i = n := by
        rw [reach', if_pos hN, nth, List.getD_eq_getElem?_getD, List.getElem?_append_right (by omega), ei]; simp
      refine ⟨by omega, by omega, fun h0 => ?_⟩
      rw [en]
      have : nth (reach' N (n + 1)) (i - 1) = nth (reach' N n) (i - 1) := by
        rw [reach', nth, List.getD_eq_getElem?_getD, List.getElem?_append_left (by omega), ← List.getD_eq_getElem?_getD]
      rw [this]
      exact (ih (i - 1) (by omega)).2.1
/-- A search that finds no room gives nodes that refuse. -/
theorem PV.refuse {C : List Chg} {A : List NSet} {cap L : List Int} {M : List (List Int)} {i k : Int} (hv : VOK C A cap) (h : PV C A cap L M i k) (hk : 0 < k) (hko : k ≤ ownAt C i.toNat) {N D : List Int} (hs : Srch A L M i N D) (hF : Full A L M i N D) : IsRef C A cap (reach' N L.length) := by
  refine ⟨by rw [← h.ll]; exact reach'_asc, ?_⟩
  have hla := h.la
  have hlM := h.f.ok.lm
  have d0 := hs.d0
  have d1 := hs.d1
  rw [reach'_sum]
  -- what the nodes hold
  have e1 : sumF (fun j => if 0 ≤ nth N j then nth cap j else 0) L.length = sumF (fun j => sumF (fun r => if 0 ≤ nth N j then nth (rowAt M r) j else 0) M.length) L.length := by
    refine sumF_congr fun j hj => ?_
    by_cases hN : 0 ≤ nth N j
    · simp only [if_pos hN]
      have a := hF.room j hj hN
      have b := (h.f.l0 j).1
      have c := h.cs j
      rw [← colS_sum]; omega
    · simp only [if_neg hN]; rw [sumF_zero]
  rw [e1, sumF_swap (fun j r => if 0 ≤ nth N j then nth (rowAt M r) j else 0)]
  unfold need
  rw [hlM, hla]
  have own0 : ∀ r, r < C.length → 0 ≤ ownAt C r := fun r hr => by have := (hv.chg r hr).2.2.1; omega
  have row : ∀ r, r < C.length → Rch D i (r : Int) → sumF (fun j => if 0 ≤ nth N j then nth (rowAt M r) j else 0) L.length = (rowAt M r).sum := fun r hr hR => by
    rw [sumF_list, h.f.ok.row r (by omega)]
    refine sumF_congr fun j hj => ?_
    by_cases hN : 0 ≤ nth N j
    · rw [if_pos hN]
    · rw [if_neg hN]
      have a := (h.f.m0 r j).1
      rcases int_lt_or 0 (nth (rowAt M r) j) with hp | hp
      · have := hF.nodes r (by omega) hR _ (h.f.ms r j hp)
        exact absurd this hN
      · omega
  have inS : ∀ r, r < C.length → Rch D i (r : Int) → ∀ x ∈ nodesAt A r, x ∈ reach' N L.length := fun r hr hR x hx => by
    have := h.f.ok.nds r (by omega) x hx
    exact reach'_mem.2 ⟨x.toNat, by omega, by omega, hF.nodes r (by omega) hR x hx⟩
  have le : ∀ r, r < C.length → sumF (fun j => if 0 ≤ nth N j then nth (rowAt M r) j else 0) L.length ≤ if ∀ x ∈ nodesAt A r, x ∈ reach' N L.length then ownAt C r else 0 := fun r hr => by
    by_cases hR : Rch D i (r : Int)
    · rw [row r hr hR, if_pos (inS r hr hR), h.rs r hr]
      have := own0 r hr
      split
      · omega
      · split <;> omega
    · have : sumF (fun j => if 0 ≤ nth N j then nth (rowAt M r) j else 0) L.length = 0 := by
        refine (sumF_congr (g := fun _ => 0) fun j hj => ?_).trans (sumF_zero _)
        by_cases hN : 0 ≤ nth N j
        · rw [if_pos hN]
          have a := (h.f.m0 r j).1
          rcases int_lt_or 0 (nth (rowAt M r) j) with hp | hp
          · refine absurd (.inr ?_) hR
            have := hF.back j hj hN r (by omega) (fun e => hR (.inl e)) hp
            rw [show ((r : Int)).toNat = r from rfl]; exact this
          · omega
        · rw [if_neg hN]
      rw [this]
      have := own0 r hr
      split <;> omega
  refine sumF_lt le (k := i.toNat) (by omega) ?_
  have hR : Rch D i ((i.toNat : Nat) : Int) := .inl (by omega)
  have hr : i.toNat < C.length := by omega
  rw [row _ hr hR, if_pos (inS _ hr hR), h.rs _ hr, if_neg (by omega), if_pos (by omega)]
  omega
end Go.Proofs.Ytompifpamldjaaa
