/-
  Lemmas and contracts on the way to the laws of this seat; each theorem states its own conditions, and there are no others.
-/
import Derived.Test.YtompifpamldjaaaE28
namespace Go.Proofs.Ytompifpamldjaaa
set_option linter.unusedVariables false
set_option linter.unusedSimpArgs false
set_option linter.unusedVariables false

/-- The number at a place; 0 behind the end. -/
abbrev nth (l : List Int) (i : Nat) : Int := l.getD i 0
theorem int_lt_or (a b : Int) : a < b ∨ b ≤ a := by omega
theorem nth_set {l : List Int} {i : Nat} (hi : i < l.length) (v : Int) (j : Nat) : nth (l.set i v) j = if j = i then v else nth l j := by
  unfold nth
  rw [List.getD_eq_getElem?_getD, List.getD_eq_getElem?_getD, List.getElem?_set]
  by_cases h : i = j
  · subst h; simp [hi]
  · simp [h, Ne.symm h]
theorem nth_repl (n i : Nat) (v : Int) (h : i < n) : nth (List.replicate n v) i = v := by
  unfold nth; rw [List.getD_eq_getElem?_getD]; simp [h]
theorem nth_mem {l : List Int} {i : Nat} (h : i < l.length) : nth l i ∈ l := by
  rw [nth, List.getD_eq_getElem?_getD, List.getElem?_eq_getElem h]; exact List.getElem_mem _
theorem set_mid {α : Type} (a b : α) (i j : Nat) : (List.replicate i a ++ List.replicate (j + 1) b).set i a = List.replicate (i + 1) a ++ List.replicate j b := by
  rw [List.set_append_right _ _ (by simp), List.length_replicate, Nat.sub_self, List.replicate_succ, List.set_cons_zero]
  rw [List.replicate_succ', List.append_assoc]; rfl
/-- A list of n numbers of which the first i are -1. -/
def neg (n i : Int) : List Int := List.replicate i.toNat (-1) ++ List.replicate (n - i).toNat 0
theorem neg_zero {n : Int} : List.replicate n.toNat 0 = neg n 0 := by simp [neg]
theorem neg_len {n i : Int} (h : 0 ≤ i ∧ i ≤ n) : (neg n i).length = n.toNat := by simp [neg]; omega
theorem neg_set {n i : Int} (h : 0 ≤ i ∧ i < n) : (neg n i).set i.toNat (-1) = neg n (i + 1) := by
  have e1 : (i + 1).toNat = i.toNat + 1 := by omega
  have e2 : (n - i).toNat = (n - (i + 1)).toNat + 1 := by omega
  rw [neg, neg, e1, e2, set_mid]
theorem neg_all {n : Int} : neg n n = List.replicate n.toNat (-1) := by simp [neg]

def nodesAt (A : List NSet) (i : Nat) : List Int := (A.getD i (dfl 4)).nodes
def rowAt (M : List (List Int)) (k : Nat) : List Int := M.getD k []
/-- Sets, what is left, what lies where: the sizes. -/
structure FOK (A : List NSet) (L : List Int) (M : List (List Int)) : Prop where
  lm : M.length = A.length
  row : ∀ k, k < A.length → (rowAt M k).length = L.length
  nds : ∀ i, i < A.length → ∀ j ∈ nodesAt A i, 0 ≤ j ∧ j < L.length
  len : ∀ i, i < A.length → (nodesAt A i).length ≤ 8
  la : A.length ≤ 64
  ll : L.length ≤ 8
/-- A demand is reached. -/
def Rch (D : List Int) (d k : Int) : Prop := k = d ∨ 0 ≤ nth D k.toNat
/-- What a search has found. -/
structure Srch (A : List NSet) (L : List Int) (M : List (List Int)) (d : Int) (N D : List Int) : Prop where
  ln : N.length = L.length
  ld : D.length = A.length
  d0 : 0 ≤ d
  d1 : d < A.length
  nd : ∀ j, j < L.length → nth N j = -1 ∨ (0 ≤ nth N j ∧ nth N j < A.length ∧ (j : Int) ∈ nodesAt A (nth N j).toNat ∧ Rch D d (nth N j))
  dm : ∀ k, k < A.length → nth D k = -1 ∨ (0 ≤ nth D k ∧ nth D k < L.length ∧ (k : Int) ≠ d ∧ 0 ≤ nth N (nth D k).toNat ∧ 0 < nth (rowAt M k) (nth D k).toNat)
  rk : ∃ (T : Nat) (rN rD : Nat → Nat), (∀ j, j < L.length → 0 ≤ nth N j → rD (nth N j).toNat < rN j ∧ rN j < T) ∧ (∀ k, k < A.length → 0 ≤ nth D k → rN (nth D k).toNat < rD k ∧ rD k < T) ∧ rD d.toNat < T
theorem Srch.start {A : List NSet} {L : List Int} {M : List (List Int)} {d : Int} (d0 : 0 ≤ d) (d1 : d < A.length) : Srch A L M d (List.replicate L.length (-1)) (List.replicate A.length (-1)) :=
  ⟨by simp, by simp, d0, d1, fun j hj => .inl (nth_repl _ _ _ hj), fun k hk => .inl (nth_repl _ _ _ hk), 1, fun _ => 0, fun _ => 0, fun j hj h => by rw [nth_repl _ _ _ hj] at h; omega, fun k hk h => by rw [nth_repl _ _ _ hk] at h; omega, Nat.zero_lt_one⟩
theorem Srch.addN {A : List NSet} {L : List Int} {M : List (List Int)} {d i : Int} {N D : List Int} (h : Srch A L M d N D) {j : Nat} (hj : j < L.length) (i0 : 0 ≤ i) (i1 : i < A.length) (hm : (j : Int) ∈ nodesAt A i.toNat) (hr : Rch D d i) (hn : nth N j < 0) : Srch A L M d (N.set j i) D := by
  have hlN := h.ln
  have hs : ∀ j', nth (N.set j i) j' = if j' = j then i else nth N j' := nth_set (by omega) i
  obtain ⟨T, rN, rD, r1, r2, r3⟩ := h.rk
  refine ⟨by simpa using hlN, h.ld, h.d0, h.d1, fun j' hj' => ?_, fun k hk => ?_, T + 1, fun j' => if j' = j then T else rN j', rD, fun j' hj' h0 => ?_, fun k hk h0 => ?_, by omega⟩
  · rw [hs]
    by_cases e : j' = j
    · subst e; rw [if_pos rfl]; exact .inr ⟨i0, i1, hm, hr⟩
    · rw [if_neg e]; exact h.nd j' hj'
  · rcases h.dm k hk with e | ⟨e1, e2, e3, e4, e5⟩
    · exact .inl e
    · refine .inr ⟨e1, e2, e3, ?_, e5⟩
      rw [hs]; split
      · exact i0
      · exact e4
  · rw [hs] at h0 ⊢
    by_cases e : j' = j
    · simp only [if_pos e]
      refine ⟨?_, by omega⟩
      rcases hr with hr | hr
      · rw [hr]; exact r3
      · exact (r2 i.toNat (by omega) hr).2
    · simp only [if_neg e] at h0 ⊢
      have := r1 j' hj' h0
      exact ⟨this.1, by omega⟩
  · have := r2 k hk h0
    have hne : (nth D k).toNat ≠ j := fun e => by
      rcases h.dm k hk with e1 | ⟨e1, e2, e3, e4, e5⟩
      · omega
      · rw [e] at e4; omega
    simp only [if_neg hne]
    exact ⟨this.1, by omega⟩
theorem Srch.addD {A : List NSet} {L : List Int} {M : List (List Int)} {d : Int} {N D : List Int} (h : Srch A L M d N D) {k : Nat} {j : Int} (hk : k < A.length) (hkd : (k : Int) ≠ d) (hD : nth D k < 0) (j0 : 0 ≤ j) (j1 : j < L.length) (hN : 0 ≤ nth N j.toNat) (hM : 0 < nth (rowAt M k) j.toNat) : Srch A L M d N (D.set k j) := by
  have hlD := h.ld
  have hs : ∀ k', nth (D.set k j) k' = if k' = k then j else nth D k' := nth_set (by omega) j
  obtain ⟨T, rN, rD, r1, r2, r3⟩ := h.rk
  have hd0 := h.d0
  have mono : ∀ q, Rch D d q → Rch (D.set k j) d q := fun q hq => by
    rcases hq with hq | hq
    · exact .inl hq
    · refine .inr ?_
      rw [hs]; split <;> omega
  have nk : ∀ j', j' < L.length → 0 ≤ nth N j' → (nth N j').toNat ≠ k := fun j' hj' h0 e => by
    rcases h.nd j' hj' with e1 | ⟨e1, e2, e3, e4⟩
    · omega
    · rcases e4 with e4 | e4
      · omega
      · rw [e] at e4; omega
  refine ⟨h.ln, by simpa using hlD, h.d0, h.d1, fun j' hj' => ?_, fun k' hk' => ?_, T + 1, rN, fun k' => if k' = k then T else rD k', fun j' hj' h0 => ?_, fun k' hk' h0 => ?_, ?_⟩
  · rcases h.nd j' hj' with e | ⟨e1, e2, e3, e4⟩
    · exact .inl e
    · exact .inr ⟨e1, e2, e3, mono _ e4⟩
  · rw [hs]
    by_cases e : k' = k
    · subst e; rw [if_pos rfl]; exact .inr ⟨j0, j1, hkd, hN, hM⟩
    · rw [if_neg e]; exact h.dm k' hk'
  · simp only [if_neg (nk j' hj' h0)]
    have := r1 j' hj' h0
    exact ⟨this.1, by omega⟩
  · rw [hs] at h0 ⊢
    by_cases e : k' = k
    · simp only [if_pos e]
      exact ⟨(r1 j.toNat (by omega) hN).2, by omega⟩
    · simp only [if_neg e] at h0 ⊢
      have := r2 k' hk' h0
      exact ⟨this.1, by omega⟩
  · have : d.toNat ≠ k := by omega
    simp only [if_neg this]; omega
/-- All that can be reached is. -/
structure Full (A : List NSet) (L : List Int) (M : List (List Int)) (d : Int) (N D : List Int) : Prop where
  nodes : ∀ k, k < A.length → Rch D d (k : Int) → ∀ j ∈ nodesAt A k, 0 ≤ nth N j.toNat
  room : ∀ j, j < L.length → 0 ≤ nth N j → nth L j ≤ 0
  back : ∀ j, j < L.length → 0 ≤ nth N j → ∀ k, k < A.length → (k : Int) ≠ d → 0 < nth (rowAt M k) j → 0 ≤ nth D k
/-- What a search gives. -/
structure Found (A : List NSet) (L : List Int) (M : List (List Int)) (d : Int) (N D : List Int) (e : Int) : Prop where
  s : Srch A L M d N D
  e : (e = -1 ∧ Full A L M d N D) ∨ (0 ≤ e ∧ e < L.length ∧ 0 ≤ nth N e.toNat ∧ 0 < nth L e.toNat)
/-- How many are not reached. -/
def left (D : List Int) : Nat := D.countP (fun x => decide (x < 0))
theorem left_set {D : List Int} : ∀ {k : Nat} {v : Int}, k < D.length → nth D k < 0 → 0 ≤ v → left (D.set k v) + 1 = left D := by
  induction D with
  | nil => intro k v h; simp at h
  | cons a r ih =>
    intro k v hk h0 hv
    cases k with
    | zero =>
      have h0 : a < 0 := h0
      simp only [left, List.set_cons_zero, List.countP_cons]
      simp [h0, show ¬ v < 0 by omega]
    | succ k =>
      have := ih (k := k) (v := v) (by simpa using hk) h0 hv
      simp only [left, List.set_cons_succ, List.countP_cons] at this ⊢
      omega
theorem found_ex {A : List NSet} {L : List Int} {M : List (List Int)} {d : Int} (hf : FOK A L M) (d0 : 0 ≤ d) (d1 : d < A.length) : ∃ N D e, Found A L M d N D e := by
  have key : ∀ n (N D : List Int), left N + left D ≤ n → Srch A L M d N D → ∃ N D e, Found A L M d N D e := by
    intro n
    induction n with
    | zero =>
      intro N D hn h
      have hN : ∀ j, j < L.length → 0 ≤ nth N j := fun j hj => by
        rcases int_lt_or (nth N j) 0 with h1 | h1
        · have := left_set (k := j) (v := 0) (by have := h.ln; omega) h1 (Int.le_refl _)
          omega
        · exact h1
      have hD : ∀ k, k < A.length → 0 ≤ nth D k := fun k hk => by
        rcases int_lt_or (nth D k) 0 with h1 | h1
        · have := left_set (k := k) (v := 0) (by have := h.ld; omega) h1 (Int.le_refl _)
          omega
        · exact h1
      by_cases hr : ∃ j, j < L.length ∧ 0 < nth L j
      · obtain ⟨j, h1, h2⟩ := hr
        exact ⟨N, D, j, h, .inr ⟨by omega, by omega, hN j h1, h2⟩⟩
      · refine ⟨N, D, -1, h, .inl ⟨rfl, fun k hk _ j hj => hN _ ?_, fun j hj _ => ?_, fun _ _ _ k hk _ _ => hD k hk⟩⟩
        · have := hf.nds k hk j hj; omega
        · rcases int_lt_or 0 (nth L j) with h1 | h1
          · exact absurd ⟨j, hj, h1⟩ hr
          · exact h1
    | succ n ih =>
      intro N D hn h
      by_cases h1 : ∃ k, k < A.length ∧ Rch D d (k : Int) ∧ ∃ j ∈ nodesAt A k, nth N j.toNat < 0
      · obtain ⟨k, hk, hr, j, hj, hneg⟩ := h1
        have hb := hf.nds k hk j hj
        have hl := h.ln
        have := left_set (k := j.toNat) (v := (k : Int)) (by omega) hneg (by omega)
        refine ih _ _ (by omega) (h.addN (j := j.toNat) (i := (k : Int)) (by omega) (by omega) (by omega) ?_ hr hneg)
        rw [show ((j.toNat : Nat) : Int) = j by omega]; exact hj
      by_cases h2 : ∃ j, j < L.length ∧ 0 ≤ nth N j ∧ ∃ k, k < A.length ∧ (k : Int) ≠ d ∧ 0 < nth (rowAt M k) j ∧ nth D k < 0
      · obtain ⟨j, hj, hN, k, hk, hkd, hM, hneg⟩ := h2
        have hl := h.ld
        have := left_set (k := k) (v := (j : Int)) (by omega) hneg (by omega)
        exact ih _ _ (by omega) (h.addD (j := (j : Int)) hk hkd hneg (by omega) (by omega) hN hM)
      by_cases h3 : ∃ j, j < L.length ∧ 0 ≤ nth N j ∧ 0 < nth L j
      · obtain ⟨j, hj, h4, h5⟩ := h3
        exact ⟨N, D, j, h, .inr ⟨by omega, by omega, h4, h5⟩⟩
      refine ⟨N, D, -1, h, .inl ⟨rfl, fun k hk hr j hj => ?_, fun j hj h4 => ?_, fun j hj h4 k hk hkd hM => ?_⟩⟩
      · rcases int_lt_or (nth N j.toNat) 0 with h5 | h5
        · exact absurd ⟨k, hk, hr, j, hj, h5⟩ h1
        · exact h5
      · rcases int_lt_or 0 (nth L j) with h5 | h5
        · exact absurd ⟨j, hj, h4, h5⟩ h3
        · exact h5
      · rcases int_lt_or (nth D k) 0 with h5 | h5
        · exact absurd ⟨j, hj, h4, k, hk, hkd, hM, h5⟩ h2
        · exact h5
  exact key _ _ _ (Nat.le_refl _) (Srch.start d0 d1)
end Go.Proofs.Ytompifpamldjaaa
