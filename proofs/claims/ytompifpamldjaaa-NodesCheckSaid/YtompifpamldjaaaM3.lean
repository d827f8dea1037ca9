/-
  Lemmas and contracts on the way to the laws of this seat; each theorem states its own conditions, and there are no others.
-/
import Derived.Test.YtompifpamldjaaaM2
namespace Go.Proofs.Ytompifpamldjaaa
set_option linter.unusedVariables false
set_option linter.unusedSimpArgs false
set_option linter.unusedVariables false

theorem sum_set {l : List Int} {i : Nat} (h : i < l.length) (v : Int) : (l.set i v).sum = l.sum - nth l i + v := by
  induction l generalizing i with
  | nil => simp at h
  | cons a r ih =>
    cases i with
    | zero => simp only [List.set_cons_zero, List.sum_cons, nth, List.getD_cons_zero]; omega
    | succ i =>
      have := ih (i := i) (by simpa using h)
      simp only [List.set_cons_succ, List.sum_cons, nth, List.getD_cons_succ] at this ⊢; omega
/-- What lies on a node. -/
def colS (M : List (List Int)) (j : Nat) : Int := (M.map fun r => nth r j).sum
theorem colS_set {M : List (List Int)} {i : Nat} (h : i < M.length) (r : List Int) (j : Nat) : colS (M.set i r) j = colS M j - nth (rowAt M i) j + nth r j := by
  unfold colS
  rw [List.map_set, sum_set (by simpa using h)]
  have : nth (M.map fun r => nth r j) i = nth (rowAt M i) j := by
    rw [nth, List.getD_eq_getElem?_getD, List.getElem?_map, rowAt, List.getD_eq_getElem?_getD, List.getElem?_eq_getElem h]; rfl
  rw [this]
theorem rowAt_set {M : List (List Int)} {i : Nat} (h : i < M.length) (r : List Int) (k : Nat) : rowAt (M.set i r) k = if k = i then r else rowAt M k := by
  unfold rowAt
  rw [List.getD_eq_getElem?_getD, List.getD_eq_getElem?_getD, List.getElem?_set]
  by_cases e : i = k
  · subst e; simp [h]
  · simp [e, Ne.symm e]
/-- A cell is written over. -/
def put (M : List (List Int)) (i j : Nat) (v : Int) : List (List Int) := M.set i ((rowAt M i).set j v)
/-- A way back to d, along which k can be moved. -/
inductive Way (M : List (List Int)) (d : Int) (N D : List Int) (k : Int) : Int → Prop
  | stop (n : Int) (h : nth N n.toNat = d) : Way M d N D k n
  | go (n : Int) (h : nth N n.toNat ≠ d) (hk : k ≤ nth (rowAt M (nth N n.toNat).toNat) (nth D (nth N n.toNat).toNat).toNat) (t : Way M d N D k (nth D (nth N n.toNat).toNat)) : Way M d N D k n
def RkOK (A : List NSet) (L N D : List Int) (r : (Nat → Nat) × (Nat → Nat)) : Prop :=
  (∀ j, j < L.length → 0 ≤ nth N j → r.2 (nth N j).toNat < r.1 j) ∧ (∀ k, k < A.length → 0 ≤ nth D k → r.1 (nth D k).toNat < r.2 k)
open Classical in
noncomputable def rks (A : List NSet) (L N D : List Int) : (Nat → Nat) × (Nat → Nat) := if h : ∃ r, RkOK A L N D r then Classical.choose h else (fun _ => 0, fun _ => 0)
theorem Srch.rks {A : List NSet} {L : List Int} {M : List (List Int)} {d : Int} {N D : List Int} (h : Srch A L M d N D) : RkOK A L N D (rks A L N D) := by
  obtain ⟨T, rN, rD, h1, h2, _⟩ := h.rk
  have ex : ∃ r, RkOK A L N D r := ⟨(rN, rD), fun j hj h0 => (h1 j hj h0).1, fun k hk h0 => (h2 k hk h0).1⟩
  unfold Go.Proofs.Ytompifpamldjaaa.rks
  rw [dif_pos ex]
  exact Classical.choose_spec ex
/-- A flow: what lies where is allowed; the numbers are small. -/
structure FVal (A : List NSet) (L : List Int) (M : List (List Int)) : Prop where
  ok : FOK A L M
  m0 : ∀ i j, 0 ≤ nth (rowAt M i) j ∧ nth (rowAt M i) j ≤ 16777216
  ms : ∀ i j, 0 < nth (rowAt M i) j → (j : Int) ∈ nodesAt A i
  l0 : ∀ j, 0 ≤ nth L j ∧ nth L j ≤ 16777216
/-- What push is given. -/
structure PPre (A : List NSet) (L : List Int) (M : List (List Int)) (N D : List Int) (d e k : Int) : Prop where
  f : FVal A L M
  s : Srch A L M d N D
  e0 : 0 ≤ e
  e1 : e < L.length
  en : 0 ≤ nth N e.toNat
  el : 0 < nth L e.toNat
  k0 : 0 < k
  k1 : k ≤ 16777216
/-- The first way along the path. -/
structure PA1 (A : List NSet) (L : List Int) (M : List (List Int)) (N D : List Int) (d e k n i c : Int) : Prop where
  n0 : 0 ≤ n
  n1 : n < L.length
  ni : nth N n.toNat = i
  i0 : 0 ≤ i
  i1 : i < A.length
  c0 : 0 < c
  ck : c ≤ k
  cl : c ≤ nth L e.toNat
  w : ∀ c', c' ≤ c → Way M d N D c' n → Way M d N D c' e
/-- The second way: k is missing at n. -/
structure PB1 (A : List NSet) (L : List Int) (M : List (List Int)) (N D : List Int) (d e c n : Int) (M' : List (List Int)) : Prop where
  n0 : 0 ≤ n
  n1 : n < L.length
  i0 : 0 ≤ nth N n.toNat
  w : Way M d N D c n
  lm : M'.length = M.length
  row : ∀ i, i < A.length → (rowAt M' i).length = L.length
  m0 : ∀ i j, 0 ≤ nth (rowAt M' i) j
  ms : ∀ i j, 0 < nth (rowAt M' i) j → (j : Int) ∈ nodesAt A i
  rs : ∀ i, (rowAt M' i).sum = (rowAt M i).sum
  cs : ∀ j, colS M' j + nth (L.set e.toNat (nth L e.toNat - c)) j + (if (j : Int) = n then c else 0) = colS M j + nth L j
  same : ∀ i, (rks A L N D).2 i < (rks A L N D).1 n.toNat → rowAt M' i = rowAt M i
/-- What push gives. -/
structure Pushed (A : List NSet) (L : List Int) (M : List (List Int)) (d e k c : Int) (M' : List (List Int)) : Prop where
  c0 : 0 < c
  ck : c ≤ k
  cl : c ≤ nth L e.toNat
  lm : M'.length = M.length
  row : ∀ i, i < A.length → (rowAt M' i).length = L.length
  m0 : ∀ i j, 0 ≤ nth (rowAt M' i) j
  ms : ∀ i j, 0 < nth (rowAt M' i) j → (j : Int) ∈ nodesAt A i
  rs : ∀ i : Nat, (rowAt M' i).sum = (rowAt M i).sum + if (i : Int) = d then c else 0
  cs : ∀ j, colS M' j + nth (L.set e.toNat (nth L e.toNat - c)) j = colS M j + nth L j
section
variable {A : List NSet} {L : List Int} {M : List (List Int)} {N D : List Int} {d e k n i c : Int}
theorem PPre.node (h : PPre A L M N D d e k) {j : Nat} (hj : j < L.length) (h0 : 0 ≤ nth N j) : nth N j < A.length ∧ (j : Int) ∈ nodesAt A (nth N j).toNat ∧ Rch D d (nth N j) := by
  rcases h.s.nd j hj with e | ⟨_, e1, e2, e3⟩
  · omega
  · exact ⟨e1, e2, e3⟩
theorem PPre.dem (h : PPre A L M N D d e k) (i0 : 0 ≤ i) (i1 : i < A.length) (hr : Rch D d i) (hd : i ≠ d) : 0 ≤ nth D i.toNat ∧ nth D i.toNat < L.length ∧ 0 ≤ nth N (nth D i.toNat).toNat ∧ 0 < nth (rowAt M i.toNat) (nth D i.toNat).toNat := by
  rcases hr with hr | hr
  · exact absurd hr hd
  rcases h.s.dm i.toNat (by omega) with e | ⟨e1, e2, e3, e4, e5⟩
  · omega
  · exact ⟨e1, e2, e4, e5⟩
theorem PPre.start (h : PPre A L M N D d e k) : PA1 A L M N D d e k e (nth N e.toNat) (min k (nth L e.toNat)) := by
  have h1 := h.e0
  have h2 := h.e1
  have h3 := h.k0
  have h4 := h.el
  have := h.node (j := e.toNat) (by omega) h.en
  exact ⟨h1, h2, rfl, h.en, this.1, by omega, by omega, by omega, fun _ _ hw => hw⟩
theorem PA1.step (hp : PPre A L M N D d e k) (h : PA1 A L M N D d e k n i c) (hd : i ≠ d) : 0 ≤ nth D i.toNat ∧ nth D i.toNat < L.length ∧ (rks A L N D).1 (nth D i.toNat).toNat < (rks A L N D).1 n.toNat ∧ PA1 A L M N D d e k (nth D i.toNat) (nth N (nth D i.toNat).toNat) (min c (nth (rowAt M i.toNat) (nth D i.toNat).toNat)) := by
  have h1 := h.n0
  have h2 := h.n1
  have h3 := h.i0
  have h4 := h.i1
  have hni := h.ni
  have hc := h.c0
  have hck := h.ck
  have hcl := h.cl
  obtain ⟨_, _, hr⟩ := hp.node (j := n.toNat) (by omega) (by rw [hni]; exact h3)
  rw [hni] at hr
  obtain ⟨g1, g2, g3, g4⟩ := hp.dem h3 h4 hr hd
  obtain ⟨r1, r2⟩ := hp.s.rks
  have a1 := r1 n.toNat (by omega) (by rw [hni]; exact h3)
  rw [hni] at a1
  have a2 := r2 i.toNat (by omega) g1
  obtain ⟨b1, _, _⟩ := hp.node (j := (nth D i.toNat).toNat) (by omega) g3
  refine ⟨g1, g2, by omega, g1, g2, rfl, g3, b1, by omega, by omega, by omega, fun c' hc' hw => h.w c' (by omega) ?_⟩
  exact .go n (by rw [hni]; exact hd) (by rw [hni]; omega) (by rw [hni]; exact hw)
theorem PA1.fin (hp : PPre A L M N D d e k) (h : PA1 A L M N D d e k n i c) (hd : i = d) : PB1 A L M N D d e c e M := by
  have h1 := hp.e0
  have h2 := hp.e1
  have hw := h.w c (Int.le_refl _) (.stop n (by rw [h.ni]; exact hd))
  refine ⟨h1, h2, hp.en, hw, rfl, hp.f.ok.row, fun i j => (hp.f.m0 i j).1, hp.f.ms, fun _ => rfl, fun j => ?_, fun _ _ => rfl⟩
  rw [nth_set (by omega)]
  by_cases ej : j = e.toNat
  · subst ej; rw [if_pos rfl, if_pos (by omega)]; omega
  · rw [if_neg ej, if_neg (by omega)]; omega
/-- The cell that grows. -/
theorem PB1.up (hp : PPre A L M N D d e k) {M' : List (List Int)} (hc : 0 < c) (h : PB1 A L M N D d e c n M') :
    nth N n.toNat < A.length ∧ nth (rowAt M' (nth N n.toNat).toNat) n.toNat ≤ 16777216 ∧ (rowAt M' (nth N n.toNat).toNat).length = L.length := by
  have h1 := h.n0
  have h2 := h.n1
  have h3 := h.i0
  obtain ⟨b1, b2, b3⟩ := hp.node (j := n.toNat) (by omega) h3
  obtain ⟨r1, r2⟩ := hp.s.rks
  have a1 := r1 n.toNat (by omega) h3
  refine ⟨b1, ?_, h.row _ (by omega)⟩
  rw [h.same _ a1]
  exact (hp.f.m0 _ _).2
theorem PB1.last (hp : PPre A L M N D d e k) {M' : List (List Int)} (hc : 0 < c) (hck : c ≤ k) (hcl : c ≤ nth L e.toNat) (h : PB1 A L M N D d e c n M') (hd : nth N n.toNat = d) : Pushed A L M d e k c (put M' (nth N n.toNat).toNat n.toNat (nth (rowAt M' (nth N n.toNat).toNat) n.toNat + c)) := by
  have h1 := h.n0
  have h2 := h.n1
  have h3 := h.i0
  obtain ⟨b1, b2, b3⟩ := hp.node (j := n.toNat) (by omega) h3
  have hlm := h.lm
  have hlA := hp.f.ok.lm
  have hrow := h.row (nth N n.toNat).toNat (by omega)
  have m0 := h.m0
  generalize hi : nth N n.toNat = i at *
  have hlt : i.toNat < M'.length := by omega
  have hr : ∀ k', rowAt (put M' i.toNat n.toNat (nth (rowAt M' i.toNat) n.toNat + c)) k' = if k' = i.toNat then (rowAt M' i.toNat).set n.toNat (nth (rowAt M' i.toNat) n.toNat + c) else rowAt M' k' := rowAt_set hlt _
  have hcell : ∀ j, nth ((rowAt M' i.toNat).set n.toNat (nth (rowAt M' i.toNat) n.toNat + c)) j = if j = n.toNat then nth (rowAt M' i.toNat) n.toNat + c else nth (rowAt M' i.toNat) j := nth_set (by omega) _
  refine ⟨hc, hck, hcl, by simp [put, hlm], fun i' hi' => ?_, fun i' j => ?_, fun i' j hj => ?_, fun i' => ?_, fun j => ?_⟩
  · rw [hr]; split
    · rw [List.length_set]; exact hrow
    · exact h.row i' hi'
  · rw [hr]; split
    · rw [hcell]; split
      · have := m0 i.toNat n.toNat; omega
      · exact m0 _ _
    · exact m0 _ _
  · rw [hr] at hj
    by_cases e1 : i' = i.toNat
    · rw [if_pos e1, hcell] at hj
      by_cases e2 : j = n.toNat
      · rw [e1, e2]; exact b2
      · rw [if_neg e2] at hj; rw [e1]; exact h.ms _ _ hj
    · rw [if_neg e1] at hj; exact h.ms _ _ hj
  · rw [hr]
    by_cases e1 : i' = i.toNat
    · rw [if_pos e1, if_pos (by omega), sum_set (by omega), h.rs, e1]; omega
    · rw [if_neg e1, if_neg (by omega), h.rs]; omega
  · have hcs := h.cs j
    unfold put
    rw [colS_set hlt, hcell]
    by_cases e2 : j = n.toNat
    · subst e2
      rw [if_pos (by omega)] at hcs
      rw [if_pos rfl]; omega
    · rw [if_neg (by omega)] at hcs
      rw [if_neg e2]; omega
theorem PB1.step (hp : PPre A L M N D d e k) {M' : List (List Int)} (hc : 0 < c) (hck : c ≤ k) (h : PB1 A L M N D d e c n M') (hd : nth N n.toNat ≠ d) {M1 M2 : List (List Int)} (e1 : M1 = put M' (nth N n.toNat).toNat n.toNat (nth (rowAt M' (nth N n.toNat).toNat) n.toNat + c)) (e2 : M2 = put M1 (nth N n.toNat).toNat (nth D (nth N n.toNat).toNat).toNat (nth (rowAt M1 (nth N n.toNat).toNat) (nth D (nth N n.toNat).toNat).toNat - c)) :
    0 ≤ nth D (nth N n.toNat).toNat ∧ nth D (nth N n.toNat).toNat < L.length ∧ (rks A L N D).1 (nth D (nth N n.toNat).toNat).toNat < (rks A L N D).1 n.toNat ∧ M1.length = A.length ∧ (rowAt M1 (nth N n.toNat).toNat).length = L.length ∧
    nth (rowAt M1 (nth N n.toNat).toNat) (nth D (nth N n.toNat).toNat).toNat ≤ 16777216 ∧ c ≤ nth (rowAt M1 (nth N n.toNat).toNat) (nth D (nth N n.toNat).toNat).toNat ∧ PB1 A L M N D d e c (nth D (nth N n.toNat).toNat) M2 := by
  have h1 := h.n0
  have h2 := h.n1
  have h3 := h.i0
  obtain ⟨b1, b2, b3⟩ := hp.node (j := n.toNat) (by omega) h3
  have hlm := h.lm
  have hlA := hp.f.ok.lm
  have hrow := h.row (nth N n.toNat).toNat (by omega)
  have m0 := h.m0
  obtain ⟨g1, g2, g3, g4⟩ := hp.dem h3 b1 b3 hd
  obtain ⟨r1, r2⟩ := hp.s.rks
  have a1 := r1 n.toNat (by omega) h3
  have a2 := r2 (nth N n.toNat).toNat (by omega) g1
  have hsame := h.same _ a1
  have hw := h.w
  have hk : c ≤ nth (rowAt M (nth N n.toNat).toNat) (nth D (nth N n.toNat).toNat).toNat ∧ Way M d N D c (nth D (nth N n.toNat).toNat) := by
    cases hw with
    | stop _ hh => exact absurd hh hd
    | go _ _ hk t => exact ⟨hk, t⟩
  have hmax := (hp.f.m0 (nth N n.toNat).toNat (nth D (nth N n.toNat).toNat).toNat).2
  have hms := hp.f.ms (nth N n.toNat).toNat (nth D (nth N n.toNat).toNat).toNat g4
  generalize nth N n.toNat = i at *
  generalize nth D i.toNat = n' at *
  have hlt : i.toNat < M'.length := by omega
  have hne : n'.toNat ≠ n.toNat := fun e => by rw [e] at a2; omega
  have q1 : M1.length = M'.length := by rw [e1]; simp [put]
  have hr1 : ∀ k', rowAt M1 k' = if k' = i.toNat then (rowAt M' i.toNat).set n.toNat (nth (rowAt M' i.toNat) n.toNat + c) else rowAt M' k' := fun k' => by rw [e1]; exact rowAt_set hlt _ k'
  have hc1 : ∀ j, nth ((rowAt M' i.toNat).set n.toNat (nth (rowAt M' i.toNat) n.toNat + c)) j = if j = n.toNat then nth (rowAt M' i.toNat) n.toNat + c else nth (rowAt M' i.toNat) j := nth_set (by omega) _
  have hrow1 : rowAt M1 i.toNat = (rowAt M' i.toNat).set n.toNat (nth (rowAt M' i.toNat) n.toNat + c) := by rw [hr1, if_pos rfl]
  have hx : nth (rowAt M1 i.toNat) n'.toNat = nth (rowAt M i.toNat) n'.toNat := by rw [hrow1, hc1, if_neg hne, hsame]
  have hl1 : (rowAt M1 i.toNat).length = L.length := by rw [hrow1, List.length_set]; exact hrow
  have hlt1 : i.toNat < M1.length := by omega
  have hr2 : ∀ k', rowAt M2 k' = if k' = i.toNat then (rowAt M1 i.toNat).set n'.toNat (nth (rowAt M1 i.toNat) n'.toNat - c) else rowAt M1 k' := fun k' => by rw [e2]; exact rowAt_set hlt1 _ k'
  have hc2 : ∀ j, nth ((rowAt M1 i.toNat).set n'.toNat (nth (rowAt M1 i.toNat) n'.toNat - c)) j = if j = n'.toNat then nth (rowAt M1 i.toNat) n'.toNat - c else nth (rowAt M1 i.toNat) j := nth_set (by omega) _
  have hall : ∀ j, nth (rowAt M2 i.toNat) j = if j = n'.toNat then nth (rowAt M i.toNat) n'.toNat - c else if j = n.toNat then nth (rowAt M' i.toNat) n.toNat + c else nth (rowAt M' i.toNat) j := fun j => by
    rw [hr2, if_pos rfl, hc2, hx]
    by_cases e3 : j = n'.toNat
    · rw [if_pos e3, if_pos e3]
    · rw [if_neg e3, if_neg e3, hrow1, hc1]
  have hoth : ∀ k', k' ≠ i.toNat → rowAt M2 k' = rowAt M' k' := fun k' hk' => by rw [hr2, if_neg hk', hr1, if_neg hk']
  refine ⟨g1, g2, by omega, by omega, hl1, by omega, by omega, g1, g2, g3, hk.2, by rw [e2]; simp [put]; omega, fun i' hi' => ?_, fun i' j => ?_, fun i' j hj => ?_, fun i' => ?_, fun j => ?_, fun i' hi' => ?_⟩
  · by_cases e3 : i' = i.toNat
    · rw [hr2, if_pos e3, List.length_set]; exact hl1
    · rw [hoth _ e3]; exact h.row i' hi'
  · by_cases e3 : i' = i.toNat
    · rw [e3, hall]
      split
      · omega
      · split
        · have := m0 i.toNat n.toNat; omega
        · exact m0 _ _
    · rw [hoth _ e3]; exact m0 _ _
  · by_cases e3 : i' = i.toNat
    · rw [e3, hall] at hj
      rw [e3]
      by_cases e4 : j = n'.toNat
      · rw [e4]; exact hms
      · rw [if_neg e4] at hj
        by_cases e5 : j = n.toNat
        · rw [e5]; exact b2
        · rw [if_neg e5] at hj; exact h.ms _ _ hj
    · rw [hoth _ e3] at hj; exact h.ms _ _ hj
  · by_cases e3 : i' = i.toNat
    · rw [e3, hr2, if_pos rfl, sum_set (by omega), hrow1, sum_set (by omega), h.rs]; omega
    · rw [hoth _ e3]; exact h.rs i'
  · have hcs := h.cs j
    have hn2 := hall j
    rw [e2]; unfold put
    rw [colS_set hlt1, hc2, e1]
    unfold put
    rw [colS_set hlt, hc1]
    have hy : nth (rowAt (M'.set i.toNat ((rowAt M' i.toNat).set n.toNat (nth (rowAt M' i.toNat) n.toNat + c))) i.toNat) j = if j = n.toNat then nth (rowAt M' i.toNat) n.toNat + c else nth (rowAt M' i.toNat) j := by
      have := hr1 i.toNat
      rw [e1, if_pos rfl] at this
      unfold put at this
      rw [this, hc1]
    rw [e1] at hx
    unfold put at hx
    rw [hy, hx]
    by_cases e3 : j = n'.toNat
    · subst e3
      rw [if_neg (by omega)] at hcs
      rw [if_pos rfl, if_neg hne, if_pos (by omega)]
      have : nth (rowAt M' i.toNat) n'.toNat = nth (rowAt M i.toNat) n'.toNat := by rw [hsame]
      omega
    · rw [if_neg e3, if_neg (show ¬ (j : Int) = n' by omega)]
      by_cases e4 : j = n.toNat
      · subst e4
        rw [if_pos (by omega)] at hcs
        simp only [if_pos]; omega
      · rw [if_neg (by omega)] at hcs
        simp only [if_neg e4]; omega
  · have : i' ≠ i.toNat := fun e => by rw [e] at hi'; omega
    rw [hoth _ this]
    exact h.same i' (by omega)
theorem pushed_ex (hp : PPre A L M N D d e k) : ∃ c M', Pushed A L M d e k c M' := by
  have one : ∀ m n i c, (rks A L N D).1 n.toNat ≤ m → PA1 A L M N D d e k n i c → ∃ c, 0 < c ∧ c ≤ k ∧ c ≤ nth L e.toNat ∧ PB1 A L M N D d e c e M := by
    intro m
    induction m with
    | zero =>
      intro n i c hm h
      by_cases hd : i = d
      · exact ⟨c, h.c0, h.ck, h.cl, h.fin hp hd⟩
      · have := (h.step hp hd).2.2.1; omega
    | succ m ih =>
      intro n i c hm h
      by_cases hd : i = d
      · exact ⟨c, h.c0, h.ck, h.cl, h.fin hp hd⟩
      · obtain ⟨_, _, g, h'⟩ := h.step hp hd
        exact ih _ _ _ (by omega) h'
  obtain ⟨c, c0, ck, cl, hB⟩ := one _ _ _ _ (Nat.le_refl _) hp.start
  have two : ∀ m n M', (rks A L N D).1 n.toNat ≤ m → PB1 A L M N D d e c n M' → ∃ M', Pushed A L M d e k c M' := by
    intro m
    induction m with
    | zero =>
      intro n M' hm h
      by_cases hd : nth N n.toNat = d
      · exact ⟨_, h.last hp c0 ck cl hd⟩
      · have := (h.step hp c0 ck hd rfl rfl).2.2.1; omega
    | succ m ih =>
      intro n M' hm h
      by_cases hd : nth N n.toNat = d
      · exact ⟨_, h.last hp c0 ck cl hd⟩
      · obtain ⟨_, _, g, _, _, _, _, h'⟩ := h.step hp c0 ck hd rfl rfl
        exact ih _ _ (by omega) h'
  obtain ⟨M', h⟩ := two _ _ _ (Nat.le_refl _) hB
  exact ⟨c, M', h⟩
end
end Go.Proofs.Ytompifpamldjaaa
