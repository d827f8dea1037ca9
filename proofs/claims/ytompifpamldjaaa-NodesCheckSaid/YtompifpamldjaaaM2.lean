/-
  Lemmas and contracts on the way to the laws of this seat; each theorem states its own conditions, and there are no others.
-/
import Derived.Test.YtompifpamldjaaaM
namespace Go.Proofs.Ytompifpamldjaaa
set_option linter.unusedVariables false
set_option linter.unusedSimpArgs false
set_option linter.unusedVariables false

/-- A queue: what is in it is reached; what is reached is in it, or done (or i, up to t). -/
structure QOK (A : List NSet) (L : List Int) (M : List (List Int)) (d : Int) (N D : List Int) (lo n : Nat) (l : List Int) : Prop where
  s : Srch A L M d N D
  ln : lo + n = l.length
  q : ∀ k ∈ l.drop lo, 0 ≤ k ∧ k < A.length ∧ Rch D d k
  nodes : ∀ k, k < A.length → Rch D d (k : Int) → (k : Int) ∈ l.drop lo ∨ ∀ j ∈ nodesAt A k, 0 ≤ nth N j.toNat
  room : ∀ j, j < L.length → 0 ≤ nth N j → nth L j ≤ 0
  back : ∀ j, j < L.length → 0 ≤ nth N j → ∀ k, k < A.length → (k : Int) ≠ d → 0 < nth (rowAt M k) j → 0 ≤ nth D k
/-- The same, while the nodes of i are looked at: the first t of them are done. -/
structure QI (A : List NSet) (L : List Int) (M : List (List Int)) (d : Int) (i t : Int) (N D : List Int) (lo n : Nat) (l : List Int) : Prop where
  s : Srch A L M d N D
  ln : lo + n = l.length
  i0 : 0 ≤ i
  i1 : i < A.length
  ir : Rch D d i
  t0 : 0 ≤ t
  t1 : t ≤ (nodesAt A i.toNat).length
  td : ∀ u, u < t.toNat → 0 ≤ nth N (nth (nodesAt A i.toNat) u).toNat
  q : ∀ k ∈ l.drop lo, 0 ≤ k ∧ k < A.length ∧ Rch D d k
  nodes : ∀ k, k < A.length → Rch D d (k : Int) → (k : Int) = i ∨ (k : Int) ∈ l.drop lo ∨ ∀ j ∈ nodesAt A k, 0 ≤ nth N j.toNat
  room : ∀ j, j < L.length → 0 ≤ nth N j → nth L j ≤ 0
  back : ∀ j, j < L.length → 0 ≤ nth N j → ∀ k, k < A.length → (k : Int) ≠ d → 0 < nth (rowAt M k) j → 0 ≤ nth D k
/-- The same, while the demands on the node x are looked at: the first c of them are done. -/
structure QK (A : List NSet) (L : List Int) (M : List (List Int)) (d : Int) (i t x c : Int) (N D : List Int) (lo n : Nat) (l : List Int) : Prop where
  s : Srch A L M d N D
  ln : lo + n = l.length
  i0 : 0 ≤ i
  i1 : i < A.length
  ir : Rch D d i
  t0 : 0 ≤ t
  t1 : t < (nodesAt A i.toNat).length
  tx : nth (nodesAt A i.toNat) t.toNat = x
  x0 : 0 ≤ x
  x1 : x < L.length
  xn : 0 ≤ nth N x.toNat
  c0 : 0 ≤ c
  c1 : c ≤ A.length
  td : ∀ u, u < t.toNat → 0 ≤ nth N (nth (nodesAt A i.toNat) u).toNat
  q : ∀ k ∈ l.drop lo, 0 ≤ k ∧ k < A.length ∧ Rch D d k
  nodes : ∀ k, k < A.length → Rch D d (k : Int) → (k : Int) = i ∨ (k : Int) ∈ l.drop lo ∨ ∀ j ∈ nodesAt A k, 0 ≤ nth N j.toNat
  room : ∀ j, j < L.length → 0 ≤ nth N j → nth L j ≤ 0
  back : ∀ j, j < L.length → 0 ≤ nth N j → ∀ k, k < A.length → (k : Int) ≠ d → 0 < nth (rowAt M k) j → ((j : Int) = x ∧ c ≤ k) ∨ 0 ≤ nth D k

theorem drop_cons {l : List Int} {lo : Nat} (h : lo < l.length) : l.drop lo = nth l lo :: l.drop (lo + 1) := by
  rw [List.drop_eq_getElem_cons h, nth, List.getD_eq_getElem?_getD, List.getElem?_eq_getElem h]; rfl
theorem row_self {M : List (List Int)} {k : Nat} (h : k < M.length) : M.set k (rowAt M k) = M := by
  rw [rowAt, List.getD_eq_getElem?_getD, List.getElem?_eq_getElem h]; exact List.set_getElem_self h
theorem left_le (D : List Int) : left D ≤ D.length := List.countP_le_length
section
variable {A : List NSet} {L : List Int} {M : List (List Int)} {d : Int} {N D : List Int} {lo n : Nat} {l : List Int}
theorem QOK.start (d0 : 0 ≤ d) (d1 : d < A.length) : QOK A L M d (List.replicate L.length (-1)) (List.replicate A.length (-1)) 0 1 [d] := by
  refine ⟨Srch.start d0 d1, rfl, fun k hk => ?_, fun k hk hr => ?_, fun j hj h => ?_, fun j hj h => ?_⟩
  · have : k = d := by simpa using hk
    subst this; exact ⟨d0, d1, .inl rfl⟩
  · rcases hr with hr | hr
    · rw [hr]; simp
    · rw [nth_repl _ _ _ (by omega)] at hr; omega
  · rw [nth_repl _ _ _ hj] at h; omega
  · rw [nth_repl _ _ _ hj] at h; omega
theorem QOK.pop (h : QOK A L M d N D lo n l) (hn : 0 < n) : QI A L M d (nth l lo) 0 N D (lo + 1) (n - 1) l := by
  have hl := h.ln
  have hd := drop_cons (l := l) (lo := lo) (by omega)
  obtain ⟨i0, i1, ir⟩ := h.q (nth l lo) (by rw [hd]; simp)
  refine ⟨h.s, by omega, i0, i1, ir, Int.le_refl _, by omega, fun u hu => by simp at hu, fun k hk => h.q k (by rw [hd]; simp [hk]), fun k hk hr => ?_, h.room, h.back⟩
  rcases h.nodes k hk hr with e | e
  · rw [hd] at e
    rcases List.mem_cons.1 e with e | e
    · exact .inl e
    · exact .inr (.inl e)
  · exact .inr (.inr e)
theorem QOK.fin (h : QOK A L M d N D lo n l) (hn : n = 0) : Found A L M d N D (-1) := by
  have hl := h.ln
  have hd : l.drop lo = [] := List.drop_of_length_le (by omega)
  refine ⟨h.s, .inl ⟨rfl, fun k hk hr => ?_, h.room, h.back⟩⟩
  rcases h.nodes k hk hr with e | e
  · rw [hd] at e; cases e
  · exact e
variable {i t : Int}
theorem QI.at_ (hf : FOK A L M) (h : QI A L M d i t N D lo n l) (ht : t < (nodesAt A i.toNat).length) : 0 ≤ nth (nodesAt A i.toNat) t.toNat ∧ nth (nodesAt A i.toNat) t.toNat < L.length ∧ nth (nodesAt A i.toNat) t.toNat ∈ nodesAt A i.toNat := by
  have h0 := h.t0
  have h1 := h.i0
  have h2 := h.i1
  have hm : nth (nodesAt A i.toNat) t.toNat ∈ nodesAt A i.toNat := nth_mem (by omega)
  have := hf.nds i.toNat (by omega) _ hm
  exact ⟨this.1, this.2, hm⟩
theorem td_succ {S : List Int} (td : ∀ u, u < t.toNat → 0 ≤ nth N (nth S u).toNat) (t0 : 0 ≤ t) (hx : 0 ≤ nth N (nth S t.toNat).toNat) : ∀ u, u < (t + 1).toNat → 0 ≤ nth N (nth S u).toNat := fun u hu => by
  by_cases e : u = t.toNat
  · subst e; exact hx
  · exact td u (by omega)
theorem QI.skip (h : QI A L M d i t N D lo n l) (ht : t < (nodesAt A i.toNat).length) (hx : 0 ≤ nth N (nth (nodesAt A i.toNat) t.toNat).toNat) : QI A L M d i (t + 1) N D lo n l :=
  ⟨h.s, h.ln, h.i0, h.i1, h.ir, by have := h.t0; omega, by omega, td_succ h.td h.t0 hx, h.q, h.nodes, h.room, h.back⟩
theorem QI.add (hf : FOK A L M) (h : QI A L M d i t N D lo n l) (ht : t < (nodesAt A i.toNat).length) (hx : ¬ 0 ≤ nth N (nth (nodesAt A i.toNat) t.toNat).toNat) : Srch A L M d (N.set (nth (nodesAt A i.toNat) t.toNat).toNat i) D := by
  obtain ⟨x0, x1, xm⟩ := h.at_ hf ht
  refine h.s.addN (by omega) h.i0 h.i1 ?_ h.ir (by omega)
  rw [show (((nth (nodesAt A i.toNat) t.toNat).toNat : Nat) : Int) = nth (nodesAt A i.toNat) t.toNat by omega]
  exact xm
theorem QI.find (hf : FOK A L M) (h : QI A L M d i t N D lo n l) (ht : t < (nodesAt A i.toNat).length) (hx : ¬ 0 ≤ nth N (nth (nodesAt A i.toNat) t.toNat).toNat) (hL : 0 < nth L (nth (nodesAt A i.toNat) t.toNat).toNat) : Found A L M d (N.set (nth (nodesAt A i.toNat) t.toNat).toNat i) D (nth (nodesAt A i.toNat) t.toNat) := by
  obtain ⟨x0, x1, xm⟩ := h.at_ hf ht
  have hl := h.s.ln
  refine ⟨h.add hf ht hx, .inr ⟨x0, x1, ?_, hL⟩⟩
  rw [nth_set (by omega), if_pos rfl]; exact h.i0
theorem QI.opn (hf : FOK A L M) (h : QI A L M d i t N D lo n l) (ht : t < (nodesAt A i.toNat).length) (hx : ¬ 0 ≤ nth N (nth (nodesAt A i.toNat) t.toNat).toNat) (hL : ¬ 0 < nth L (nth (nodesAt A i.toNat) t.toNat).toNat) : QK A L M d i t (nth (nodesAt A i.toNat) t.toNat) 0 (N.set (nth (nodesAt A i.toNat) t.toNat).toNat i) D lo n l := by
  obtain ⟨x0, x1, xm⟩ := h.at_ hf ht
  have hl := h.s.ln
  have hi := h.i0
  have hs : ∀ j', nth (N.set (nth (nodesAt A i.toNat) t.toNat).toNat i) j' = if j' = (nth (nodesAt A i.toNat) t.toNat).toNat then i else nth N j' := nth_set (by omega) i
  have mono : ∀ j', 0 ≤ nth N j' → 0 ≤ nth (N.set (nth (nodesAt A i.toNat) t.toNat).toNat i) j' := fun j' hj' => by rw [hs]; split <;> omega
  refine ⟨h.add hf ht hx, h.ln, h.i0, h.i1, h.ir, h.t0, ht, rfl, x0, x1, by rw [hs, if_pos rfl]; exact hi, Int.le_refl _, by omega, fun u hu => mono _ (h.td u hu), h.q, fun k hk hr => ?_, fun j hj hj0 => ?_, fun j hj hj0 k hk hkd hM => ?_⟩
  · rcases h.nodes k hk hr with e | e | e
    · exact .inl e
    · exact .inr (.inl e)
    · exact .inr (.inr fun j hj => mono _ (e j hj))
  · rw [hs] at hj0
    by_cases e : j = (nth (nodesAt A i.toNat) t.toNat).toNat
    · rw [e]; omega
    · rw [if_neg e] at hj0; exact h.room j hj hj0
  · rw [hs] at hj0
    by_cases e : j = (nth (nodesAt A i.toNat) t.toNat).toNat
    · exact .inl ⟨by omega, by omega⟩
    · rw [if_neg e] at hj0; exact .inr (h.back j hj hj0 k hk hkd hM)
theorem QI.done (h : QI A L M d i t N D lo n l) (ht : ¬ t < (nodesAt A i.toNat).length) : QOK A L M d N D lo n l := by
  refine ⟨h.s, h.ln, h.q, fun k hk hr => ?_, h.room, h.back⟩
  rcases h.nodes k hk hr with e | e
  · refine .inr fun j hj => ?_
    have ek : k = i.toNat := by omega
    rw [ek] at hj
    obtain ⟨u, hu, eu⟩ := List.getElem_of_mem hj
    have h0 := h.t0
    have := h.td u (by omega)
    have e2 : nth (nodesAt A i.toNat) u = j := by rw [nth, List.getD_eq_getElem?_getD, List.getElem?_eq_getElem hu]; exact eu
    rw [e2] at this; exact this
  · exact e
variable {x c : Int}
theorem QK.skip (h : QK A L M d i t x c N D lo n l) (hc : c < A.length) (hs : (c = d ∨ ¬ nth D c.toNat < 0) ∨ ¬ 0 < nth (rowAt M c.toNat) x.toNat) : QK A L M d i t x (c + 1) N D lo n l := by
  have h0 := h.c0
  have hx := h.x0
  refine ⟨h.s, h.ln, h.i0, h.i1, h.ir, h.t0, h.t1, h.tx, h.x0, h.x1, h.xn, by omega, by omega, h.td, h.q, h.nodes, h.room, fun j hj hj0 k hk hkd hM => ?_⟩
  rcases h.back j hj hj0 k hk hkd hM with ⟨e1, e2⟩ | e
  · by_cases ek : c = k
    · have e3 : c.toNat = k := by omega
      have e4 : x.toNat = j := by omega
      rw [e3, e4] at hs
      rcases hs with (hs | hs) | hs
      · omega
      · exact .inr (by omega)
      · exact absurd hM hs
    · exact .inl ⟨e1, by omega⟩
  · exact .inr e
theorem QK.take (h : QK A L M d i t x c N D lo n l) (hc : c < A.length) (hcd : ¬ c = d) (hD : nth D c.toNat < 0) (hM : 0 < nth (rowAt M c.toNat) x.toNat) {lo' : Nat} {l' : List Int} (hl : l'.drop lo' = l.drop lo ++ [c]) (hn : lo' + (n + 1) = l'.length) : QK A L M d i t x (c + 1) N (D.set c.toNat x) lo' (n + 1) l' := by
  have h0 := h.c0
  have hx := h.x0
  have hlD := h.s.ld
  have hs : ∀ k', nth (D.set c.toNat x) k' = if k' = c.toNat then x else nth D k' := nth_set (by omega) x
  have mono : ∀ q, Rch D d q → Rch (D.set c.toNat x) d q := fun q hq => by
    rcases hq with hq | hq
    · exact .inl hq
    · refine .inr ?_
      rw [hs]; split <;> omega
  refine ⟨h.s.addD (by omega) (by omega) hD h.x0 h.x1 h.xn hM, hn, h.i0, h.i1, mono _ h.ir, h.t0, h.t1, h.tx, h.x0, h.x1, h.xn, by omega, by omega, h.td, fun k hk => ?_, fun k hk hr => ?_, h.room, fun j hj hj0 k hk hkd hM' => ?_⟩
  · rw [hl, List.mem_append] at hk
    rcases hk with hk | hk
    · have := h.q k hk
      exact ⟨this.1, this.2.1, mono _ this.2.2⟩
    · have : k = c := by simpa using hk
      subst this
      refine ⟨h0, hc, .inr ?_⟩
      rw [hs, if_pos rfl]; exact hx
  · rw [hl]
    by_cases ek : k = c.toNat
    · exact .inr (.inl (by rw [show (k : Int) = c by omega]; simp))
    · have hr' : Rch D d (k : Int) := by
        rcases hr with hr | hr
        · exact .inl hr
        · rw [hs, if_neg (by omega)] at hr; exact .inr hr
      rcases h.nodes k hk hr' with e | e | e
      · exact .inl e
      · exact .inr (.inl (List.mem_append_left _ e))
      · exact .inr (.inr e)
  · rw [hs]
    by_cases ek : k = c.toNat
    · rw [if_pos ek]; exact .inr hx
    · rw [if_neg ek]
      rcases h.back j hj hj0 k hk hkd hM' with ⟨e1, e2⟩ | e
      · exact .inl ⟨e1, by omega⟩
      · exact .inr e
theorem QK.close (h : QK A L M d i t x c N D lo n l) (hc : ¬ c < A.length) : QI A L M d i (t + 1) N D lo n l := by
  have h1 := h.t1
  refine ⟨h.s, h.ln, h.i0, h.i1, h.ir, by have := h.t0; omega, by omega, td_succ h.td h.t0 (by rw [h.tx]; exact h.xn), h.q, h.nodes, h.room, fun j hj hj0 k hk hkd hM => ?_⟩
  rcases h.back j hj hj0 k hk hkd hM with ⟨_, e⟩ | e
  · omega
  · exact e
end
end Go.Proofs.Ytompifpamldjaaa
