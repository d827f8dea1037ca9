/-
  Lemmas and contracts on the way to the laws of this seat; each theorem states its own conditions, and there are no others.
-/
import Derived.Test.YtaipgdhaoldhjaaVD
namespace Go.Proofs.Ytaipgdhaoldhjaa
open Go
set_option linter.unusedVariables false
set_option linter.unusedSimpArgs false
set_option linter.unusedVariables false

/-- The children of a member: those that name it as their parent, of the first i. -/
def chL (p : List Int) : Nat → Int → List Int
  | 0, _ => []
  | i + 1, q => chL p i q ++ (if nth p i + 1 = q then [(i : Int)] else [])
theorem chL_mem {p : List Int} {q c : Int} : ∀ {i : Nat}, c ∈ chL p i q ↔ ∃ j : Nat, j < i ∧ c = j ∧ nth p j + 1 = q
  | 0 => by simp [chL]
  | i + 1 => by
    rw [chL, List.mem_append, chL_mem]
    constructor
    · rintro (⟨j, h1, h2, h3⟩ | h)
      · exact ⟨j, by omega, h2, h3⟩
      · split at h
        · rename_i e
          exact ⟨i, by omega, by simpa using h, e⟩
        · simp at h
    · rintro ⟨j, h1, h2, h3⟩
      by_cases e : j = i
      · subst e
        right; rw [if_pos h3]; simp [h2]
      · exact .inl ⟨j, by omega, h2, h3⟩
theorem chL_len {p : List Int} {q : Int} : ∀ {i : Nat}, (chL p i q).length ≤ i
  | 0 => by simp [chL]
  | i + 1 => by
    have := chL_len (p := p) (q := q) (i := i)
    rw [chL, List.length_append]
    split <;> simp <;> omega
theorem chL_nodup {p : List Int} {q : Int} : ∀ {i : Nat}, (chL p i q).Nodup
  | 0 => by simp [chL]
  | i + 1 => by
    rw [chL, List.nodup_append]
    refine ⟨chL_nodup, by split <;> simp, fun a ha b hb e => ?_⟩
    obtain ⟨j, h1, h2, _⟩ := chL_mem.1 ha
    split at hb
    · have : b = (i : Int) := by simpa using hb
      omega
    · simp at hb
/-- The table of children. -/
def tab (p : List Int) (m i : Nat) : List (List Int) := (List.range (m + 1)).map fun q : Nat => chL p i q
theorem tab_len {p : List Int} {m i : Nat} : (tab p m i).length = m + 1 := by simp [tab]
theorem tab_at {p : List Int} {m i q : Nat} (h : q ≤ m) : (tab p m i).getD q [] = chL p i q := by
  simp [tab, List.getD_eq_getElem?_getD, Nat.lt_succ_of_le h]
theorem tab_zero {p : List Int} {m : Nat} : List.replicate (m + 1) [] = tab p m 0 := by
  refine List.ext_getElem (by simp [tab]) fun k h1 h2 => ?_
  simp [tab, chL]
theorem tab_step {p : List Int} {m i : Nat} (h0 : 0 ≤ nth p i + 1) (h1 : nth p i + 1 ≤ m) : (tab p m i).set (nth p i + 1).toNat (chL p i ((nth p i + 1).toNat : Nat) ++ [(i : Int)]) = tab p m (i + 1) := by
  have e : ((nth p i + 1).toNat : Int) = nth p i + 1 := by omega
  refine List.ext_getElem (by simp [tab]) fun k h2 h3 => ?_
  have hk : k < m + 1 := by rw [tab_len] at h3; exact h3
  rw [List.getElem_set]
  by_cases c : (nth p i + 1).toNat = k
  · rw [if_pos c]
    simp only [tab, List.getElem_map, List.getElem_range]
    rw [e, chL, if_pos (by omega)]
    have : (k : Int) = nth p i + 1 := by omega
    rw [this]
  · rw [if_neg c]
    simp only [tab, List.getElem_map, List.getElem_range]
    rw [chL, if_neg (by omega), List.append_nil]

/-- What numbers have at some places, together. -/
def sumAt (W cs : List Int) : Int := (cs.map fun c => nth W c.toNat).sum
theorem sumAt_snoc (W cs : List Int) (c : Int) : sumAt W (cs ++ [c]) = sumAt W cs + nth W c.toNat := by simp [sumAt]
theorem sumAt_take {W cs : List Int} {t : Nat} (h : t < cs.length) : sumAt W (cs.take (t + 1)) = sumAt W (cs.take t) + nth W (cs.getD t 0).toNat := by
  rw [List.take_add_one, List.getElem?_eq_getElem h, List.getD_eq_getElem?_getD, List.getElem?_eq_getElem h]
  exact sumAt_snoc _ _ _
theorem sumAt_congr {W V cs : List Int} (h : ∀ c ∈ cs, nth W c.toNat = nth V c.toNat) : sumAt W cs = sumAt V cs := by
  unfold sumAt
  congr 1
  exact List.map_congr_left h
theorem sumAt_pos {W cs : List Int} (h : ∀ c ∈ cs, 0 ≤ nth W c.toNat) : 0 ≤ sumAt W cs := by
  induction cs with
  | nil => simp [sumAt]
  | cons c r ih =>
    have h1 := h c (by simp)
    have h2 := ih fun c hc => h c (by simp [hc])
    simp only [sumAt, List.map_cons, List.sum_cons] at h2 ⊢
    omega
theorem nth_set' {l : List Int} {i j : Nat} {v : Int} (hi : i < l.length) : nth (l.set i v) j = if j = i then v else nth l j := by
  unfold nth
  by_cases e : j = i
  · subst e; rw [if_pos rfl]; simp [List.getD_eq_getElem?_getD, hi]
  · rw [if_neg e]
    have : i ≠ j := fun h => e h.symm
    simp [List.getD_eq_getElem?_getD, List.getElem?_set_ne this]
/-- Parents that come ahead of their children. -/
def PaOK (p : List Int) (m : Nat) : Prop := p.length = m ∧ ∀ j, j < m → -1 ≤ nth p j ∧ nth p j < j
theorem PaOK.gt {p : List Int} {m : Nat} (h : PaOK p m) {q : Int} {c : Int} (hc : c ∈ chL p m q) : q - 1 < c ∧ 0 ≤ c ∧ c < m ∧ nth p c.toNat + 1 = q := by
  obtain ⟨j, h1, h2, h3⟩ := chL_mem.1 hc
  have := h.2 j h1
  have e : c.toNat = j := by omega
  rw [e]
  omega
/-- What members want: those behind i have what their children want. -/
structure WOK (p d W : List Int) (i : Int) : Prop where
  len : W.length = d.length
  rng : ∀ j, j < d.length → 0 ≤ nth W j ∧ nth W j ≤ 65536
  todo : ∀ j : Nat, (j : Int) < i → nth W j = nth d j
  done : ∀ j : Nat, i ≤ j → j < d.length → nth W j = if chL p d.length (j + 1) = [] then nth d j else min (sumAt W (chL p d.length (j + 1))) 65536
theorem WOK.start {p d : List Int} (h : ∀ j, j < d.length → 0 ≤ nth d j ∧ nth d j ≤ 65536) : WOK p d d d.length := ⟨rfl, h, fun _ _ => rfl, fun j h1 h2 => by omega⟩
/-- One member has what its first t children want. -/
def wantT (W cs : List Int) (i t : Nat) : List Int := W.set i (min (sumAt W (cs.take t)) 65536)
theorem wantT_step {p d W : List Int} {i t : Nat} (hP : PaOK p d.length) (hW : WOK p d W (i + 1)) (hi : i < d.length) (ht : t < (chL p d.length (i + 1)).length) :
    (wantT W (chL p d.length (i + 1)) i t).set i (min (nth (wantT W (chL p d.length (i + 1)) i t) i + nth (wantT W (chL p d.length (i + 1)) i t) ((chL p d.length (i + 1)).getD t 0).toNat) 65536) = wantT W (chL p d.length (i + 1)) i (t + 1) := by
  have hm : (chL p d.length (i + 1)).getD t 0 ∈ chL p d.length (i + 1) := by
    rw [List.getD_eq_getElem?_getD, List.getElem?_eq_getElem ht]; exact List.getElem_mem _
  obtain ⟨g1, g2, g3, _⟩ := hP.gt hm
  have hlen := hW.len
  have e1 : nth (wantT W (chL p d.length (i + 1)) i t) i = min (sumAt W ((chL p d.length (i + 1)).take t)) 65536 := by rw [wantT, nth_set' (by omega), if_pos rfl]
  have e2 : nth (wantT W (chL p d.length (i + 1)) i t) ((chL p d.length (i + 1)).getD t 0).toNat = nth W ((chL p d.length (i + 1)).getD t 0).toNat := by rw [wantT, nth_set' (by omega), if_neg (by omega)]
  have hpos := (hW.rng ((chL p d.length (i + 1)).getD t 0).toNat (by omega)).1
  rw [e1, e2]
  simp only [wantT, List.set_set]
  rw [sumAt_take ht]
  congr 1
  omega
theorem WOK.step {p d W : List Int} {i : Nat} (hP : PaOK p d.length) (hW : WOK p d W (i + 1)) (hi : i < d.length) (hd : ∀ j, j < d.length → 0 ≤ nth d j ∧ nth d j ≤ 65536) :
    WOK p d (if chL p d.length (i + 1) = [] then W else wantT W (chL p d.length (i + 1)) i (chL p d.length (i + 1)).length) i := by
  have hlen := hW.len
  by_cases e : chL p d.length (i + 1) = []
  · rw [if_pos e]
    refine ⟨hlen, hW.rng, fun j hj => hW.todo j (by omega), fun j h1 h2 => ?_⟩
    by_cases ej : j = i
    · subst ej
      rw [if_pos e]
      exact hW.todo j (by omega)
    · exact hW.done j (by omega) h2
  · rw [if_neg e, wantT, List.take_length]
    have hs : 0 ≤ sumAt W (chL p d.length (i + 1)) := sumAt_pos fun c hc => (hW.rng c.toNat (by have := hP.gt hc; omega)).1
    have hother : ∀ k, sumAt (W.set i (min (sumAt W (chL p d.length (i + 1))) 65536)) (chL p d.length k) = sumAt W (chL p d.length k) ∨ k ≤ i := fun k => by
      by_cases hk : k ≤ i
      · exact .inr hk
      · refine .inl (sumAt_congr fun c hc => ?_)
        have := hP.gt hc
        rw [nth_set' (by omega), if_neg (by omega)]
    refine ⟨by simpa using hlen, fun j hj => ?_, fun j hj => ?_, fun j h1 h2 => ?_⟩
    · rw [nth_set' (by omega)]
      have := hW.rng j hj
      split <;> omega
    · rw [nth_set' (by omega), if_neg (by omega)]
      exact hW.todo j (by omega)
    · rw [nth_set' (by omega)]
      rcases hother (j + 1) with h3 | h3
      · rw [h3]
        by_cases ej : j = i
        · subst ej
          rw [if_pos rfl, if_neg e]
        · rw [if_neg ej]
          exact hW.done j (by omega) h2
      · omega
theorem wants_ex {p d : List Int} (hP : PaOK p d.length) (hd : ∀ j, j < d.length → 0 ≤ nth d j ∧ nth d j ≤ 65536) : ∃ W, WOK p d W 0 := by
  have key : ∀ n : Nat, n ≤ d.length → ∃ W, WOK p d W ((d.length - n : Nat) : Int) := by
    intro n
    induction n with
    | zero => exact fun _ => ⟨d, WOK.start hd⟩
    | succ n ih =>
      intro hn
      obtain ⟨W, hW⟩ := ih (by omega)
      have e : ((d.length - n : Nat) : Int) = ((d.length - (n + 1) : Nat) : Int) + 1 := by omega
      rw [e] at hW
      exact ⟨_, hW.step hP (by omega) hd⟩
  have := key d.length (Nat.le_refl _)
  rw [Nat.sub_self] at this
  exact this
/-- Numbers put at some places. -/
def putL (O : List Int) : List Int → List Int → List Int
  | c :: cs, y :: ys => putL (O.set c.toNat y) cs ys
  | _, _ => O
theorem putL_snoc {c y : Int} : ∀ {cs ys O : List Int}, cs.length = ys.length → putL O (cs ++ [c]) (ys ++ [y]) = (putL O cs ys).set c.toNat y
  | [], [], O, _ => rfl
  | a :: cs, b :: ys, O, h => putL_snoc (cs := cs) (ys := ys) (by simpa using h)
theorem putL_len : ∀ {cs ys O : List Int}, (putL O cs ys).length = O.length
  | [], ys, O => by cases ys <;> rfl
  | c :: cs, [], O => rfl
  | c :: cs, y :: ys, O => by rw [putL, putL_len, List.length_set]
theorem putL_other {j : Nat} : ∀ {cs ys O : List Int}, (∀ c ∈ cs, 0 ≤ c ∧ c < O.length ∧ c.toNat ≠ j) → nth (putL O cs ys) j = nth O j
  | [], ys, O, _ => by cases ys <;> rfl
  | c :: cs, [], O, _ => rfl
  | c :: cs, y :: ys, O, h => by
    have h1 := h c (by simp)
    rw [putL, putL_other fun c' hc => by
      have := h c' (by simp [hc])
      rw [List.length_set]; exact this]
    rw [nth_set' (by omega), if_neg (by omega)]
theorem putL_at : ∀ {cs ys O : List Int}, cs.length = ys.length → cs.Nodup → (∀ c ∈ cs, 0 ≤ c ∧ c < O.length) → ∀ k, k < cs.length → nth (putL O cs ys) (cs.getD k 0).toNat = ys.getD k 0
  | [], ys, O, _, _, _, k, hk => by simp at hk
  | c :: cs, [], O, h, _, _, k, hk => by simp at h
  | c :: cs, y :: ys, O, h, hn, hr, k, hk => by
    rw [List.nodup_cons] at hn
    have h0 := hr c (by simp)
    rw [putL]
    cases k with
    | zero =>
      show nth (putL (O.set c.toNat y) cs ys) c.toNat = y
      rw [putL_other fun c' hc => ⟨(hr c' (by simp [hc])).1, by rw [List.length_set]; exact (hr c' (by simp [hc])).2, fun e => hn.1 (by
        have h1 := hr c' (by simp [hc])
        have : c' = c := by omega
        rw [← this]; exact hc)⟩]
      rw [nth_set' (by omega), if_pos rfl]
    | succ k => exact putL_at (cs := cs) (ys := ys) (by simpa using h) hn.2 (fun c' hc => by rw [List.length_set]; exact hr c' (by simp [hc])) k (by simpa using hk)
theorem sumAt_put {cs ys O : List Int} (h : cs.length = ys.length) (hn : cs.Nodup) (hr : ∀ c ∈ cs, 0 ≤ c ∧ c < O.length) : sumAt (putL O cs ys) cs = ys.sum := by
  have e : (cs.map fun c => nth (putL O cs ys) c.toNat) = ys := by
    refine List.ext_getElem (by simpa using h) fun k h1 h2 => ?_
    have h3 : k < cs.length := by simpa using h1
    have := putL_at h hn hr k h3
    rw [List.getD_eq_getElem?_getD, List.getElem?_eq_getElem h3, List.getD_eq_getElem?_getD, List.getElem?_eq_getElem h2] at this
    simpa using this
  unfold sumAt
  rw [e]
/-- What members have: the children of those ahead of q. -/
structure OOK (p W O : List Int) (total q : Int) : Prop where
  len : O.length = W.length
  val : ∀ j : Nat, j < W.length → nth p j < q → 0 ≤ nth O j ∧ nth O j ≤ nth W j
  fam : ∀ r : Int, -1 ≤ r → r < q → sumAt O (chL p W.length (r + 1)) = min (if r = -1 then total else nth O r.toNat) (sumAt W (chL p W.length (r + 1)))
theorem OOK.start {p W : List Int} {total : Int} (hP : PaOK p W.length) {O : List Int} (hl : O.length = W.length) : OOK p W O total (-1) := ⟨hl, fun j h1 h2 => by have := hP.2 j h1; omega, fun r h1 h2 => by omega⟩
theorem OOK.step {p W O : List Int} {total q : Int} (hP : PaOK p W.length) (h : OOK p W O total q) (h0 : -1 ≤ q) (h1 : q < W.length) {y : List Int} {w' : List Int}
    (hy : Part (if q = -1 then total else nth O q.toNat) w' ((chL p W.length (q + 1)).map fun c => nth W c.toNat) y) : OOK p W (putL O (chL p W.length (q + 1)) y) total (q + 1) := by
  have hl : (chL p W.length (q + 1)).length = y.length := by have := hy.len; simp at this; omega
  have hr : ∀ c ∈ chL p W.length (q + 1), 0 ≤ c ∧ c < O.length := fun c hc => by have := hP.gt hc; rw [h.len]; omega
  have other : ∀ j : Nat, nth p j + 1 ≠ q + 1 ∨ (j : Int) ≤ q → j < W.length → nth (putL O (chL p W.length (q + 1)) y) j = nth O j := fun j hj hjl => putL_other fun c hc => by
    have := hP.gt hc
    have h2 := hr c hc
    refine ⟨h2.1, h2.2, fun e => ?_⟩
    rcases hj with hj | hj
    · rw [e] at this; omega
    · omega
  refine ⟨by rw [putL_len]; exact h.len, fun j hj hp => ?_, fun r r0 r1 => ?_⟩
  · by_cases e : nth p j = q
    · have hm : (j : Int) ∈ chL p W.length (q + 1) := chL_mem.2 ⟨j, hj, rfl, by omega⟩
      obtain ⟨k, hk, ek⟩ := List.getElem_of_mem hm
      have hat := putL_at hl chL_nodup hr k hk
      rw [List.getD_eq_getElem?_getD, List.getElem?_eq_getElem hk, Option.getD_some, ek] at hat
      have e2 : (j : Int).toNat = j := by omega
      rw [e2] at hat
      have g1 := hy.lo k (by simpa using hk)
      have g2 := hy.hi k (by simpa using hk)
      have g3 : nth ((chL p W.length (q + 1)).map fun c => nth W c.toNat) k = nth W j := by
        show ((chL p W.length (q + 1)).map fun c => nth W c.toNat).getD k 0 = _
        simp [List.getD_eq_getElem?_getD, hk, ek]
      rw [g3] at g2
      have g4 : nth y k = y.getD k 0 := rfl
      rw [hat, ← g4]
      exact ⟨g1, g2⟩
    · rw [other j (.inl (by omega)) hj]
      exact h.val j hj (by omega)
  · by_cases e : r = q
    · subst e
      have e1 : (if r = -1 then total else nth (putL O (chL p W.length (r + 1)) y) r.toNat) = if r = -1 then total else nth O r.toNat := by
        by_cases e2 : r = -1
        · rw [if_pos e2, if_pos e2]
        · rw [if_neg e2, if_neg e2, other r.toNat (.inr (by omega)) (by omega)]
      rw [sumAt_put hl chL_nodup hr, e1]
      exact hy.sum
    · have e1 : sumAt (putL O (chL p W.length (q + 1)) y) (chL p W.length (r + 1)) = sumAt O (chL p W.length (r + 1)) := sumAt_congr fun c hc => by
        have := hP.gt hc
        exact other c.toNat (.inl (by omega)) (by omega)
      have e2 : (if r = -1 then total else nth (putL O (chL p W.length (q + 1)) y) r.toNat) = if r = -1 then total else nth O r.toNat := by
        by_cases e3 : r = -1
        · rw [if_pos e3, if_pos e3]
        · rw [if_neg e3, if_neg e3, other r.toNat (.inr (by omega)) (by omega)]
      rw [e1, e2]
      exact h.fam r r0 (by omega)
/-- What Tree gives. -/
structure TreeOK (p d : List Int) (total : Int) (x : List Int) : Prop where
  len : x.length = d.length
  rng : ∀ j, j < d.length → 0 ≤ nth x j ∧ nth x j ≤ 65536
  kids : ∀ i : Nat, i < d.length → chL p d.length (i + 1) ≠ [] → sumAt x (chL p d.length (i + 1)) = nth x i
  leaf : ∀ i : Nat, i < d.length → chL p d.length (i + 1) = [] → nth x i ≤ nth d i
  top : sumAt x (chL p d.length 0) ≤ total
theorem OOK.tree {p d W O : List Int} {total : Int} (hP : PaOK p d.length) (hW : WOK p d W 0) (h : OOK p W O total W.length) : TreeOK p d total O := by
  have hl := hW.len
  have hval : ∀ j, j < d.length → 0 ≤ nth O j ∧ nth O j ≤ nth W j := fun j hj => h.val j (by omega) (by have := hP.2 j hj; omega)
  refine ⟨h.len.trans hl, fun j hj => ?_, fun i hi hne => ?_, fun i hi he => ?_, ?_⟩
  · have := hval j hj
    have := hW.rng j hj
    omega
  · have h1 := h.fam i (by omega) (by omega)
    have h2 := hW.done i (by omega) hi
    have h3 := hval i hi
    rw [if_neg hne] at h2
    rw [hl, if_neg (by omega)] at h1
    have e : (i : Int).toNat = i := by omega
    rw [e] at h1
    rw [h1]
    omega
  · have h2 := hW.done i (by omega) hi
    rw [if_pos he] at h2
    have h3 := hval i hi
    omega
  · have h1 := h.fam (-1) (by omega) (by omega)
    rw [hl, if_pos rfl] at h1
    have e : (-1 : Int) + 1 = 0 := by omega
    rw [e] at h1
    rw [h1]
    omega
end Go.Proofs.Ytaipgdhaoldhjaa
