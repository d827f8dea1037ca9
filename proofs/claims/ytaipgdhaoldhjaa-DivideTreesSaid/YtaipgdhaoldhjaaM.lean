/-
  Lemmas and contracts on the way to the laws of this seat; each theorem states its own conditions, and there are no others.
-/
import Derived.Test.YtaipgdhaoldhjaaE28
namespace Go.Proofs.Ytaipgdhaoldhjaa
set_option linter.unusedVariables false
set_option linter.unusedSimpArgs false

/-- The number at a place; 0 behind the end. -/
abbrev nth (l : List Int) (i : Nat) : Int := l.getD i 0

theorem nth_set {l : List Int} {i : Nat} (hi : i < l.length) (v : Int) (j : Nat) : nth (l.set i v) j = if j = i then v else nth l j := by
  unfold nth
  rw [List.getD_eq_getElem?_getD, List.getD_eq_getElem?_getD, List.getElem?_set]
  by_cases h : i = j
  · subst h; simp [hi]
  · simp [h, Ne.symm h]
theorem sum_set {l : List Int} {i : Nat} (h : i < l.length) (v : Int) : (l.set i v).sum = l.sum - nth l i + v := by
  induction l generalizing i with
  | nil => simp at h
  | cons a r ih =>
    cases i with
    | zero => simp only [List.set_cons_zero, List.sum_cons, nth, List.getD_cons_zero]; omega
    | succ i =>
      have := ih (i := i) (by simpa using h)
      simp only [List.set_cons_succ, List.sum_cons, nth, List.getD_cons_succ] at this ⊢; omega
theorem list_ext {x y : List Int} (hl : x.length = y.length) (h : ∀ i, i < x.length → nth x i = nth y i) : x = y := by
  apply List.ext_getElem hl
  intro i h1 h2
  have := h i h1
  simpa [nth, List.getD_eq_getElem?_getD, h1, h2] using this
theorem sum_le_of {x y : List Int} (hl : x.length = y.length) (h : ∀ i, i < x.length → nth x i ≤ nth y i) : x.sum ≤ y.sum := by
  induction x generalizing y with
  | nil => cases y with
    | nil => exact Int.le_refl _
    | cons _ _ => simp at hl
  | cons a r ih => cases y with
    | nil => simp at hl
    | cons b s =>
      have h0 : a ≤ b := h 0 (by simp)
      have h1 := ih (y := s) (by simpa using hl) fun i hi => h (i + 1) (by simpa using hi)
      simp only [List.sum_cons]; omega
theorem sum_lt_of {x y : List Int} (hl : x.length = y.length) (h : ∀ i, i < x.length → nth x i ≤ nth y i) {k : Nat} (hk : k < x.length) (hlt : nth x k < nth y k) : x.sum < y.sum := by
  have h1 : (x.set k (nth y k)).sum ≤ y.sum := sum_le_of (by simpa using hl) fun i hi => by
    rw [nth_set hk]
    split
    · rename_i e; subst e; exact Int.le_refl _
    · exact h i (by simpa using hi)
  rw [sum_set hk] at h1
  omega
theorem less_more {x y : List Int} (hl : x.length = y.length) (hs : y.sum ≤ x.sum) {i : Nat} (hi : i < x.length) (hlt : nth x i < nth y i) : ∃ j, j < x.length ∧ nth y j < nth x j := by
  apply Classical.byContradiction
  intro hn
  have := sum_lt_of hl (fun j hj => Int.not_lt.1 fun hc => hn ⟨j, hj, hc⟩) hi hlt
  omega
theorem sum_eq_all {x y : List Int} (hl : x.length = y.length) (h : ∀ i, i < x.length → nth x i ≤ nth y i) (hs : y.sum ≤ x.sum) : ∀ i, i < x.length → nth x i = nth y i := fun i hi => by
  have h1 := h i hi
  apply Classical.byContradiction
  intro hne
  have := sum_lt_of hl h hi (by omega)
  omega

/-- j's last unit comes before the next one of i. -/
def Before (w x : List Int) (j i : Nat) : Prop := nth x j * nth w i < (nth x i + 1) * nth w j ∨ (nth x j * nth w i = (nth x i + 1) * nth w j ∧ j < i)
/-- No unit was given out before its time. -/
def Stable (w n x : List Int) : Prop := ∀ i j, i < n.length → j < n.length → i ≠ j → nth x i < nth n i → 0 < nth x j → Before w x j i
structure Part (k : Int) (w n x : List Int) : Prop where
  len : x.length = n.length
  lo : ∀ i, i < n.length → 0 ≤ nth x i
  hi : ∀ i, i < n.length → nth x i ≤ nth n i
  sum : x.sum = min k n.sum
  st : Stable w n x
def Heavy (w : List Int) (len : Nat) : Prop := ∀ i, i < len → 1 ≤ nth w i

theorem cross {w n m x y : List Int} (hnm : m.length = n.length) (hw : Heavy w n.length) (hx : Stable w n x) (hy : Stable w m y) (x0 : ∀ i, i < n.length → 0 ≤ nth x i) (y0 : ∀ i, i < n.length → 0 ≤ nth y i) {i j : Nat} (hi : i < n.length) (hj : j < n.length)
    (h1 : nth x i < nth n i) (h2 : nth x i < nth y i) (h3 : nth y j < nth m j) (h4 : nth y j < nth x j) : False := by
  have hij : i ≠ j := fun e => by subst e; omega
  have a1 := x0 i hi
  have a2 := y0 j hj
  have b1 := hx i j hi hj hij h1 (by omega)
  have b2 := hy j i (by omega) (by omega) (Ne.symm hij) h3 (by omega)
  have wi := hw i hi
  have wj := hw j hj
  have c1 : (nth x i + 1) * nth w j ≤ nth y i * nth w j := Int.mul_le_mul_of_nonneg_right (by omega) (by omega)
  have c2 : (nth y j + 1) * nth w i ≤ nth x j * nth w i := Int.mul_le_mul_of_nonneg_right (by omega) (by omega)
  unfold Before at b1 b2
  generalize (nth x i + 1) * nth w j = p at *
  generalize nth y i * nth w j = q at *
  generalize (nth y j + 1) * nth w i = r at *
  generalize nth x j * nth w i = s at *
  omega

theorem Part.unique {k : Int} {w n x y : List Int} (hw : Heavy w n.length) (hx : Part k w n x) (hy : Part k w n y) : x = y := by
  have one : ∀ {x y : List Int}, Part k w n x → Part k w n y → ∀ i, i < n.length → ¬ nth x i < nth y i := fun {x y} hx hy i hi h => by
    obtain ⟨j, hj, hlt⟩ := less_more (by rw [hx.len, hy.len]) (by rw [hx.sum, hy.sum]; exact Int.le_refl _) (by rw [hx.len]; exact hi) h
    rw [hx.len] at hj
    have := hx.hi j hj
    have := hy.hi i hi
    exact cross rfl hw hx.st hy.st hx.lo hy.lo hi hj (by omega) h (by omega) hlt
  refine list_ext (by rw [hx.len, hy.len]) fun i hi => ?_
  rw [hx.len] at hi
  have := one hx hy i hi
  have := one hy hx i hi
  omega

/-- One more unit takes nothing from anybody. -/
theorem Part.grows {k : Int} {w n x y : List Int} (hw : Heavy w n.length) (hx : Part k w n x) (hy : Part (k + 1) w n y) : (∀ j, j < n.length → nth x j ≤ nth y j) ∧ y.sum - x.sum ≤ 1 := by
  have s1 := hx.sum
  have s2 := hy.sum
  refine ⟨fun j hj => Int.not_lt.1 fun h => ?_, by omega⟩
  obtain ⟨i, hi, hlt⟩ := less_more (x := y) (y := x) (by rw [hx.len, hy.len]) (by omega) (by rw [hy.len]; exact hj) h
  rw [hy.len] at hi
  have := hx.hi j hj
  have := hy.hi i hi
  exact cross rfl hw hx.st hy.st hx.lo hy.lo hi hj (by omega) hlt (by omega) h

/-- A greater demand. -/
theorem Part.more {k : Int} {w n m x z : List Int} (hw : Heavy w n.length) {i : Nat} (hi : i < n.length) (hm : m.length = n.length) (hmi : nth n i ≤ nth m i) (hmo : ∀ j, j < n.length → j ≠ i → nth m j = nth n j) (hx : Part k w n x) (hz : Part k w m z) :
    (∀ j, j < n.length → j ≠ i → nth z j ≤ nth x j) ∧ nth x i ≤ nth z i := by
  have hle : ∀ j, j < n.length → nth n j ≤ nth m j := fun j hj => by
    by_cases e : j = i
    · subst e; exact hmi
    · rw [hmo j hj e]; exact Int.le_refl _
  have hsum : n.sum ≤ m.sum := sum_le_of hm.symm hle
  have s1 := hx.sum
  have s2 := hz.sum
  have zlo : ∀ i, i < n.length → 0 ≤ nth z i := fun i hi => hz.lo i (by omega)
  have zhi : ∀ i, i < n.length → nth z i ≤ nth m i := fun i hi => hz.hi i (by omega)
  constructor
  · intro j hj hji
    refine Int.not_lt.1 fun h => ?_
    have e := hmo j hj hji
    have z1 := zhi j hj
    have hs : z.sum ≤ x.sum := by
      by_cases hk : k ≤ n.sum
      · omega
      · have : nth x j = nth n j := sum_eq_all hx.len (fun l hl => hx.hi l (by rw [← hx.len]; exact hl)) (by omega) j (by rw [hx.len]; exact hj)
        omega
    obtain ⟨l, hl, hlt⟩ := less_more (by rw [hx.len, hz.len, hm]) hs (by rw [hx.len]; exact hj) h
    rw [hx.len] at hl
    have := hx.hi l hl
    have := hle l hl
    exact cross hm hw hx.st hz.st hx.lo zlo hj hl (by omega) h (by omega) hlt
  · refine Int.not_lt.1 fun h => ?_
    obtain ⟨l, hl, hlt⟩ := less_more (x := z) (y := x) (by rw [hx.len, hz.len, hm]) (by omega) (by rw [hz.len, hm]; exact hi) h
    rw [hz.len, hm] at hl
    have hli : l ≠ i := fun e => by subst e; omega
    have := hmo l hl hli
    have := zhi l hl
    have := hx.hi i hi
    exact cross hm hw hx.st hz.st hx.lo zlo hl hi (by omega) hlt (by omega) h

/-- A fair part: who wants more has at least its part by weight. -/
theorem Part.share {k : Int} {w n x : List Int} (hl : w.length = n.length) (hw : Heavy w n.length) (hx : Part k w n x) {i : Nat} (hi : i < n.length) (hr : nth x i < nth n i) :
    (∀ j, j < n.length → nth x j * nth w i ≤ (nth x i + 1) * nth w j) ∧ min k n.sum * nth w i < (nth x i + 1) * w.sum := by
  have env : ∀ j, j < n.length → nth x j * nth w i ≤ (nth x i + 1) * nth w j := fun j hj => by
    have x0 := hx.lo i hi
    have wi := hw i hi
    have wj := hw j hj
    by_cases e : i = j
    · subst e
      exact Int.mul_le_mul_of_nonneg_right (by omega) (by omega)
    · by_cases h0 : 0 < nth x j
      · rcases hx.st i j hi hj e hr h0 with h | h
        · exact Int.le_of_lt h
        · exact Int.le_of_eq h.1
      · have := hx.lo j hj
        have e0 : nth x j = 0 := by omega
        rw [e0, Int.zero_mul]
        exact Int.mul_nonneg (by omega) (by omega)
  refine ⟨env, ?_⟩
  rw [← hx.sum]
  have key : ∀ (a b : List Int) (p q : Int), a.length = b.length → (∀ j, j < a.length → nth a j * p ≤ q * nth b j) → a.sum * p ≤ q * b.sum := by
    intro a
    induction a with
    | nil => intro b p q hl _; cases b <;> simp at hl ⊢
    | cons u r ih =>
      intro b p q hl h
      cases b with
      | nil => simp at hl
      | cons v s =>
        have h0 : u * p ≤ q * v := h 0 (by simp)
        have h1 := ih s p q (by simpa using hl) fun j hj => h (j + 1) (by simpa using hj)
        simp only [List.sum_cons, Int.add_mul, Int.mul_add]; omega
  have wi := hw i hi
  have h1 := key (x.set i (nth x i + 1)) w (nth w i) (nth x i + 1) (by rw [List.length_set, hx.len, hl]) fun j hj => by
    rw [List.length_set, hx.len] at hj
    rw [nth_set (by rw [hx.len]; exact hi)]
    split
    · rename_i e; subst e; exact Int.le_refl _
    · exact env j hj
  rw [sum_set (by rw [hx.len]; exact hi)] at h1
  have e : (x.sum - nth x i + (nth x i + 1)) = x.sum + 1 := by omega
  rw [e, Int.add_mul] at h1
  omega

/-- i is the one that gets the next unit. -/
def Best (w n x : List Int) (i : Nat) : Prop := i < n.length ∧ nth x i < nth n i ∧ ∀ j, j < n.length → j ≠ i → nth x j < nth n j → (nth x i + 1) * nth w j < (nth x j + 1) * nth w i ∨ ((nth x i + 1) * nth w j = (nth x j + 1) * nth w i ∧ i < j)
theorem Stable.step {w n x : List Int} (hl : x.length = n.length) (hw : Heavy w n.length) (hx : Stable w n x) (x0 : ∀ i, i < n.length → 0 ≤ nth x i) {i : Nat} (hb : Best w n x i) : Stable w n (x.set i (nth x i + 1)) := by
  obtain ⟨hi, hr, hbest⟩ := hb
  intro a b ha hb' hab hra hpb
  have hix : i < x.length := by omega
  rw [nth_set hix] at hra hpb
  unfold Before
  rw [nth_set hix, nth_set hix]
  have wi := hw i hi
  have wb := hw b hb'
  by_cases e1 : a = i
  · subst e1
    rw [if_pos rfl] at hra ⊢
    rw [if_neg (Ne.symm hab)] at hpb ⊢
    have h1 := hx a b ha hb' hab hr hpb
    unfold Before at h1
    left
    have : (nth x a + 1 + 1) * nth w b = (nth x a + 1) * nth w b + nth w b := by rw [Int.add_mul (nth x a + 1)]; omega
    omega
  · rw [if_neg e1] at hra ⊢
    by_cases e2 : b = i
    · subst e2
      rw [if_pos rfl]
      exact hbest a ha (by omega) hra
    · rw [if_neg e2] at hpb ⊢
      exact hx a b ha hb' hab hra hpb

/-- A scale for the weights changes nothing. -/
theorem Part.scale {k c : Int} {w v n x : List Int} (hc : 0 < c) (hv : ∀ i, i < n.length → nth v i = nth w i * c) (hx : Part k w n x) : Part k v n x := by
  refine ⟨hx.len, hx.lo, hx.hi, hx.sum, fun i j hi hj hij h1 h2 => ?_⟩
  have h := hx.st i j hi hj hij h1 h2
  unfold Before at h ⊢
  rw [hv i hi, hv j hj, ← Int.mul_assoc, ← Int.mul_assoc]
  rcases h with h | ⟨h, e⟩
  · exact .inl (Int.mul_lt_mul_of_pos_right h hc)
  · exact .inr ⟨by rw [h], e⟩
end Go.Proofs.Ytaipgdhaoldhjaa
