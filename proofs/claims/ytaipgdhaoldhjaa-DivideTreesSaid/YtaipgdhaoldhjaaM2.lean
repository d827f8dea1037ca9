/-
  Lemmas and contracts on the way to the laws of this seat; each theorem states its own conditions, and there are no others.
-/
import Derived.Test.YtaipgdhaoldhjaaM
namespace Go.Proofs.Ytaipgdhaoldhjaa
set_option linter.unusedVariables false
set_option linter.unusedSimpArgs false

/-- The sum of the first numbers of a row. -/
def sumF (f : Nat → Int) : Nat → Int
  | 0 => 0
  | n + 1 => sumF f n + f n
theorem sumF_cons (a : Int) (r : List Int) (k : Nat) : sumF (nth (a :: r)) (k + 1) = a + sumF (nth r) k := by
  induction k with
  | zero => show 0 + a = a + 0; omega
  | succ k ih =>
    have e : nth (a :: r) (k + 1) = nth r k := rfl
    rw [sumF, ih, e, sumF]; omega
theorem sumF_sum (l : List Int) : sumF (nth l) l.length = l.sum := by
  induction l with
  | nil => rfl
  | cons a r ih => rw [List.length_cons, sumF_cons, ih, List.sum_cons]
theorem sumF_congr {f g : Nat → Int} {n : Nat} (h : ∀ i, i < n → f i = g i) : sumF f n = sumF g n := by
  induction n with
  | zero => rfl
  | succ n ih => rw [sumF, sumF, ih fun i hi => h i (by omega), h n (by omega)]
theorem sumF_le {f g : Nat → Int} {n : Nat} (h : ∀ i, i < n → f i ≤ g i) : sumF f n ≤ sumF g n := by
  induction n with
  | zero => exact Int.le_refl _
  | succ n ih =>
    have h1 := ih fun i hi => h i (by omega)
    have h2 := h n (by omega)
    simp only [sumF]; omega
theorem sumF_add (f g : Nat → Int) (n : Nat) : sumF (fun i => f i + g i) n = sumF f n + sumF g n := by
  induction n with
  | zero => rfl
  | succ n ih => simp only [sumF, ih]; omega
theorem sumF_mul (f : Nat → Int) (c : Int) (n : Nat) : sumF (fun i => f i * c) n = sumF f n * c := by
  induction n with
  | zero => simp [sumF]
  | succ n ih => simp only [sumF, ih, Int.add_mul]
theorem sumF_nonneg {f : Nat → Int} {n : Nat} (h : ∀ i, i < n → 0 ≤ f i) : 0 ≤ sumF f n := by
  have := sumF_le (f := fun _ => 0) h
  have e : sumF (fun _ => 0) n = 0 := by
    clear this h
    induction n with
    | zero => rfl
    | succ n ih => simp only [sumF, ih]; omega
  omega
theorem sumF_pos {f : Nat → Int} {n : Nat} (h : ∀ i, i < n → 0 ≤ f i) {k : Nat} (hk : k < n) (hp : 0 < f k) : 0 < sumF f n := by
  induction n with
  | zero => omega
  | succ n ih =>
    simp only [sumF]
    have h0 := h n (by omega)
    by_cases e : k = n
    · subst e
      have := sumF_nonneg (n := k) fun i hi => h i (by omega)
      omega
    · have := ih (fun i hi => h i (by omega)) (by omega)
      omega
theorem sumF_mono {f : Nat → Int} {n m : Nat} (h : ∀ i, 0 ≤ f i) (hm : n ≤ m) : sumF f n ≤ sumF f m := by
  induction m with
  | zero => have : n = 0 := by omega
            subst this; exact Int.le_refl _
  | succ m ih =>
    by_cases e : n = m + 1
    · subst e; exact Int.le_refl _
    · have := ih (by omega)
      have := h m
      simp only [sumF]; omega

def isF (full : List Bool) (i : Nat) : Bool := full.getD i false
/-- What those have that are done, and the weights of the others. -/
def had (full : List Bool) (d : List Int) (i : Nat) : Int := bif isF full i then nth d i else 0
def wgt (full : List Bool) (w : List Int) (i : Nat) : Int := bif isF full i then 0 else nth w i

/-- A round of the beginning: those who are done, what is left, and the weights of the rest. -/
structure Water (total : Int) (w d : List Int) (full : List Bool) (given : List Int) : Prop where
  lf : full.length = d.length
  lg : given.length = d.length
  f : ∀ i, i < d.length → isF full i = true → nth given i = nth d i
  r0 : 0 ≤ total - sumF (had full d) d.length
  lev : ∀ i, i < d.length → isF full i = true → nth d i * sumF (wgt full w) d.length ≤ (total - sumF (had full d) d.length) * nth w i
/-- All others have their part of what is left, and want more. -/
def Flat (total : Int) (w d : List Int) (full : List Bool) (given : List Int) : Prop :=
  ∀ i, i < d.length → isF full i = false → nth given i = (total - sumF (had full d) d.length) * nth w i / sumF (wgt full w) d.length ∧ nth given i < nth d i

/-- Within a round: those before i were looked at. -/
structure Pass (w d : List Int) (F : List Bool) (R S : Int) (i : Nat) (full : List Bool) (given : List Int) (changed : Bool) : Prop where
  le : i ≤ d.length
  lf : full.length = d.length
  lg : given.length = d.length
  old : ∀ j, isF F j = true → isF full j = true
  later : ∀ j, i ≤ j → isF full j = isF F j
  keep : ∀ j, j < d.length → isF F j = true → nth given j = nth d j
  chg : changed = true → ∃ j, j < i ∧ isF F j = false ∧ isF full j = true
  new : ∀ j, j < i → isF F j = false → (isF full j = true ∧ nth d j ≤ R * nth w j / S ∧ nth given j = nth d j ∧ changed = true) ∨ (isF full j = false ∧ nth given j = R * nth w j / S ∧ nth given j < nth d j)

theorem Pass.start {total : Int} {w d : List Int} {full : List Bool} {given : List Int} (h : Water total w d full given) (R S : Int) : Pass w d full R S 0 full given false :=
  ⟨Nat.zero_le _, h.lf, h.lg, fun _ h => h, fun _ _ => rfl, h.f, fun h => (by cases h), fun j hj => by omega⟩

theorem isF_set {full : List Bool} {i : Nat} (hi : i < full.length) (j : Nat) : isF (full.set i true) j = if j = i then true else isF full j := by
  unfold isF
  rw [List.getD_eq_getElem?_getD, List.getD_eq_getElem?_getD, List.getElem?_set]
  by_cases h : i = j
  · subst h; simp [hi]
  · simp [h, Ne.symm h]

theorem Pass.skip {w d : List Int} {F : List Bool} {R S : Int} {i : Nat} {full : List Bool} {given : List Int} {c : Bool} (h : Pass w d F R S i full given c) (hi : i < d.length) (hf : isF full i = true) : Pass w d F R S (i + 1) full given c := by
  have e : isF F i = true := by rw [← h.later i (Nat.le_refl _)]; exact hf
  refine ⟨hi, h.lf, h.lg, h.old, fun j hj => h.later j (by omega), h.keep, fun hc => (by obtain ⟨j, h1, h2⟩ := h.chg hc; exact ⟨j, by omega, h2⟩), fun j hj hF => ?_⟩
  by_cases ej : j = i
  · subst ej; rw [e] at hF; cases hF
  · exact h.new j (by omega) hF
theorem Pass.fill {w d : List Int} {F : List Bool} {R S : Int} {i : Nat} {full : List Bool} {given : List Int} {c : Bool} (h : Pass w d F R S i full given c) (hi : i < d.length) (hf : isF full i = false) (hd : nth d i ≤ R * nth w i / S) : Pass w d F R S (i + 1) (full.set i true) (given.set i (nth d i)) true := by
  have e : isF F i = false := by rw [← h.later i (Nat.le_refl _)]; exact hf
  have lf := h.lf
  have lg := h.lg
  refine ⟨hi, by simpa using lf, by simpa using lg, fun j hj => ?_, fun j hj => ?_, fun j hj hF => ?_, fun _ => ⟨i, by omega, e, by rw [isF_set (by omega), if_pos rfl]⟩, fun j hj hF => ?_⟩
  · rw [isF_set (by omega)]; split
    · rfl
    · exact h.old j hj
  · rw [isF_set (by omega), if_neg (by omega)]; exact h.later j (by omega)
  · rw [nth_set (by omega)]
    split
    · rename_i ej; subst ej; exact absurd hF (by rw [e]; simp)
    · exact h.keep j hj hF
  · rw [isF_set (by omega), nth_set (by omega)]
    by_cases ej : j = i
    · subst ej
      rw [if_pos rfl, if_pos rfl]
      exact .inl ⟨rfl, hd, rfl, rfl⟩
    · rw [if_neg ej, if_neg ej]
      rcases h.new j (by omega) hF with ⟨a, b, c', _⟩ | h'
      · exact .inl ⟨a, b, c', rfl⟩
      · exact .inr h'
theorem Pass.part {w d : List Int} {F : List Bool} {R S : Int} {i : Nat} {full : List Bool} {given : List Int} {c : Bool} (h : Pass w d F R S i full given c) (hi : i < d.length) (hf : isF full i = false) (hd : R * nth w i / S < nth d i) : Pass w d F R S (i + 1) full (given.set i (R * nth w i / S)) c := by
  have e : isF F i = false := by rw [← h.later i (Nat.le_refl _)]; exact hf
  have lf := h.lf
  have lg := h.lg
  refine ⟨hi, lf, by simpa using lg, h.old, fun j hj => h.later j (by omega), fun j hj hF => ?_, fun hc => (by obtain ⟨j, h1, h2⟩ := h.chg hc; exact ⟨j, by omega, h2⟩), fun j hj hF => ?_⟩
  · rw [nth_set (by omega)]
    split
    · rename_i ej; subst ej; exact absurd hF (by rw [e]; simp)
    · exact h.keep j hj hF
  · rw [nth_set (by omega)]
    by_cases ej : j = i
    · subst ej
      rw [if_pos rfl]
      exact .inr ⟨hf, rfl, hd⟩
    · rw [if_neg ej]
      exact h.new j (by omega) hF

theorem div_mul_le' {a b : Int} (hb : 0 < b) : a / b * b ≤ a := Int.ediv_mul_le a (by omega)
theorem lt_div_mul {a b : Int} (hb : 0 < b) : a < (a / b + 1) * b := Int.lt_ediv_add_one_mul_self a hb

/-- Behind a round: the level has not sunk. -/
theorem Pass.stop {total : Int} {w d : List Int} {F full : List Bool} {g0 given : List Int} {c : Bool} (hw : ∀ i, 0 ≤ nth w i) (h0 : Water total w d F g0) (hS : ∀ i, i < d.length → isF F i = false → 0 < sumF (wgt F w) d.length)
    (h : Pass w d F (total - sumF (had F d) d.length) (sumF (wgt F w) d.length) d.length full given c) : Water total w d full given ∧ (c = false → Flat total w d full given) := by
  -- what is new
  have hR := h0.r0
  have hlev0 := h0.lev
  have hW : 0 ≤ sumF (wgt F w) d.length := sumF_nonneg fun i _ => by
    unfold wgt
    cases isF F i
    · exact hw i
    · exact Int.le_refl _
  have hW1 : 0 ≤ sumF (wgt full w) d.length := sumF_nonneg fun i _ => by
    unfold wgt
    cases isF full i
    · exact hw i
    · exact Int.le_refl _
  let fd : Nat → Int := fun i => bif isF full i && !isF F i then nth d i else 0
  let fw : Nat → Int := fun i => bif isF full i && !isF F i then nth w i else 0
  have e1 : sumF (had full d) d.length = sumF (had F d) d.length + sumF fd d.length := by
    rw [← sumF_add]
    refine sumF_congr fun i hi => ?_
    show had full d i = had F d i + (bif isF full i && !isF F i then nth d i else 0)
    unfold had
    have := h.old i
    cases hF : isF F i <;> cases hf : isF full i <;> simp [hF, hf] at this ⊢
  have e2 : sumF (wgt F w) d.length = sumF (wgt full w) d.length + sumF fw d.length := by
    rw [← sumF_add]
    refine sumF_congr fun i hi => ?_
    show wgt F w i = wgt full w i + (bif isF full i && !isF F i then nth w i else 0)
    unfold wgt
    have := h.old i
    cases hF : isF F i <;> cases hf : isF full i <;> simp [hF, hf] at this ⊢
  generalize hRR : total - sumF (had F d) d.length = R at *
  generalize hSS : sumF (wgt F w) d.length = S at *
  have hR1 : total - sumF (had full d) d.length = R - sumF fd d.length := by omega
  generalize hS1 : sumF (wgt full w) d.length = S1 at *
  have key : sumF fd d.length * S ≤ R * sumF fw d.length := by
    rw [← sumF_mul, Int.mul_comm R, ← sumF_mul]
    refine sumF_le fun i hi => ?_
    show (bif isF full i && !isF F i then nth d i else 0) * S ≤ (bif isF full i && !isF F i then nth w i else 0) * R
    cases hF : isF F i
    · cases hf : isF full i
      · simp
      · have hp := hS i hi hF
        rcases h.new i hi hF with ⟨_, h2, _⟩ | ⟨h2, _⟩
        · simp only [Bool.not_false, Bool.and_self, cond_true]
          have a1 : nth d i * S ≤ R * nth w i / S * S := Int.mul_le_mul_of_nonneg_right h2 hW
          have a2 := div_mul_le' (a := R * nth w i) hp
          rw [Int.mul_comm (nth w i)]
          omega
        · rw [hf] at h2; cases h2
    · simp
  have D0 : (∀ i, i < d.length → isF full i = true → isF F i = true) → sumF fd d.length = 0 ∧ sumF fw d.length = 0 := fun hz => by
    have z : sumF (fun _ => (0 : Int)) d.length = 0 := by
      have := sumF_mul (fun _ => (0 : Int)) 0 d.length
      simpa using this
    rw [← z]
    refine ⟨sumF_congr fun i hi => ?_, (sumF_congr fun i hi => ?_).trans rfl⟩
    · show (bif isF full i && !isF F i then nth d i else 0) = 0
      cases hf : isF full i
      · simp
      · simp [hz i hi hf]
    · show (bif isF full i && !isF F i then nth w i else 0) = 0
      cases hf : isF full i
      · simp
      · simp [hz i hi hf]
  have hV : 0 ≤ sumF fw d.length := sumF_nonneg fun i _ => by
    show 0 ≤ (bif isF full i && !isF F i then nth w i else 0)
    cases isF full i && !isF F i
    · exact Int.le_refl _
    · exact hw i
  have allF : S = 0 → ∀ i, i < d.length → isF F i = true := fun hz i hi => by
    cases hF : isF F i
    · have := hS i hi hF; omega
    · rfl
  generalize sumF fd d.length = D at *
  generalize sumF fw d.length = V at *
  have lvl : R * S1 ≤ (R - D) * S := by
    have e3 : R * S = R * S1 + R * V := by rw [e2, Int.mul_add]
    rw [Int.sub_mul]; omega
  have hRD : 0 ≤ R - D := by
    by_cases hS0 : S = 0
    · have := D0 fun i hi _ => allF hS0 i hi
      omega
    · have h1 : 0 ≤ R * S1 := Int.mul_nonneg hR hW1
      refine Int.not_lt.1 fun hneg => ?_
      have := Int.mul_neg_of_neg_of_pos hneg (show 0 < S by omega)
      omega
  refine ⟨⟨h.lf, h.lg, fun i hi hf => ?_, by rw [hR1]; exact hRD, fun i hi hf => ?_⟩, fun hc i hi hf => ?_⟩
  · cases hF : isF F i
    · rcases h.new i hi hF with ⟨_, _, h3, _⟩ | ⟨h3, _⟩
      · exact h3
      · rw [hf] at h3; cases h3
    · exact h.keep i hi hF
  · rw [hR1, hS1]
    have wi := hw i
    by_cases hS0 : S = 0
    · have : S1 = 0 := by omega
      rw [this, Int.mul_zero]
      exact Int.mul_nonneg hRD wi
    · have base : nth d i * S ≤ R * nth w i := by
        cases hF : isF F i
        · rcases h.new i hi hF with ⟨_, h2, _⟩ | ⟨h3, _⟩
          · have a1 : nth d i * S ≤ R * nth w i / S * S := Int.mul_le_mul_of_nonneg_right h2 hW
            have a2 := div_mul_le' (a := R * nth w i) (show 0 < S by omega)
            omega
          · rw [hf] at h3; cases h3
        · exact hlev0 i hi hF
      have b1 : nth d i * S * S1 ≤ R * nth w i * S1 := Int.mul_le_mul_of_nonneg_right base hW1
      have b2 : R * S1 * nth w i ≤ (R - D) * S * nth w i := Int.mul_le_mul_of_nonneg_right lvl wi
      refine Int.le_of_mul_le_mul_right (a := S) ?_ (by omega)
      have c1 : nth d i * S1 * S = nth d i * S * S1 := by rw [Int.mul_assoc, Int.mul_comm S1, ← Int.mul_assoc]
      have c2 : R * nth w i * S1 = R * S1 * nth w i := by rw [Int.mul_assoc, Int.mul_comm (nth w i), ← Int.mul_assoc]
      have c3 : (R - D) * nth w i * S = (R - D) * S * nth w i := by rw [Int.mul_assoc, Int.mul_comm (nth w i), ← Int.mul_assoc]
      omega
  · subst hc
    have hz : ∀ i, i < d.length → isF full i = true → isF F i = true := fun i hi hf => by
      cases hF : isF F i
      · rcases h.new i hi hF with ⟨_, _, _, h3⟩ | ⟨h3, _⟩
        · cases h3
        · rw [hf] at h3; cases h3
      · rfl
    obtain ⟨z1, z2⟩ := D0 hz
    have hF : isF F i = false := by
      cases hF : isF F i
      · rfl
      · rw [h.old i hF] at hf; cases hf
    rcases h.new i hi hF with ⟨h3, _⟩ | ⟨_, h3, h4⟩
    · rw [hf] at h3; cases h3
    · rw [hR1, hS1]
      have e4 : R - D = R := by omega
      have e5 : S1 = S := by omega
      rw [e4, e5]
      exact ⟨h3, h4⟩

/-- How many are not done. -/
def cnt (full : List Bool) (n : Nat) : Int := sumF (fun i => bif isF full i then 0 else 1) n
theorem cnt_nonneg (full : List Bool) (n : Nat) : 0 ≤ cnt full n := sumF_nonneg fun i _ => by cases isF full i <;> simp
theorem Pass.less {w d : List Int} {F full : List Bool} {R S : Int} {given : List Int} {c : Bool} (h : Pass w d F R S d.length full given c) : cnt full d.length ≤ cnt F d.length ∧ (c = true → cnt full d.length < cnt F d.length) := by
  have le : ∀ i, (bif isF full i then (0 : Int) else 1) ≤ (bif isF F i then 0 else 1) := fun i => by
    cases hF : isF F i
    · cases isF full i <;> simp
    · simp [h.old i hF]
  refine ⟨sumF_le fun i _ => le i, fun hc => ?_⟩
  obtain ⟨j, h1, h2, h3⟩ := h.chg hc
  have e := sumF_add (fun i => bif isF full i then (0 : Int) else 1) (fun i => (bif isF F i then (0 : Int) else 1) - (bif isF full i then 0 else 1)) d.length
  have p := sumF_pos (f := fun i => (bif isF F i then (0 : Int) else 1) - (bif isF full i then 0 else 1)) (n := d.length) (fun i _ => by have := le i; omega) h1 (by simp [h2, h3])
  have e2 : sumF (fun i => (bif isF full i then (0 : Int) else 1) + ((bif isF F i then (0 : Int) else 1) - (bif isF full i then 0 else 1))) d.length = cnt F d.length := sumF_congr fun i _ => by omega
  unfold cnt at *
  omega

/-- What stands when the level is found. -/
structure Begun (total : Int) (w n x : List Int) : Prop where
  len : x.length = n.length
  lo : ∀ i, i < n.length → 0 ≤ nth x i
  hi : ∀ i, i < n.length → nth x i ≤ nth n i
  sum : x.sum ≤ total
  st : Stable w n x
theorem Water.begun {total : Int} {w d : List Int} {full : List Bool} {x : List Int} (hw : Heavy w d.length) (hwp : ∀ i, 0 ≤ nth w i) (hd : ∀ i, i < d.length → 0 ≤ nth d i) (h : Water total w d full x) (hf : Flat total w d full x) : Begun total w d x := by
  have hR := h.r0
  have hS : ∀ i, i < d.length → isF full i = false → 0 < sumF (wgt full w) d.length := fun i hi hfi => by
    refine sumF_pos (k := i) (fun j hj => ?_) hi ?_
    · unfold wgt; cases isF full j
      · exact hwp j
      · exact Int.le_refl _
    · have := hw i hi
      unfold wgt; rw [hfi]; exact this
  have hlev := h.lev
  unfold Flat at hf
  have esum : x.sum = sumF (nth x) d.length := by rw [← h.lg, sumF_sum]
  -- what the others have
  have hother : sumF (fun i => bif isF full i then 0 else nth x i) d.length ≤ total - sumF (had full d) d.length := by
    by_cases hall : ∀ i, i < d.length → isF full i = true
    · have : sumF (fun i => bif isF full i then 0 else nth x i) d.length = sumF (fun _ => (0 : Int)) d.length := sumF_congr fun i hi => by rw [hall i hi]; rfl
      have z := sumF_mul (fun _ => (0 : Int)) 0 d.length
      simp only [Int.mul_zero] at z
      omega
    · obtain ⟨k, hk⟩ := Classical.not_forall.1 hall
      obtain ⟨hk1, hk2⟩ := Classical.not_imp.1 hk
      have hSp := hS k hk1 (by simpa using hk2)
      refine Int.le_of_mul_le_mul_right (a := sumF (wgt full w) d.length) ?_ hSp
      rw [← sumF_mul, Int.mul_comm (total - _), ← sumF_mul]
      refine sumF_le fun i hi => ?_
      show (bif isF full i then 0 else nth x i) * _ ≤ wgt full w i * _
      unfold wgt
      cases hfi : isF full i
      · have := (hf i hi hfi).1
        have a2 := div_mul_le' (a := (total - sumF (had full d) d.length) * nth w i) hSp
        simp only [cond_false]
        rw [this, Int.mul_comm (nth w i)]
        exact a2
      · simp
  have hsplit : sumF (nth x) d.length = sumF (had full d) d.length + sumF (fun i => bif isF full i then 0 else nth x i) d.length := by
    rw [← sumF_add]
    refine sumF_congr fun i hi => ?_
    unfold had
    cases hfi : isF full i
    · simp
    · simp only [cond_true]; have := h.f i hi hfi; omega
  have lo : ∀ i, i < d.length → 0 ≤ nth x i := fun i hi => by
    cases hfi : isF full i
    · rw [(hf i hi hfi).1]
      exact Int.ediv_nonneg (Int.mul_nonneg hR (hwp i)) (Int.le_of_lt (hS i hi hfi))
    · rw [h.f i hi hfi]; exact hd i hi
  refine ⟨h.lg, lo, fun i hi => ?_, by omega, fun i j hi hj hij h1 h2 => ?_⟩
  · cases hfi : isF full i
    · exact Int.le_of_lt (hf i hi hfi).2
    · rw [h.f i hi hfi]; exact Int.le_refl _
  · have hfi : isF full i = false := by
      cases hfi : isF full i
      · rfl
      · have := h.f i hi hfi; omega
    have hSp := hS i hi hfi
    have ei := (hf i hi hfi).1
    have wi := hw i hi
    have wj := hw j hj
    have xi := lo i hi
    generalize total - sumF (had full d) d.length = R at *
    generalize sumF (wgt full w) d.length = S at *
    have up : R * nth w i < (nth x i + 1) * S := by rw [ei]; exact lt_div_mul hSp
    have dn : nth x j * S ≤ R * nth w j := by
      cases hfj : isF full j
      · rw [(hf j hj hfj).1]; exact div_mul_le' hSp
      · rw [h.f j hj hfj]; exact hlev j hj hfj
    left
    refine Int.lt_of_mul_lt_mul_right (a := S) ?_ (Int.le_of_lt hSp)
    have a1 : nth x j * S * nth w i ≤ R * nth w j * nth w i := Int.mul_le_mul_of_nonneg_right dn (by omega)
    have a2 : R * nth w i * nth w j < (nth x i + 1) * S * nth w j := Int.mul_lt_mul_of_pos_right up (by omega)
    have c1 : nth x j * nth w i * S = nth x j * S * nth w i := by rw [Int.mul_assoc, Int.mul_comm (nth w i), ← Int.mul_assoc]
    have c2 : R * nth w j * nth w i = R * nth w i * nth w j := by rw [Int.mul_assoc, Int.mul_comm (nth w j), ← Int.mul_assoc]
    have c3 : (nth x i + 1) * nth w j * S = (nth x i + 1) * S * nth w j := by rw [Int.mul_assoc, Int.mul_comm (nth w j), ← Int.mul_assoc]
    omega

/-- Nothing more can be given out. -/
theorem Begun.part {total : Int} {w n x : List Int} (h : Begun total w n x) (hs : x.sum = total ∨ ∀ i, i < n.length → ¬ nth x i < nth n i) : Part total w n x := by
  have hle := sum_le_of h.len fun i hi => h.hi i (by rw [← h.len]; exact hi)
  refine ⟨h.len, h.lo, h.hi, ?_, h.st⟩
  rcases hs with hs | hs
  · omega
  · have : x = n := list_ext h.len fun i hi => by
      have h1 := h.hi i (by rw [← h.len]; exact hi)
      have h2 := hs i (by rw [← h.len]; exact hi)
      omega
    have := h.sum
    subst x
    omega
theorem Begun.next {total : Int} {w n x : List Int} (hw : Heavy w n.length) (h : Begun total w n x) (hs : x.sum < total) {i : Nat} (hb : Best w n x i) : Begun total w n (x.set i (nth x i + 1)) := by
  have hl := h.len
  obtain ⟨hi, hr, _⟩ := id hb
  refine ⟨by simpa using hl, fun j hj => ?_, fun j hj => ?_, ?_, h.st.step hl hw h.lo hb⟩
  · rw [nth_set (by omega)]; have := h.lo j hj; split
    · rename_i e; subst e; omega
    · exact this
  · rw [nth_set (by omega)]; have := h.hi j hj; split
    · rename_i e; subst e; omega
    · exact this
  · rw [sum_set (by omega)]; omega
end Go.Proofs.Ytaipgdhaoldhjaa
