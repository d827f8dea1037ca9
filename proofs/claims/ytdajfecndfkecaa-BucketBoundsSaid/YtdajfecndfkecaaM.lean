/-
  Lemmas and contracts on the way to the laws of this seat; each theorem states its own conditions, and there are no others.
-/
import Derived.Test.YtdajfecndfkecaaC
import Derived.Test.YtdajfecndfkecaaP
namespace Go.Proofs.Ytdajfecndfkecaa
open Go.RowKit

/-- Take of a bucket with a limit. -/
theorem take_limited {a b c d f now n : Int} (h : valid ⟨a, b, c, d, f⟩ = true) (ha : a ≠ 4611686018427387904) (h1 : f ≤ now) (h2 : now ≤ 1048576) (h0 : 0 ≤ n) (hn : n ≤ 1073741824) :
    ∃ l, l = min (d + a * (now - f)) (c * b) ∧ 0 ≤ l ∧ l ≤ c * b ∧
      ((l / b < n ∧ take ⟨a, b, c, d, f⟩ now n = (⟨a, b, c, l, now⟩, 11) ∧ valid ⟨a, b, c, l, now⟩ = true) ∨
       (n ≤ l / b ∧ n * b ≤ l ∧ take ⟨a, b, c, d, f⟩ now n = (⟨a, b, c, l - n * b, now⟩, 0) ∧ valid ⟨a, b, c, l - n * b, now⟩ = true)) := by
  obtain ⟨h3, h4, h5, h6, h7⟩ := valid_cases h
  obtain ⟨e, e0, v⟩ := adv_limited h ha h1 h2
  rcases h7 with h7 | h7
  · omega
  obtain ⟨_, h8, h9, h10, h11, h12, h13, h14, h15⟩ := h7
  have i1 : inB n 0 1073741824 = true := by simp [inB]; omega
  refine ⟨_, rfl, by omega, by omega, ?_⟩
  generalize hl : min (d + a * (now - f)) (c * b) = l at e v
  have ht := tokens_limited v ha
  have ov : openB ⟨a, b, c, l, now⟩ = false := by simp [openB, ha]
  by_cases hc : l / b < n
  · left
    exact ⟨hc, by simp [take, e, i1, ht, hc], v⟩
  · right
    have hc' : n ≤ l / b := by omega
    have hnb : n * b ≤ l := Int.mul_le_of_le_ediv (by omega) hc'
    have hnb0 : 0 ≤ n * b := Int.mul_nonneg h0 (by omega)
    have e1 : wrap64 (n * b) = n * b := IntWalk.wrap64_in _ (by omega)
    have e2 : wrap64 (l - n * b) = l - n * b := IntWalk.wrap64_in _ (by omega)
    exact ⟨hc', hnb, by simp [take, e, i1, ht, hc, ov, e1, e2], valid_mk h3 h4 (by omega) h2 (.inr ⟨ha, h8, h9, h10, h11, by omega, by omega⟩)⟩

/-- Take of a bucket without a limit. -/
theorem take_open {a b c d f now n : Int} (h : valid ⟨a, b, c, d, f⟩ = true) (ha : a = 4611686018427387904) (h1 : f ≤ now) (h2 : now ≤ 1048576) (h0 : 0 ≤ n) (hn : n ≤ 1073741824) :
    take ⟨a, b, c, d, f⟩ now n = (⟨a, b, c, d, now⟩, 0) ∧ valid ⟨a, b, c, d, now⟩ = true := by
  obtain ⟨e, v⟩ := adv_open h ha h1 h2
  have i1 : inB n 0 1073741824 = true := by simp [inB]; omega
  have ht := tokens_open v ha
  have i2 : ¬ (1073741824 : Int) < n := by omega
  have ov : openB ⟨a, b, c, d, now⟩ = true := by simp [openB, ha]
  exact ⟨by simp [take, e, i1, ht, i2, ov], v⟩

theorem lt_div_iff {l b n : Int} (hb : 1 ≤ b) : l / b < n ↔ l < n * b := by
  constructor
  · intro h
    exact Int.lt_mul_of_ediv_lt (by omega) h
  · intro h
    exact Int.ediv_lt_of_lt_mul (by omega) h

/-- The least q with m ≤ a * q. -/
theorem ceil_spec {m a : Int} (ha : 1 ≤ a) (hm : 1 ≤ m) : m ≤ a * ((m + a - 1) / a) ∧ a * ((m + a - 1) / a) - a < m ∧ 1 ≤ (m + a - 1) / a := by
  have h1 := Int.mul_ediv_self_le (x := m + a - 1) (k := a) (by omega)
  have h2 := Int.lt_mul_ediv_self_add (x := m + a - 1) (k := a) (by omega)
  refine ⟨by omega, by omega, ?_⟩
  exact Int.le_ediv_of_mul_le (by omega) (by omega)

/-- When of a bucket with a limit. -/
theorem when_limited {a b c d f n : Int} (h : valid ⟨a, b, c, d, f⟩ = true) (ha : a ≠ 4611686018427387904) (h0 : 0 ≤ n) (hn : n ≤ 1073741824) :
    (n * b ≤ d ∧ whenB ⟨a, b, c, d, f⟩ n = (f, 0)) ∨
    (d < n * b ∧ (c < n ∨ a = 0) ∧ whenB ⟨a, b, c, d, f⟩ n = (0, 21)) ∨
    (d < n * b ∧ n ≤ c ∧ 1 ≤ a ∧ ∃ q, n * b - d ≤ a * q ∧ a * q - a < n * b - d ∧ 1 ≤ q ∧ whenB ⟨a, b, c, d, f⟩ n = if 1048576 < f + q then (0, 21) else (f + q, 0)) := by
  obtain ⟨h3, h4, h5, h6, h7⟩ := valid_cases h
  rcases h7 with h7 | h7
  · omega
  obtain ⟨_, h8, h9, h10, h11, h12, h13, h14, h15⟩ := h7
  have i1 : inB n 0 1073741824 = true := by simp [inB]; omega
  have ht := tokens_limited h ha
  by_cases hc : d / b < n
  · right
    have hd : d < n * b := (lt_div_iff h3).1 hc
    have i2 : ¬ n ≤ d / b := by omega
    by_cases hca : c < n ∨ a = 0
    · left
      refine ⟨hd, hca, ?_⟩
      rcases hca with hca | hca
      · simp [whenB, h, i1, ht, i2, hca]
      · by_cases hcn : c < n
        · simp [whenB, h, i1, ht, i2, hcn]
        · subst hca; simp [whenB, h, i1, ht, i2, hcn]
    · right
      have hcn : ¬ c < n := fun x => hca (.inl x)
      have ha0 : ¬ a = 0 := fun x => hca (.inr x)
      have ha1 : 1 ≤ a := by omega
      have hnb : n * b ≤ c * b := Int.mul_le_mul_of_nonneg_right (by omega) (by omega)
      obtain ⟨q1, q2, q3⟩ := ceil_spec (m := n * b - d) (a := a) ha1 (by omega)
      refine ⟨hd, by omega, ha1, _, q1, q2, q3, ?_⟩
      have e1 : wrap64 (n * b) = n * b := IntWalk.wrap64_in _ (by omega)
      have e2 : wrap64 (n * b - d) = n * b - d := IntWalk.wrap64_in _ (by omega)
      have e3 : wrap64 (n * b - d + a) = n * b - d + a := IntWalk.wrap64_in _ (by omega)
      have e4 : wrap64 (n * b - d + a - 1) = n * b - d + a - 1 := IntWalk.wrap64_in _ (by omega)
      have e5 : (n * b - d + a - 1).tdiv a = (n * b - d + a - 1) / a := Int.tdiv_eq_ediv_of_nonneg (by omega)
      have hq : (n * b - d + a - 1) / a ≤ n * b - d + a - 1 := Int.ediv_le_self _ (by omega)
      have e6 : wrap64 ((n * b - d + a - 1) / a) = (n * b - d + a - 1) / a := IntWalk.wrap64_in _ (by omega)
      have e7 : wrap64 (f + (n * b - d + a - 1) / a) = f + (n * b - d + a - 1) / a := IntWalk.wrap64_in _ (by omega)
      simp [whenB, h, i1, ht, i2, hcn, ha0, e1, e2, e3, e4, e5, e6, e7]
  · left
    have hnb : n * b ≤ d := Int.mul_le_of_le_ediv (by omega) (by omega)
    have i2 : n ≤ d / b := by omega
    exact ⟨hnb, by simp [whenB, h, i1, ht, i2]⟩

theorem when_open {a b c d f n : Int} (h : valid ⟨a, b, c, d, f⟩ = true) (ha : a = 4611686018427387904) (h0 : 0 ≤ n) (hn : n ≤ 1073741824) :
    whenB ⟨a, b, c, d, f⟩ n = (f, 0) := by
  have i1 : inB n 0 1073741824 = true := by simp [inB]; omega
  have ht := tokens_open h ha
  simp [whenB, h, i1, ht, hn]

/-- The law of When and Take. -/
theorem when_law {a b c d f n : Int} (h : valid ⟨a, b, c, d, f⟩ = true) (hf : f ≤ 28) (h0 : 0 ≤ n) (hn : n ≤ 1000) :
    (∃ x, whenB ⟨a, b, c, d, f⟩ n = (0, 21) ∧ take ⟨a, b, c, d, f⟩ 1048576 n = (x, 11)) ∨
    (∃ t x, whenB ⟨a, b, c, d, f⟩ n = (t, 0) ∧ f ≤ t ∧ t ≤ 1048576 ∧ take ⟨a, b, c, d, f⟩ t n = (x, 0) ∧ (f < t → ∃ y, take ⟨a, b, c, d, f⟩ (t - 1) n = (y, 11))) := by
  obtain ⟨h3, h4, h5, h6, h7⟩ := valid_cases h
  by_cases ha : a = 4611686018427387904
  · right
    refine ⟨f, _, when_open h ha h0 (by omega), by omega, by omega, (take_open h ha (by omega) (by omega) h0 (by omega)).1, by omega⟩
  rcases h7 with h7 | h7
  · omega
  obtain ⟨_, h8, h9, h10, h11, h12, h13, h14, h15⟩ := h7
  have zero : a * (f - f) = 0 := by rw [Int.sub_self, Int.mul_zero]
  rcases when_limited h ha h0 (by omega) with ⟨w1, w2⟩ | ⟨w1, w2, w3⟩ | ⟨w1, w2, w3, q, q1, q2, q3, q4⟩
  · right
    obtain ⟨l, hl, l0, l1, l2⟩ := take_limited (now := f) h ha (by omega) (by omega) h0 (by omega)
    rw [zero] at hl
    rcases l2 with l2 | l2
    · have := (lt_div_iff h3).1 l2.1; omega
    · exact ⟨f, _, w2, by omega, by omega, l2.2.2.1, by omega⟩
  · left
    obtain ⟨l, hl, l0, l1, l2⟩ := take_limited (now := 1048576) h ha (by omega) (by omega) h0 (by omega)
    rcases l2 with l2 | l2
    · exact ⟨_, w3, l2.2.1⟩
    · exfalso
      rcases w2 with w2 | w2
      · have : c * b < n * b := Int.mul_lt_mul_of_pos_right w2 (by omega)
        omega
      · subst w2; rw [Int.zero_mul] at hl; omega
  · have hnb : n * b ≤ c * b := Int.mul_le_mul_of_nonneg_right w2 (by omega)
    split at q4
    · rename_i hq
      left
      obtain ⟨l, hl, l0, l1, l2⟩ := take_limited (now := 1048576) h ha (by omega) (by omega) h0 (by omega)
      rcases l2 with l2 | l2
      · exact ⟨_, q4, l2.2.1⟩
      · exfalso
        have : a * (1048576 - f) ≤ a * (q - 1) := Int.mul_le_mul_of_nonneg_left (by omega) (by omega)
        rw [Int.mul_sub a q, Int.mul_one] at this
        omega
    · rename_i hq
      right
      obtain ⟨l, hl, l0, l1, l2⟩ := take_limited (now := f + q) h ha (by omega) (by omega) h0 (by omega)
      rw [show f + q - f = q by omega] at hl
      rcases l2 with l2 | l2
      · exfalso
        have := (lt_div_iff h3).1 l2.1
        omega
      · refine ⟨f + q, _, q4, by omega, by omega, l2.2.2.1, fun _ => ?_⟩
        obtain ⟨l', hl', l0', l1', l2'⟩ := take_limited (now := f + q - 1) h ha (by omega) (by omega) h0 (by omega)
        rw [show f + q - 1 - f = q - 1 by omega, Int.mul_sub, Int.mul_one] at hl'
        rcases l2' with l2' | l2'
        · exact ⟨_, l2'.2.1⟩
        · exfalso; omega

end Go.Proofs.Ytdajfecndfkecaa
