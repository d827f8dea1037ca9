/-
  Lemmas and contracts on the way to the laws of this seat; each theorem states its own conditions, and there are no others.
-/
import Derived.Test.YtdajfecndfkecaaF
namespace Go.Proofs.Ytdajfecndfkecaa
open Go.RowKit

theorem valid_mk {a b c d f : Int} (h1 : 1 ≤ b) (h2 : b ≤ 1048576) (h3 : 0 ≤ f) (h4 : f ≤ 1048576)
    (h : (a = 4611686018427387904 ∧ c = 0 ∧ d = 0) ∨ (a ≠ 4611686018427387904 ∧ 0 ≤ a ∧ a ≤ 1073741824 ∧ 0 ≤ c ∧ c ≤ 1073741824 ∧ 0 ≤ d ∧ d ≤ c * b)) : valid ⟨a, b, c, d, f⟩ = true := by
  rcases h with ⟨ha, hc, hd⟩ | ⟨ha, h5, h6, h7, h8, h9, h10⟩
  · simp [valid, inB, openB, ha, hc, hd, h1, h2, h3, h4]
  · have h11 : c * b ≤ 1073741824 * 1048576 := Int.mul_le_mul (by omega) (by omega) (by omega) (by omega)
    have h12 : 0 ≤ c * b := Int.mul_nonneg (by omega) (by omega)
    simp [valid, inB, openB, ha, h1, h2, h3, h4, h5, h6, h7, h8, h9]
    rw [IntWalk.wrap64_in _ (by omega)]; exact h10

/-- What a valid bucket is, in numbers. -/
theorem valid_cases {a b c d f : Int} (h : valid ⟨a, b, c, d, f⟩ = true) : 1 ≤ b ∧ b ≤ 1048576 ∧ 0 ≤ f ∧ f ≤ 1048576 ∧
    ((a = 4611686018427387904 ∧ c = 0 ∧ d = 0) ∨ (a ≠ 4611686018427387904 ∧ 0 ≤ a ∧ a ≤ 1073741824 ∧ 0 ≤ c ∧ c ≤ 1073741824 ∧ 0 ≤ d ∧ d ≤ c * b ∧ 0 ≤ c * b ∧ c * b ≤ 1125899906842624)) := by
  have h1 := vbd h
  refine ⟨h1.1, h1.2.1, h1.2.2.1, h1.2.2.2, ?_⟩
  by_cases ho : openB ⟨a, b, c, d, f⟩ = true
  · left; grind [valid, openB]
  · have ho : openB ⟨a, b, c, d, f⟩ = false := by simpa using ho
    have h2 := vbd2 h ho
    have h3 : a ≠ 4611686018427387904 := by simpa [openB] using ho
    right; omega

/-- Advancing a bucket with a limit, in plain numbers. -/
theorem adv_limited {a b c d f now : Int} (h : valid ⟨a, b, c, d, f⟩ = true) (ha : a ≠ 4611686018427387904) (h1 : f ≤ now) (h2 : now ≤ 1048576) :
    advance ⟨a, b, c, d, f⟩ now = (⟨a, b, c, min (d + a * (now - f)) (c * b), now⟩, 0) ∧ 0 ≤ a * (now - f) ∧ valid ⟨a, b, c, min (d + a * (now - f)) (c * b), now⟩ = true := by
  have hv := valid_cases h
  obtain ⟨h3, h4, h5, h6, h7⟩ := hv
  rcases h7 with h7 | h7
  · omega
  obtain ⟨_, h8, h9, h10, h11, h12, h13, h14, h15⟩ := h7
  have hm : a * (now - f) ≤ 1073741824 * 1048576 := Int.mul_le_mul (by omega) (by omega) (by omega) (by omega)
  have hm0 : 0 ≤ a * (now - f) := Int.mul_nonneg (by omega) (by omega)
  have e1 : wrap64 (now - f) = now - f := IntWalk.wrap64_in _ (by omega)
  have e2 : wrap64 (a * (now - f)) = a * (now - f) := IntWalk.wrap64_in _ (by omega)
  have e3 : wrap64 (d + a * (now - f)) = d + a * (now - f) := IntWalk.wrap64_in _ (by omega)
  have e4 : wrap64 (c * b) = c * b := IntWalk.wrap64_in _ (by omega)
  refine ⟨?_, hm0, valid_mk h3 h4 (by omega) h2 (.inr ⟨ha, h8, h9, h10, h11, by omega, by omega⟩)⟩
  have i1 : inB now 0 1048576 = true := by simp [inB]; omega
  have i2 : ¬ now < f := by omega
  simp [advance, h, i1, i2, openB, ha, e1, e2, e3, e4]

theorem adv_open {a b c d f now : Int} (h : valid ⟨a, b, c, d, f⟩ = true) (ha : a = 4611686018427387904) (h1 : f ≤ now) (h2 : now ≤ 1048576) :
    advance ⟨a, b, c, d, f⟩ now = (⟨a, b, c, d, now⟩, 0) ∧ valid ⟨a, b, c, d, now⟩ = true := by
  have hv := valid_cases h
  obtain ⟨h3, h4, h5, h6, h7⟩ := hv
  have i1 : inB now 0 1048576 = true := by simp [inB]; omega
  have i2 : ¬ now < f := by omega
  subst ha
  refine ⟨by simp [advance, h, i1, i2, openB], valid_mk h3 h4 (by omega) h2 (.inl (by omega))⟩

theorem tokens_open {a b c d f : Int} (h : valid ⟨a, b, c, d, f⟩ = true) (ha : a = 4611686018427387904) : tokens ⟨a, b, c, d, f⟩ = 1073741824 := by
  subst ha
  simp [tokens, h, openB]
theorem tokens_limited {a b c d f : Int} (h : valid ⟨a, b, c, d, f⟩ = true) (ha : a ≠ 4611686018427387904) : tokens ⟨a, b, c, d, f⟩ = d / b := by
  simp [tokens, h, openB, ha]
theorem tokens_bd {a b c d f : Int} (h : valid ⟨a, b, c, d, f⟩ = true) : 0 ≤ tokens ⟨a, b, c, d, f⟩ ∧ tokens ⟨a, b, c, d, f⟩ ≤ 1073741824 := by
  obtain ⟨h3, h4, h5, h6, h7⟩ := valid_cases h
  by_cases ha : a = 4611686018427387904
  · rw [tokens_open h ha]; omega
  · rw [tokens_limited h ha]
    rcases h7 with h7 | h7
    · omega
    have := Int.ediv_le_of_le_mul (a := d) (b := c) (c := b) (by omega) (by omega)
    exact ⟨Int.ediv_nonneg (by omega) (by omega), by omega⟩

/-- Taking no more than there is. -/
theorem taker_ok {a b c d f r n : Int} (h : valid ⟨a, b, c, d, f⟩ = true) (hf : f ≤ 28) (h0 : 0 ≤ r) (h1 : r ≤ 8) (hn : 0 ≤ n) (hn2 : n ≤ tokens ⟨a, b, c, d, f⟩) :
    ∃ a' b' c' d', taker ⟨a, b, c, d, f⟩ (f + r) n = (⟨a', b', c', d', f + r⟩, 0) ∧ valid ⟨a', b', c', d', f + r⟩ = true := by
  have hv := valid_cases h
  obtain ⟨h3, h4, h5, h6, h7⟩ := hv
  have hb := tokens_bd h
  have i1 : inB n 0 1073741824 = true := by simp [inB]; omega
  by_cases ha : a = 4611686018427387904
  · obtain ⟨e, v⟩ := adv_open h ha (now := f + r) (by omega) (by omega)
    subst ha
    exact ⟨_, b, c, d, by simp [taker, e, i1, openB], v⟩
  · obtain ⟨e, e0, v⟩ := adv_limited h ha (now := f + r) (by omega) (by omega)
    rcases h7 with h7 | h7
    · omega
    have ht := tokens_limited v ha
    rw [tokens_limited h ha] at hn2
    have hnb : n * b ≤ d := Int.mul_le_of_le_ediv (by omega) hn2
    have hnb0 : 0 ≤ n * b := Int.mul_nonneg hn (by omega)
    generalize hl : min (d + a * (f + r - f)) (c * b) = l at e v ht
    have hl2 : n * b ≤ l := by omega
    have hl3 : n ≤ l / b := Int.le_ediv_of_mul_le (by omega) hl2
    have hl4 : l ≤ 1125899906842624 := by omega
    have ov : openB ⟨a, b, c, l, f + r⟩ = false := by simp [openB, ha]
    have e1 : wrap64 (n * b) = n * b := IntWalk.wrap64_in _ (by omega)
    have e2 : wrap64 (l - n * b) = l - n * b := IntWalk.wrap64_in _ (by omega)
    have i2 : ¬ l / b < n := by omega
    refine ⟨a, b, c, l - n * b, by simp [taker, e, i1, ov, ht, i2, e1, e2], valid_mk h3 h4 (by omega) (by omega) (.inr ⟨ha, by omega, by omega, by omega, by omega, by omega, by omega⟩)⟩

theorem newr_ok {a b c f : Int} : (newr a b c f = (zeroBk, 3)) ∨ ∃ a' b' c' d', newr a b c f = (⟨a', b', c', d', f⟩, 0) ∧ valid ⟨a', b', c', d', f⟩ = true := by
  unfold newr
  split
  · split
    · rename_i h; exact .inr ⟨_, _, _, _, rfl, by simp at h; exact h.2⟩
    · exact .inl rfl
  · split
    · rename_i h; exact .inr ⟨_, _, _, _, rfl, by simp at h; exact h.2⟩
    · exact .inl rfl

theorem taker_zero (t n : Int) : taker ⟨0, 0, 0, 0, 0⟩ t n = (zeroBk, 1) := by
  have : advance ⟨0, 0, 0, 0, 0⟩ t = (zeroBk, 1) := by simp [advance, valid, inB]
  simp [taker, this]

end Go.Proofs.Ytdajfecndfkecaa
