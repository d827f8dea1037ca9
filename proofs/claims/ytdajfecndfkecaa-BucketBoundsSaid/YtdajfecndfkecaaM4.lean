/-
  Lemmas and contracts on the way to the laws of this seat; each theorem states its own conditions, and there are no others.
-/
import Derived.Test.YtdajfecndfkecaaM3
namespace Go.Proofs.Ytdajfecndfkecaa
open Go.RowKit

theorem q_le {a q q' : Int} (ha : 1 ≤ a) (h : a * q' - a < a * q) : q' ≤ q := by
  have h1 : a * (q' - 1) < a * q := by rw [Int.mul_sub, Int.mul_one]; exact h
  have := Int.lt_of_mul_lt_mul_left h1 (by omega)
  omega

/-- More tokens are there no earlier. -/
theorem waits_law {a b c d f n m s e t g : Int} (h : valid ⟨a, b, c, d, f⟩ = true) (hf : f ≤ 28) (hn0 : 0 ≤ n) (hn1 : n < 80) (hm0 : 0 ≤ m) (hm1 : m < 40)
    (hs : whenB ⟨a, b, c, d, f⟩ n = (s, e)) (ht : whenB ⟨a, b, c, d, f⟩ (n + m) = (t, g)) : g = 0 → e = 0 ∧ s ≤ t := by
  obtain ⟨h3, h4, h5, h6, h7⟩ := valid_cases h
  intro hg
  by_cases ha : a = 4611686018427387904
  · rw [when_open h ha hn0 (by omega)] at hs
    rw [when_open h ha (by omega) (by omega)] at ht
    simp only [Prod.mk.injEq] at hs ht
    omega
  · have dist : (n + m) * b = n * b + m * b := Int.add_mul _ _ _
    have hmb : 0 ≤ m * b := Int.mul_nonneg hm0 (by omega)
    rcases when_limited h ha hn0 (by omega) with ⟨w1, w2⟩ | ⟨w1, w2, w3⟩ | ⟨w1, w2, w3, q, q1, q2, q3, q4⟩ <;>
      rcases when_limited h ha (n := n + m) (by omega) (by omega) with ⟨v1, v2⟩ | ⟨v1, v2, v3⟩ | ⟨v1, v2, v3, p, p1, p2, p3, p4⟩
    · rw [w2] at hs; rw [v2] at ht; simp only [Prod.mk.injEq] at hs ht; omega
    · rw [w2] at hs; rw [v3] at ht; simp only [Prod.mk.injEq] at hs ht; omega
    · rw [w2] at hs; rw [p4] at ht
      split at ht <;> simp only [Prod.mk.injEq] at hs ht <;> omega
    · omega
    · rw [w3] at hs; rw [v3] at ht; simp only [Prod.mk.injEq] at hs ht; omega
    · omega
    · omega
    · rw [v3] at ht; simp only [Prod.mk.injEq] at ht; omega
    · have hq : q ≤ p := q_le w3 (by omega)
      rw [q4] at hs; rw [p4] at ht
      split at ht <;> split at hs <;> simp only [Prod.mk.injEq] at hs ht <;> omega

/-- A bucket with a greater rate has them no later. -/
theorem faster_law {a b c d f n m s e u g : Int} (h : valid ⟨a, b, c, d, f⟩ = true) (hf : f ≤ 28) (hn0 : 0 ≤ n) (hn1 : n < 80) (hm0 : 0 ≤ m) (ha : a ≠ 4611686018427387904) (hm1 : a + m ≤ 1073741824)
    (hs : whenB ⟨a, b, c, d, f⟩ n = (s, e)) (hu : whenB ⟨a + m, b, c, d, f⟩ n = (u, g)) : e = 0 → g = 0 ∧ u ≤ s := by
  obtain ⟨h3, h4, h5, h6, h7⟩ := valid_cases h
  intro he
  rcases h7 with h7 | h7
  · omega
  obtain ⟨_, h8, h9, h10, h11, h12, h13, h14, h15⟩ := h7
  have h' : valid ⟨a + m, b, c, d, f⟩ = true := valid_mk h3 h4 h5 h6 (.inr ⟨by omega, by omega, by omega, h10, h11, h12, h13⟩)
  have ha' : a + m ≠ 4611686018427387904 := by omega
  rcases when_limited h ha hn0 (by omega) with ⟨w1, w2⟩ | ⟨w1, w2, w3⟩ | ⟨w1, w2, w3, q, q1, q2, q3, q4⟩ <;>
    rcases when_limited h' ha' hn0 (by omega) with ⟨v1, v2⟩ | ⟨v1, v2, v3⟩ | ⟨v1, v2, v3, p, p1, p2, p3, p4⟩
  · rw [w2] at hs; rw [v2] at hu; simp only [Prod.mk.injEq] at hs hu; omega
  · omega
  · omega
  · omega
  · rw [w3] at hs; simp only [Prod.mk.injEq] at hs; omega
  · rw [w3] at hs; simp only [Prod.mk.injEq] at hs; omega
  · omega
  · omega
  · have h1 : a * q ≤ (a + m) * q := Int.mul_le_mul_of_nonneg_right (by omega) (by omega)
    have hq : p ≤ q := q_le v3 (by omega)
    rw [q4] at hs; rw [p4] at hu
    split at hu <;> split at hs <;> simp only [Prod.mk.injEq] at hs hu <;> omega

end Go.Proofs.Ytdajfecndfkecaa
