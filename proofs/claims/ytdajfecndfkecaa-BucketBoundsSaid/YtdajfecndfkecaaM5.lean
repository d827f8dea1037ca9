/-
  Lemmas and contracts on the way to the laws of this seat; each theorem states its own conditions, and there are no others.
-/
import Derived.Test.YtdajfecndfkecaaM4
namespace Go.Proofs.Ytdajfecndfkecaa
open Go.RowKit

/-- One round of the law of bounds. -/
theorem bounds_round {a b c d f d' f' S n r : Int} (hv : valid ⟨a, b, c, d', f'⟩ = true) (ha : a ≠ 4611686018427387904) (hf0 : 0 ≤ f) (hff : f ≤ f') (hS : 0 ≤ S)
    (inv : S * b + d' ≤ d + a * (f' - f)) (hn0 : 0 ≤ n) (hn1 : n < 20) (hr0 : 0 ≤ r) (hr1 : r < 9) (hT : f' < 1048566) :
    ∃ d'' e, take ⟨a, b, c, d', f'⟩ (f' + r) n = (⟨a, b, c, d'', f' + r⟩, e) ∧ valid ⟨a, b, c, d'', f' + r⟩ = true ∧ 0 ≤ d'' ∧ 0 ≤ a * (f' + r - f) ∧ a * (f' + r - f) ≤ 1125899906842624 ∧
      ((e = 0 ∧ (S + n) * b + d'' ≤ d + a * (f' + r - f)) ∨ (e = 11 ∧ tokens ⟨a, b, c, d'', f' + r⟩ < n ∧ S * b + d'' ≤ d + a * (f' + r - f))) := by
  obtain ⟨h3, h4, h5, h6, h7⟩ := valid_cases hv
  rcases h7 with h7 | h7
  · omega
  obtain ⟨_, h8, h9, h10, h11, h12, h13, h14, h15⟩ := h7
  obtain ⟨l, hl, l0, l1, l2⟩ := take_limited (now := f' + r) hv ha (by omega) (by omega) hn0 (by omega)
  have e1 : f' + r - f' = r := by omega
  rw [e1] at hl
  have e2 : a * (f' + r - f) = a * (f' - f) + a * r := by rw [← Int.mul_add]; congr 1; omega
  have e3 : (S + n) * b = S * b + n * b := Int.add_mul _ _ _
  have p0 : 0 ≤ a * (f' + r - f) := Int.mul_nonneg h8 (by omega)
  have p1 : a * (f' + r - f) ≤ 1073741824 * 1048576 := Int.mul_le_mul (by omega) (by omega) (by omega) (by omega)
  rcases l2 with ⟨q1, q2, q3⟩ | ⟨q1, q2, q3, q4⟩
  · refine ⟨l, 11, q2, q3, l0, p0, by omega, .inr ⟨rfl, ?_, by omega⟩⟩
    rw [tokens_limited q3 ha]; exact q1
  · exact ⟨l - n * b, 0, q3, q4, by omega, p0, by omega, .inl ⟨rfl, by omega⟩⟩

end Go.Proofs.Ytdajfecndfkecaa
