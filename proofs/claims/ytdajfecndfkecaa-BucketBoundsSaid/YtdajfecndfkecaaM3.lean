/-
  Lemmas and contracts on the way to the laws of this seat; each theorem states its own conditions, and there are no others.
-/
import Derived.Test.YtdajfecndfkecaaM2
namespace Go.Proofs.Ytdajfecndfkecaa
open Go.RowKit

theorem min_two {l r m : Int} (hr : 0 ≤ r) : min (min l m + r) m = min (l + r) m := by omega

/-- The law of two steps. -/
theorem steps_law {a b c d f r t n m : Int} (h : valid ⟨a, b, c, d, f⟩ = true) (hf : f ≤ 28) (hr0 : 0 ≤ r) (hr1 : r < 50) (ht0 : 0 ≤ t) (ht1 : t < 50) (hn0 : 0 ≤ n) (hn1 : n < 40) (hm0 : 0 ≤ m) (hm1 : m < 40) :
    (∃ x y, advance ⟨a, b, c, d, f⟩ (f + r) = (x, 0) ∧ advance x (f + r + t) = (y, 0) ∧ advance ⟨a, b, c, d, f⟩ (f + r + t) = (y, 0)) ∧
    (∃ u e v g w k, take ⟨a, b, c, d, f⟩ (f + r) n = (u, e) ∧ take u (f + r) m = (v, g) ∧ take ⟨a, b, c, d, f⟩ (f + r) (n + m) = (w, k) ∧
      ((k == 0) = (decide (e = 0) && decide (g = 0))) ∧ (k = 0 → v = w)) := by
  obtain ⟨h3, h4, h5, h6, h7⟩ := valid_cases h
  by_cases ha : a = 4611686018427387904
  · obtain ⟨e1, v1⟩ := adv_open h ha (now := f + r) (by omega) (by omega)
    obtain ⟨e2, v2⟩ := adv_open v1 ha (now := f + r + t) (by omega) (by omega)
    obtain ⟨e3, v3⟩ := adv_open h ha (now := f + r + t) (by omega) (by omega)
    refine ⟨⟨_, _, e1, e2, e3⟩, ?_⟩
    obtain ⟨q1, p1⟩ := take_open h ha (now := f + r) (n := n) (by omega) (by omega) hn0 (by omega)
    obtain ⟨q2, p2⟩ := take_open p1 ha (now := f + r) (n := m) (by omega) (by omega) hm0 (by omega)
    obtain ⟨q3, p3⟩ := take_open h ha (now := f + r) (n := n + m) (by omega) (by omega) (by omega) (by omega)
    exact ⟨_, _, _, _, _, _, q1, q2, q3, by simp, fun _ => rfl⟩
  · rcases h7 with h7 | h7
    · omega
    obtain ⟨_, h8, h9, h10, h11, h12, h13, h14, h15⟩ := h7
    obtain ⟨e1, k1, v1⟩ := adv_limited h ha (now := f + r) (by omega) (by omega)
    obtain ⟨e2, k2, v2⟩ := adv_limited v1 ha (now := f + r + t) (by omega) (by omega)
    obtain ⟨e3, k3, v3⟩ := adv_limited h ha (now := f + r + t) (by omega) (by omega)
    refine ⟨⟨_, _, e1, e2, ?_⟩, ?_⟩
    · rw [e3]
      have x1 : a * (f + r + t - f) = a * (f + r - f) + a * (f + r + t - (f + r)) := by rw [← Int.mul_add]; congr 1; omega
      rw [x1]
      have := min_two (l := d + a * (f + r - f)) (m := c * b) k2
      rw [show d + (a * (f + r - f) + a * (f + r + t - (f + r))) = d + a * (f + r - f) + a * (f + r + t - (f + r)) by omega, ← this]
    · have zero : a * (f + r - (f + r)) = 0 := by rw [Int.sub_self, Int.mul_zero]
      have dist : (n + m) * b = n * b + m * b := Int.add_mul _ _ _
      obtain ⟨l, hl, l0, l1, l2⟩ := take_limited (now := f + r) (n := n) h ha (by omega) (by omega) hn0 (by omega)
      obtain ⟨l', hl', l0', l1', l2'⟩ := take_limited (now := f + r) (n := n + m) h ha (by omega) (by omega) (by omega) (by omega)
      rw [← hl] at hl'
      subst hl'
      have hnb : 0 ≤ n * b := Int.mul_nonneg hn0 (by omega)
      have hmb : 0 ≤ m * b := Int.mul_nonneg hm0 (by omega)
      rcases l2 with ⟨p1, p2, p3⟩ | ⟨p1, p2, p3, p4⟩
      · -- nothing is taken at first
        obtain ⟨u, hu, u0, u1, u2⟩ := take_limited (now := f + r) (n := m) p3 ha (by omega) (by omega) hm0 (by omega)
        have p1' := (lt_div_iff h3).1 p1
        rcases l2' with ⟨s1, s2, s3⟩ | ⟨s1, s2, s3, s4⟩
        · rcases u2 with ⟨y1, y2, y3⟩ | ⟨y1, y2, y3, y4⟩
          · exact ⟨_, _, _, _, _, _, p2, y2, s2, by decide, fun x => absurd x (by decide)⟩
          · exact ⟨_, _, _, _, _, _, p2, y3, s2, by decide, fun x => absurd x (by decide)⟩
        · omega
      · obtain ⟨u, hu, u0, u1, u2⟩ := take_limited (now := f + r) (n := m) p4 ha (by omega) (by omega) hm0 (by omega)
        rw [zero] at hu
        obtain rfl : u = l' - n * b := by omega
        rcases l2' with ⟨s1, s2, s3⟩ | ⟨s1, s2, s3, s4⟩
        · have s1' := (lt_div_iff h3).1 s1
          rcases u2 with ⟨y1, y2, y3⟩ | ⟨y1, y2, y3, y4⟩
          · exact ⟨_, _, _, _, _, _, p3, y2, s2, by decide, fun x => absurd x (by decide)⟩
          · omega
        · rcases u2 with ⟨y1, y2, y3⟩ | ⟨y1, y2, y3, y4⟩
          · have y1' := (lt_div_iff h3).1 y1
            omega
          · refine ⟨_, _, _, _, _, _, p3, y3, s3, by decide, fun _ => ?_⟩
            congr 1
            omega

end Go.Proofs.Ytdajfecndfkecaa
