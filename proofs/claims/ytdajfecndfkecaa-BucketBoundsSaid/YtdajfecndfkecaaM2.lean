/-
  Lemmas and contracts on the way to the laws of this seat; each theorem states its own conditions, and there are no others.
-/
import Derived.Test.YtdajfecndfkecaaM
namespace Go.Proofs.Ytdajfecndfkecaa
open Go.RowKit

/-- The law of Change. -/
theorem change_law {a b c d f rate per burst : Int} (h : valid ⟨a, b, c, d, f⟩ = true) (hf : f ≤ 28) (hr : rate = 4611686018427387904 ∨ (0 ≤ rate ∧ rate ≤ 1073741824)) (hp : 1 ≤ per) (hp2 : per ≤ 1000) (hb0 : 0 ≤ burst) (hb1 : burst ≤ 1000) :
    ∃ c' d', change ⟨a, b, c, d, f⟩ rate per burst f = (⟨rate, per, c', d', f⟩, 0) ∧
      (rate = 4611686018427387904 → tokens ⟨rate, per, c', d', f⟩ = 1073741824) ∧
      (rate ≠ 4611686018427387904 → c' = burst ∧ tokens ⟨rate, per, c', d', f⟩ = if a = 4611686018427387904 then 0 else min (tokens ⟨a, b, c, d, f⟩) burst) := by
  obtain ⟨h3, h4, h5, h6, h7⟩ := valid_cases h
  have key : ∃ d1, advance ⟨a, b, c, d, f⟩ f = (⟨a, b, c, d1, f⟩, 0) ∧ tokens ⟨a, b, c, d1, f⟩ = tokens ⟨a, b, c, d, f⟩ := by
    by_cases ha : a = 4611686018427387904
    · exact ⟨d, (adv_open h ha (by omega) (by omega)).1, rfl⟩
    · obtain ⟨e, e0, v⟩ := adv_limited h ha (now := f) (by omega) (by omega)
      rw [Int.sub_self, Int.mul_zero] at e v
      have : min (d + 0) (c * b) = d := by omega
      rw [this] at e v
      exact ⟨d, e, rfl⟩
  obtain ⟨d1, e, et⟩ := key
  have htb := tokens_bd h
  have hmk : ∀ tok : Int, 0 ≤ tok → tok ≤ 1073741824 → ∃ c' d', mkB rate per burst f tok = (⟨rate, per, c', d', f⟩, 0) ∧
      (rate = 4611686018427387904 → tokens ⟨rate, per, c', d', f⟩ = 1073741824) ∧
      (rate ≠ 4611686018427387904 → c' = burst ∧ tokens ⟨rate, per, c', d', f⟩ = min tok burst) := by
    intro tok t0 t1
    by_cases hrm : rate = 4611686018427387904
    · have v : valid ⟨rate, per, 0, 0, f⟩ = true := valid_mk hp (by omega) h5 h6 (.inl ⟨hrm, rfl, rfl⟩)
      have e0 : wrap64 (min tok 0 * per) = 0 := by
        have : min tok 0 = 0 := by omega
        rw [this, Int.zero_mul]; exact IntWalk.wrap64_in _ (by omega)
      refine ⟨0, 0, ?_, fun _ => tokens_open v hrm, fun x => absurd hrm x⟩
      subst hrm
      simp [mkB, v, e0]
    · have v : valid ⟨rate, per, burst, 0, f⟩ = true := valid_mk hp (by omega) h5 h6 (.inr ⟨hrm, by omega, by omega, hb0, by omega, by omega, Int.mul_nonneg hb0 (by omega)⟩)
      have m0 : 0 ≤ min tok burst * per := Int.mul_nonneg (by omega) (by omega)
      have m1 : min tok burst * per ≤ burst * per := Int.mul_le_mul_of_nonneg_right (by omega) (by omega)
      have m2 : burst * per ≤ 1000 * 1000 := Int.mul_le_mul (by omega) (by omega) (by omega) (by omega)
      have e0 : wrap64 (min tok burst * per) = min tok burst * per := IntWalk.wrap64_in _ (by omega)
      have v2 : valid ⟨rate, per, burst, min tok burst * per, f⟩ = true := valid_mk hp (by omega) h5 h6 (.inr ⟨hrm, by omega, by omega, hb0, by omega, m0, m1⟩)
      refine ⟨burst, min tok burst * per, ?_, fun x => absurd x hrm, fun _ => ⟨rfl, ?_⟩⟩
      · simp [mkB, hrm, v, e0]
      · rw [tokens_limited v2 hrm]; exact Int.mul_ediv_cancel _ (by omega)
  by_cases ha : a = 4611686018427387904
  · obtain ⟨c', d', k1, k2, k3⟩ := hmk 0 (by omega) (by omega)
    refine ⟨c', d', ?_, k2, fun x => ?_⟩
    · subst ha; simp [change, e, openB, k1]
    · have := k3 x; rw [if_pos ha]; exact ⟨this.1, by rw [this.2]; omega⟩
  · obtain ⟨c', d', k1, k2, k3⟩ := hmk (tokens ⟨a, b, c, d, f⟩) htb.1 htb.2
    refine ⟨c', d', ?_, k2, fun x => ?_⟩
    · simp [change, e, openB, ha, et, k1]
    · rw [if_neg ha]; exact k3 x

end Go.Proofs.Ytdajfecndfkecaa
