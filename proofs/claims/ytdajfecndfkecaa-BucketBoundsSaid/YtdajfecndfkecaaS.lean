/-
  Lemmas and contracts on the way to the laws of this seat; each theorem states its own conditions, and there are no others.
-/
import Derived.Test.YtdajfecndfkecaaC
import Derived.Test.YtdajfecndfkecaaP
import Derived.Test.YtdajfecndfkecaaE
import Derived.KernelRfl
namespace Go.Proofs.Ytdajfecndfkecaa
open Go.RowKit

theorem s1 : mkB 3 2 10 0 1073741824 = (⟨3, 2, 10, 20, 0⟩, 0) := by kernel_rfl
theorem s2 : take ⟨3, 2, 10, 20, 0⟩ 0 10 = (⟨3, 2, 10, 0, 0⟩, 0) := by kernel_rfl
theorem s3 : advance ⟨3, 2, 10, 0, 0⟩ 1 = (⟨3, 2, 10, 3, 1⟩, 0) := by kernel_rfl
theorem s4 : advance ⟨3, 2, 10, 0, 0⟩ 2 = (⟨3, 2, 10, 6, 2⟩, 0) := by kernel_rfl
theorem s5 : advance ⟨3, 2, 10, 0, 0⟩ 3 = (⟨3, 2, 10, 9, 3⟩, 0) := by kernel_rfl
theorem s6 : whenB ⟨3, 2, 10, 0, 0⟩ 5 = (4, 0) := by kernel_rfl
theorem s7 : whenB ⟨3, 2, 10, 0, 0⟩ 11 = (0, 21) := by kernel_rfl
theorem t1 : tokens ⟨3, 2, 10, 20, 0⟩ = 10 := by kernel_rfl
theorem t2 : tokens ⟨3, 2, 10, 3, 1⟩ = 1 := by kernel_rfl
theorem t3 : tokens ⟨3, 2, 10, 6, 2⟩ = 3 := by kernel_rfl
theorem t4 : tokens ⟨3, 2, 10, 9, 3⟩ = 4 := by kernel_rfl

theorem new_s (w : World) : Calls Try.prog 20 #[.int .i64 3, .int .i64 2, .int .i64 10, .int .i64 0] w fun e w' => e = .returned (.tuple #[.agg #[.int .i64 3, .int .i64 2, .int .i64 10, .int .i64 20, .int .i64 0], .int .i64 0]) ∧ Below w.heap.size w w' :=
  (new_any 3 2 10 0 w).mono fun e w' ⟨_, _, _, _, _, _, h, he, hb⟩ => by rw [s1] at h; cases h; exact ⟨he, hb⟩
theorem take_s (w : World) : Calls Try.prog 14 #[.agg #[.int .i64 3, .int .i64 2, .int .i64 10, .int .i64 20, .int .i64 0], .int .i64 0, .int .i64 10] w fun e w' => e = .returned (.tuple #[.agg #[.int .i64 3, .int .i64 2, .int .i64 10, .int .i64 0, .int .i64 0], .int .i64 0]) ∧ Below w.heap.size w w' :=
  (take_any 3 2 10 20 0 0 10 w).mono fun e w' ⟨_, _, _, _, _, _, h, he, hb⟩ => by rw [s2] at h; cases h; exact ⟨he, hb⟩
theorem adv_s1 (w : World) : Calls Try.prog 17 #[.agg #[.int .i64 3, .int .i64 2, .int .i64 10, .int .i64 0, .int .i64 0], .int .i64 1] w fun e w' => e = .returned (.tuple #[.agg #[.int .i64 3, .int .i64 2, .int .i64 10, .int .i64 3, .int .i64 1], .int .i64 0]) ∧ Below w.heap.size w w' :=
  (advance_any 3 2 10 0 0 1 w).mono fun e w' ⟨_, _, _, _, _, _, h, he, hb⟩ => by rw [s3] at h; cases h; exact ⟨he, hb⟩
theorem adv_s2 (w : World) : Calls Try.prog 17 #[.agg #[.int .i64 3, .int .i64 2, .int .i64 10, .int .i64 0, .int .i64 0], .int .i64 2] w fun e w' => e = .returned (.tuple #[.agg #[.int .i64 3, .int .i64 2, .int .i64 10, .int .i64 6, .int .i64 2], .int .i64 0]) ∧ Below w.heap.size w w' :=
  (advance_any 3 2 10 0 0 2 w).mono fun e w' ⟨_, _, _, _, _, _, h, he, hb⟩ => by rw [s4] at h; cases h; exact ⟨he, hb⟩
theorem adv_s3 (w : World) : Calls Try.prog 17 #[.agg #[.int .i64 3, .int .i64 2, .int .i64 10, .int .i64 0, .int .i64 0], .int .i64 3] w fun e w' => e = .returned (.tuple #[.agg #[.int .i64 3, .int .i64 2, .int .i64 10, .int .i64 9, .int .i64 3], .int .i64 0]) ∧ Below w.heap.size w w' :=
  (advance_any 3 2 10 0 0 3 w).mono fun e w' ⟨_, _, _, _, _, _, h, he, hb⟩ => by rw [s5] at h; cases h; exact ⟨he, hb⟩
theorem when_s1 (w : World) : Calls Try.prog 13 #[.agg #[.int .i64 3, .int .i64 2, .int .i64 10, .int .i64 0, .int .i64 0], .int .i64 5] w fun e w' => e = .returned (.tuple #[.int .i64 4, .int .i64 0]) ∧ Below w.heap.size w w' :=
  (when_any 3 2 10 0 0 5 w).mono fun e w' ⟨_, _, h, he, hb⟩ => by rw [s6] at h; cases h; exact ⟨he, hb⟩
theorem when_s2 (w : World) : Calls Try.prog 13 #[.agg #[.int .i64 3, .int .i64 2, .int .i64 10, .int .i64 0, .int .i64 0], .int .i64 11] w fun e w' => e = .returned (.tuple #[.int .i64 0, .int .i64 21]) ∧ Below w.heap.size w w' :=
  (when_any 3 2 10 0 0 11 w).mono fun e w' ⟨_, _, h, he, hb⟩ => by rw [s7] at h; cases h; exact ⟨he, hb⟩
theorem tok_s1 (w : World) : Calls Try.prog 16 #[.agg #[.int .i64 3, .int .i64 2, .int .i64 10, .int .i64 20, .int .i64 0]] w fun e w' => e = .returned (.int .i64 10) ∧ Below w.heap.size w w' :=
  (tokens_any 3 2 10 20 0 w).mono fun e w' ⟨he, hb⟩ => by rw [t1] at he; exact ⟨he, hb⟩
theorem tok_s2 (w : World) : Calls Try.prog 16 #[.agg #[.int .i64 3, .int .i64 2, .int .i64 10, .int .i64 3, .int .i64 1]] w fun e w' => e = .returned (.int .i64 1) ∧ Below w.heap.size w w' :=
  (tokens_any 3 2 10 3 1 w).mono fun e w' ⟨he, hb⟩ => by rw [t2] at he; exact ⟨he, hb⟩
theorem tok_s3 (w : World) : Calls Try.prog 16 #[.agg #[.int .i64 3, .int .i64 2, .int .i64 10, .int .i64 6, .int .i64 2]] w fun e w' => e = .returned (.int .i64 3) ∧ Below w.heap.size w w' :=
  (tokens_any 3 2 10 6 2 w).mono fun e w' ⟨he, hb⟩ => by rw [t3] at he; exact ⟨he, hb⟩
theorem tok_s4 (w : World) : Calls Try.prog 16 #[.agg #[.int .i64 3, .int .i64 2, .int .i64 10, .int .i64 9, .int .i64 3]] w fun e w' => e = .returned (.int .i64 4) ∧ Below w.heap.size w w' :=
  (tokens_any 3 2 10 9 3 w).mono fun e w' ⟨he, hb⟩ => by rw [t4] at he; exact ⟨he, hb⟩

set_option maxHeartbeats 1600000 in
theorem sane_any (w : World) : Calls Try.prog 9 #[] w fun e w' => e = .returned (.bool true) ∧ Below w.heap.size w w' := by
  go_enter Try.func9, Try.ntmps9
  go_wp2_with fail
  refine (new_s _).mono ?_
  rintro e w1 ⟨rfl, hb1⟩
  go_wp2_with fail
  have B1 := BkAt.new w1 3 2 10 20 0
  refine (take_s _).mono ?_
  rintro e w2 ⟨rfl, hb2⟩
  replace B1 := (B1.keep hb2).alloc (.cells #[.int .i64 3, .int .i64 2, .int .i64 10, .int .i64 0, .int .i64 0] 28)
  go_wp2_with fail
  have B2 := BkAt.new w2 3 2 10 0 0
  refine (adv_s1 _).mono ?_
  rintro e w3 ⟨rfl, hb3⟩
  replace B1 := (B1.keep hb3).alloc (.cells #[.int .i64 3, .int .i64 2, .int .i64 10, .int .i64 3, .int .i64 1] 28)
  replace B2 := (B2.keep hb3)
  obtain ⟨c0, c1, c2, c3, c4, _, cs⟩ := B2.cells
  go_wp2_with fail
  clear c0 c1 c2 c3 c4 cs
  replace B2 := B2.alloc (.cells #[.int .i64 3, .int .i64 2, .int .i64 10, .int .i64 3, .int .i64 1] 28)
  have B3 := BkAt.new w3 3 2 10 3 1
  refine (adv_s2 _).mono ?_
  rintro e w4 ⟨rfl, hb4⟩
  replace B1 := (B1.keep hb4).alloc (.cells #[.int .i64 3, .int .i64 2, .int .i64 10, .int .i64 6, .int .i64 2] 28)
  replace B2 := (B2.keep hb4)
  replace B3 := (B3.keep hb4).alloc (.cells #[.int .i64 3, .int .i64 2, .int .i64 10, .int .i64 6, .int .i64 2] 28)
  obtain ⟨c0, c1, c2, c3, c4, _, cs⟩ := B2.cells
  go_wp2_with fail
  clear c0 c1 c2 c3 c4 cs
  replace B2 := B2.alloc (.cells #[.int .i64 3, .int .i64 2, .int .i64 10, .int .i64 6, .int .i64 2] 28)
  have B4 := BkAt.new w4 3 2 10 6 2
  refine (adv_s3 _).mono ?_
  rintro e w5 ⟨rfl, hb5⟩
  replace B1 := (B1.keep hb5).alloc (.cells #[.int .i64 3, .int .i64 2, .int .i64 10, .int .i64 9, .int .i64 3] 28)
  replace B2 := (B2.keep hb5)
  replace B3 := (B3.keep hb5).alloc (.cells #[.int .i64 3, .int .i64 2, .int .i64 10, .int .i64 9, .int .i64 3] 28)
  replace B4 := (B4.keep hb5).alloc (.cells #[.int .i64 3, .int .i64 2, .int .i64 10, .int .i64 9, .int .i64 3] 28)
  obtain ⟨c0, c1, c2, c3, c4, _, cs⟩ := B2.cells
  go_wp2_with fail
  clear c0 c1 c2 c3 c4 cs
  replace B2 := B2.alloc (.cells #[.int .i64 3, .int .i64 2, .int .i64 10, .int .i64 9, .int .i64 3] 28)
  have B5 := BkAt.new w5 3 2 10 9 3
  refine (when_s1 _).mono ?_
  rintro e w6 ⟨rfl, hb6⟩
  replace B1 := B1.keep hb6
  replace B2 := B2.keep hb6
  replace B3 := B3.keep hb6
  replace B4 := B4.keep hb6
  replace B5 := B5.keep hb6
  obtain ⟨c0, c1, c2, c3, c4, _, cs⟩ := B2.cells
  go_wp2_with fail
  clear c0 c1 c2 c3 c4 cs
  refine (when_s2 _).mono ?_
  rintro e w7 ⟨rfl, hb7⟩
  replace B1 := B1.keep hb7
  replace B3 := B3.keep hb7
  replace B4 := B4.keep hb7
  replace B5 := B5.keep hb7
  obtain ⟨c0, c1, c2, c3, c4, _, cs⟩ := B1.cells
  go_wp2_with fail
  clear c0 c1 c2 c3 c4 cs
  refine (tok_s1 _).mono ?_
  rintro e w8 ⟨rfl, hb8⟩
  replace B3 := B3.keep hb8
  replace B4 := B4.keep hb8
  replace B5 := B5.keep hb8
  obtain ⟨c0, c1, c2, c3, c4, _, cs⟩ := B3.cells
  go_wp2_with fail
  clear c0 c1 c2 c3 c4 cs
  refine (tok_s2 _).mono ?_
  rintro e w9 ⟨rfl, hb9⟩
  replace B4 := B4.keep hb9
  replace B5 := B5.keep hb9
  obtain ⟨c0, c1, c2, c3, c4, _, cs⟩ := B4.cells
  go_wp2_with fail
  clear c0 c1 c2 c3 c4 cs
  refine (tok_s3 _).mono ?_
  rintro e wa ⟨rfl, hba⟩
  replace B5 := B5.keep hba
  obtain ⟨c0, c1, c2, c3, c4, _, cs⟩ := B5.cells
  go_wp2_with fail
  clear c0 c1 c2 c3 c4 cs
  refine (tok_s4 _).mono ?_
  rintro e wb ⟨rfl, hbb⟩
  go_wp2_with fail
  have z1 := hb1.size
  have z2 := hb2.size
  have z3 := hb3.size
  have z4 := hb4.size
  have z5 := hb5.size
  have z6 := hb6.size
  have z7 := hb7.size
  have z8 := hb8.size
  have z9 := hb9.size
  have za := hba.size
  simp only [World.size_alloc] at z1 z2 z3 z4 z5 z6 z7 z8 z9 za
  go_ret
  refine ⟨rfl, ?_⟩
  (repeat (first | with_reducible exact Below.refl _ _ | with_reducible exact Nat.le_refl _ | with_reducible refine Below.setCell ?_ ?_ _ | with_reducible refine Below.alloc ?_ ?_ _ | with_reducible refine Below.drew ?_ | with_reducible refine belN ?_ _ | with_reducible refine Below.trans ?_ (Below.mono (by with_reducible assumption) ?_) | omega | focus (simp; done) | focus (simp; omega)))
end Go.Proofs.Ytdajfecndfkecaa
