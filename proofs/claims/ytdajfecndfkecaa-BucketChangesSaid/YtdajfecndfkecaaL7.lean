/-
  Lemmas and contracts on the way to the laws of this seat; each theorem states its own conditions, and there are no others.
-/
import Derived.Test.YtdajfecndfkecaaV
import Derived.Test.YtdajfecndfkecaaS
import Derived.Test.YtdajfecndfkecaaH
import Derived.Test.YtdajfecndfkecaaM2
namespace Go.Proofs.Ytdajfecndfkecaa
open Go.RowKit

set_option maxHeartbeats 1600000 in
theorem changes_walk (a0 : Option Addr) (len0 cap0 : Nat) (z0 : List Int) (w : World) (w0 : IsRow .i64 w a0 len0 cap0 z0) :
    Calls Try.prog 7 #[.slice a0 len0 cap0] w fun e w' => e = .returned (.bool true) ∧ Below w.heap.size w w' := by
  by_cases hl : len0 ≤ 600
  · have hD := dice_of_row w0
    have hlm := w0.len
    have hdec : decide (len0 ≤ 600) = true := by simpa using hl
    clear w0
    go_enter Try.func7, Try.ntmps7
    go_wp2_with fail
    refine (light_any _ _ _ _ hlm).mono ?_
    rintro e w' ⟨rfl, rfl⟩
    go_wp2_with fail
    refine (roll_any _ _ _ _).mono ?_
    rintro e w' ⟨rfl, rfl⟩
    go_wp2_with fail
    refine (dbucket_any _ _ hD).mono ?_
    rintro e w1 ⟨a, b, c, d, f, hv, rfl, hD1, hb1⟩
    have z1 := hb1.size
    have y1 : Below w.heap.size w w1 := Below.trans (by (repeat (first | with_reducible exact Below.refl _ _ | with_reducible exact Nat.le_refl _ | with_reducible refine Below.setCell ?_ ?_ _ | with_reducible refine Below.alloc ?_ ?_ _ | with_reducible refine Below.drew ?_ | with_reducible refine belN ?_ _ | with_reducible refine Below.trans ?_ (Below.mono (by with_reducible assumption) ?_) | omega | focus (simp; done) | focus (simp; omega)))) (hb1.below (Nat.le_refl _) (by simp))
    have hv1 : valid ⟨a, b, c, d, f⟩ = true := hv.1
    have hv2 : f ≤ 28 := hv.2
    have B1 := BkAt.new w1 a b c d f
    simp only [World.size_alloc] at z1
    clear hv hb1 hD hdec
    go_wp2_with fail
    refine (pick_new w.heap.size [0, 1, 50, 4611686018427387904] _ _ _ _ _ (by simp) rfl rfl (hD1.alloc _) (by decide) (by decide)).mono ?_
    rintro e w2 ⟨rate, rfl, hr, hD2, hb2⟩
    have hrate : rate = 4611686018427387904 ∨ (0 ≤ rate ∧ rate ≤ 1073741824) := by
      simp only [List.mem_cons, List.not_mem_nil, or_false] at hr; omega
    have Hr := Lib.hid hrate
    replace B1 := B1.keepBB hb2 (by omega)
    have z2 := hb2.size
    have y2 : Below w.heap.size w w2 := Below.trans (y1.trans (by (repeat (first | with_reducible exact Below.refl _ _ | with_reducible exact Nat.le_refl _ | with_reducible refine Below.setCell ?_ ?_ _ | with_reducible refine Below.alloc ?_ ?_ _ | with_reducible refine Below.drew ?_ | with_reducible refine belN ?_ _ | with_reducible refine Below.trans ?_ (Below.mono (by with_reducible assumption) ?_) | omega | focus (simp; done) | focus (simp; omega))))) (hb2.below (Nat.le_refl _) (by simp; omega))
    clear hr hb2 hrate
    go_wp2_with fail
    refine (next_any _ 20 _ hD2 (by decide)).mono ?_
    rintro e w3 ⟨r3, rfl, hr3, hD3, hb3⟩
    have hr30 : 0 ≤ r3 := hr3.1
    have hr31 : r3 < 20 := hr3.2.1 (by decide)
    replace B1 := B1.keepBB hb3 (by omega)
    have z3 := hb3.size
    have y3 : Below w.heap.size w w3 := Below.trans y2 (hb3.below (Nat.le_refl _) (by simp only [World.size_alloc] at *; omega))
    clear hr3 hb3
    go_wp2_with fail
    refine (next_any _ 60 _ hD3 (by decide)).mono ?_
    rintro e w4 ⟨r4, rfl, hr4, hD4, hb4⟩
    have hr40 : 0 ≤ r4 := hr4.1
    have hr41 : r4 < 60 := hr4.2.1 (by decide)
    replace B1 := B1.keepBB hb4 (by omega)
    have z4 := hb4.size
    have y4 : Below w.heap.size w w4 := Below.trans y3 (hb4.below (Nat.le_refl _) (by simp only [World.size_alloc] at *; omega))
    clear hr4 hb4
    obtain ⟨c0, c1, c2, c3, c4, cf, cs⟩ := BkAt.cells B1
    go_wp2_with fail
    clear c0 c1 c2 c3 c4 cf cs
    refine (change_any _ _ _ _ _ _ _ _ _ _).mono ?_
    rintro e w5 ⟨p1, p2, p3, p4, p5, p6, hp, rfl, hb5⟩
    obtain ⟨c', d', k1, k2, k3⟩ := change_law hv1 hv2 Hr.out (by omega : 1 ≤ 1 + r3) (by omega) hr40 (by omega)
    rw [k1] at hp
    cases hp
    clear k1
    have z5 := hb5.size
    replace B1 := (B1.keep hb5).alloc (.cells #[.int .i64 rate, .int .i64 (1 + r3), .int .i64 p3, .int .i64 p4, .int .i64 f] 28)
    have B2 := BkAt.new w5 rate (1 + r3) p3 p4 f
    have K2 := Lib.hid k2
    have K3 := Lib.hid k3
    clear k2 k3
    obtain ⟨c0, c1, c2, c3, c4, cf, cs⟩ := BkAt.cells B1
    obtain ⟨g0, g1, g2, g3, g4, gf, gs⟩ := B2.cells
    by_cases hrm : (rate == 4611686018427387904) = true
    · go_wp2_with fail
      clear c0 c1 c2 c3 c4 cf cs g0 g1 g2 g3 g4 gf gs
      refine (tokens_any _ _ _ _ _ _).mono ?_
      rintro e w6 ⟨rfl, hb6⟩
      have z6 := hb6.size
      rw [K2.out (by simpa using hrm)]
      go_wp2_with fail
      refine (sane_any _).mono ?_
      rintro e w7 ⟨rfl, hbw7⟩
      go_wp2_with fail
      go_ret
      refine ⟨rfl, ?_⟩
      simp only [World.size_alloc] at *
      (repeat (first | with_reducible exact Below.refl _ _ | with_reducible exact Nat.le_refl _ | with_reducible refine Below.setCell ?_ ?_ _ | with_reducible refine Below.alloc ?_ ?_ _ | with_reducible refine Below.drew ?_ | with_reducible refine belN ?_ _ | with_reducible refine Below.trans ?_ (Below.mono (by with_reducible assumption) ?_) | omega | focus (simp; done) | focus (simp; omega)))
    · have hrm' : (rate == 4611686018427387904) = false := by simpa using hrm
      obtain ⟨rfl, k4⟩ := K3.out (by simpa using hrm)
      go_wp2_with fail
      clear c0 c1 c2 c3 c4 cf cs g0 g1 g2 g3 g4 gf gs
      refine (tokens_any _ _ _ _ _ _).mono ?_
      rintro e w6 ⟨rfl, hb6⟩
      have z6 := hb6.size
      replace B1 := B1.keep hb6
      replace B2 := B2.keep hb6
      obtain ⟨c0, c1, c2, c3, c4, cf, cs⟩ := BkAt.cells B1
      obtain ⟨g0, g1, g2, g3, g4, gf, gs⟩ := B2.cells
      have K4 := Lib.hid k4
      clear k4
      by_cases ha : (a == 4611686018427387904) = true
      · go_wp2_with fail
        all_goals
          clear c0 c1 c2 c3 c4 cf cs g0 g1 g2 g3 g4 gf gs
          refine (tokens_any _ _ _ _ _ _).mono ?_
          rintro e w7 ⟨rfl, hb7⟩
          have z7 := hb7.size
          replace B2 := B2.keep hb7
          obtain ⟨g0, g1, g2, g3, g4, gf, gs⟩ := B2.cells
          rw [K4.out, if_pos (by simpa using ha)]
          go_wp2_with fail
          clear g0 g1 g2 g3 g4 gf gs
          refine (sane_any _).mono ?_
          rintro e w8 ⟨rfl, hb8⟩
          go_wp2_with fail
          go_ret
          refine ⟨rfl, ?_⟩
          simp only [World.size_alloc] at *
          (repeat (first | with_reducible exact Below.refl _ _ | with_reducible exact Nat.le_refl _ | with_reducible refine Below.setCell ?_ ?_ _ | with_reducible refine Below.alloc ?_ ?_ _ | with_reducible refine Below.drew ?_ | with_reducible refine belN ?_ _ | with_reducible refine Below.trans ?_ (Below.mono (by with_reducible assumption) ?_) | omega | focus (simp; done) | focus (simp; omega)))
      · have ha' : (a == 4611686018427387904) = false := by simpa using ha
        go_wp2_with fail
        all_goals
          clear c0 c1 c2 c3 c4 cf cs g0 g1 g2 g3 g4 gf gs
          refine (tokens_any _ _ _ _ _ _).mono ?_
          rintro e w7 ⟨rfl, hb7⟩
          have z7 := hb7.size
          replace B2 := B2.keep hb7
          obtain ⟨g0, g1, g2, g3, g4, gf, gs⟩ := B2.cells
          rw [K4.out, if_neg (by simpa using ha)]
          first | rw [Int.min_eq_left (by omega)] | rw [Int.min_eq_right (by omega)]
          go_wp2_with fail
          clear g0 g1 g2 g3 g4 gf gs
          refine (sane_any _).mono ?_
          rintro e w8 ⟨rfl, hb8⟩
          go_wp2_with fail
          go_ret
          refine ⟨rfl, ?_⟩
          simp only [World.size_alloc] at *
          (repeat (first | with_reducible exact Below.refl _ _ | with_reducible exact Nat.le_refl _ | with_reducible refine Below.setCell ?_ ?_ _ | with_reducible refine Below.alloc ?_ ?_ _ | with_reducible refine Below.drew ?_ | with_reducible refine belN ?_ _ | with_reducible refine Below.trans ?_ (Below.mono (by with_reducible assumption) ?_) | omega | focus (simp; done) | focus (simp; omega)))
  · have hdec : decide (len0 ≤ 600) = false := by simpa using hl
    have hlm := w0.len
    clear w0
    go_enter Try.func7, Try.ntmps7
    go_wp2_with fail
    refine (light_any _ _ _ _ hlm).mono ?_
    rintro e w' ⟨rfl, rfl⟩
    go_wp2_with fail
    refine (sane_any _).mono ?_
    rintro e w1 ⟨rfl, hb1⟩
    go_wp2_with fail
    go_ret
    exact ⟨rfl, hb1⟩
end Go.Proofs.Ytdajfecndfkecaa
