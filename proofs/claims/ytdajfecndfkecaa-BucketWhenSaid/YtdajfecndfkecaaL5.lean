/-
  Lemmas and contracts on the way to the laws of this seat; each theorem states its own conditions, and there are no others.
-/
import Derived.Test.YtdajfecndfkecaaV
import Derived.Test.YtdajfecndfkecaaS
import Derived.Test.YtdajfecndfkecaaH
import Derived.Test.YtdajfecndfkecaaM
namespace Go.Proofs.Ytdajfecndfkecaa
open Go.RowKit

set_option maxHeartbeats 1600000 in
theorem when_walk (a0 : Option Addr) (len0 cap0 : Nat) (z0 : List Int) (a1 : Int) (w : World) (w0 : IsRow .i64 w a0 len0 cap0 z0) :
    Calls Try.prog 5 #[.slice a0 len0 cap0, .int .i64 a1] w fun e w' => e = .returned (.bool true) ∧ Below w.heap.size w w' := by
  by_cases hl : len0 ≤ 600
  · have hD := dice_of_row w0
    have hlm := w0.len
    have hdec : decide (len0 ≤ 600) = true := by simpa using hl
    clear w0
    go_enter Try.func5, Try.ntmps5
    go_wp2_with fail
    refine (light_any _ _ _ _ hlm).mono ?_
    rintro e w' ⟨rfl, rfl⟩
    go_wp2_with fail
    refine (roll_any _ _ _ _).mono ?_
    rintro e w' ⟨rfl, rfl⟩
    go_wp2_with fail
    refine (dbucket_any _ _ hD).mono ?_
    rintro e w1 ⟨a, b, c, d, f, hv, rfl, hD1, hb1⟩
    have z1 := hb1.size
    have y1 : Below w.heap.size w w1 := Below.trans (by (repeat (first | with_reducible exact Below.refl _ _ | with_reducible exact Nat.le_refl _ | with_reducible refine Below.setCell ?_ ?_ _ | with_reducible refine Below.alloc ?_ ?_ _ | with_reducible refine Below.drew ?_ | with_reducible refine belN ?_ _ | with_reducible refine Below.trans ?_ (Below.mono (by with_reducible assumption) ?_) | omega | focus (simp; done) | focus (simp; omega)))) (hb1.below (Nat.le_refl _) (by simp))
    have hv1 : valid ⟨a, b, c, d, f⟩ = true := hv.1
    have hv2 : f ≤ 28 := hv.2
    have B1 := BkAt.new w1 a b c d f
    clear hv hb1 hD
    go_wp2_with fail
    refine (roll_any _ _ _ _).mono ?_
    rintro e w' ⟨rfl, rfl⟩
    go_wp2_with fail
    refine (next_one _ _ _ _ _ (by simp) (by simp) (by decide) (by decide)).mono ?_
    rintro e w2 ⟨n, rfl, hn0, hn1, hb2⟩
    have z2 := hb2.size
    simp only [World.size_alloc] at z1 z2
    replace B1 := B1.keep hb2
    obtain ⟨c0, c1, c2, c3, c4, _, cs⟩ := B1.cells
    go_wp2_with fail
    clear c0 c1 c2 c3 c4 cs
    have law := Lib.hid (when_law hv1 hv2 hn0 (by omega : n ≤ 1000))
    refine (when_any _ _ _ _ _ _ _).mono ?_
    rintro e w3 ⟨t, r, hw, rfl, hb3⟩
    have z3 := hb3.size
    replace B1 := B1.keep hb3
    obtain ⟨c0, c1, c2, c3, c4, _, cs⟩ := B1.cells
    rcases law.out with ⟨x, e1, e2⟩ | ⟨t', x, e1, t1, t2, e2, e3⟩
    · rw [e1] at hw
      cases hw
      clear e1 law
      go_wp2_with fail
      clear c0 c1 c2 c3 c4 cs
      refine (take_any _ _ _ _ _ _ _ _).mono ?_
      rintro e w4 ⟨y1, y2, y3, y4, y5, y6, hy, rfl, hb4⟩
      rw [e2] at hy
      cases hy
      have z4 := hb4.size
      clear e2
      go_wp2_with fail
      refine (sane_any _).mono ?_
      rintro e w5 ⟨rfl, hb5⟩
      go_wp2_with fail
      go_ret
      refine ⟨rfl, ?_⟩
      simp only [World.size_alloc] at *
      (repeat (first | with_reducible exact Below.refl _ _ | with_reducible exact Nat.le_refl _ | with_reducible refine Below.setCell ?_ ?_ _ | with_reducible refine Below.alloc ?_ ?_ _ | with_reducible refine Below.drew ?_ | with_reducible refine belN ?_ _ | with_reducible refine Below.trans ?_ (Below.mono (by with_reducible assumption) ?_) | omega | focus (simp; done) | focus (simp; omega)))
    · rw [e1] at hw
      cases hw
      have hf0 : 0 ≤ f := (vbd hv1).2.2.1
      clear e1 law
      go_wp2_with fail
      clear c0 c1 c2 c3 c4 cs
      refine (take_any _ _ _ _ _ _ _ _).mono ?_
      rintro e w4 ⟨y1, y2, y3, y4, y5, y6, hy, rfl, hb4⟩
      rw [e2] at hy
      cases hy
      have z4 := hb4.size
      replace B1 := (B1.keep hb4).alloc (.cells #[.int .i64 y1, .int .i64 y2, .int .i64 y3, .int .i64 y4, .int .i64 y5] 28)
      obtain ⟨c0, c1, c2, c3, c4, _, cs⟩ := B1.cells
      have E3 := Lib.hid e3
      clear e2 e3
      by_cases ht : f < t
      · go_wp2_with fail
        clear c0 c1 c2 c3 c4 cs
        obtain ⟨y, e4⟩ := E3.out ht
        refine (take_any _ _ _ _ _ _ _ _).mono ?_
        rintro e w5 ⟨u1, u2, u3, u4, u5, u6, hu, rfl, hb5⟩
        rw [e4] at hu
        cases hu
        clear e4
        have z5 := hb5.size
        go_wp2_with fail
        refine (sane_any _).mono ?_
        rintro e w6 ⟨rfl, hb6⟩
        go_wp2_with fail
        go_ret
        refine ⟨rfl, ?_⟩
        simp only [World.size_alloc] at *
        (repeat (first | with_reducible exact Below.refl _ _ | with_reducible exact Nat.le_refl _ | with_reducible refine Below.setCell ?_ ?_ _ | with_reducible refine Below.alloc ?_ ?_ _ | with_reducible refine Below.drew ?_ | with_reducible refine belN ?_ _ | with_reducible refine Below.trans ?_ (Below.mono (by with_reducible assumption) ?_) | omega | focus (simp; done) | focus (simp; omega)))
      · go_wp2_with fail
        refine (sane_any _).mono ?_
        rintro e w6 ⟨rfl, hb6⟩
        go_wp2_with fail
        go_ret
        refine ⟨rfl, ?_⟩
        simp only [World.size_alloc] at *
        (repeat (first | with_reducible exact Below.refl _ _ | with_reducible exact Nat.le_refl _ | with_reducible refine Below.setCell ?_ ?_ _ | with_reducible refine Below.alloc ?_ ?_ _ | with_reducible refine Below.drew ?_ | with_reducible refine belN ?_ _ | with_reducible refine Below.trans ?_ (Below.mono (by with_reducible assumption) ?_) | omega | focus (simp; done) | focus (simp; omega)))
  · have hdec : decide (len0 ≤ 600) = false := by simpa using hl
    have hlm := w0.len
    clear w0
    go_enter Try.func5, Try.ntmps5
    go_wp2_with fail
    refine (light_any _ _ _ _ hlm).mono ?_
    rintro e w' ⟨rfl, rfl⟩
    go_wp2_with fail
    refine (sane_any _).mono ?_
    rintro e w1 ⟨rfl, hb1⟩
    go_wp2_with fail
    go_ret
    exact ⟨rfl, hb1⟩
end Go.Proofs.Ytdajfecndfkecaa
