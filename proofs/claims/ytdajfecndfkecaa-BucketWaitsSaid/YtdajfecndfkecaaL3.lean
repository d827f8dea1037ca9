/-
  Lemmas and contracts on the way to the laws of this seat; each theorem states its own conditions, and there are no others.
-/
import Derived.Test.YtdajfecndfkecaaV
import Derived.Test.YtdajfecndfkecaaS
import Derived.Test.YtdajfecndfkecaaH
import Derived.Test.YtdajfecndfkecaaM4
namespace Go.Proofs.Ytdajfecndfkecaa
open Go.RowKit

set_option maxHeartbeats 3200000 in
theorem waits_walk (a0 : Option Addr) (len0 cap0 : Nat) (z0 : List Int) (a1 a2 : Int) (w : World) (w0 : IsRow .i64 w a0 len0 cap0 z0) :
    Calls Try.prog 3 #[.slice a0 len0 cap0, .int .i64 a1, .int .i64 a2] w fun e w' => e = .returned (.bool true) ∧ Below w.heap.size w w' := by
  by_cases hl : len0 ≤ 600
  · have hD := dice_of_row w0
    have hlm := w0.len
    have hdec : decide (len0 ≤ 600) = true := by simpa using hl
    clear w0
    go_enter Try.func3, Try.ntmps3
    go_wp2_with fail
    refine (light_any _ _ _ _ hlm).mono ?_
    rintro e w' ⟨rfl, rfl⟩
    go_wp2_with fail
    refine (roll_any _ _ _ _).mono ?_
    rintro e w' ⟨rfl, rfl⟩
    go_wp2_with fail
    refine (dbucket_any _ _ hD).mono ?_
    rintro e w1 ⟨a, b, c, d, f, hv, rfl, hD1, hb1⟩
    have z1 := hb1.size
    have y1 : Below w.heap.size w w1 := Below.trans (by (repeat (first | with_reducible exact Below.refl _ _ | with_reducible exact Nat.le_refl _ | with_reducible refine Below.setCell ?_ ?_ _ | with_reducible refine Below.alloc ?_ ?_ _ | with_reducible refine Below.drew ?_ | with_reducible refine belN ?_ _ | with_reducible refine Below.trans ?_ (Below.mono (by with_reducible assumption) ?_) | omega | focus (simp; done) | focus (simp; omega)))) (hb1.below (Nat.le_refl _) (by simp))
    have hv1 : valid ⟨a, b, c, d, f⟩ = true := hv.1
    have hv2 : f ≤ 28 := hv.2
    have B1 := BkAt.new w1 a b c d f
    simp only [World.size_alloc] at z1
    clear hv hb1 hD hdec
    go_wp2_with fail
    refine (roll_any _ _ _ _).mono ?_
    rintro e w' ⟨rfl, rfl⟩
    go_wp2_with fail
    refine (next_one _ _ _ _ _ (by simp) (by simp) (by decide) (by decide)).mono ?_
    rintro e w2 ⟨n, rfl, hn0, hn1, hb2⟩
    have z2 := hb2.size
    simp only [World.size_alloc] at z2
    replace B1 := B1.keep hb2
    go_wp2_with fail
    refine (roll_any _ _ _ _).mono ?_
    rintro e w' ⟨rfl, rfl⟩
    go_wp2_with fail
    refine (next_one _ _ _ _ _ (by simp) (by simp) (by decide) (by decide)).mono ?_
    rintro e w3 ⟨m, rfl, hm0, hm1, hb3⟩
    have z3 := hb3.size
    replace B1 := B1.keep hb3
    obtain ⟨c0, c1, c2, c3, c4, cf, cs⟩ := BkAt.cells B1
    go_wp2_with fail
    clear c0 c1 c2 c3 c4 cf cs
    refine (when_any _ _ _ _ _ _ _).mono ?_
    rintro e w4 ⟨s, ee, hs, rfl, hb4⟩
    have HS := Lib.hid hs
    clear hs
    have z4 := hb4.size
    replace B1 := B1.keep hb4
    obtain ⟨c0, c1, c2, c3, c4, cf, cs⟩ := BkAt.cells B1
    go_wp2_with fail
    clear c0 c1 c2 c3 c4 cf cs
    refine (when_any _ _ _ _ _ _ _).mono ?_
    rintro e w5 ⟨t, g, ht, rfl, hb5⟩
    have z5 := hb5.size
    replace B1 := B1.keep hb5
    obtain ⟨c0, c1, c2, c3, c4, cf, cs⟩ := BkAt.cells B1
    have law := waits_law hv1 hv2 hn0 hn1 hm0 hm1 HS.out ht
    clear ht
    have cases3 : (g = 0 ∧ ee = 0 ∧ s ≤ t) ∨ (¬ g = 0 ∧ ee = 0) ∨ (¬ g = 0 ∧ ¬ ee = 0) := by
      by_cases hg : g = 0
      · exact .inl ⟨hg, (law hg).1, (law hg).2⟩
      · by_cases he : ee = 0
        · exact .inr (.inl ⟨hg, he⟩)
        · exact .inr (.inr ⟨hg, he⟩)
    clear law
    rcases cases3 with ⟨rfl, rfl, hst⟩ | ⟨hg, rfl⟩ | ⟨hg, he⟩
    · by_cases ha : (a == 4611686018427387904) = true
      · go_wp2_with fail
        refine (sane_any _).mono ?_
        rintro e wk ⟨rfl, hbk⟩
        go_wp2_with fail
        go_ret
        refine ⟨rfl, ?_⟩
        simp only [World.size_alloc] at *
        (repeat (first | with_reducible assumption | with_reducible exact Below.refl _ _ | with_reducible refine Below.alloc ?_ ?_ _ | with_reducible refine Below.drew ?_ | with_reducible refine belN ?_ _ | with_reducible refine Below.trans ?_ (Below.mono (by with_reducible assumption) ?_) | with_reducible refine Below.trans ?_ (BB.below (by with_reducible assumption) ?_ ?_) | omega | focus (simp; done) | focus (simp; omega)))
      · have ha' : (a == 4611686018427387904) = false := by simpa using ha
        have ha2 : ¬ a = 4611686018427387904 := by simpa using ha
        have hab : 0 ≤ a ∧ a ≤ 1073741824 := by
          have := (valid_cases hv1).2.2.2.2
          omega
        have hab0 : 0 ≤ a := hab.1
        have hab1 : a ≤ 1073741824 := hab.2
        clear hab
        by_cases hr : a + m ≤ 1073741824
        · go_wp2_with fail
          clear c0 c1 c2 c3 c4 cf cs
          refine (when_any _ _ _ _ _ _ _).mono ?_
          rintro e wf ⟨u, k, hu, rfl, hbf⟩
          have zf := hbf.size
          simp only [World.size_setCell] at zf
          obtain ⟨rfl, hus⟩ := faster_law hv1 hv2 hn0 hn1 hm0 ha2 hr HS.out hu rfl
          clear hu
          go_wp2_with fail
          refine (sane_any _).mono ?_
          rintro e wk ⟨rfl, hbk⟩
          go_wp2_with fail
          go_ret
          refine ⟨rfl, ?_⟩
          simp only [World.size_alloc] at *
          (repeat (first | with_reducible assumption | with_reducible exact Below.refl _ _ | with_reducible refine Below.setCell ?_ ?_ _ | with_reducible refine Below.alloc ?_ ?_ _ | with_reducible refine Below.drew ?_ | with_reducible refine belN ?_ _ | with_reducible refine Below.trans ?_ (Below.mono (by with_reducible assumption) ?_) | with_reducible refine Below.trans ?_ (BB.below (by with_reducible assumption) ?_ ?_) | omega | focus (simp; done) | focus (simp; omega)))
        · go_wp2_with fail
          refine (sane_any _).mono ?_
          rintro e wk ⟨rfl, hbk⟩
          go_wp2_with fail
          go_ret
          refine ⟨rfl, ?_⟩
          simp only [World.size_alloc] at *
          (repeat (first | with_reducible assumption | with_reducible exact Below.refl _ _ | with_reducible refine Below.alloc ?_ ?_ _ | with_reducible refine Below.drew ?_ | with_reducible refine belN ?_ _ | with_reducible refine Below.trans ?_ (Below.mono (by with_reducible assumption) ?_) | with_reducible refine Below.trans ?_ (BB.below (by with_reducible assumption) ?_ ?_) | omega | focus (simp; done) | focus (simp; omega)))
    · by_cases ha : (a == 4611686018427387904) = true
      · go_wp2_with fail
        refine (sane_any _).mono ?_
        rintro e wk ⟨rfl, hbk⟩
        go_wp2_with fail
        go_ret
        refine ⟨rfl, ?_⟩
        simp only [World.size_alloc] at *
        (repeat (first | with_reducible assumption | with_reducible exact Below.refl _ _ | with_reducible refine Below.alloc ?_ ?_ _ | with_reducible refine Below.drew ?_ | with_reducible refine belN ?_ _ | with_reducible refine Below.trans ?_ (Below.mono (by with_reducible assumption) ?_) | with_reducible refine Below.trans ?_ (BB.below (by with_reducible assumption) ?_ ?_) | omega | focus (simp; done) | focus (simp; omega)))
      · have ha' : (a == 4611686018427387904) = false := by simpa using ha
        have ha2 : ¬ a = 4611686018427387904 := by simpa using ha
        have hab : 0 ≤ a ∧ a ≤ 1073741824 := by
          have := (valid_cases hv1).2.2.2.2
          omega
        have hab0 : 0 ≤ a := hab.1
        have hab1 : a ≤ 1073741824 := hab.2
        clear hab
        by_cases hr : a + m ≤ 1073741824
        · go_wp2_with fail
          clear c0 c1 c2 c3 c4 cf cs
          refine (when_any _ _ _ _ _ _ _).mono ?_
          rintro e wf ⟨u, k, hu, rfl, hbf⟩
          have zf := hbf.size
          simp only [World.size_setCell] at zf
          obtain ⟨rfl, hus⟩ := faster_law hv1 hv2 hn0 hn1 hm0 ha2 hr HS.out hu rfl
          clear hu
          go_wp2_with fail
          refine (sane_any _).mono ?_
          rintro e wk ⟨rfl, hbk⟩
          go_wp2_with fail
          go_ret
          refine ⟨rfl, ?_⟩
          simp only [World.size_alloc] at *
          (repeat (first | with_reducible assumption | with_reducible exact Below.refl _ _ | with_reducible refine Below.setCell ?_ ?_ _ | with_reducible refine Below.alloc ?_ ?_ _ | with_reducible refine Below.drew ?_ | with_reducible refine belN ?_ _ | with_reducible refine Below.trans ?_ (Below.mono (by with_reducible assumption) ?_) | with_reducible refine Below.trans ?_ (BB.below (by with_reducible assumption) ?_ ?_) | omega | focus (simp; done) | focus (simp; omega)))
        · go_wp2_with fail
          refine (sane_any _).mono ?_
          rintro e wk ⟨rfl, hbk⟩
          go_wp2_with fail
          go_ret
          refine ⟨rfl, ?_⟩
          simp only [World.size_alloc] at *
          (repeat (first | with_reducible assumption | with_reducible exact Below.refl _ _ | with_reducible refine Below.alloc ?_ ?_ _ | with_reducible refine Below.drew ?_ | with_reducible refine belN ?_ _ | with_reducible refine Below.trans ?_ (Below.mono (by with_reducible assumption) ?_) | with_reducible refine Below.trans ?_ (BB.below (by with_reducible assumption) ?_ ?_) | omega | focus (simp; done) | focus (simp; omega)))
    · by_cases ha : (a == 4611686018427387904) = true
      · go_wp2_with fail
        refine (sane_any _).mono ?_
        rintro e wk ⟨rfl, hbk⟩
        go_wp2_with fail
        go_ret
        refine ⟨rfl, ?_⟩
        simp only [World.size_alloc] at *
        (repeat (first | with_reducible assumption | with_reducible exact Below.refl _ _ | with_reducible refine Below.alloc ?_ ?_ _ | with_reducible refine Below.drew ?_ | with_reducible refine belN ?_ _ | with_reducible refine Below.trans ?_ (Below.mono (by with_reducible assumption) ?_) | with_reducible refine Below.trans ?_ (BB.below (by with_reducible assumption) ?_ ?_) | omega | focus (simp; done) | focus (simp; omega)))
      · have ha' : (a == 4611686018427387904) = false := by simpa using ha
        have ha2 : ¬ a = 4611686018427387904 := by simpa using ha
        have hab : 0 ≤ a ∧ a ≤ 1073741824 := by
          have := (valid_cases hv1).2.2.2.2
          omega
        have hab0 : 0 ≤ a := hab.1
        have hab1 : a ≤ 1073741824 := hab.2
        clear hab
        by_cases hr : a + m ≤ 1073741824
        · go_wp2_with fail
          clear c0 c1 c2 c3 c4 cf cs
          refine (when_any _ _ _ _ _ _ _).mono ?_
          rintro e wf ⟨u, k, hu, rfl, hbf⟩
          have zf := hbf.size
          simp only [World.size_setCell] at zf
          clear hu
          go_wp2_with fail
          refine (sane_any _).mono ?_
          rintro e wk ⟨rfl, hbk⟩
          go_wp2_with fail
          go_ret
          refine ⟨rfl, ?_⟩
          simp only [World.size_alloc] at *
          (repeat (first | with_reducible assumption | with_reducible exact Below.refl _ _ | with_reducible refine Below.setCell ?_ ?_ _ | with_reducible refine Below.alloc ?_ ?_ _ | with_reducible refine Below.drew ?_ | with_reducible refine belN ?_ _ | with_reducible refine Below.trans ?_ (Below.mono (by with_reducible assumption) ?_) | with_reducible refine Below.trans ?_ (BB.below (by with_reducible assumption) ?_ ?_) | omega | focus (simp; done) | focus (simp; omega)))
        · go_wp2_with fail
          refine (sane_any _).mono ?_
          rintro e wk ⟨rfl, hbk⟩
          go_wp2_with fail
          go_ret
          refine ⟨rfl, ?_⟩
          simp only [World.size_alloc] at *
          (repeat (first | with_reducible assumption | with_reducible exact Below.refl _ _ | with_reducible refine Below.alloc ?_ ?_ _ | with_reducible refine Below.drew ?_ | with_reducible refine belN ?_ _ | with_reducible refine Below.trans ?_ (Below.mono (by with_reducible assumption) ?_) | with_reducible refine Below.trans ?_ (BB.below (by with_reducible assumption) ?_ ?_) | omega | focus (simp; done) | focus (simp; omega)))
  · have hdec : decide (len0 ≤ 600) = false := by simpa using hl
    have hlm := w0.len
    clear w0
    go_enter Try.func3, Try.ntmps3
    go_wp2_with fail
    refine (light_any _ _ _ _ hlm).mono ?_
    rintro e w' ⟨rfl, rfl⟩
    go_wp2_with fail
    refine (sane_any _).mono ?_
    rintro e w1 ⟨rfl, hb1⟩
    go_wp2_with fail
    go_ret
    exact ⟨rfl, hb1⟩
end Go.Proofs.Ytdajfecndfkecaa
