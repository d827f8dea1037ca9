/-
  Lemmas and contracts on the way to the laws of this seat; each theorem states its own conditions, and there are no others.
-/
import Derived.Test.YtdajfecndfkecaaV
import Derived.Test.YtdajfecndfkecaaS
import Derived.Test.YtdajfecndfkecaaH
import Derived.Test.YtdajfecndfkecaaM3
namespace Go.Proofs.Ytdajfecndfkecaa
open Go.RowKit

theorem wr_50 (f r : Int) (h1 : 0 ≤ f) (h2 : f ≤ 28) (h3 : 0 ≤ r) (h4 : r < 50) : IntKind.i64.wrap (f + r) = f + r := IntWalk.i64_in _ (by omega)
set_option maxHeartbeats 3200000 in
theorem steps_walk (a0 : Option Addr) (len0 cap0 : Nat) (z0 : List Int) (a1 a2 : Int) (w : World) (w0 : IsRow .i64 w a0 len0 cap0 z0) :
    Calls Try.prog 6 #[.slice a0 len0 cap0, .int .i64 a1, .int .i64 a2] w fun e w' => e = .returned (.bool true) ∧ Below w.heap.size w w' := by
  by_cases hl : len0 ≤ 600
  · have hD := dice_of_row w0
    have hlm := w0.len
    have hdec : decide (len0 ≤ 600) = true := by simpa using hl
    clear w0
    go_enter Try.func6, Try.ntmps6
    go_wp2_with fail
    refine (light_any _ _ _ _ hlm).mono ?_
    rintro e w' ⟨rfl, rfl⟩
    go_wp2_with fail
    refine (roll_any _ _ _ _).mono ?_
    rintro e w' ⟨rfl, rfl⟩
    go_wp2_with fail
    refine (dbucket_any _ _ hD).mono ?_
    rintro e w1 ⟨a, b, c, d, f, hv, rfl, hD1, hb1⟩
    have z1 := hb1.size
    have y1 : Below w.heap.size w w1 := Below.trans (by (repeat (first | with_reducible exact Below.refl _ _ | with_reducible exact Nat.le_refl _ | with_reducible refine Below.setCell ?_ ?_ _ | with_reducible refine Below.alloc ?_ ?_ _ | with_reducible refine Below.drew ?_ | with_reducible refine belN ?_ _ | with_reducible refine Below.trans ?_ (Below.mono (by with_reducible assumption) ?_) | omega | focus (simp; done) | focus (simp; omega)))) (hb1.below (Nat.le_refl _) (by simp))
    have hv1 : valid ⟨a, b, c, d, f⟩ = true := hv.1
    have hv2 : f ≤ 28 := hv.2
    have B1 := BkAt.new w1 a b c d f
    simp only [World.size_alloc] at z1
    clear hv hb1 hD hdec
    have hf0 : 0 ≤ f := (vbd hv1).2.2.1
    have zz : w.heap.size < w1.heap.size := by omega
    go_wp2_with fail
    have WB : ∀ W : World, Below w1.heap.size w1 W → Below w.heap.size w W := fun W h => y1.trans (h.mono (by omega))
    have WBH := Lib.hid WB
    clear WB
    generalize hw1 : w1.alloc (.cells #[.int .i64 a, .int .i64 b, .int .i64 c, .int .i64 d, .int .i64 f] 28) = W1 at *
    have Y1 : Below w1.heap.size w1 W1 := by rw [← hw1]; (repeat (first | with_reducible exact Below.refl _ _ | with_reducible exact Nat.le_refl _ | with_reducible refine Below.setCell ?_ ?_ _ | with_reducible refine Below.alloc ?_ ?_ _ | with_reducible refine Below.drew ?_ | with_reducible refine belN ?_ _ | with_reducible refine Below.trans ?_ (Below.mono (by with_reducible assumption) ?_) | omega | focus (simp; done) | focus (simp; omega)))
    have S1 : w1.heap.size < W1.heap.size := by rw [← hw1]; simp
    have HW1 := Lib.hid hw1
    clear hw1
    go_region_held3 (fun w' => w'.cell? ⟨w1.heap.size, 4, none⟩ = some (.int .i64 f)) ((refine (BkAt.cells (a := a) (b := b) (c := c) (d := d) ?_).2.2.2.2.1; (repeat (first | with_reducible assumption | with_reducible refine BkAt.alloc ?_ _ | with_reducible refine BkAt.drew ?_ | with_reducible refine BkAt.keep ?_ (by with_reducible assumption) | with_reducible refine BkAt.keepBB ?_ (by with_reducible assumption) ?_ | omega))))
      (first
        | (go_at_call 10; (first | (with_reducible refine (roll_int _ a1 _ ?_).mono ?_; focus ((repeat (first | with_reducible assumption | with_reducible exact IntAt.new _ _ | ((with_reducible refine IntAt.new' _ _ _ ?_); focus (simp; done)) | with_reducible refine IntAt.alloc ?_ _ | with_reducible refine IntAt.drew ?_ | with_reducible refine IntAt.keep ?_ (by with_reducible assumption) | with_reducible refine IntAt.keepBB ?_ (by with_reducible assumption) ?_ | omega)); done)) | (with_reducible refine (roll_int _ a2 _ ?_).mono ?_; focus ((repeat (first | with_reducible assumption | with_reducible exact IntAt.new _ _ | ((with_reducible refine IntAt.new' _ _ _ ?_); focus (simp; done)) | with_reducible refine IntAt.alloc ?_ _ | with_reducible refine IntAt.drew ?_ | with_reducible refine IntAt.keep ?_ (by with_reducible assumption) | with_reducible refine IntAt.keepBB ?_ (by with_reducible assumption) ?_ | omega)); done))); rintro e w' ⟨D', hD', rfl, hd', hb'⟩; have hlD := hd'.lt; have hs' := hb'.size; (try simp only [World.size_alloc, World.size_drew] at hs' hD'))
        | (go_at_call 12; have _t := hr10; (with_reducible refine (next_any _ 50 _ ?_ (by decide)).mono ?_; focus ((repeat (first | with_reducible assumption | with_reducible refine DiceAt.store ?_ ?_ _ | with_reducible refine DiceAt.alloc ?_ _ | with_reducible refine DiceAt.drew ?_ | with_reducible refine DiceAt.keepBB ?_ (by with_reducible assumption) ?_ | with_reducible refine DiceAt.keep ?_ (by with_reducible assumption) | omega | focus (simp; omega))); done)); rintro e wX ⟨r2, rfl, hr2, hd2', hb'⟩; have hs' := hb'.size; (try simp only [World.size_alloc] at hs'); have hr20 : 0 ≤ r2 := hr2.1; have hr21 : r2 < 50 := hr2.2.1 (by decide); clear hr2)
        | (go_at_call 12; (with_reducible refine (next_any _ 50 _ ?_ (by decide)).mono ?_; focus ((repeat (first | with_reducible assumption | with_reducible refine DiceAt.store ?_ ?_ _ | with_reducible refine DiceAt.alloc ?_ _ | with_reducible refine DiceAt.drew ?_ | with_reducible refine DiceAt.keepBB ?_ (by with_reducible assumption) ?_ | with_reducible refine DiceAt.keep ?_ (by with_reducible assumption) | omega | focus (simp; omega))); done)); rintro e w' ⟨r1, rfl, hr1, hd1', hb'⟩; have hs' := hb'.size; (try simp only [World.size_alloc] at hs'); have hr10 : 0 ≤ r1 := hr1.1; have hr11 : r1 < 50 := hr1.2.1 (by decide); have ew : IntKind.i64.wrap (f + r1) = f + r1 := wr_50 f r1 hf0 hv2 hr10 hr11; clear hr1))
    all_goals
      have BE : BkAt wX w1.heap.size a b c d f := by (repeat (first | with_reducible assumption | with_reducible refine BkAt.alloc ?_ _ | with_reducible refine BkAt.drew ?_ | with_reducible refine BkAt.keep ?_ (by with_reducible assumption) | with_reducible refine BkAt.keepBB ?_ (by with_reducible assumption) ?_ | omega))
      have YE : Below w1.heap.size w1 wX := by (repeat (first | with_reducible assumption | with_reducible exact Below.refl _ _ | with_reducible refine Below.alloc ?_ ?_ _ | with_reducible refine Below.drew ?_ | with_reducible refine belN ?_ _ | with_reducible refine Below.trans ?_ (Below.mono (by with_reducible assumption) ?_) | with_reducible refine Below.trans ?_ (BB.below (by with_reducible assumption) ?_ ?_) | omega | focus (simp; done) | focus (simp; omega)))
      have D1 : DiceAt W1 w.heap.size := by rw [← HW1.out]; exact hD1.alloc _
      have DE : DiceAt wX w.heap.size := by (repeat (first | with_reducible assumption | with_reducible refine DiceAt.store ?_ ?_ _ | with_reducible refine DiceAt.alloc ?_ _ | with_reducible refine DiceAt.drew ?_ | with_reducible refine DiceAt.keepBB ?_ (by with_reducible assumption) ?_ | with_reducible refine DiceAt.keep ?_ (by with_reducible assumption) | omega | focus (simp; omega)))
      have WBE := WBH.out wX YE
      have sX : w1.heap.size < wX.heap.size := BE.cells.2.2.2.2.2.2
      have lawA := (steps_law hv1 hv2 hr10 hr11 hr20 hr21 (Int.le_refl 0) (by decide : (0 : Int) < 40) (Int.le_refl 0) (by decide : (0 : Int) < 40)).1
      have lawB := Lib.hid (fun n m n0 n1 m0 m1 => (steps_law (n := n) (m := m) hv1 hv2 hr10 hr11 hr20 hr21 n0 n1 m0 m1).2)
      clear YE D1 hb' hd2' hd' hlD hD' hs' ew
      clear B1 Y1 S1 HW1 WBH hD1
      obtain ⟨⟨x1, x2, x3, x4, x5⟩, ⟨u1, u2, u3, u4, u5⟩, e1, e2, e3⟩ := lawA
      have E1 := Lib.hid e1
      have E2 := Lib.hid e2
      have E3 := Lib.hid e3
      clear e1 e2 e3
      obtain ⟨c0, c1, c2, c3, c4, cf, cs⟩ := BkAt.cells BE
      go_wp2_with fail
      clear c0 c1 c2 c3 c4 cf cs
      refine (advance_any _ _ _ _ _ _ _).mono ?_
      rintro e wa ⟨p1, p2, p3, p4, p5, p6, hp, rfl, hba⟩
      rw [E1.out] at hp
      simp only [Prod.mk.injEq, Bk.mk.injEq] at hp; obtain ⟨⟨rfl, rfl, rfl, rfl, rfl⟩, rfl⟩ := hp
      have za := hba.size
      replace BE := (BE.keep hba).alloc (.cells #[.int .i64 x1, .int .i64 x2, .int .i64 x3, .int .i64 x4, .int .i64 x5] 28)
      replace DE := (DE.keep hba).alloc (.cells #[.int .i64 x1, .int .i64 x2, .int .i64 x3, .int .i64 x4, .int .i64 x5] 28)
      have BX := BkAt.new wa x1 x2 x3 x4 x5
      obtain ⟨c0, c1, c2, c3, c4, cf, cs⟩ := BkAt.cells BX
      go_wp2_with fail
      clear c0 c1 c2 c3 c4 cf cs
      refine (advance_any _ _ _ _ _ _ _).mono ?_
      rintro e wb ⟨p1, p2, p3, p4, p5, p6, hp, rfl, hbb⟩
      rw [E2.out] at hp
      simp only [Prod.mk.injEq, Bk.mk.injEq] at hp; obtain ⟨⟨rfl, rfl, rfl, rfl, rfl⟩, rfl⟩ := hp
      have zb := hbb.size
      replace BE := BE.keep hbb
      obtain ⟨c0, c1, c2, c3, c4, cf, cs⟩ := BkAt.cells BE
      have BU := BkAt.new wb u1 u2 u3 u4 u5
      go_wp2_with fail
      clear c0 c1 c2 c3 c4 cf cs
      replace BE := BE.alloc (.cells #[.int .i64 u1, .int .i64 u2, .int .i64 u3, .int .i64 u4, .int .i64 u5] 28)
      replace DE := (DE.keep hbb).alloc (.cells #[.int .i64 u1, .int .i64 u2, .int .i64 u3, .int .i64 u4, .int .i64 u5] 28)
      refine (advance_any _ _ _ _ _ _ _).mono ?_
      rintro e wc ⟨p1, p2, p3, p4, p5, p6, hp, rfl, hbc⟩
      rw [E3.out] at hp
      simp only [Prod.mk.injEq, Bk.mk.injEq] at hp; obtain ⟨⟨rfl, rfl, rfl, rfl, rfl⟩, rfl⟩ := hp
      have zc := hbc.size
      replace BE := (BE.keep hbc).alloc (.cells #[.int .i64 u1, .int .i64 u2, .int .i64 u3, .int .i64 u4, .int .i64 u5] 28)
      replace DE := (DE.keep hbc).alloc (.cells #[.int .i64 u1, .int .i64 u2, .int .i64 u3, .int .i64 u4, .int .i64 u5] 28)
      replace BU := (BU.keep hbc).alloc (.cells #[.int .i64 u1, .int .i64 u2, .int .i64 u3, .int .i64 u4, .int .i64 u5] 28)
      obtain ⟨c0, c1, c2, c3, c4, cf, cs⟩ := BkAt.cells BU
      go_wp2_with fail
      clear c0 c1 c2 c3 c4 cf cs
      refine (next_any _ 40 _ DE (by decide)).mono ?_
      rintro e wd ⟨n, rfl, hn, hdd, hbd⟩
      have hn0 : 0 ≤ n := hn.1
      have hn1 : n < 40 := hn.2.1 (by decide)
      have zd := hbd.size
      have nE : w1.heap.size ≠ w.heap.size := by omega
      replace BE := BE.keepBB hbd nE
      clear hn DE
      go_wp2_with fail
      refine (next_any _ 40 _ hdd (by decide)).mono ?_
      rintro e we ⟨m, rfl, hm, hde, hbe⟩
      have hm0 : 0 ≤ m := hm.1
      have hm1 : m < 40 := hm.2.1 (by decide)
      have ze := hbe.size
      replace BE := BE.keepBB hbe nE
      have lb := lawB.out n m hn0 hn1 hm0 hm1
      clear hm hdd hde lawB
      obtain ⟨⟨q1, q2, q3, q4, q5⟩, ee, ⟨v1, v2, v3, v4, v5⟩, g, ⟨t1, t2, t3, t4, t5⟩, k, f1, f2, f3, f4, f5⟩ := lb
      have F1 := Lib.hid f1
      have F2 := Lib.hid f2
      have F3 := Lib.hid f3
      have F4 := Lib.hid f4
      have F5 := Lib.hid f5
      clear f1 f2 f3 f4 f5
      obtain ⟨c0, c1, c2, c3, c4, cf, cs⟩ := BkAt.cells BE
      go_wp2_with fail
      clear c0 c1 c2 c3 c4 cf cs
      refine (take_any _ _ _ _ _ _ _ _).mono ?_
      rintro e wf ⟨p1, p2, p3, p4, p5, p6, hp, rfl, hbf⟩
      rw [F1.out] at hp
      simp only [Prod.mk.injEq, Bk.mk.injEq] at hp; obtain ⟨⟨rfl, rfl, rfl, rfl, rfl⟩, rfl⟩ := hp
      have zf := hbf.size
      replace BE := (BE.keep hbf).alloc (.cells #[.int .i64 q1, .int .i64 q2, .int .i64 q3, .int .i64 q4, .int .i64 q5] 28)
      have BQ := BkAt.new wf q1 q2 q3 q4 q5
      obtain ⟨c0, c1, c2, c3, c4, cf, cs⟩ := BkAt.cells BQ
      go_wp2_with fail
      clear c0 c1 c2 c3 c4 cf cs
      refine (take_any _ _ _ _ _ _ _ _).mono ?_
      rintro e wg ⟨p1, p2, p3, p4, p5, p6, hp, rfl, hbg⟩
      rw [F2.out] at hp
      simp only [Prod.mk.injEq, Bk.mk.injEq] at hp; obtain ⟨⟨rfl, rfl, rfl, rfl, rfl⟩, rfl⟩ := hp
      have zg := hbg.size
      replace BE := BE.keep hbg
      obtain ⟨c0, c1, c2, c3, c4, cf, cs⟩ := BkAt.cells BE
      have BV := BkAt.new wg v1 v2 v3 v4 v5
      go_wp2_with fail
      clear c0 c1 c2 c3 c4 cf cs
      refine (take_any _ _ _ _ _ _ _ _).mono ?_
      rintro e wh ⟨p1, p2, p3, p4, p5, p6, hp, rfl, hbh⟩
      rw [F3.out] at hp
      simp only [Prod.mk.injEq, Bk.mk.injEq] at hp; obtain ⟨⟨rfl, rfl, rfl, rfl, rfl⟩, rfl⟩ := hp
      have zh := hbh.size
      replace BV := (BV.keep hbh).alloc (.cells #[.int .i64 t1, .int .i64 t2, .int .i64 t3, .int .i64 t4, .int .i64 t5] 28)
      obtain ⟨c0, c1, c2, c3, c4, cf, cs⟩ := BkAt.cells BV
      have f4 := F4.out
      by_cases hk : (k == 0) = true
      · have hv := F5.out (by simpa using hk)
        simp only [Bk.mk.injEq] at hv
        obtain ⟨rfl, rfl, rfl, rfl, rfl⟩ := hv
        rw [hk] at f4
        have f5 : ee = 0 ∧ g = 0 := by simpa using f4.symm
        obtain rfl : k = 0 := by simpa using hk
        obtain ⟨rfl, rfl⟩ := f5
        clear f4 hk
        go_wp2_with fail
        refine (sane_any _).mono ?_
        rintro e wk ⟨rfl, hbk⟩
        go_wp2_with fail
        go_ret
        refine ⟨rfl, ?_⟩
        simp only [World.size_alloc] at *
        (repeat (first | with_reducible assumption | with_reducible exact Below.refl _ _ | with_reducible refine Below.alloc ?_ ?_ _ | with_reducible refine Below.drew ?_ | with_reducible refine belN ?_ _ | with_reducible refine Below.trans ?_ (Below.mono (by with_reducible assumption) ?_) | with_reducible refine Below.trans ?_ (BB.below (by with_reducible assumption) ?_ ?_) | omega | focus (simp; done) | focus (simp; omega)))
      · have hk : (k == 0) = false := by simpa using hk
        have hk2 : ¬ k = 0 := by simpa using hk
        rw [hk] at f4
        by_cases he : (ee == 0) = true
        · have f6 : (g == 0) = false := by
            have h1 : ee = 0 := by simpa using he
            simp [h1] at f4; simpa using f4
          have f7 : ¬ g = 0 := by simpa using f6
          obtain rfl : ee = 0 := by simpa using he
          clear f4 he
          go_wp2_with fail
          refine (sane_any _).mono ?_
          rintro e wk ⟨rfl, hbk⟩
          go_wp2_with fail
          go_ret
          refine ⟨rfl, ?_⟩
          simp only [World.size_alloc] at *
          (repeat (first | with_reducible assumption | with_reducible exact Below.refl _ _ | with_reducible refine Below.alloc ?_ ?_ _ | with_reducible refine Below.drew ?_ | with_reducible refine belN ?_ _ | with_reducible refine Below.trans ?_ (Below.mono (by with_reducible assumption) ?_) | with_reducible refine Below.trans ?_ (BB.below (by with_reducible assumption) ?_ ?_) | omega | focus (simp; done) | focus (simp; omega)))
        · have he : (ee == 0) = false := by simpa using he
          have he2 : ¬ ee = 0 := by simpa using he
          clear f4
          go_wp2_with fail
          refine (sane_any _).mono ?_
          rintro e wk ⟨rfl, hbk⟩
          go_wp2_with fail
          go_ret
          refine ⟨rfl, ?_⟩
          simp only [World.size_alloc] at *
          (repeat (first | with_reducible assumption | with_reducible exact Below.refl _ _ | with_reducible refine Below.alloc ?_ ?_ _ | with_reducible refine Below.drew ?_ | with_reducible refine belN ?_ _ | with_reducible refine Below.trans ?_ (Below.mono (by with_reducible assumption) ?_) | with_reducible refine Below.trans ?_ (BB.below (by with_reducible assumption) ?_ ?_) | omega | focus (simp; done) | focus (simp; omega)))
  · have hdec : decide (len0 ≤ 600) = false := by simpa using hl
    have hlm := w0.len
    clear w0
    go_enter Try.func6, Try.ntmps6
    go_wp2_with fail
    refine (light_any _ _ _ _ hlm).mono ?_
    rintro e w' ⟨rfl, rfl⟩
    go_wp2_with fail
    refine (sane_any _).mono ?_
    rintro e w1 ⟨rfl, hb1⟩
    go_wp2_with fail
    go_ret
    exact ⟨rfl, hb1⟩
end Go.Proofs.Ytdajfecndfkecaa
