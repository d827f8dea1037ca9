/-
  Lemmas and contracts on the way to the laws of this seat; each theorem states its own conditions, and there are no others.
-/
import Derived.Test.YtdajfecndfkecaaV
import Derived.Test.YtdajfecndfkecaaS
import Derived.Test.YtdajfecndfkecaaH
import Derived.Test.YtdajfecndfkecaaM5
namespace Go.Proofs.Ytdajfecndfkecaa
open Go.RowKit

theorem abstract_world {G : World → Prop} {W : World} (P : World → Prop) (hP : P W) (h : ∀ W', P W' → G W') : G W := h W hP

theorem BB.also {P : Prop} {D : Nat} {w w' : World} (h : BB D w w') {p : Nat} (hp : p < w.heap.size) (hn : p ≠ D) (k : (∀ o, w'.cell? ⟨p, o, none⟩ = w.cell? ⟨p, o, none⟩) → (∀ o, w'.frozen? ⟨p, o, none⟩ = w.frozen? ⟨p, o, none⟩) → P) : P :=
  k (fun _ => h.cell (p := ⟨p, _, none⟩) hp hn) (fun _ => h.frozen (p := ⟨p, _, none⟩) hp hn)
theorem Below.also {P : Prop} {w w' : World} (h : Below w.heap.size w w') {p : Nat} (hp : p < w.heap.size) (k : (∀ o, w'.cell? ⟨p, o, none⟩ = w.cell? ⟨p, o, none⟩) → (∀ o, w'.frozen? ⟨p, o, none⟩ = w.frozen? ⟨p, o, none⟩) → P) : P :=
  k (fun _ => h.cell (p := ⟨p, _, none⟩) hp) (fun _ => h.frozen (p := ⟨p, _, none⟩) hp)
theorem BkAt.conj {w : World} {B : Nat} {a b c d f : Int} (q : BkAt w B a b c d f) :
    w.cell? ⟨B, 0, none⟩ = some (.int .i64 a) ∧ w.cell? ⟨B, 1, none⟩ = some (.int .i64 b) ∧ w.cell? ⟨B, 2, none⟩ = some (.int .i64 c) ∧ w.cell? ⟨B, 3, none⟩ = some (.int .i64 d) ∧ w.cell? ⟨B, 4, none⟩ = some (.int .i64 f) ∧ B < w.heap.size :=
  ⟨q.cells.1, q.cells.2.1, q.cells.2.2.1, q.cells.2.2.2.1, q.cells.2.2.2.2.1, q.cells.2.2.2.2.2.2⟩

/-- What lies in the world behind the region that draws. -/
def BoundsMid (w : World) (D B N : Nat) (a b c d f d' f' e g : Int) (W : World) : Prop :=
  BkAt W B a b c d' f' ∧ BkAt W (B + 1) a b c d f ∧ BkAt W N a b c e g ∧ DiceAt W D ∧ Below w.heap.size w W ∧ B < N

/-- What a round of the law of bounds finds. -/
def BoundsInv (w : World) (D B F : Nat) (a b c d f S : Int) (wr : World) : Prop :=
  DiceAt wr D ∧ Below w.heap.size w wr ∧ BkAt wr F a b c d f ∧ ∃ d' f' : Int, BkAt wr B a b c d' f' ∧ valid ⟨a, b, c, d', f'⟩ = true ∧ f ≤ f' ∧ S * b + d' ≤ d + a * (f' - f)

set_option maxHeartbeats 3200000 in
theorem bounds_walk (a0 : Option Addr) (len0 cap0 : Nat) (z0 : List Int) (w : World) (w0 : IsRow .i64 w a0 len0 cap0 z0) :
    Calls Try.prog 4 #[.slice a0 len0 cap0] w fun e w' => e = .returned (.bool true) ∧ Below w.heap.size w w' := by
  by_cases hl : len0 ≤ 600
  · have hD := dice_of_row w0
    have hlm := w0.len
    have hdec : decide (len0 ≤ 600) = true := by simpa using hl
    clear w0
    go_enter Try.func4, Try.ntmps4
    go_wp2_with fail
    refine (light_any _ _ _ _ hlm).mono ?_
    rintro e w' ⟨rfl, rfl⟩
    go_wp2_with fail
    refine (roll_any _ _ _ _).mono ?_
    rintro e w' ⟨rfl, rfl⟩
    go_wp2_with fail
    refine (dbucket_any _ _ hD).mono ?_
    rintro e w1 ⟨a, b, c, d, f, hv, rfl, hD1, hb1⟩
    have z1 := hb1.size
    have y1 : Below w.heap.size w w1 := Below.trans (by (repeat (first | with_reducible exact Below.refl _ _ | with_reducible exact Nat.le_refl _ | with_reducible refine Below.setCell ?_ ?_ _ | with_reducible refine Below.alloc ?_ ?_ _ | with_reducible refine Below.drew ?_ | with_reducible refine belN ?_ _ | with_reducible refine Below.trans ?_ (Below.mono (by with_reducible assumption) ?_) | omega | focus (simp; done) | focus (simp; omega)))) (hb1.below (Nat.le_refl _) (by simp))
    have hv1 : valid ⟨a, b, c, d, f⟩ = true := hv.1
    have hv2 : f ≤ 28 := hv.2
    have B1 := BkAt.new w1 a b c d f
    simp only [World.size_alloc] at z1
    clear hv hb1 hD hdec
    have hf0 : 0 ≤ f := (vbd hv1).2.2.1
    by_cases ha : (a == 4611686018427387904) = true
    · go_wp2_with fail
      refine (sane_any _).mono ?_
      rintro e wk ⟨rfl, hbk⟩
      go_wp2_with fail
      go_ret
      refine ⟨rfl, ?_⟩
      simp only [World.size_alloc] at *
      (repeat (first | with_reducible assumption | with_reducible exact Below.refl _ _ | with_reducible refine Below.alloc ?_ ?_ _ | with_reducible refine Below.drew ?_ | with_reducible refine belN ?_ _ | with_reducible refine Below.trans ?_ (Below.mono (by with_reducible assumption) ?_) | with_reducible refine Below.trans ?_ (BB.below (by with_reducible assumption) ?_ ?_) | omega | focus (simp; done) | focus (simp; omega)))
    · have ha' : (a == 4611686018427387904) = false := by simpa using ha
      have ha2 : ¬ a = 4611686018427387904 := by simpa using ha
      have hbd := valid_cases hv1
      have hb1 : 1 ≤ b := hbd.1
      have hb2 : b ≤ 1048576 := hbd.2.1
      have hd0 : 0 ≤ d := by have := hbd.2.2.2.2; omega
      have hd1 : d ≤ 1125899906842624 := by have := hbd.2.2.2.2; omega
      clear hbd
      have D1 : DiceAt ((w1.alloc (.cells #[.int .i64 a, .int .i64 b, .int .i64 c, .int .i64 d, .int .i64 f] 28)).alloc (.cells #[.int .i64 a, .int .i64 b, .int .i64 c, .int .i64 d, .int .i64 f] 28)) w.heap.size := (hD1.alloc _).alloc _
      have BF := BkAt.new (w1.alloc (.cells #[.int .i64 a, .int .i64 b, .int .i64 c, .int .i64 d, .int .i64 f] 28)) a b c d f
      have BB1 := B1.alloc (.cells #[.int .i64 a, .int .i64 b, .int .i64 c, .int .i64 d, .int .i64 f] 28)
      have YB : Below w.heap.size w ((w1.alloc (.cells #[.int .i64 a, .int .i64 b, .int .i64 c, .int .i64 d, .int .i64 f] 28)).alloc (.cells #[.int .i64 a, .int .i64 b, .int .i64 c, .int .i64 d, .int .i64 f] 28)) := by simp only [World.size_alloc] at *; (repeat (first | with_reducible assumption | with_reducible exact Below.refl _ _ | with_reducible refine Below.alloc ?_ ?_ _ | with_reducible refine Below.drew ?_ | with_reducible refine belN ?_ _ | with_reducible refine Below.trans ?_ (Below.mono (by with_reducible assumption) ?_) | with_reducible refine Below.trans ?_ (BB.below (by with_reducible assumption) ?_ ?_) | omega | focus (simp; done) | focus (simp; omega)))
      simp only [World.size_alloc] at BF
      have zB : w.heap.size < w1.heap.size := by omega
      go_wp2_with fail
      generalize w1.heap.size = B at *
      clear B1 hD1 y1 z1
      go_loopw [6, 7] (fun s i wr => ∃ (k : Nat) (S : Int), i = .int .i64 k ∧ k ≤ 20 ∧ s = .int .i64 S ∧ 0 ≤ S ∧ S ≤ 20 * k ∧ BoundsInv w w.heap.size B (B + 1) a b c d f S wr) (fun _ i _ => 20 - (intOf i).toNat)
      case atStart => exact ⟨0, 0, rfl, by omega, rfl, by omega, by omega, D1, YB, BF, d, f, BB1, hv1, by omega, by rw [Int.sub_self, Int.mul_zero]; omega⟩
      case round =>
        clear D1 YB BF BB1
        obtain ⟨k, S, rfl, hk, rfl, hS0, hS1, Dr, Yr, Fr, d', f', Br, vr, hff, inv⟩ := hrel
        have vf := (vbd vr).2.2
        have vf0 : 0 ≤ f' := vf.1
        have vf1 : f' ≤ 1048576 := vf.2
        clear vf
        obtain ⟨c0, c1, c2, c3, c4, cf, cs⟩ := BkAt.cells Br
        by_cases hgo : k < 20 ∧ f' < 1048566
        · obtain ⟨hk1, hT⟩ := hgo
          go_wp2_with fail
          clear c0 c1 c2 c3 c4 cf
          refine (next_any _ 20 _ Dr (by decide)).mono ?_
          rintro e wn ⟨n, rfl, hn, dn, bn⟩
          have hn0 : 0 ≤ n := hn.1
          have hn1 : n < 20 := hn.2.1 (by decide)
          have zn := bn.size
          replace Br := Br.keepBB bn (by omega)
          replace Fr := Fr.keepBB bn (by omega)
          replace Yr : Below w.heap.size w wn := Yr.trans (bn.below (Nat.le_refl _) (by omega))
          clear hn Dr bn
          go_wp2_with fail
          have csF : B + 1 < wn.heap.size := Fr.cells.2.2.2.2.2.2
          go_region_held3 (fun w' => w'.cell? ⟨B, 0, none⟩ = some (.int .i64 a) ∧ w'.cell? ⟨B, 1, none⟩ = some (.int .i64 b) ∧ w'.cell? ⟨B, 2, none⟩ = some (.int .i64 c) ∧ w'.cell? ⟨B, 3, none⟩ = some (.int .i64 d') ∧ w'.cell? ⟨B, 4, none⟩ = some (.int .i64 f') ∧ B < w'.heap.size)
            ((refine BkAt.conj ?_; (repeat (first | with_reducible assumption | with_reducible refine BkAt.alloc ?_ _ | with_reducible refine BkAt.other ?_ ?_ | with_reducible refine BkAt.drew ?_ | with_reducible refine BkAt.keep ?_ (by with_reducible assumption) | with_reducible refine BkAt.keepBB ?_ (by with_reducible assumption) ?_ | omega | focus (simp; done) | focus (simp; omega)))))
            (first
              | (go_at_call 12; (with_reducible refine (next_any _ 9 _ ?_ (by decide)).mono ?_; focus ((repeat (first | with_reducible assumption | with_reducible refine DiceAt.store ?_ ?_ _ | with_reducible refine DiceAt.alloc ?_ _ | with_reducible refine DiceAt.drew ?_ | with_reducible refine DiceAt.keepBB ?_ (by with_reducible assumption) ?_ | with_reducible refine DiceAt.keep ?_ (by with_reducible assumption) | omega | focus (simp; omega))); done)); rintro e wx ⟨r, rfl, hr, dx, bx⟩; have zx := bx.size; (try simp only [World.size_alloc, World.size_drew] at zx); have hr0 : 0 ≤ r := hr.1; have hr1 : r < 9 := hr.2.1 (by decide); have ew : IntKind.i64.wrap (f' + r) = f' + r := IntWalk.i64_in _ (by omega); clear hr; (try (refine bx.also (p := wn.heap.size) ?_ ?_ (fun kx fx => ?_); (focus (first | omega | focus (simp; done) | focus (simp; omega))); (focus (first | omega | focus (simp; omega))))))
              | (go_at_call 14; refine (take_any _ _ _ _ _ _ _ _).mono ?_; rintro e wy ⟨p1, p2, p3, p4, p5, ee, hp, rfl, hy⟩; have zy := hy.size; (try simp only [World.size_alloc, World.size_drew] at zy); have HP := Lib.hid hp; clear hp; (try (refine Below.also hy (p := wn.heap.size) ?_ (fun ky fy => ?_); focus (first | omega | focus (simp; done) | focus (simp; omega)))); (try (refine Below.also hy (p := wx.heap.size) ?_ (fun ky fy => ?_); focus (first | omega | focus (simp; done) | focus (simp; omega))))))
          all_goals
            obtain ⟨d2, e2, ht, hvv, d20, p0, p1', hcase⟩ := bounds_round vr ha2 hf0 hff hS0 inv hn0 hn1 hr0 hr1 hT
            have hp := HP.out
            rw [ht] at hp
            simp only [Prod.mk.injEq, Bk.mk.injEq] at hp
            obtain ⟨⟨rfl, rfl, rfl, rfl, rfl⟩, rfl⟩ := hp
            clear ht HP
          · refine abstract_world (BoundsMid w w.heap.size B wy.heap.size a b c d f d' f' d2 (f' + r)) ⟨?_, ?_, BkAt.new _ _ _ _ _ _, ?_, ?_, ?_⟩ ?_
            · (repeat (first | with_reducible assumption | with_reducible refine BkAt.alloc ?_ _ | with_reducible refine BkAt.other ?_ ?_ | with_reducible refine BkAt.drew ?_ | with_reducible refine BkAt.keep ?_ (by with_reducible assumption) | with_reducible refine BkAt.keepBB ?_ (by with_reducible assumption) ?_ | omega | focus (simp; done) | focus (simp; omega)))
            · (repeat (first | with_reducible assumption | with_reducible refine BkAt.alloc ?_ _ | with_reducible refine BkAt.other ?_ ?_ | with_reducible refine BkAt.drew ?_ | with_reducible refine BkAt.keep ?_ (by with_reducible assumption) | with_reducible refine BkAt.keepBB ?_ (by with_reducible assumption) ?_ | omega | focus (simp; done) | focus (simp; omega)))
            · (repeat (first | with_reducible assumption | with_reducible refine DiceAt.store ?_ ?_ _ | with_reducible refine DiceAt.alloc ?_ _ | with_reducible refine DiceAt.drew ?_ | with_reducible refine DiceAt.keepBB ?_ (by with_reducible assumption) ?_ | with_reducible refine DiceAt.keep ?_ (by with_reducible assumption) | omega | focus (simp; omega)))
            · (repeat (first | with_reducible assumption | with_reducible exact Below.refl _ _ | with_reducible refine Below.alloc ?_ ?_ _ | with_reducible refine Below.drew ?_ | with_reducible refine belN ?_ _ | with_reducible refine Below.trans ?_ (Below.mono (by with_reducible assumption) ?_) | with_reducible refine Below.trans ?_ (BB.below (by with_reducible assumption) ?_ ?_) | omega | focus (simp; done) | focus (simp; omega)))
            · omega
            intro W mid
            clear Br Fr dn dx bx hy zn zx zy csF ew Yr inv vr
            obtain ⟨mB, mF, mN, mD, mY, hBN⟩ := mid
            obtain ⟨b0, b1, b2, b3, b4, bf, bs⟩ := mB.cells
            obtain ⟨g0, g1, g2, g3, g4, gf, gs⟩ := mN.cells
            rcases hcase with ⟨rfl, hlaw⟩ | ⟨rfl, htok, hlaw⟩
            · have s0 : 0 ≤ (S + n) * b := Int.mul_nonneg (by omega) (by omega)
              have s1 : (S + n) * b ≤ 400 * 1048576 := Int.mul_le_mul (by omega) hb2 (by omega) (by decide)
              go_wp2_with fail
              refine (valid_any _ _ _ _ _ _).mono ?_
              rintro e wv ⟨rfl, hv⟩
              rw [hvv]
              have vB : BkAt wv B a b c d2 (f' + r) := (BkAt.store mB).keep hv
              have vF : BkAt wv (B + 1) a b c d f := by (repeat (first | with_reducible assumption | with_reducible refine BkAt.alloc ?_ _ | with_reducible refine BkAt.other ?_ ?_ | with_reducible refine BkAt.drew ?_ | with_reducible refine BkAt.keep ?_ (by with_reducible assumption) | with_reducible refine BkAt.keepBB ?_ (by with_reducible assumption) ?_ | omega | focus (simp; done) | focus (simp; omega)))
              have vD : DiceAt wv w.heap.size := by (repeat (first | with_reducible assumption | with_reducible refine DiceAt.store ?_ ?_ _ | with_reducible refine DiceAt.alloc ?_ _ | with_reducible refine DiceAt.drew ?_ | with_reducible refine DiceAt.keepBB ?_ (by with_reducible assumption) ?_ | with_reducible refine DiceAt.keep ?_ (by with_reducible assumption) | omega | focus (simp; omega)))
              have vY : Below w.heap.size w wv := by (repeat (first | with_reducible assumption | with_reducible exact Below.refl _ _ | with_reducible refine Below.setCell ?_ ?_ _ | with_reducible refine Below.alloc ?_ ?_ _ | with_reducible refine Below.drew ?_ | with_reducible refine belN ?_ _ | with_reducible refine Below.trans ?_ (Below.mono (by with_reducible assumption) ?_) | with_reducible refine Below.trans ?_ (BB.below (by with_reducible assumption) ?_ ?_) | omega | focus (simp; done) | focus (simp; omega)))
              clear hv mB mF mN mD mY b0 b1 b2 b3 b4 bf bs g0 g1 g2 g3 g4 gf gs
              obtain ⟨b0, b1, b2, b3, b4, bf, bs⟩ := vB.cells
              obtain ⟨g0, g1, g2, g3, g4, gf, gs⟩ := vF.cells
              go_wp2_with fail
              exact ⟨⟨k + 1, S + n, by simp, by omega, rfl, by omega, by omega, vD, vY, vF, d2, f' + r, vB, hvv, by omega, hlaw⟩, by simp only [intOf]; omega⟩
            · have s0 : 0 ≤ S * b := Int.mul_nonneg (by omega) (by omega)
              have s1 : S * b ≤ 400 * 1048576 := Int.mul_le_mul (by omega) hb2 (by omega) (by decide)
              go_wp2_with fail
              refine (valid_any _ _ _ _ _ _).mono ?_
              rintro e wv ⟨rfl, hv⟩
              rw [hvv]
              have vB : BkAt wv B a b c d2 (f' + r) := (BkAt.store mB).keep hv
              have vF : BkAt wv (B + 1) a b c d f := by (repeat (first | with_reducible assumption | with_reducible refine BkAt.alloc ?_ _ | with_reducible refine BkAt.other ?_ ?_ | with_reducible refine BkAt.drew ?_ | with_reducible refine BkAt.keep ?_ (by with_reducible assumption) | with_reducible refine BkAt.keepBB ?_ (by with_reducible assumption) ?_ | omega | focus (simp; done) | focus (simp; omega)))
              have vD : DiceAt wv w.heap.size := by (repeat (first | with_reducible assumption | with_reducible refine DiceAt.store ?_ ?_ _ | with_reducible refine DiceAt.alloc ?_ _ | with_reducible refine DiceAt.drew ?_ | with_reducible refine DiceAt.keepBB ?_ (by with_reducible assumption) ?_ | with_reducible refine DiceAt.keep ?_ (by with_reducible assumption) | omega | focus (simp; omega)))
              have vY : Below w.heap.size w wv := by (repeat (first | with_reducible assumption | with_reducible exact Below.refl _ _ | with_reducible refine Below.setCell ?_ ?_ _ | with_reducible refine Below.alloc ?_ ?_ _ | with_reducible refine Below.drew ?_ | with_reducible refine belN ?_ _ | with_reducible refine Below.trans ?_ (Below.mono (by with_reducible assumption) ?_) | with_reducible refine Below.trans ?_ (BB.below (by with_reducible assumption) ?_ ?_) | omega | focus (simp; done) | focus (simp; omega)))
              clear hv mB mF mN mD mY b0 b1 b2 b3 b4 bf bs g0 g1 g2 g3 g4 gf gs
              obtain ⟨b0, b1, b2, b3, b4, bf, bs⟩ := vB.cells
              obtain ⟨g0, g1, g2, g3, g4, gf, gs⟩ := vF.cells
              go_wp2_with fail
              refine (tokens_any _ _ _ _ _ _).mono ?_
              rintro e wt ⟨rfl, ht⟩
              replace vB := vB.keep ht
              replace vF := vF.keep ht
              replace vD : DiceAt wt w.heap.size := vD.keep ht
              replace vY : Below w.heap.size w wt := by (repeat (first | with_reducible assumption | with_reducible exact Below.refl _ _ | with_reducible refine Below.setCell ?_ ?_ _ | with_reducible refine Below.alloc ?_ ?_ _ | with_reducible refine Below.drew ?_ | with_reducible refine belN ?_ _ | with_reducible refine Below.trans ?_ (Below.mono (by with_reducible assumption) ?_) | with_reducible refine Below.trans ?_ (BB.below (by with_reducible assumption) ?_ ?_) | omega | focus (simp; done) | focus (simp; omega)))
              clear b0 b1 b2 b3 b4 bf bs g0 g1 g2 g3 g4 gf gs
              generalize tokens ⟨a, b, c, d2, f' + r⟩ = t at *
              go_wp2_with fail
              exact ⟨⟨k + 1, S, by simp, by omega, rfl, by omega, by omega, vD, vY, vF, d2, f' + r, vB, hvv, by omega, hlaw⟩, by simp only [intOf]; omega⟩
          · refine abstract_world (BoundsMid w w.heap.size B wx.heap.size a b c d f d' f' d2 (f' + r)) ⟨?_, ?_, BkAt.store (a := 0) (b := 0) (c := 0) (d := 0) (f := 0) (BkAt.keep (BkAt.new _ _ _ _ _ _) hy), ?_, ?_, ?_⟩ ?_
            · (repeat (first | with_reducible assumption | with_reducible refine BkAt.alloc ?_ _ | with_reducible refine BkAt.other ?_ ?_ | with_reducible refine BkAt.drew ?_ | with_reducible refine BkAt.keep ?_ (by with_reducible assumption) | with_reducible refine BkAt.keepBB ?_ (by with_reducible assumption) ?_ | omega | focus (simp; done) | focus (simp; omega)))
            · (repeat (first | with_reducible assumption | with_reducible refine BkAt.alloc ?_ _ | with_reducible refine BkAt.other ?_ ?_ | with_reducible refine BkAt.drew ?_ | with_reducible refine BkAt.keep ?_ (by with_reducible assumption) | with_reducible refine BkAt.keepBB ?_ (by with_reducible assumption) ?_ | omega | focus (simp; done) | focus (simp; omega)))
            · (repeat (first | with_reducible assumption | with_reducible refine DiceAt.store ?_ ?_ _ | with_reducible refine DiceAt.alloc ?_ _ | with_reducible refine DiceAt.drew ?_ | with_reducible refine DiceAt.keepBB ?_ (by with_reducible assumption) ?_ | with_reducible refine DiceAt.keep ?_ (by with_reducible assumption) | omega | focus (simp; omega)))
            · (repeat (first | with_reducible assumption | with_reducible exact Below.refl _ _ | with_reducible refine Below.setCell ?_ ?_ _ | with_reducible refine Below.alloc ?_ ?_ _ | with_reducible refine Below.drew ?_ | with_reducible refine belN ?_ _ | with_reducible refine Below.trans ?_ (Below.mono (by with_reducible assumption) ?_) | with_reducible refine Below.trans ?_ (BB.below (by with_reducible assumption) ?_ ?_) | omega | focus (simp; done) | focus (simp; omega)))
            · omega
            intro W mid
            clear Br Fr dn dx bx hy zn zx zy csF ew Yr inv vr
            obtain ⟨mB, mF, mN, mD, mY, hBN⟩ := mid
            obtain ⟨b0, b1, b2, b3, b4, bf, bs⟩ := mB.cells
            obtain ⟨g0, g1, g2, g3, g4, gf, gs⟩ := mN.cells
            rcases hcase with ⟨rfl, hlaw⟩ | ⟨rfl, htok, hlaw⟩
            · have s0 : 0 ≤ (S + n) * b := Int.mul_nonneg (by omega) (by omega)
              have s1 : (S + n) * b ≤ 400 * 1048576 := Int.mul_le_mul (by omega) hb2 (by omega) (by decide)
              go_wp2_with fail
              refine (valid_any _ _ _ _ _ _).mono ?_
              rintro e wv ⟨rfl, hv⟩
              rw [hvv]
              have vB : BkAt wv B a b c d2 (f' + r) := (BkAt.store mB).keep hv
              have vF : BkAt wv (B + 1) a b c d f := by (repeat (first | with_reducible assumption | with_reducible refine BkAt.alloc ?_ _ | with_reducible refine BkAt.other ?_ ?_ | with_reducible refine BkAt.drew ?_ | with_reducible refine BkAt.keep ?_ (by with_reducible assumption) | with_reducible refine BkAt.keepBB ?_ (by with_reducible assumption) ?_ | omega | focus (simp; done) | focus (simp; omega)))
              have vD : DiceAt wv w.heap.size := by (repeat (first | with_reducible assumption | with_reducible refine DiceAt.store ?_ ?_ _ | with_reducible refine DiceAt.alloc ?_ _ | with_reducible refine DiceAt.drew ?_ | with_reducible refine DiceAt.keepBB ?_ (by with_reducible assumption) ?_ | with_reducible refine DiceAt.keep ?_ (by with_reducible assumption) | omega | focus (simp; omega)))
              have vY : Below w.heap.size w wv := by (repeat (first | with_reducible assumption | with_reducible exact Below.refl _ _ | with_reducible refine Below.setCell ?_ ?_ _ | with_reducible refine Below.alloc ?_ ?_ _ | with_reducible refine Below.drew ?_ | with_reducible refine belN ?_ _ | with_reducible refine Below.trans ?_ (Below.mono (by with_reducible assumption) ?_) | with_reducible refine Below.trans ?_ (BB.below (by with_reducible assumption) ?_ ?_) | omega | focus (simp; done) | focus (simp; omega)))
              clear hv mB mF mN mD mY b0 b1 b2 b3 b4 bf bs g0 g1 g2 g3 g4 gf gs
              obtain ⟨b0, b1, b2, b3, b4, bf, bs⟩ := vB.cells
              obtain ⟨g0, g1, g2, g3, g4, gf, gs⟩ := vF.cells
              go_wp2_with fail
              exact ⟨⟨k + 1, S + n, by simp, by omega, rfl, by omega, by omega, vD, vY, vF, d2, f' + r, vB, hvv, by omega, hlaw⟩, by simp only [intOf]; omega⟩
            · have s0 : 0 ≤ S * b := Int.mul_nonneg (by omega) (by omega)
              have s1 : S * b ≤ 400 * 1048576 := Int.mul_le_mul (by omega) hb2 (by omega) (by decide)
              go_wp2_with fail
              refine (valid_any _ _ _ _ _ _).mono ?_
              rintro e wv ⟨rfl, hv⟩
              rw [hvv]
              have vB : BkAt wv B a b c d2 (f' + r) := (BkAt.store mB).keep hv
              have vF : BkAt wv (B + 1) a b c d f := by (repeat (first | with_reducible assumption | with_reducible refine BkAt.alloc ?_ _ | with_reducible refine BkAt.other ?_ ?_ | with_reducible refine BkAt.drew ?_ | with_reducible refine BkAt.keep ?_ (by with_reducible assumption) | with_reducible refine BkAt.keepBB ?_ (by with_reducible assumption) ?_ | omega | focus (simp; done) | focus (simp; omega)))
              have vD : DiceAt wv w.heap.size := by (repeat (first | with_reducible assumption | with_reducible refine DiceAt.store ?_ ?_ _ | with_reducible refine DiceAt.alloc ?_ _ | with_reducible refine DiceAt.drew ?_ | with_reducible refine DiceAt.keepBB ?_ (by with_reducible assumption) ?_ | with_reducible refine DiceAt.keep ?_ (by with_reducible assumption) | omega | focus (simp; omega)))
              have vY : Below w.heap.size w wv := by (repeat (first | with_reducible assumption | with_reducible exact Below.refl _ _ | with_reducible refine Below.setCell ?_ ?_ _ | with_reducible refine Below.alloc ?_ ?_ _ | with_reducible refine Below.drew ?_ | with_reducible refine belN ?_ _ | with_reducible refine Below.trans ?_ (Below.mono (by with_reducible assumption) ?_) | with_reducible refine Below.trans ?_ (BB.below (by with_reducible assumption) ?_ ?_) | omega | focus (simp; done) | focus (simp; omega)))
              clear hv mB mF mN mD mY b0 b1 b2 b3 b4 bf bs g0 g1 g2 g3 g4 gf gs
              obtain ⟨b0, b1, b2, b3, b4, bf, bs⟩ := vB.cells
              obtain ⟨g0, g1, g2, g3, g4, gf, gs⟩ := vF.cells
              go_wp2_with fail
              refine (tokens_any _ _ _ _ _ _).mono ?_
              rintro e wt ⟨rfl, ht⟩
              replace vB := vB.keep ht
              replace vF := vF.keep ht
              replace vD : DiceAt wt w.heap.size := vD.keep ht
              replace vY : Below w.heap.size w wt := by (repeat (first | with_reducible assumption | with_reducible exact Below.refl _ _ | with_reducible refine Below.setCell ?_ ?_ _ | with_reducible refine Below.alloc ?_ ?_ _ | with_reducible refine Below.drew ?_ | with_reducible refine belN ?_ _ | with_reducible refine Below.trans ?_ (Below.mono (by with_reducible assumption) ?_) | with_reducible refine Below.trans ?_ (BB.below (by with_reducible assumption) ?_ ?_) | omega | focus (simp; done) | focus (simp; omega)))
              clear b0 b1 b2 b3 b4 bf bs g0 g1 g2 g3 g4 gf gs
              generalize tokens ⟨a, b, c, d2, f' + r⟩ = t at *
              go_wp2_with fail
              exact ⟨⟨k + 1, S, by simp, by omega, rfl, by omega, by omega, vD, vY, vF, d2, f' + r, vB, hvv, by omega, hlaw⟩, by simp only [intOf]; omega⟩
          · refine abstract_world (BoundsMid w w.heap.size B wn.heap.size a b c d f d' f' d2 (f' + r)) ⟨?_, ?_, BkAt.store (a := 0) (b := 0) (c := 0) (d := 0) (f := 0) (BkAt.keep (BkAt.keepBB (BkAt.drew (BkAt.new _ _ _ _ _ _)) bx (by omega)) hy), ?_, ?_, ?_⟩ ?_
            · (repeat (first | with_reducible assumption | with_reducible refine BkAt.alloc ?_ _ | with_reducible refine BkAt.other ?_ ?_ | with_reducible refine BkAt.drew ?_ | with_reducible refine BkAt.keep ?_ (by with_reducible assumption) | with_reducible refine BkAt.keepBB ?_ (by with_reducible assumption) ?_ | omega | focus (simp; done) | focus (simp; omega)))
            · (repeat (first | with_reducible assumption | with_reducible refine BkAt.alloc ?_ _ | with_reducible refine BkAt.other ?_ ?_ | with_reducible refine BkAt.drew ?_ | with_reducible refine BkAt.keep ?_ (by with_reducible assumption) | with_reducible refine BkAt.keepBB ?_ (by with_reducible assumption) ?_ | omega | focus (simp; done) | focus (simp; omega)))
            · (repeat (first | with_reducible assumption | with_reducible refine DiceAt.store ?_ ?_ _ | with_reducible refine DiceAt.alloc ?_ _ | with_reducible refine DiceAt.drew ?_ | with_reducible refine DiceAt.keepBB ?_ (by with_reducible assumption) ?_ | with_reducible refine DiceAt.keep ?_ (by with_reducible assumption) | omega | focus (simp; omega)))
            · (repeat (first | with_reducible assumption | with_reducible exact Below.refl _ _ | with_reducible refine Below.setCell ?_ ?_ _ | with_reducible refine Below.alloc ?_ ?_ _ | with_reducible refine Below.drew ?_ | with_reducible refine belN ?_ _ | with_reducible refine Below.trans ?_ (Below.mono (by with_reducible assumption) ?_) | with_reducible refine Below.trans ?_ (BB.below (by with_reducible assumption) ?_ ?_) | omega | focus (simp; done) | focus (simp; omega)))
            · omega
            intro W mid
            clear Br Fr dn dx bx hy zn zx zy csF ew Yr inv vr
            obtain ⟨mB, mF, mN, mD, mY, hBN⟩ := mid
            obtain ⟨b0, b1, b2, b3, b4, bf, bs⟩ := mB.cells
            obtain ⟨g0, g1, g2, g3, g4, gf, gs⟩ := mN.cells
            rcases hcase with ⟨rfl, hlaw⟩ | ⟨rfl, htok, hlaw⟩
            · have s0 : 0 ≤ (S + n) * b := Int.mul_nonneg (by omega) (by omega)
              have s1 : (S + n) * b ≤ 400 * 1048576 := Int.mul_le_mul (by omega) hb2 (by omega) (by decide)
              go_wp2_with fail
              refine (valid_any _ _ _ _ _ _).mono ?_
              rintro e wv ⟨rfl, hv⟩
              rw [hvv]
              have vB : BkAt wv B a b c d2 (f' + r) := (BkAt.store mB).keep hv
              have vF : BkAt wv (B + 1) a b c d f := by (repeat (first | with_reducible assumption | with_reducible refine BkAt.alloc ?_ _ | with_reducible refine BkAt.other ?_ ?_ | with_reducible refine BkAt.drew ?_ | with_reducible refine BkAt.keep ?_ (by with_reducible assumption) | with_reducible refine BkAt.keepBB ?_ (by with_reducible assumption) ?_ | omega | focus (simp; done) | focus (simp; omega)))
              have vD : DiceAt wv w.heap.size := by (repeat (first | with_reducible assumption | with_reducible refine DiceAt.store ?_ ?_ _ | with_reducible refine DiceAt.alloc ?_ _ | with_reducible refine DiceAt.drew ?_ | with_reducible refine DiceAt.keepBB ?_ (by with_reducible assumption) ?_ | with_reducible refine DiceAt.keep ?_ (by with_reducible assumption) | omega | focus (simp; omega)))
              have vY : Below w.heap.size w wv := by (repeat (first | with_reducible assumption | with_reducible exact Below.refl _ _ | with_reducible refine Below.setCell ?_ ?_ _ | with_reducible refine Below.alloc ?_ ?_ _ | with_reducible refine Below.drew ?_ | with_reducible refine belN ?_ _ | with_reducible refine Below.trans ?_ (Below.mono (by with_reducible assumption) ?_) | with_reducible refine Below.trans ?_ (BB.below (by with_reducible assumption) ?_ ?_) | omega | focus (simp; done) | focus (simp; omega)))
              clear hv mB mF mN mD mY b0 b1 b2 b3 b4 bf bs g0 g1 g2 g3 g4 gf gs
              obtain ⟨b0, b1, b2, b3, b4, bf, bs⟩ := vB.cells
              obtain ⟨g0, g1, g2, g3, g4, gf, gs⟩ := vF.cells
              go_wp2_with fail
              exact ⟨⟨k + 1, S + n, by simp, by omega, rfl, by omega, by omega, vD, vY, vF, d2, f' + r, vB, hvv, by omega, hlaw⟩, by simp only [intOf]; omega⟩
            · have s0 : 0 ≤ S * b := Int.mul_nonneg (by omega) (by omega)
              have s1 : S * b ≤ 400 * 1048576 := Int.mul_le_mul (by omega) hb2 (by omega) (by decide)
              go_wp2_with fail
              refine (valid_any _ _ _ _ _ _).mono ?_
              rintro e wv ⟨rfl, hv⟩
              rw [hvv]
              have vB : BkAt wv B a b c d2 (f' + r) := (BkAt.store mB).keep hv
              have vF : BkAt wv (B + 1) a b c d f := by (repeat (first | with_reducible assumption | with_reducible refine BkAt.alloc ?_ _ | with_reducible refine BkAt.other ?_ ?_ | with_reducible refine BkAt.drew ?_ | with_reducible refine BkAt.keep ?_ (by with_reducible assumption) | with_reducible refine BkAt.keepBB ?_ (by with_reducible assumption) ?_ | omega | focus (simp; done) | focus (simp; omega)))
              have vD : DiceAt wv w.heap.size := by (repeat (first | with_reducible assumption | with_reducible refine DiceAt.store ?_ ?_ _ | with_reducible refine DiceAt.alloc ?_ _ | with_reducible refine DiceAt.drew ?_ | with_reducible refine DiceAt.keepBB ?_ (by with_reducible assumption) ?_ | with_reducible refine DiceAt.keep ?_ (by with_reducible assumption) | omega | focus (simp; omega)))
              have vY : Below w.heap.size w wv := by (repeat (first | with_reducible assumption | with_reducible exact Below.refl _ _ | with_reducible refine Below.setCell ?_ ?_ _ | with_reducible refine Below.alloc ?_ ?_ _ | with_reducible refine Below.drew ?_ | with_reducible refine belN ?_ _ | with_reducible refine Below.trans ?_ (Below.mono (by with_reducible assumption) ?_) | with_reducible refine Below.trans ?_ (BB.below (by with_reducible assumption) ?_ ?_) | omega | focus (simp; done) | focus (simp; omega)))
              clear hv mB mF mN mD mY b0 b1 b2 b3 b4 bf bs g0 g1 g2 g3 g4 gf gs
              obtain ⟨b0, b1, b2, b3, b4, bf, bs⟩ := vB.cells
              obtain ⟨g0, g1, g2, g3, g4, gf, gs⟩ := vF.cells
              go_wp2_with fail
              refine (tokens_any _ _ _ _ _ _).mono ?_
              rintro e wt ⟨rfl, ht⟩
              replace vB := vB.keep ht
              replace vF := vF.keep ht
              replace vD : DiceAt wt w.heap.size := vD.keep ht
              replace vY : Below w.heap.size w wt := by (repeat (first | with_reducible assumption | with_reducible exact Below.refl _ _ | with_reducible refine Below.setCell ?_ ?_ _ | with_reducible refine Below.alloc ?_ ?_ _ | with_reducible refine Below.drew ?_ | with_reducible refine belN ?_ _ | with_reducible refine Below.trans ?_ (Below.mono (by with_reducible assumption) ?_) | with_reducible refine Below.trans ?_ (BB.below (by with_reducible assumption) ?_ ?_) | omega | focus (simp; done) | focus (simp; omega)))
              clear b0 b1 b2 b3 b4 bf bs g0 g1 g2 g3 g4 gf gs
              generalize tokens ⟨a, b, c, d2, f' + r⟩ = t at *
              go_wp2_with fail
              exact ⟨⟨k + 1, S, by simp, by omega, rfl, by omega, by omega, vD, vY, vF, d2, f' + r, vB, hvv, by omega, hlaw⟩, by simp only [intOf]; omega⟩
        · have hx : ¬ (k < 20) ∨ (k < 20 ∧ ¬ f' < 1048566) := by omega
          rcases hx with hx | ⟨hx, hx2⟩
          all_goals
            go_wp2_with fail
            refine (sane_any _).mono ?_
            rintro e wk ⟨rfl, hbk⟩
            go_wp2_with fail
            go_ret
            refine ⟨rfl, ?_⟩
            (repeat (first | with_reducible assumption | with_reducible exact Below.refl _ _ | with_reducible refine Below.alloc ?_ ?_ _ | with_reducible refine Below.drew ?_ | with_reducible refine belN ?_ _ | with_reducible refine Below.trans ?_ (Below.mono (by with_reducible assumption) ?_) | with_reducible refine Below.trans ?_ (BB.below (by with_reducible assumption) ?_ ?_) | omega | focus (simp; done) | focus (simp; omega)))
  · have hdec : decide (len0 ≤ 600) = false := by simpa using hl
    have hlm := w0.len
    clear w0
    go_enter Try.func4, Try.ntmps4
    go_wp2_with fail
    refine (light_any _ _ _ _ hlm).mono ?_
    rintro e w' ⟨rfl, rfl⟩
    go_wp2_with fail
    refine (sane_any _).mono ?_
    rintro e w1 ⟨rfl, hb1⟩
    go_wp2_with fail
    go_ret
    exact ⟨rfl, hb1⟩
end Go.Proofs.Ytdajfecndfkecaa
