/-
  Lemmas and contracts on the way to the laws of this seat; each theorem states its own conditions, and there are no others.
-/
import Derived.Test.YtaipgdhaoldhjaaVD

namespace Go.Proofs.Ytaipgdhaoldhjaa
open Go
set_option linter.unusedVariables false
set_option linter.unusedSimpArgs false
set_option linter.unusedVariables false

def sLaw16 : DS := ⟨_, two pkIntsP (pkK .u16), fun x => 0 ≤ x.2.1 ∧ x.2.1 ≤ 65535, fun _ => .bool true, nou⟩
def sLaw8 : DS := ⟨_, two pkIntsP (pkK .u8), fun x => 0 ≤ x.2.1 ∧ x.2.1 ≤ 255, fun _ => .bool true, nou⟩
def sLaw168 : DS := ⟨_, three pkIntsP (pkK .u16) (pkK .u8), fun x => (0 ≤ x.2.1 ∧ x.2.1 ≤ 65535) ∧ 0 ≤ x.2.2.1 ∧ x.2.2.1 ≤ 255, fun _ => .bool true, nou⟩
theorem mulb {a b A B : Int} (ha : 0 ≤ a ∧ a ≤ A) (hb : 0 ≤ b ∧ b ≤ B) : 0 ≤ a * b ∧ a * b ≤ A * B := ⟨Int.mul_nonneg ha.1 hb.1, Int.mul_le_mul ha.2 hb.2 hb.1 (by omega)⟩
theorem sumF_bnd {f : Nat → Int} {c : Int} (h : ∀ i, 0 ≤ f i ∧ f i ≤ c) {k : Nat} (hk : k ≤ 64) (hc : c ≤ 1000000) : 0 ≤ sumF f k ∧ sumF f k ≤ 64000000 := by
  refine ⟨sumF_nonneg fun i _ => (h i).1, ?_⟩
  have h1 := sumF_le (f := f) (g := fun _ => 1000000) (n := k) fun i _ => by have := h i; omega
  rw [sumF_const] at h1
  omega
theorem Part.bnd {k : Int} {w d x : List Int} (hw : InOK w d) (hp : Part k w d x) (i : Nat) : 0 ≤ nth x i ∧ nth x i ≤ nth d i ∧ nth x i ≤ 65536 := by
  have hl := hp.len
  have := hw.dpos i
  by_cases hi : i < d.length
  · have := hp.lo i hi
    have := hp.hi i hi
    omega
  · rw [nth_out (l := x) (by omega)]; omega
theorem InOK.wsum {w d : List Int} (hw : InOK w d) {i : Nat} (hi : i < d.length) : 0 < w.sum := by
  rw [← sumF_sum]
  have hl := hw.len
  exact sumF_pos (k := i) (fun j _ => (hw.wpos j).1) (by omega) (by have := hw.heavy i hi; omega)

def inv4a (s : St) : Inv where
  X := Int
  ok := fun i => 0 ≤ i ∧ i ≤ slotI s 38
  sl := fun i => [(39, .int .i64 i), (9, .int .i64 (sumF (nth (contI s (s.t 8))) i.toNat)), (10, .int .i64 (sumF (nth (contI s (s.t 5))) i.toNat)), (11, .int .i64 (sumF (nth (contI s (s.t 6))) i.toNat)), (5, .own 101 0), (6, .own 103 0), (8, .own 105 0)]
  hp := fun i => [(101, .rows 3 0 (contI s (s.t 5))), (103, .rows 3 0 (contI s (s.t 6))), (105, .rows 3 0 (contI s (s.t 8)))]
  keep := []
  me := fun i => (slotI s 38 - i).toNat
def inv4b (s : St) : Inv where
  X := Int
  ok := fun i => 0 ≤ i ∧ i ≤ slotI s 83
  sl := fun i => [(84, .int .i64 i), (5, .own 101 0), (6, .own 103 0), (8, .own 105 0)]
  hp := fun i => [(101, .rows 3 0 (contI s (s.t 5))), (103, .rows 3 0 (contI s (s.t 6))), (105, .rows 3 0 (contI s (s.t 8)))]
  keep := []
  me := fun i => (slotI s 83 - i).toNat
def inv4c (s : St) : Inv where
  X := Int
  ok := fun i => 0 ≤ i ∧ i ≤ slotI s 110
  sl := fun i => [(111, .int .i64 i), (5, .own 101 0), (6, .own 103 0), (8, .own 105 0)]
  hp := fun i => [(101, .rows 3 0 (contI s (s.t 5))), (103, .rows 3 0 (contI s (s.t 6))), (105, .rows 3 0 (contI s (s.t 8)))]
  keep := []
  me := fun i => (slotI s 110 - i).toNat
set_option maxRecDepth 100000 in
theorem vc4 (L : List Int) (n : Int) (hx : 0 ≤ n ∧ n ≤ 65535) : sLaw16.vc (EV Try.prog [(8, sLight.spec), (9, sSane.spec), (10, sRoll.spec), (14, sDraw.spec), (13, sDivide.spec)] (invsS [(10, inv4a), (19, inv4b), (25, inv4c)]) noInv) Try.f4 (L, n, ()) := by
  have e : (True ∧ ((!Decidable.decide ((↑L.length : Int) ≤ (600 : Int))) = Bool.true → True ∧ ∃ (y : Unit), True ∧ Bool.true = Bool.true) ∧ ((!Decidable.decide ((↑L.length : Int) ≤ (600 : Int))) = Bool.false → True ∧ DOK (L, (0 : Int)) ∧ (∀ (y : List Int × List Int × Int), Bool.true = Bool.true) ∧ ∀ (y : List Int × List Int × Int), InOK y.fst y.snd.fst ∧ y.fst.length ≤ (5 : Nat) ∧ (0 : Int) ≤ y.snd.snd ∧ y.snd.snd ≤ (↑L.length : Int) → i64R n ∧ (0 : Int) < (5000 : Int) ∧ (Units (n.tmod (5000 : Int)) ∧ InOK y.fst y.snd.fst) ∧ (∀ (y : List Int), Bool.true = Bool.true) ∧ ∀ (y_1 : List Int), Part (n.tmod (5000 : Int)) y.fst y.snd.fst y_1 → ((!Decidable.decide ((↑y_1.length : Int) = (↑y.fst.length : Int))) = Bool.true → ∃ (y : Unit), True ∧ Bool.false = Bool.true) ∧ ((!Decidable.decide ((↑y_1.length : Int) = (↑y.fst.length : Int))) = Bool.false → (∃ (x : Int), ((0 : Int) ≤ x ∧ x ≤ (↑y_1.length : Int)) ∧ (0 : Int) = x ∧ (0 : Int) = sumF (nth y_1) x.toNat ∧ (0 : Int) = sumF (nth y.fst) x.toNat ∧ (0 : Int) = sumF (nth y.snd.fst) x.toNat ∧ y.fst = y.fst ∧ y.snd.fst = y.snd.fst ∧ y_1 = y_1) ∧ ∀ (x : Int), (0 : Int) ≤ x ∧ x ≤ (↑y_1.length : Int) → (Decidable.decide (x < (↑y_1.length : Int)) = Bool.true → ((0 : Int) ≤ x ∧ x < (↑y_1.length : Int)) ∧ i64R (sumF (nth y_1) x.toNat + y_1.getD x.toNat (0 : Int)) ∧ ((0 : Int) ≤ x ∧ x < (↑y.fst.length : Int)) ∧ i64R (sumF (nth y.fst) x.toNat + y.fst.getD x.toNat (0 : Int)) ∧ ((0 : Int) ≤ x ∧ x < (↑y.snd.fst.length : Int)) ∧ i64R (sumF (nth y.snd.fst) x.toNat + y.snd.fst.getD x.toNat (0 : Int)) ∧ ((0 : Int) ≤ x ∧ x < (↑y_1.length : Int)) ∧ (Decidable.decide (y_1.getD x.toNat (0 : Int) < (0 : Int)) = Bool.false → Decidable.decide (y_1.getD x.toNat (0 : Int) < (0 : Int)) = Bool.false) ∧ (Decidable.decide (y_1.getD x.toNat (0 : Int) < (0 : Int)) = Bool.false → Decidable.decide (y_1.getD x.toNat (0 : Int) < (0 : Int)) = Bool.false) ∧ (Decidable.decide (y_1.getD x.toNat (0 : Int) < (0 : Int)) = Bool.false → (0 : Int) ≤ x ∧ x < (↑y_1.length : Int)) ∧ (Decidable.decide (y_1.getD x.toNat (0 : Int) < (0 : Int)) = Bool.false → Decidable.decide (y_1.getD x.toNat (0 : Int) < (0 : Int)) = Bool.false) ∧ (Decidable.decide (y_1.getD x.toNat (0 : Int) < (0 : Int)) = Bool.false → Decidable.decide (y_1.getD x.toNat (0 : Int) < (0 : Int)) = Bool.false) ∧ (Decidable.decide (y_1.getD x.toNat (0 : Int) < (0 : Int)) = Bool.false → Decidable.decide (y_1.getD x.toNat (0 : Int) < (0 : Int)) = Bool.false) ∧ (Decidable.decide (y_1.getD x.toNat (0 : Int) < (0 : Int)) = Bool.false → (0 : Int) ≤ x ∧ x < (↑y.snd.fst.length : Int)) ∧ (Decidable.decide (y_1.getD x.toNat (0 : Int) < (0 : Int)) = Bool.false → Decidable.decide (y_1.getD x.toNat (0 : Int) < (0 : Int)) = Bool.false) ∧ (Decidable.decide (y_1.getD x.toNat (0 : Int) < (0 : Int)) = Bool.false → Decidable.decide (y_1.getD x.toNat (0 : Int) < (0 : Int)) = Bool.false) ∧ (Decidable.decide (y_1.getD x.toNat (0 : Int) < (0 : Int)) = Bool.false → Decidable.decide (y_1.getD x.toNat (0 : Int) < (0 : Int)) = Bool.false) ∧ (Decidable.decide (y_1.getD x.toNat (0 : Int) < (0 : Int)) = Bool.false → Decidable.decide (y_1.getD x.toNat (0 : Int) < (0 : Int)) = Bool.false) ∧ ((Decidable.decide (y_1.getD x.toNat (0 : Int) < (0 : Int)) || Decidable.decide (y.snd.fst.getD x.toNat (0 : Int) < y_1.getD x.toNat (0 : Int))) = Bool.true → ∃ (y : Unit), True ∧ Bool.false = Bool.true) ∧ ((Decidable.decide (y_1.getD x.toNat (0 : Int) < (0 : Int)) || Decidable.decide (y.snd.fst.getD x.toNat (0 : Int) < y_1.getD x.toNat (0 : Int))) = Bool.false → i64R (x + (1 : Int)) ∧ ∃ (x' : Int), ((0 : Int) ≤ x' ∧ x' ≤ (↑y_1.length : Int)) ∧ ((↑y_1.length : Int) - x').toNat < ((↑y_1.length : Int) - x).toNat ∧ x + (1 : Int) = x' ∧ sumF (nth y_1) x.toNat + y_1.getD x.toNat (0 : Int) = sumF (nth y_1) x'.toNat ∧ sumF (nth y.fst) x.toNat + y.fst.getD x.toNat (0 : Int) = sumF (nth y.fst) x'.toNat ∧ sumF (nth y.snd.fst) x.toNat + y.snd.fst.getD x.toNat (0 : Int) = sumF (nth y.snd.fst) x'.toNat ∧ y.fst = y.fst ∧ y.snd.fst = y.snd.fst ∧ y_1 = y_1)) ∧ (Decidable.decide (x < (↑y_1.length : Int)) = Bool.false → ((!Decidable.decide (sumF (nth y_1) x.toNat = Min.min (n.tmod (5000 : Int)) (sumF (nth y.snd.fst) x.toNat))) = Bool.true → ∃ (y : Unit), True ∧ Bool.false = Bool.true) ∧ ((!Decidable.decide (sumF (nth y_1) x.toNat = Min.min (n.tmod (5000 : Int)) (sumF (nth y.snd.fst) x.toNat))) = Bool.false → (∃ (x : Int), ((0 : Int) ≤ x ∧ x ≤ (↑y_1.length : Int)) ∧ (0 : Int) = x ∧ y.fst = y.fst ∧ y.snd.fst = y.snd.fst ∧ y_1 = y_1) ∧ ∀ (x_1 : Int), (0 : Int) ≤ x_1 ∧ x_1 ≤ (↑y_1.length : Int) → (Decidable.decide (x_1 < (↑y_1.length : Int)) = Bool.true → ((0 : Int) ≤ x_1 ∧ x_1 < (↑y_1.length : Int)) ∧ ((0 : Int) ≤ x_1 ∧ x_1 < (↑y.snd.fst.length : Int)) ∧ (Decidable.decide (y_1.getD x_1.toNat (0 : Int) = y.snd.fst.getD x_1.toNat (0 : Int)) = Bool.true → i64R (x_1 + (1 : Int)) ∧ ∃ (x' : Int), ((0 : Int) ≤ x' ∧ x' ≤ (↑y_1.length : Int)) ∧ ((↑y_1.length : Int) - x').toNat < ((↑y_1.length : Int) - x_1).toNat ∧ x_1 + (1 : Int) = x' ∧ y.fst = y.fst ∧ y.snd.fst = y.snd.fst ∧ y_1 = y_1) ∧ (Decidable.decide (y_1.getD x_1.toNat (0 : Int) = y.snd.fst.getD x_1.toNat (0 : Int)) = Bool.false → ((0 : Int) ≤ x_1 ∧ x_1 < (↑y_1.length : Int)) ∧ ((0 : Int) ≤ x_1 ∧ x_1 < (↑y.fst.length : Int)) ∧ i64R (n.tmod (5000 : Int) * y.fst.getD x_1.toNat (0 : Int)) ∧ ((0 : Int) ≤ n.tmod (5000 : Int) * y.fst.getD x_1.toNat (0 : Int) ∧ (0 : Int) < sumF (nth y.fst) x.toNat) ∧ i64R (n.tmod (5000 : Int) * y.fst.getD x_1.toNat (0 : Int)) ∧ (Decidable.decide (y_1.getD x_1.toNat (0 : Int) < n.tmod (5000 : Int) * y.fst.getD x_1.toNat (0 : Int) / sumF (nth y.fst) x.toNat) = Bool.true → ∃ (y : Unit), True ∧ Bool.false = Bool.true) ∧ (Decidable.decide (y_1.getD x_1.toNat (0 : Int) < n.tmod (5000 : Int) * y.fst.getD x_1.toNat (0 : Int) / sumF (nth y.fst) x.toNat) = Bool.false → (∃ (x : Int), ((0 : Int) ≤ x ∧ x ≤ (↑y_1.length : Int)) ∧ (0 : Int) = x ∧ y.fst = y.fst ∧ y.snd.fst = y.snd.fst ∧ y_1 = y_1) ∧ ∀ (x : Int), (0 : Int) ≤ x ∧ x ≤ (↑y_1.length : Int) → (Decidable.decide (x < (↑y_1.length : Int)) = Bool.true → ((0 : Int) ≤ x ∧ x < (↑y_1.length : Int)) ∧ ((0 : Int) ≤ x_1 ∧ x_1 < (↑y.fst.length : Int)) ∧ i64R (y_1.getD x.toNat (0 : Int) * y.fst.getD x_1.toNat (0 : Int)) ∧ ((0 : Int) ≤ x_1 ∧ x_1 < (↑y_1.length : Int)) ∧ i64R (y_1.getD x_1.toNat (0 : Int) + (1 : Int)) ∧ ((0 : Int) ≤ x ∧ x < (↑y.fst.length : Int)) ∧ i64R ((y_1.getD x_1.toNat (0 : Int) + (1 : Int)) * y.fst.getD x.toNat (0 : Int)) ∧ (Decidable.decide ((y_1.getD x_1.toNat (0 : Int) + (1 : Int)) * y.fst.getD x.toNat (0 : Int) < y_1.getD x.toNat (0 : Int) * y.fst.getD x_1.toNat (0 : Int)) = Bool.true → ∃ (y : Unit), True ∧ Bool.false = Bool.true) ∧ (Decidable.decide ((y_1.getD x_1.toNat (0 : Int) + (1 : Int)) * y.fst.getD x.toNat (0 : Int) < y_1.getD x.toNat (0 : Int) * y.fst.getD x_1.toNat (0 : Int)) = Bool.false → i64R (x + (1 : Int)) ∧ ∃ (x' : Int), ((0 : Int) ≤ x' ∧ x' ≤ (↑y_1.length : Int)) ∧ ((↑y_1.length : Int) - x').toNat < ((↑y_1.length : Int) - x).toNat ∧ x + (1 : Int) = x' ∧ y.fst = y.fst ∧ y.snd.fst = y.snd.fst ∧ y_1 = y_1)) ∧ (Decidable.decide (x < (↑y_1.length : Int)) = Bool.false → i64R (x_1 + (1 : Int)) ∧ ∃ (x' : Int), ((0 : Int) ≤ x' ∧ x' ≤ (↑y_1.length : Int)) ∧ ((↑y_1.length : Int) - x').toNat < ((↑y_1.length : Int) - x_1).toNat ∧ x_1 + (1 : Int) = x' ∧ y.fst = y.fst ∧ y.snd.fst = y.snd.fst ∧ y_1 = y_1)))) ∧ (Decidable.decide (x_1 < (↑y_1.length : Int)) = Bool.false → True ∧ ∃ (y : Unit), True ∧ Bool.true = Bool.true)))))) = sLaw16.vc (EV Try.prog [(8, sLight.spec), (9, sSane.spec), (10, sRoll.spec), (14, sDraw.spec), (13, sDivide.spec)] (invsS [(10, inv4a), (19, inv4b), (25, inv4c)]) noInv) Try.f4 (L, n, ()) := by kernel_rfl
  rw [← e]
  clear e
  have ht : 0 ≤ n.tmod 5000 ∧ n.tmod 5000 < 5000 := ⟨Int.tmod_nonneg _ hx.1, Int.tmod_lt_of_pos _ (by omega)⟩
  generalize n.tmod 5000 = K at *
  simp only [Prod.forall, Prod.exists, exists_const, implies_true, not_true_eq_false, not_false_eq_true, or_self, or_false, false_or, or_true, true_or, and_false, false_and, forall_const, true_and, and_true, i64R, imp_self, Int.reduceLE, Int.reduceLT, Int.reduceNeg, false_implies, true_implies, decide_eq_true_eq, decide_eq_false_iff_not, Bool.not_eq_true', Bool.not_eq_false', Bool.true_eq_false, Bool.false_eq_true, Bool.and_eq_true, Bool.or_eq_true, NilL_eq, Bool.and_eq_false_iff, Bool.or_eq_false_iff ]
  intro hl
  refine ⟨⟨Int.le_refl 0, by show (0 : Int) ≤ L.length; omega, by show L.length ≤ 600; omega⟩, fun w d b hw => ⟨by omega, ⟨⟨by omega, by omega⟩, hw.1⟩, fun x hp => ?_⟩⟩
  have hI := hw.1
  have hlw := hI.len
  have hn := hI.n
  have hxl := hp.len
  have bx := hp.bnd hI
  have sx := fun k hk => sumF_bnd (f := nth x) (c := 65536) (fun i => by have := bx i; omega) (k := k) hk (by omega)
  have sw := fun k hk => sumF_bnd (f := nth w) (c := 10000) hI.wpos (k := k) hk (by omega)
  have sd := fun k hk => sumF_bnd (f := nth d) (c := 65536) hI.dpos (k := k) hk (by omega)
  refine ⟨fun h => h (by omega), fun h0 => ⟨⟨0, by omega, rfl, rfl, rfl, rfl⟩, fun i hi => ⟨fun hlt => ?_, fun hge => ?_⟩⟩⟩
  · have e1 : (i + 1).toNat = i.toNat + 1 := by omega
    have a1 := bx i.toNat
    have a2 := hI.wpos i.toNat
    have a3 := hI.dpos i.toNat
    have b1 := sx i.toNat (by omega)
    have b2 := sw i.toNat (by omega)
    have b3 := sd i.toNat (by omega)
    simp only [nth] at a1 a2 a3
    refine ⟨by omega, by omega, by omega, by omega, by omega, by omega, by omega, fun _ => by omega, fun _ => by omega, fun h => by omega, fun _ => ⟨by omega, i + 1, by omega, by omega, rfl, ?_, ?_, ?_⟩⟩
    all_goals (rw [e1]; rfl)
  · have ex : sumF (nth x) i.toNat = x.sum := by rw [show i.toNat = x.length by omega]; exact sumF_sum x
    have ew : sumF (nth w) i.toNat = w.sum := by rw [show i.toNat = w.length by omega]; exact sumF_sum w
    have ed : sumF (nth d) i.toNat = d.sum := by rw [show i.toNat = d.length by omega]; exact sumF_sum d
    simp only [ex, ew, ed]
    refine ⟨fun h => h hp.sum, fun _ => ⟨⟨0, by omega, rfl⟩, fun i2 hi2 hlt2 => ⟨by omega, by omega, fun _ => ⟨by omega, i2 + 1, by omega, by omega, rfl⟩, fun hne => ?_⟩⟩⟩
    have hr : nth x i2.toNat < nth d i2.toNat := by have := (bx i2.toNat).2.1; simp only [nth] at this ⊢; omega
    obtain ⟨henv, hsh⟩ := hp.share hlw hI.heavy (i := i2.toNat) (by omega) hr
    have hW := hI.wsum (i := i2.toNat) (by omega)
    have hlt3 := sum_lt_of hxl (fun j _ => (bx j).2.1) (k := i2.toNat) (by omega) hr
    have hsum := hp.sum
    have hK : min K d.sum = K := by omega
    rw [hK] at hsh
    have hdiv : K * nth w i2.toNat / w.sum < nth x i2.toNat + 1 := Int.ediv_lt_of_lt_mul hW hsh
    have m1 := mulb (A := 5000) (B := 10000) (a := K) (by omega) (hI.wpos i2.toNat)
    have a1 := bx i2.toNat
    have a2 := hI.wpos i2.toNat
    simp only [nth] at hdiv m1 a1 henv a2
    refine ⟨by omega, by omega, by omega, ⟨by omega, hW⟩, by omega, fun h => by omega, fun _ => ⟨⟨0, by omega, rfl⟩, fun i3 hi3 => ⟨fun hlt3 => ?_, fun _ => ⟨by omega, i2 + 1, by omega, by omega, rfl⟩⟩⟩⟩
    have c1 := bx i3.toNat
    have c2 := hI.wpos i3.toNat
    simp only [nth] at c1 c2
    have m2 := mulb (A := 65536) (B := 10000) (a := x.getD i3.toNat 0) (b := w.getD i2.toNat 0) (by omega) (by omega)
    have m3 := mulb (A := 65537) (B := 10000) (a := x.getD i2.toNat 0 + 1) (b := w.getD i3.toNat 0) (by omega) (by omega)
    have he := henv i3.toNat (by omega)
    exact ⟨by omega, by omega, by omega, by omega, by omega, by omega, by omega, fun h => by omega, fun _ => ⟨by omega, i3 + 1, by omega, by omega, rfl⟩⟩
end Go.Proofs.Ytaipgdhaoldhjaa
