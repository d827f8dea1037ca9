/-
  Lemmas and contracts on the way to the laws of this seat; each theorem states its own conditions, and there are no others.
-/
import Derived.Test.YtaipgdhaoldhjaaVE

namespace Go.Proofs.Ytaipgdhaoldhjaa
open Go
set_option linter.unusedVariables false
set_option linter.unusedSimpArgs false
set_option linter.unusedVariables false

def equal (k : Int) (m : Nat) : List Int := (List.range m).map fun i : Nat => k / (m : Int) + if (i : Int) < k.tmod m then 1 else 0
theorem equal_nth {k : Int} {m i : Nat} (h : i < m) : (equal k m).getD i 0 = k / (m : Int) + if (i : Int) < k.tmod m then 1 else 0 := by
  simp [equal, List.getD_eq_getElem?_getD, h]
theorem equal_sumF (q r : Int) (hr : 0 ≤ r) (n : Nat) : sumF (fun i => q + if (i : Int) < r then 1 else 0) n = n * q + min (n : Int) r := by
  induction n with
  | zero => simp [sumF]; omega
  | succ n ih =>
    simp only [sumF, ih]
    have e : ((n + 1 : Nat) : Int) * q = n * q + q := by rw [show ((n + 1 : Nat) : Int) = (n : Int) + 1 from rfl, Int.add_mul]; omega
    rw [e]
    split <;> omega
theorem nth_replicate {c : Int} {m i : Nat} (h : i < m) : nth (List.replicate m c) i = c := by simp [nth, h]
theorem equal_part {k : Int} {m : Nat} (hm : 0 < m) (hk : 0 ≤ k ∧ k ≤ 65536) : Part k (List.replicate m 7) (List.replicate m 65536) (equal k m) := by
  have hq : 0 ≤ k / (m : Int) ∧ k / (m : Int) ≤ k := ⟨Int.ediv_nonneg (by omega) (by omega), Int.ediv_le_self _ (by omega)⟩
  have hr : k.tmod m = k % m := Int.tmod_eq_emod_of_nonneg hk.1
  have hr0 : 0 ≤ k % (m : Int) := Int.emod_nonneg _ (by omega)
  have hr1 : k % (m : Int) < m := Int.emod_lt_of_pos _ (by omega)
  have hdm := Int.mul_ediv_add_emod k m
  have hlen : (equal k m).length = m := by simp [equal]
  have hq1 : 1 ≤ k % (m : Int) → k / (m : Int) + 1 ≤ 65536 := fun h => by
    have : 1 * (k / (m : Int)) ≤ m * (k / (m : Int)) := Int.mul_le_mul_of_nonneg_right (by omega) hq.1
    omega
  refine ⟨by simp [hlen], fun i hi => ?_, fun i hi => ?_, ?_, fun i j hi hj hij h1 h2 => ?_⟩
  · rw [List.length_replicate] at hi
    show 0 ≤ (equal k m).getD i 0
    rw [equal_nth hi]; split <;> omega
  · rw [List.length_replicate] at hi
    rw [nth_replicate hi]
    show (equal k m).getD i 0 ≤ _
    rw [equal_nth hi, hr]; split
    · have := hq1 (by omega); omega
    · omega
  · have s1 : (equal k m).sum = k := by
      rw [← sumF_sum, hlen, sumF_congr (g := fun i : Nat => k / (m : Int) + if (i : Int) < k % m then 1 else 0) (fun i hi => by show (equal k m).getD i 0 = _; rw [equal_nth hi, hr]), equal_sumF _ _ hr0]
      omega
    have s2 : (List.replicate m (65536 : Int)).sum = m * 65536 := by
      rw [← sumF_sum, List.length_replicate, sumF_congr (g := fun _ => 65536) fun i hi => nth_replicate hi, sumF_const]
    rw [s1, s2]; omega
  · rw [List.length_replicate] at hi hj
    unfold Before
    rw [nth_replicate hi, nth_replicate hj]
    have ei : nth (equal k m) i = _ := equal_nth hi
    have ej : nth (equal k m) j = _ := equal_nth hj
    rw [ei, ej]
    split <;> split <;> omega

def inv3 (L : List Int) (f : Int) (s : St) : Inv where
  X := List Int × List Int × Int × Int
  ok := fun x => x.1.length = x.2.1.length ∧ (x.1.length : Int) + x.2.2.2 ≤ 5 ∧ 1 ≤ (x.1.length : Int) + x.2.2.2 ∧ In 1 90 x.1 ∧ In 0 600 x.2.1 ∧ DOK (L, x.2.2.1) ∧ 0 ≤ x.2.2.2
  sl := fun x => [(14, .int .i64 x.2.2.2), (9, .own 101 0), (10, .own 103 0), (11, .own 105 0), (12, .own 107 0), (13, .own 109 0)]
  hp := fun x => [(40010, diceO (L, x.2.2.1)), (101, .rows 3 0 x.1), (103, .rows 3 0 (x.1.map fun y : Int => y * (1 + f.tmod 100))), (105, .rows 3 0 x.2.1), (107, .rows 3 0 (List.replicate x.1.length (7 : Int))), (109, .rows 3 0 (List.replicate x.1.length (65536 : Int)))]
  keep := []
  me := fun x => x.2.2.2.toNat
def inv3a (s : St) : Inv where
  X := Int
  ok := fun i => 0 ≤ i ∧ i ≤ slotI s 82
  sl := fun i => [(83, .int .i64 i), (16, .own 101 0)]
  hp := fun i => [(101, .rows 3 0 (contI s (s.t 16)))]
  keep := []
  me := fun i => (slotI s 82 - i).toNat
set_option maxRecDepth 100000 in
theorem vc3 (L : List Int) (n f : Int) (hx : (0 ≤ n ∧ n ≤ 65535) ∧ 0 ≤ f ∧ f ≤ 255) : sLaw168.vc (EV Try.prog [(8, sLight.spec), (9, sSane.spec), (10, sRoll.spec), (13, sDivide.spec), (11, sNext.spec), (12, sSame.spec)] (invsS [(7, inv3 L f), (18, inv3a)]) noInv) Try.f3 (L, n, f, ()) := by
  have e : (True ∧ ((!Decidable.decide ((↑L.length : Int) ≤ (600 : Int))) = Bool.true → True ∧ ∃ (y : Unit), True ∧ Bool.true = Bool.true) ∧ ((!Decidable.decide ((↑L.length : Int) ≤ (600 : Int))) = Bool.false → True ∧ i64R n ∧ (0 : Int) < (2000 : Int) ∧ (DOK (L, (0 : Int)) ∧ (5 : Int) ≤ (4611686018427387904 : Int)) ∧ (∀ (y : Int × Int), Bool.true = Bool.true) ∧ ∀ (y : Int × Int), ((1 : Int) ≤ (5 : Int) → (0 : Int) ≤ y.fst ∧ y.fst < (5 : Int)) ∧ ((5 : Int) < (1 : Int) → y.fst = (0 : Int)) ∧ (0 : Int) ≤ y.snd ∧ y.snd ≤ (↑L.length : Int) → i64R ((1 : Int) + y.fst) ∧ (∃ (x : List Int × List Int × Int × Int), (x.fst.length = x.snd.fst.length ∧ (↑x.fst.length : Int) + x.snd.snd.snd ≤ (5 : Int) ∧ (1 : Int) ≤ (↑x.fst.length : Int) + x.snd.snd.snd ∧ In (1 : Int) (90 : Int) x.fst ∧ In (0 : Int) (600 : Int) x.snd.fst ∧ DOK (L, x.snd.snd.fst) ∧ (0 : Int) ≤ x.snd.snd.snd) ∧ (1 : Int) + y.fst = x.snd.snd.snd ∧ L = L ∧ y.snd = x.snd.snd.fst ∧ NilL Int = x.fst ∧ NilL Int = List.map (fun (y : Int) ↦ y * ((1 : Int) + f.tmod (100 : Int))) x.fst ∧ NilL Int = x.snd.fst ∧ NilL Int = List.replicate x.fst.length (7 : Int) ∧ NilL Int = List.replicate x.fst.length (65536 : Int)) ∧ ∀ (x : List Int × List Int × Int × Int), x.fst.length = x.snd.fst.length ∧ (↑x.fst.length : Int) + x.snd.snd.snd ≤ (5 : Int) ∧ (1 : Int) ≤ (↑x.fst.length : Int) + x.snd.snd.snd ∧ In (1 : Int) (90 : Int) x.fst ∧ In (0 : Int) (600 : Int) x.snd.fst ∧ DOK (L, x.snd.snd.fst) ∧ (0 : Int) ≤ x.snd.snd.snd → (Decidable.decide ((0 : Int) < x.snd.snd.snd) = Bool.true → (DOK (L, x.snd.snd.fst) ∧ (90 : Int) ≤ (4611686018427387904 : Int)) ∧ (∀ (y : Int × Int), Bool.true = Bool.true) ∧ ∀ (y : Int × Int), ((1 : Int) ≤ (90 : Int) → (0 : Int) ≤ y.fst ∧ y.fst < (90 : Int)) ∧ ((90 : Int) < (1 : Int) → y.fst = (0 : Int)) ∧ x.snd.snd.fst ≤ y.snd ∧ y.snd ≤ (↑L.length : Int) → i64R ((1 : Int) + y.fst) ∧ x.fst.length + (((1 : Int) + y.fst) :: NilL Int).length ≤ (1099511627776 : Nat) ∧ (0 : Int) < (100 : Int) ∧ i64R (f.tmod (100 : Int)) ∧ i64R ((1 : Int) + f.tmod (100 : Int)) ∧ i64R (((1 : Int) + y.fst) * ((1 : Int) + f.tmod (100 : Int))) ∧ (List.map (fun (y : Int) ↦ y * ((1 : Int) + f.tmod (100 : Int))) x.fst).length + (((1 : Int) + y.fst) * ((1 : Int) + f.tmod (100 : Int)) :: NilL Int).length ≤ (1099511627776 : Nat) ∧ (DOK (L, y.snd) ∧ (600 : Int) ≤ (4611686018427387904 : Int)) ∧ (∀ (y : Int × Int), Bool.true = Bool.true) ∧ ∀ (y_1 : Int × Int), ((1 : Int) ≤ (600 : Int) → (0 : Int) ≤ y_1.fst ∧ y_1.fst < (600 : Int)) ∧ ((600 : Int) < (1 : Int) → y_1.fst = (0 : Int)) ∧ y.snd ≤ y_1.snd ∧ y_1.snd ≤ (↑L.length : Int) → x.snd.fst.length + (y_1.fst :: NilL Int).length ≤ (1099511627776 : Nat) ∧ (List.replicate x.fst.length (7 : Int)).length + ((7 : Int) :: NilL Int).length ≤ (1099511627776 : Nat) ∧ (List.replicate x.fst.length (65536 : Int)).length + ((65536 : Int) :: NilL Int).length ≤ (1099511627776 : Nat) ∧ i64R (x.snd.snd.snd - (1 : Int)) ∧ ∃ (x' : List Int × List Int × Int × Int), (x'.fst.length = x'.snd.fst.length ∧ (↑x'.fst.length : Int) + x'.snd.snd.snd ≤ (5 : Int) ∧ (1 : Int) ≤ (↑x'.fst.length : Int) + x'.snd.snd.snd ∧ In (1 : Int) (90 : Int) x'.fst ∧ In (0 : Int) (600 : Int) x'.snd.fst ∧ DOK (L, x'.snd.snd.fst) ∧ (0 : Int) ≤ x'.snd.snd.snd) ∧ x'.snd.snd.snd.toNat < x.snd.snd.snd.toNat ∧ x.snd.snd.snd - (1 : Int) = x'.snd.snd.snd ∧ L = L ∧ y_1.snd = x'.snd.snd.fst ∧ x.fst ++ ((1 : Int) + y.fst) :: NilL Int = x'.fst ∧ List.map (fun (y : Int) ↦ y * ((1 : Int) + f.tmod (100 : Int))) x.fst ++ ((1 : Int) + y.fst) * ((1 : Int) + f.tmod (100 : Int)) :: NilL Int = List.map (fun (y : Int) ↦ y * ((1 : Int) + f.tmod (100 : Int))) x'.fst ∧ x.snd.fst ++ y_1.fst :: NilL Int = x'.snd.fst ∧ List.replicate x.fst.length (7 : Int) ++ (7 : Int) :: NilL Int = List.replicate x'.fst.length (7 : Int) ∧ List.replicate x.fst.length (65536 : Int) ++ (65536 : Int) :: NilL Int = List.replicate x'.fst.length (65536 : Int)) ∧ (Decidable.decide ((0 : Int) < x.snd.snd.snd) = Bool.false → (Units (n.tmod (2000 : Int)) ∧ InOK x.fst x.snd.fst) ∧ (∀ (y : List Int), Bool.true = Bool.true) ∧ ∀ (y : List Int), Part (n.tmod (2000 : Int)) x.fst x.snd.fst y → (Units (n.tmod (2000 : Int)) ∧ InOK (List.map (fun (y : Int) ↦ y * ((1 : Int) + f.tmod (100 : Int))) x.fst) x.snd.fst) ∧ (∀ (y : List Int), Bool.true = Bool.true) ∧ ∀ (y_1 : List Int), Part (n.tmod (2000 : Int)) (List.map (fun (y : Int) ↦ y * ((1 : Int) + f.tmod (100 : Int))) x.fst) x.snd.fst y_1 → y.length ≤ (1048576 : Nat) ∧ ((!Decidable.decide (y = y_1)) = Bool.true → ∃ (y : Unit), True ∧ Bool.false = Bool.true) ∧ ((!Decidable.decide (y = y_1)) = Bool.false → (Units (n.tmod (2000 : Int)) ∧ InOK (List.replicate x.fst.length (7 : Int)) (List.replicate x.fst.length (65536 : Int))) ∧ (∀ (y : List Int), Bool.true = Bool.true) ∧ ∀ (y : List Int), Part (n.tmod (2000 : Int)) (List.replicate x.fst.length (7 : Int)) (List.replicate x.fst.length (65536 : Int)) y → ((!Decidable.decide ((↑y.length : Int) = (↑(List.replicate x.fst.length (7 : Int)).length : Int))) = Bool.true → ∃ (y : Unit), True ∧ Bool.false = Bool.true) ∧ ((!Decidable.decide ((↑y.length : Int) = (↑(List.replicate x.fst.length (7 : Int)).length : Int))) = Bool.false → (∃ (x : Int), ((0 : Int) ≤ x ∧ x ≤ (↑y.length : Int)) ∧ (0 : Int) = x ∧ y = y) ∧ ∀ (x : Int), (0 : Int) ≤ x ∧ x ≤ (↑y.length : Int) → (Decidable.decide (x < (↑y.length : Int)) = Bool.true → ((0 : Int) ≤ n.tmod (2000 : Int) ∧ (0 : Int) < (↑y.length : Int)) ∧ i64R (n.tmod (2000 : Int)) ∧ (0 : Int) < (↑y.length : Int) ∧ (Decidable.decide (x < (n.tmod (2000 : Int)).tmod (↑y.length : Int)) = Bool.true → i64R (n.tmod (2000 : Int) / (↑y.length : Int) + (1 : Int)) ∧ ((0 : Int) ≤ x ∧ x < (↑y.length : Int)) ∧ ((!Decidable.decide (y.getD x.toNat (0 : Int) = n.tmod (2000 : Int) / (↑y.length : Int) + (1 : Int))) = Bool.true → ∃ (y : Unit), True ∧ Bool.false = Bool.true) ∧ ((!Decidable.decide (y.getD x.toNat (0 : Int) = n.tmod (2000 : Int) / (↑y.length : Int) + (1 : Int))) = Bool.false → i64R (x + (1 : Int)) ∧ ∃ (x' : Int), ((0 : Int) ≤ x' ∧ x' ≤ (↑y.length : Int)) ∧ ((↑y.length : Int) - x').toNat < ((↑y.length : Int) - x).toNat ∧ x + (1 : Int) = x' ∧ y = y)) ∧ (Decidable.decide (x < (n.tmod (2000 : Int)).tmod (↑y.length : Int)) = Bool.false → ((0 : Int) ≤ x ∧ x < (↑y.length : Int)) ∧ ((!Decidable.decide (y.getD x.toNat (0 : Int) = n.tmod (2000 : Int) / (↑y.length : Int))) = Bool.true → ∃ (y : Unit), True ∧ Bool.false = Bool.true) ∧ ((!Decidable.decide (y.getD x.toNat (0 : Int) = n.tmod (2000 : Int) / (↑y.length : Int))) = Bool.false → i64R (x + (1 : Int)) ∧ ∃ (x' : Int), ((0 : Int) ≤ x' ∧ x' ≤ (↑y.length : Int)) ∧ ((↑y.length : Int) - x').toNat < ((↑y.length : Int) - x).toNat ∧ x + (1 : Int) = x' ∧ y = y))) ∧ (Decidable.decide (x < (↑y.length : Int)) = Bool.false → True ∧ ∃ (y : Unit), True ∧ Bool.true = Bool.true)))))) = sLaw168.vc (EV Try.prog [(8, sLight.spec), (9, sSane.spec), (10, sRoll.spec), (13, sDivide.spec), (11, sNext.spec), (12, sSame.spec)] (invsS [(7, inv3 L f), (18, inv3a)]) noInv) Try.f3 (L, n, f, ()) := by kernel_rfl
  rw [← e]
  clear e
  have ht : 0 ≤ n.tmod 2000 ∧ n.tmod 2000 < 2000 := ⟨Int.tmod_nonneg _ hx.1.1, Int.tmod_lt_of_pos _ (by omega)⟩
  have hc : 0 ≤ f.tmod 100 ∧ f.tmod 100 < 100 := ⟨Int.tmod_nonneg _ hx.2.1, Int.tmod_lt_of_pos _ (by omega)⟩
  generalize n.tmod 2000 = K at *
  generalize f.tmod 100 = c at *
  simp only [Prod.forall, Prod.exists, exists_const, implies_true, not_true_eq_false, not_false_eq_true, or_self, or_false, false_or, or_true, true_or, and_false, false_and, forall_const, true_and, and_true, i64R, imp_self, Int.reduceLE, Int.reduceLT, Int.reduceNeg, false_implies, true_implies, decide_eq_true_eq, decide_eq_false_iff_not, Bool.not_eq_true', Bool.not_eq_false', Bool.true_eq_false, Bool.false_eq_true, Bool.and_eq_true, Bool.or_eq_true, NilL_eq, Bool.and_eq_false_iff, Bool.or_eq_false_iff ]
  intro hl
  have hdk : ∀ j : Int, 0 ≤ j ∧ j ≤ L.length → DOK (L, j) := fun j h => ⟨h.1, h.2, by show L.length ≤ 600; omega⟩
  have hU : Units K := ⟨by omega, by omega⟩
  refine ⟨by omega, hdk _ (by omega), fun a b hab => ⟨by omega, ⟨[], [], b, 1 + a, ⟨rfl, by simp; omega, by simp; omega, In.nil, In.nil, hdk _ (by omega), by omega⟩, rfl, rfl, rfl, rfl, rfl, rfl, rfl⟩, fun w d k i hi => ?_⟩⟩
  obtain ⟨h1, h2, h3, h4, h5, h6, h7⟩ := hi
  have k0 := h6.lo
  have k1 := h6.hi
  have k0 : 0 ≤ k := k0
  have k1 : k ≤ L.length := k1
  refine ⟨fun hlt => ⟨h6, fun x b1 hx1 => ?_⟩, fun hge => ?_⟩
  · have m := mulb (A := 90) (B := 100) (a := 1 + x) (b := 1 + c) (by omega) (by omega)
    refine ⟨by omega, by simp; omega, by omega, by omega, by omega, by simp; omega, hdk _ (by omega), fun y b2 hy => ⟨by simp; omega, by simp; omega, by simp; omega, by omega, _, _, _, _, ⟨?_, ?_, ?_, h4.snoc (by omega), h5.snoc (by omega), hdk b2 (by omega), ?_⟩, ?_, rfl, rfl, rfl, ?_, rfl, ?_, ?_⟩⟩
    · simp; omega
    · simp; omega
    · simp; omega
    · omega
    · omega
    · simp
    · simp [List.replicate_succ']
    · simp [List.replicate_succ']
  · have hI : InOK w d := ⟨h1, by omega, fun i hi => by have := h4 i hi; omega, fun i hi => by have := h5 i hi; omega⟩
    have hnm : ∀ i, i < w.length → nth (w.map fun y : Int => y * (1 + c)) i = nth w i * (1 + c) := fun i hi => by simp [nth, hi]
    have hJ : InOK (w.map fun y : Int => y * (1 + c)) d := ⟨by simpa using h1, by omega, fun i hi => by
      have hi' : i < w.length := by simpa using hi
      rw [hnm i hi']
      have h := h4 i hi'
      have m := mulb (A := 90) (B := 100) (a := nth w i) (b := 1 + c) (by omega) (by omega)
      have m1 : 1 * (1 + c) ≤ nth w i * (1 + c) := Int.mul_le_mul_of_nonneg_right h.1 (by omega)
      omega, hI.d⟩
    have hR : InOK (List.replicate w.length 7) (List.replicate w.length 65536) := ⟨by simp, by simp; omega, In.repl _ (by omega), In.repl _ (by omega)⟩
    refine ⟨⟨hU, hI⟩, fun x hx => ⟨⟨hU, hJ⟩, fun y hy => ⟨by have := hx.len; omega, fun hne => hne ((hx.scale (c := 1 + c) (by omega) fun i hi => hnm i (by omega)).unique hJ.heavy hy), fun _ => ⟨⟨hU, hR⟩, fun z hz => ?_⟩⟩⟩⟩
    have hzl := hz.len
    rw [List.length_replicate] at hzl
    have hm : 0 < w.length := by omega
    have ez := hz.unique hR.heavy (equal_part hm ⟨by omega, by omega⟩)
    have hnz : ∀ j : Int, 0 ≤ j → j < w.length → z.getD j.toNat 0 = K / w.length + if j < K.tmod w.length then 1 else 0 := fun j j0 j1 => by
      rw [ez, equal_nth (by omega), show ((j.toNat : Nat) : Int) = j by omega]
    refine ⟨fun h => h (by simp; omega), fun _ => ⟨⟨0, by omega, rfl⟩, fun j hj hlt => ?_⟩⟩
    rw [hzl]
    have hq : 0 ≤ K / (w.length : Int) ∧ K / (w.length : Int) ≤ K := ⟨Int.ediv_nonneg (by omega) (by omega), Int.ediv_le_self _ (by omega)⟩
    have hv := hnz j hj.1 (by omega)
    refine ⟨by omega, by omega, by omega, fun h => ⟨by omega, by omega, fun hne => ?_, fun _ => ⟨by omega, j + 1, by omega, by omega, rfl⟩⟩, fun h => ⟨by omega, fun hne => ?_, fun _ => ⟨by omega, j + 1, by omega, by omega, rfl⟩⟩⟩
    · rw [if_pos h] at hv; exact hne hv
    · rw [if_neg h] at hv; exact hne (by omega)
end Go.Proofs.Ytaipgdhaoldhjaa
