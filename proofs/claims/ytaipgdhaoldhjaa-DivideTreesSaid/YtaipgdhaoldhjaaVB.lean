/-
  Lemmas and contracts on the way to the laws of this seat; each theorem states its own conditions, and there are no others.
-/
import Derived.Test.YtaipgdhaoldhjaaVA

namespace Go.Proofs.Ytaipgdhaoldhjaa
open Go
set_option linter.unusedVariables false
set_option linter.unusedSimpArgs false
set_option linter.unusedVariables false

/-- What first wants. -/
structure FstOK (w g d : List Int) : Prop where
  ok : InOK w d
  lg : g.length = d.length
  g : In 0 65536 g
theorem lvl_neg {w g : List Int} {i j : Int} : lvl w g i j < 0 ↔ (nth g i.toNat + 1) * nth w j.toNat < (nth g j.toNat + 1) * nth w i.toNat := by
  unfold lvl
  generalize (nth g i.toNat + 1) * nth w j.toNat = a
  generalize (nth g j.toNat + 1) * nth w i.toNat = b
  split
  · rename_i h; exact ⟨fun _ => h, fun _ => by omega⟩
  · split <;> constructor <;> intro h <;> omega
theorem cross_trans {a b c p q r : Int} (hp : 0 < p) (hq : 0 < q) (hr : 0 ≤ r) (h1 : a * p < b * r) (h2 : b * q ≤ c * p) : a * q < c * r := by
  have e1 : a * p * q < b * r * q := Int.mul_lt_mul_of_pos_right h1 hq
  have e2 : b * q * r ≤ c * p * r := Int.mul_le_mul_of_nonneg_right h2 hr
  refine Int.lt_of_mul_lt_mul_right (a := p) ?_ (Int.le_of_lt hp)
  have c1 : a * q * p = a * p * q := by rw [Int.mul_assoc, Int.mul_comm q, ← Int.mul_assoc]
  have c2 : b * r * q = b * q * r := by rw [Int.mul_assoc, Int.mul_comm r, ← Int.mul_assoc]
  have c3 : c * r * p = c * p * r := by rw [Int.mul_assoc, Int.mul_comm r, ← Int.mul_assoc]
  omega
theorem BestTo.zero (w n x : List Int) : BestTo w n x 0 (-1) := .inl ⟨rfl, fun j hj => by omega⟩
theorem BestTo.skip {w n x : List Int} {k : Nat} {b : Int} (h : BestTo w n x k b) (hk : ¬ nth x k < nth n k) : BestTo w n x (k + 1) b := by
  rcases h with ⟨h1, h2⟩ | ⟨h1, h2, h3, h4⟩
  · refine .inl ⟨h1, fun j hj => ?_⟩
    by_cases e : j = k
    · subst e; exact hk
    · exact h2 j (by omega)
  · refine .inr ⟨h1, by omega, h3, fun j hj hjb hr => ?_⟩
    by_cases e : j = k
    · subst e; exact absurd hr hk
    · exact h4 j (by omega) hjb hr
theorem BestTo.take {w n x : List Int} {k : Nat} {b : Int} (hw : ∀ i, i ≤ k → 1 ≤ nth w i) (h : BestTo w n x k b) (hk : nth x k < nth n k) (hb : b < 0 ∨ (nth x k + 1) * nth w b.toNat < (nth x b.toNat + 1) * nth w k) : BestTo w n x (k + 1) (k : Int) := by
  refine .inr ⟨by omega, by omega, by simpa using hk, fun j hj hjb hr => ?_⟩
  simp only [Int.toNat_natCast] at hjb ⊢
  rcases h with ⟨h1, h2⟩ | ⟨h1, h2, h3, h4⟩
  · exact absurd hr (h2 j (by omega))
  · rcases hb with hb | hb
    · omega
    · left
      by_cases e : j = b.toNat
      · subst e; exact hb
      · have wj := hw j (by omega)
        have wb := hw b.toNat (by omega)
        have wk := hw k (Nat.le_refl _)
        refine cross_trans (p := nth w b.toNat) (by omega) (by omega) (by omega) hb ?_
        rcases h4 j (by omega) e hr with h | h
        · exact Int.le_of_lt h
        · exact Int.le_of_eq h.1
theorem BestTo.stay {w n x : List Int} {k : Nat} {b : Int} (h : BestTo w n x k b) (hb : 0 ≤ b) (hn : ¬ (nth x k + 1) * nth w b.toNat < (nth x b.toNat + 1) * nth w k) : BestTo w n x (k + 1) b := by
  rcases h with ⟨h1, h2⟩ | ⟨h1, h2, h3, h4⟩
  · omega
  · refine .inr ⟨h1, by omega, h3, fun j hj hjb hr => ?_⟩
    by_cases e : j = k
    · subst e; omega
    · exact h4 j (by omega) hjb hr
theorem best_ex {w g d : List Int} (h : FstOK w g d) : ∃ b, BestTo w d g d.length b := by
  have key : ∀ k, k ≤ d.length → ∃ b, BestTo w d g k b := by
    intro k
    induction k with
    | zero => intro _; exact ⟨-1, BestTo.zero w d g⟩
    | succ k ih =>
      intro hk
      obtain ⟨b, hb⟩ := ih (by omega)
      have hw : ∀ i, i ≤ k → 1 ≤ nth w i := fun i hi => (h.ok.w i (by have := h.ok.len; omega)).1
      by_cases hr : nth g k < nth d k
      · by_cases hc : b < 0 ∨ (nth g k + 1) * nth w b.toNat < (nth g b.toNat + 1) * nth w k
        · exact ⟨_, hb.take hw hr hc⟩
        · exact ⟨b, hb.stay (by omega) (by omega)⟩
      · exact ⟨b, hb.skip hr⟩
  exact key _ (Nat.le_refl _)
theorem BestTo.best {w n x : List Int} {b : Int} (h : BestTo w n x n.length b) (hb : 0 ≤ b) : Best w n x b.toNat := by
  rcases h with ⟨h1, h2⟩ | ⟨h1, h2, h3, h4⟩
  · omega
  · exact ⟨by omega, h3, h4⟩
theorem BestTo.none {w n x : List Int} {b : Int} (h : BestTo w n x n.length b) (hb : ¬ 0 ≤ b) : ∀ j, j < n.length → ¬ nth x j < nth n j := by
  rcases h with ⟨h1, h2⟩ | ⟨h1, h2, h3, h4⟩
  · exact h2
  · omega
def sFirst : FSp := ⟨_, three pkInts pkInts pkInts, fun x => FstOK x.1 x.2.1 x.2.2.1, Int, fun x b => BestTo x.1 x.2.2.1 x.2.1 x.2.2.1.length b, fun _ b => .tup [.int .i64 (max b 0), .bool (decide (0 ≤ b))], fun _ _ => [], fun x h => best_ex h⟩

def inv22 (w g d : List Int) (s : St) : Inv where
  X := Int × Int
  ok := fun x => 0 ≤ x.1 ∧ x.1 ≤ d.length ∧ BestTo w d g x.1.toNat x.2
  sl := fun x => [(13, .int .i64 x.1), (8, .int .i64 x.2)]
  hp := fun _ => []
  keep := []
  me := fun x => (d.length - x.1).toNat
set_option maxRecDepth 100000 in
theorem vc22 (w g d : List Int) (hx : FstOK w g d) : sFirst.vc (EV Try.prog [(23, sLevel.spec)] (invsS [(3, inv22 w g d)]) noInv) Try.f22 (w, g, d, ()) := by
  have e : ((∃ (x : Int × Int), ((0 : Int) ≤ x.fst ∧ x.fst ≤ (↑d.length : Int) ∧ BestTo w d g x.fst.toNat x.snd) ∧ (0 : Int) = x.fst ∧ (-1 : Int) = x.snd) ∧ ∀ (x : Int × Int), (0 : Int) ≤ x.fst ∧ x.fst ≤ (↑d.length : Int) ∧ BestTo w d g x.fst.toNat x.snd → (Decidable.decide (x.fst < (↑d.length : Int)) = Bool.true → ((0 : Int) ≤ x.fst ∧ x.fst < (↑d.length : Int)) ∧ ((0 : Int) ≤ x.fst ∧ x.fst < (↑g.length : Int)) ∧ (Decidable.decide (g.getD x.fst.toNat (0 : Int) < d.getD x.fst.toNat (0 : Int)) = Bool.true → Decidable.decide (g.getD x.fst.toNat (0 : Int) < d.getD x.fst.toNat (0 : Int)) = Bool.true) ∧ (Decidable.decide (g.getD x.fst.toNat (0 : Int) < d.getD x.fst.toNat (0 : Int)) = Bool.true → Decidable.decide (g.getD x.fst.toNat (0 : Int) < d.getD x.fst.toNat (0 : Int)) = Bool.true) ∧ ((Decidable.decide (g.getD x.fst.toNat (0 : Int) < d.getD x.fst.toNat (0 : Int)) && !Decidable.decide (x.snd < (0 : Int))) = Bool.true → (Decidable.decide (g.getD x.fst.toNat (0 : Int) < d.getD x.fst.toNat (0 : Int)) && !Decidable.decide (x.snd < (0 : Int))) = Bool.true) ∧ ((Decidable.decide (g.getD x.fst.toNat (0 : Int) < d.getD x.fst.toNat (0 : Int)) && !Decidable.decide (x.snd < (0 : Int))) = Bool.true → (Decidable.decide (g.getD x.fst.toNat (0 : Int) < d.getD x.fst.toNat (0 : Int)) && !Decidable.decide (x.snd < (0 : Int))) = Bool.true) ∧ ((Decidable.decide (g.getD x.fst.toNat (0 : Int) < d.getD x.fst.toNat (0 : Int)) && !Decidable.decide (x.snd < (0 : Int))) = Bool.true → (Decidable.decide (g.getD x.fst.toNat (0 : Int) < d.getD x.fst.toNat (0 : Int)) && !Decidable.decide (x.snd < (0 : Int))) = Bool.true) ∧ ((Decidable.decide (g.getD x.fst.toNat (0 : Int) < d.getD x.fst.toNat (0 : Int)) && !Decidable.decide (x.snd < (0 : Int))) = Bool.true → (Decidable.decide (g.getD x.fst.toNat (0 : Int) < d.getD x.fst.toNat (0 : Int)) && !Decidable.decide (x.snd < (0 : Int))) = Bool.true) ∧ ((Decidable.decide (g.getD x.fst.toNat (0 : Int) < d.getD x.fst.toNat (0 : Int)) && !Decidable.decide (x.snd < (0 : Int))) = Bool.true → LvlOK w g x.fst x.snd) ∧ ((Decidable.decide (g.getD x.fst.toNat (0 : Int) < d.getD x.fst.toNat (0 : Int)) && !Decidable.decide (x.snd < (0 : Int))) = Bool.true → (Decidable.decide (g.getD x.fst.toNat (0 : Int) < d.getD x.fst.toNat (0 : Int)) && !Decidable.decide (x.snd < (0 : Int))) = Bool.true) ∧ (Decidable.decide (g.getD x.fst.toNat (0 : Int) < d.getD x.fst.toNat (0 : Int)) = Bool.true → Decidable.decide (g.getD x.fst.toNat (0 : Int) < d.getD x.fst.toNat (0 : Int)) = Bool.true) ∧ (Decidable.decide (g.getD x.fst.toNat (0 : Int) < d.getD x.fst.toNat (0 : Int)) = Bool.true → Decidable.decide (x.snd < (0 : Int)) = Bool.false → (Decidable.decide (g.getD x.fst.toNat (0 : Int) < d.getD x.fst.toNat (0 : Int)) && !Decidable.decide (x.snd < (0 : Int))) = Bool.true) ∧ (Decidable.decide (g.getD x.fst.toNat (0 : Int) < d.getD x.fst.toNat (0 : Int)) = Bool.true → Decidable.decide (g.getD x.fst.toNat (0 : Int) < d.getD x.fst.toNat (0 : Int)) = Bool.true) ∧ ((Decidable.decide (g.getD x.fst.toNat (0 : Int) < d.getD x.fst.toNat (0 : Int)) && (Decidable.decide (x.snd < (0 : Int)) || Decidable.decide (lvl w g x.fst x.snd < (0 : Int)))) = Bool.true → i64R (x.fst + (1 : Int)) ∧ ∃ (x' : Int × Int), ((0 : Int) ≤ x'.fst ∧ x'.fst ≤ (↑d.length : Int) ∧ BestTo w d g x'.fst.toNat x'.snd) ∧ ((↑d.length : Int) - x'.fst).toNat < ((↑d.length : Int) - x.fst).toNat ∧ x.fst + (1 : Int) = x'.fst ∧ x.fst = x'.snd) ∧ ((Decidable.decide (g.getD x.fst.toNat (0 : Int) < d.getD x.fst.toNat (0 : Int)) && (Decidable.decide (x.snd < (0 : Int)) || Decidable.decide (lvl w g x.fst x.snd < (0 : Int)))) = Bool.false → i64R (x.fst + (1 : Int)) ∧ ∃ (x' : Int × Int), ((0 : Int) ≤ x'.fst ∧ x'.fst ≤ (↑d.length : Int) ∧ BestTo w d g x'.fst.toNat x'.snd) ∧ ((↑d.length : Int) - x'.fst).toNat < ((↑d.length : Int) - x.fst).toNat ∧ x.fst + (1 : Int) = x'.fst ∧ x.snd = x'.snd)) ∧ (Decidable.decide (x.fst < (↑d.length : Int)) = Bool.false → ∃ (y : Int), BestTo w d g d.length y ∧ Max.max x.snd (0 : Int) = Max.max y (0 : Int) ∧ Decidable.decide ((0 : Int) ≤ x.snd) = Decidable.decide ((0 : Int) ≤ y))) = sFirst.vc (EV Try.prog [(23, sLevel.spec)] (invsS [(3, inv22 w g d)]) noInv) Try.f22 (w, g, d, ()) := by kernel_rfl
  rw [← e]
  clear e
  simp only [Prod.forall, Prod.exists, exists_const, implies_true, not_true_eq_false, not_false_eq_true, or_self, or_false, false_or, or_true, true_or, and_false, false_and, forall_const, true_and, and_true, i64R, imp_self, Int.reduceLE, Int.reduceLT, Int.reduceNeg, false_implies, true_implies, decide_eq_true_eq, decide_eq_false_iff_not, Bool.not_eq_true', Bool.not_eq_false', Bool.true_eq_false, Bool.false_eq_true, Bool.and_eq_true, Bool.or_eq_true, NilL_eq, Bool.and_eq_false_iff, Bool.or_eq_false_iff ]
  have hlw := hx.ok.len
  have hlg := hx.lg
  have hn := hx.ok.n
  refine ⟨⟨0, -1, ⟨by omega, by omega, BestTo.zero w d g⟩, rfl, rfl⟩, fun i b hi => ?_⟩
  obtain ⟨i0, i1, hb⟩ := hi
  have hb1 : b = -1 ∨ (0 ≤ b ∧ b < i) := by
    rcases hb with ⟨h, _⟩ | ⟨h1, h2, _⟩
    · exact .inl h
    · right; omega
  refine ⟨fun hlt => ?_, fun hge => ⟨b, ?_, rfl, rfl⟩⟩
  · have hw : ∀ j, j ≤ i.toNat → 1 ≤ nth w j := fun j hj => (hx.ok.w j (by omega)).1
    have e1 : (i + 1).toNat = i.toNat + 1 := by omega
    have e2 : ((i.toNat : Nat) : Int) = i := by omega
    refine ⟨⟨i0, hlt⟩, ⟨i0, by omega⟩, fun h => ⟨i0, by omega, by omega, by omega, by omega, by omega, hx.ok.w, hx.g, by omega, by omega⟩, fun h1 h2 => ⟨h1, h2⟩, fun h => ⟨by omega, i + 1, i, ⟨by omega, by omega, ?_⟩, by omega, rfl, rfl⟩, fun h => ⟨by omega, i + 1, b, ⟨by omega, by omega, ?_⟩, by omega, rfl, rfl⟩⟩
    · rw [e1]
      have := hb.take hw h.1 (by rw [lvl_neg] at h; exact h.2)
      rwa [e2] at this
    · rw [e1]
      by_cases hr : nth g i.toNat < nth d i.toNat
      · rcases h with h | h
        · exact absurd hr h
        · rw [lvl_neg] at h
          exact hb.stay (by omega) h.2
      · exact hb.skip hr
  · have : i.toNat = d.length := by omega
    rw [← this]; exact hb


set_option maxRecDepth 100000 in
theorem vc15 (w g d : List Int) (hx : FstOK w g d) : sFirst.vc (EV Try.prog [(22, sFirst.spec), (21, sWithin.spec)] noInv noInv) Try.f15 (w, g, d, ()) := by
  have e : (((!Decidable.decide ((↑w.length : Int) = (↑g.length : Int))) = Bool.false → (!Decidable.decide ((↑w.length : Int) = (↑g.length : Int))) = Bool.false) ∧ ((!Decidable.decide ((↑w.length : Int) = (↑g.length : Int))) = Bool.false → (!Decidable.decide ((↑w.length : Int) = (↑g.length : Int))) = Bool.false) ∧ ((!Decidable.decide ((↑w.length : Int) = (↑g.length : Int))) = Bool.false → (!Decidable.decide ((↑w.length : Int) = (↑g.length : Int))) = Bool.false) ∧ ((!Decidable.decide ((↑w.length : Int) = (↑g.length : Int))) = Bool.false → (!Decidable.decide ((↑w.length : Int) = (↑g.length : Int))) = Bool.false) ∧ ((!Decidable.decide ((↑w.length : Int) = (↑g.length : Int))) = Bool.false → (!Decidable.decide ((↑w.length : Int) = (↑g.length : Int))) = Bool.false) ∧ ((!Decidable.decide ((↑w.length : Int) = (↑g.length : Int)) || !Decidable.decide ((↑w.length : Int) = (↑d.length : Int))) = Bool.false → (!Decidable.decide ((↑w.length : Int) = (↑g.length : Int)) || !Decidable.decide ((↑w.length : Int) = (↑d.length : Int))) = Bool.false) ∧ ((!Decidable.decide ((↑w.length : Int) = (↑g.length : Int)) || !Decidable.decide ((↑w.length : Int) = (↑d.length : Int))) = Bool.false → In (1 : Int) (10000 : Int) w ∧ w.length ≤ (1048576 : Nat)) ∧ ((!Decidable.decide ((↑w.length : Int) = (↑g.length : Int)) || !Decidable.decide ((↑w.length : Int) = (↑d.length : Int))) = Bool.false → (!Decidable.decide ((↑w.length : Int) = (↑g.length : Int)) || !Decidable.decide ((↑w.length : Int) = (↑d.length : Int))) = Bool.false) ∧ ((!Decidable.decide ((↑w.length : Int) = (↑g.length : Int)) || !Decidable.decide ((↑w.length : Int) = (↑d.length : Int))) = Bool.false → (!Decidable.decide ((↑w.length : Int) = (↑g.length : Int)) || !Decidable.decide ((↑w.length : Int) = (↑d.length : Int))) = Bool.false) ∧ ((!Decidable.decide ((↑w.length : Int) = (↑g.length : Int)) || !Decidable.decide ((↑w.length : Int) = (↑d.length : Int)) || !Bool.true) = Bool.false → (!Decidable.decide ((↑w.length : Int) = (↑g.length : Int)) || !Decidable.decide ((↑w.length : Int) = (↑d.length : Int)) || !Bool.true) = Bool.false) ∧ ((!Decidable.decide ((↑w.length : Int) = (↑g.length : Int)) || !Decidable.decide ((↑w.length : Int) = (↑d.length : Int)) || !Bool.true) = Bool.false → In (0 : Int) (65536 : Int) g ∧ g.length ≤ (1048576 : Nat)) ∧ ((!Decidable.decide ((↑w.length : Int) = (↑g.length : Int)) || !Decidable.decide ((↑w.length : Int) = (↑d.length : Int)) || !Bool.true) = Bool.false → (!Decidable.decide ((↑w.length : Int) = (↑g.length : Int)) || !Decidable.decide ((↑w.length : Int) = (↑d.length : Int)) || !Bool.true) = Bool.false) ∧ ((!Decidable.decide ((↑w.length : Int) = (↑g.length : Int)) || !Decidable.decide ((↑w.length : Int) = (↑d.length : Int)) || !Bool.true) = Bool.false → (!Decidable.decide ((↑w.length : Int) = (↑g.length : Int)) || !Decidable.decide ((↑w.length : Int) = (↑d.length : Int)) || !Bool.true) = Bool.false) ∧ ((!Decidable.decide ((↑w.length : Int) = (↑g.length : Int)) || !Decidable.decide ((↑w.length : Int) = (↑d.length : Int)) || !Bool.true || !Bool.true) = Bool.false → (!Decidable.decide ((↑w.length : Int) = (↑g.length : Int)) || !Decidable.decide ((↑w.length : Int) = (↑d.length : Int)) || !Bool.true || !Bool.true) = Bool.false) ∧ ((!Decidable.decide ((↑w.length : Int) = (↑g.length : Int)) || !Decidable.decide ((↑w.length : Int) = (↑d.length : Int)) || !Bool.true || !Bool.true) = Bool.false → In (0 : Int) (65536 : Int) d ∧ d.length ≤ (1048576 : Nat)) ∧ ((!Decidable.decide ((↑w.length : Int) = (↑g.length : Int)) || !Decidable.decide ((↑w.length : Int) = (↑d.length : Int)) || !Bool.true || !Bool.true) = Bool.false → (!Decidable.decide ((↑w.length : Int) = (↑g.length : Int)) || !Decidable.decide ((↑w.length : Int) = (↑d.length : Int)) || !Bool.true || !Bool.true) = Bool.false) ∧ ((!Decidable.decide ((↑w.length : Int) = (↑g.length : Int)) || !Decidable.decide ((↑w.length : Int) = (↑d.length : Int)) || !Bool.true || !Bool.true) = Bool.false → (!Decidable.decide ((↑w.length : Int) = (↑g.length : Int)) || !Decidable.decide ((↑w.length : Int) = (↑d.length : Int)) || !Bool.true || !Bool.true) = Bool.false) ∧ ((!Decidable.decide ((↑w.length : Int) = (↑g.length : Int)) || !Decidable.decide ((↑w.length : Int) = (↑d.length : Int)) || !Bool.true || !Bool.true || !Bool.true) = Bool.true → ∃ (y : Int), BestTo w d g d.length y ∧ (0 : Int) = Max.max y (0 : Int) ∧ Bool.false = Decidable.decide ((0 : Int) ≤ y)) ∧ ((!Decidable.decide ((↑w.length : Int) = (↑g.length : Int)) || !Decidable.decide ((↑w.length : Int) = (↑d.length : Int)) || !Bool.true || !Bool.true || !Bool.true) = Bool.false → FstOK w g d ∧ (∀ (y : Int), Bool.true = Bool.true) ∧ ∀ (y : Int), BestTo w d g d.length y → ∃ (y_1 : Int), BestTo w d g d.length y_1 ∧ Max.max y (0 : Int) = Max.max y_1 (0 : Int) ∧ Decidable.decide ((0 : Int) ≤ y) = Decidable.decide ((0 : Int) ≤ y_1))) = sFirst.vc (EV Try.prog [(22, sFirst.spec), (21, sWithin.spec)] noInv noInv) Try.f15 (w, g, d, ()) := by kernel_rfl
  rw [← e]
  clear e
  simp only [Prod.forall, Prod.exists, exists_const, implies_true, not_true_eq_false, not_false_eq_true, or_self, or_false, false_or, or_true, true_or, and_false, false_and, forall_const, true_and, and_true, i64R, imp_self, Int.reduceLE, Int.reduceLT, Int.reduceNeg, false_implies, true_implies, decide_eq_true_eq, decide_eq_false_iff_not, Bool.not_eq_true', Bool.not_eq_false', Bool.true_eq_false, Bool.false_eq_true, Bool.and_eq_true, Bool.or_eq_true, NilL_eq, Bool.and_eq_false_iff, Bool.or_eq_false_iff ]
  have hlw := hx.ok.len
  have hlg := hx.lg
  have hn := hx.ok.n
  exact ⟨fun _ => ⟨hx.ok.w, by omega⟩, fun _ => ⟨hx.g, by omega⟩, fun _ => ⟨hx.ok.d, by omega⟩, fun h => by exfalso; omega, fun _ => ⟨hx, fun y hy => ⟨y, hy, rfl, rfl⟩⟩⟩
end Go.Proofs.Ytaipgdhaoldhjaa
