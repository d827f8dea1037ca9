/-
  Lemmas and contracts on the way to the laws of this seat; each theorem states its own conditions, and there are no others.
-/
import Derived.Test.YtdajfecndfkecaaChecked
import Derived.WalkKit
import Derived.Below
import Derived.Lib.Hide
import Derived.Outline
import Derived.BigQuiet
import Derived.Deep.QuietTactic
namespace Go.Proofs.Ytdajfecndfkecaa
open Go.RowKit

theorem bcell {W w1 : World} (hb : Below W.heap.size W w1) : (∀ b o, b < W.heap.size → w1.cell? ⟨b, o, none⟩ = W.cell? ⟨b, o, none⟩) ∧ (∀ b o, b < W.heap.size → w1.frozen? ⟨b, o, none⟩ = W.frozen? ⟨b, o, none⟩) :=
  ⟨fun b o h => hb.cell (p := ⟨b, o, none⟩) h, fun b o h => hb.frozen (p := ⟨b, o, none⟩) h⟩

@[simp high] theorem cell?_setCell_map (w : World) (b o : Nat) (v : Value) : (w.setCell ⟨b, o, none⟩ v).cell? ⟨b, o, none⟩ = (w.cell? ⟨b, o, none⟩).map fun _ => v := by
  cases h : w.cell? ⟨b, o, none⟩ with
  | some x => simp [World.cell?_setCell_same _ _ _ h]
  | none =>
    simp only [World.cell?, World.setCell, Array.getElem?_modify] at *
    cases hb : w.heap[b]? with
    | none => simp [hb]
    | some x => cases x <;> simp_all
theorem belN {B : Nat} {a w : World} (h : Below B a w) (n : Nat) : Below B a (w.drewN n) := h.trans ⟨rfl, rfl, rfl, Nat.le_refl _, fun _ _ => rfl⟩
structure Bk where
  rate : Int
  per : Int
  burst : Int
  level : Int
  now : Int

def inB (n lo hi : Int) : Bool := decide (lo ≤ n) && decide (n ≤ hi)
def openB (b : Bk) : Bool := b.rate == 4611686018427387904
def valid (b : Bk) : Bool :=
  if !(inB b.per 1 1048576) || !(inB b.now 0 1048576) then false
  else if openB b then b.burst == 0 && b.level == 0
  else inB b.rate 0 1073741824 && inB b.burst 0 1073741824 && inB b.level 0 (wrap64 (b.burst * b.per))

theorem ret_int {k : IntKind} {a b : Int} (h : a = b) : Ending.returned (.int k a) = .returned (.int k b) := by rw [h]
theorem ret_bool {a b : Bool} (h : a = b) : Ending.returned (.bool a) = .returned (.bool b) := by rw [h]
theorem in_any (n lo hi : Int) (w : World) : Calls Try.prog 25 #[.int .i64 n, .int .i64 lo, .int .i64 hi] w fun e w' => e = .returned (.bool (inB n lo hi)) ∧ w = w' := by
  by_cases h : lo ≤ n
  · go_enter Try.func25, Try.ntmps25
    go_wp2
    go_ret
    exact ⟨by simp [inB, h], rfl⟩
  · go_enter Try.func25, Try.ntmps25
    go_wp2
    go_ret
    exact ⟨by simp [inB]; omega, rfl⟩

theorem open_any (a b c d f : Int) (w : World) : Calls Try.prog 26 #[.agg #[.int .i64 a, .int .i64 b, .int .i64 c, .int .i64 d, .int .i64 f]] w fun e w' => e = .returned (.bool (openB ⟨a, b, c, d, f⟩)) ∧ Below w.heap.size w w' := by
    go_enter Try.func26, Try.ntmps26
    go_wp2
    go_ret
    exact ⟨by simp [openB], by (repeat (first | with_reducible exact Below.refl _ _ | with_reducible exact Nat.le_refl _ | with_reducible refine Below.setCell ?_ ?_ _ | with_reducible refine Below.alloc ?_ ?_ _ | with_reducible refine Below.drew ?_ | with_reducible refine belN ?_ _ | with_reducible refine Below.trans ?_ (Below.mono (by with_reducible assumption) ?_) | omega | focus (simp; done) | focus (simp; omega)))⟩

theorem valid_any (a b c d f : Int) (w : World) : Calls Try.prog 15 #[.agg #[.int .i64 a, .int .i64 b, .int .i64 c, .int .i64 d, .int .i64 f]] w fun e w' => e = .returned (.bool (valid ⟨a, b, c, d, f⟩)) ∧ Below w.heap.size w w' := by
    go_enter Try.func15, Try.ntmps15
    go_wp2_with (first | (go_at_call 25; refine (in_any _ _ _ _).mono ?_; rintro e w' ⟨rfl, rfl⟩) | (go_at_call 26; refine (open_any _ _ _ _ _ _).mono ?_; rintro e w' ⟨rfl, hb⟩; have hc0 := fun o => hb.cell (p := ⟨w.heap.size, o, none⟩) (by first | omega | (simp; done) | (simp; omega)); have hf0 := fun o => hb.frozen (p := ⟨w.heap.size, o, none⟩) (by first | omega | (simp; done) | (simp; omega)); have hz := hb.size; (try simp at hz); skip))
    all_goals (go_ret; refine ⟨ret_bool (by grind [valid]), ?_⟩; (repeat (first | with_reducible exact Below.refl _ _ | with_reducible exact Nat.le_refl _ | with_reducible refine Below.setCell ?_ ?_ _ | with_reducible refine Below.alloc ?_ ?_ _ | with_reducible refine Below.drew ?_ | with_reducible refine belN ?_ _ | with_reducible refine Below.trans ?_ (Below.mono (by with_reducible assumption) ?_) | omega | focus (simp; done) | focus (simp; omega))))

theorem valid_bd {b : Bk} (h : valid b = true) : 1 ≤ b.per ∧ b.per ≤ 1048576 ∧ 0 ≤ b.now ∧ b.now ≤ 1048576 := by
  grind [valid, inB]
theorem valid_bd2 {b : Bk} (h : valid b = true) (ho : openB b = false) : 0 ≤ b.rate ∧ b.rate ≤ 1073741824 ∧ 0 ≤ b.burst ∧ b.burst ≤ 1073741824 ∧ 0 ≤ b.level ∧ b.level ≤ b.burst * b.per ∧ 0 ≤ b.burst * b.per ∧ b.burst * b.per ≤ 1125899906842624 := by
  have h1 := valid_bd h
  have h2 : inB b.rate 0 1073741824 = true ∧ inB b.burst 0 1073741824 = true ∧ inB b.level 0 (wrap64 (b.burst * b.per)) = true := by grind [valid]
  simp only [inB, Bool.and_eq_true, decide_eq_true_eq] at h2
  have h3 : 0 ≤ b.burst * b.per := Int.mul_nonneg (by omega) (by omega)
  have h4 : b.burst * b.per ≤ 1073741824 * 1048576 := Int.mul_le_mul (by omega) (by omega) (by omega) (by omega)
  rw [IntWalk.wrap64_in _ (by omega)] at h2
  omega

theorem vbd {a b c d f : Int} (h : valid ⟨a, b, c, d, f⟩ = true) : 1 ≤ b ∧ b ≤ 1048576 ∧ 0 ≤ f ∧ f ≤ 1048576 := valid_bd h
theorem vbd2 {a b c d f : Int} (h : valid ⟨a, b, c, d, f⟩ = true) (ho : openB ⟨a, b, c, d, f⟩ = false) : 0 ≤ a ∧ a ≤ 1073741824 ∧ 0 ≤ c ∧ c ≤ 1073741824 ∧ 0 ≤ d ∧ d ≤ c * b ∧ 0 ≤ c * b ∧ c * b ≤ 1125899906842624 := valid_bd2 h ho
def tokens (b : Bk) : Int := if !(valid b) then 0 else if openB b then 1073741824 else b.level / b.per
set_option maxHeartbeats 400000 in
theorem tokens_any (a b c d f : Int) (w : World) : Calls Try.prog 16 #[.agg #[.int .i64 a, .int .i64 b, .int .i64 c, .int .i64 d, .int .i64 f]] w fun e w' => e = .returned (.int .i64 (tokens ⟨a, b, c, d, f⟩)) ∧ Below w.heap.size w w' := by
  by_cases hv : valid ⟨a, b, c, d, f⟩ = true
  · by_cases ho : openB ⟨a, b, c, d, f⟩ = true
    · go_enter Try.func16, Try.ntmps16
      go_wp2_with (first | (go_at_call 15; refine (valid_any _ _ _ _ _ _).mono ?_; rintro e w' ⟨rfl, hb⟩; have hc0 := fun o => hb.cell (p := ⟨w.heap.size, o, none⟩) (by first | omega | (simp; done) | (simp; omega)); have hf0 := fun o => hb.frozen (p := ⟨w.heap.size, o, none⟩) (by first | omega | (simp; done) | (simp; omega)); have hz := hb.size; (try simp at hz); skip) | (go_at_call 26; refine (open_any _ _ _ _ _ _).mono ?_; rintro e w' ⟨rfl, hb⟩; have hc0 := fun o => hb.cell (p := ⟨w.heap.size, o, none⟩) (by first | omega | (simp; done) | (simp; omega)); have hf0 := fun o => hb.frozen (p := ⟨w.heap.size, o, none⟩) (by first | omega | (simp; done) | (simp; omega)); have hz := hb.size; (try simp at hz); skip))
      all_goals (go_ret; refine ⟨ret_int (by grind [tokens]), ?_⟩; (repeat (first | with_reducible exact Below.refl _ _ | with_reducible exact Nat.le_refl _ | with_reducible refine Below.setCell ?_ ?_ _ | with_reducible refine Below.alloc ?_ ?_ _ | with_reducible refine Below.drew ?_ | with_reducible refine belN ?_ _ | with_reducible refine Below.trans ?_ (Below.mono (by with_reducible assumption) ?_) | omega | focus (simp; done) | focus (simp; omega))))
    · have ho : openB ⟨a, b, c, d, f⟩ = false := by simpa using ho
      have h1 := vbd hv
      have h2 := vbd2 hv ho
      have h3 : 1 ≤ b := h1.1
      have h4 : 0 ≤ d := h2.2.2.2.2.1
      have h5 : (b == 0) = false := by simp; omega
      have h6 : d ≤ 1125899906842624 := by omega
      clear h1 h2
      go_enter Try.func16, Try.ntmps16
      go_wp2_with (first | (go_at_call 15; refine (valid_any _ _ _ _ _ _).mono ?_; rintro e w' ⟨rfl, hb⟩; have hc0 := fun o => hb.cell (p := ⟨w.heap.size, o, none⟩) (by first | omega | (simp; done) | (simp; omega)); have hf0 := fun o => hb.frozen (p := ⟨w.heap.size, o, none⟩) (by first | omega | (simp; done) | (simp; omega)); have hz := hb.size; (try simp at hz); skip) | (go_at_call 26; refine (open_any _ _ _ _ _ _).mono ?_; rintro e w' ⟨rfl, hb⟩; have hc0 := fun o => hb.cell (p := ⟨w.heap.size, o, none⟩) (by first | omega | (simp; done) | (simp; omega)); have hf0 := fun o => hb.frozen (p := ⟨w.heap.size, o, none⟩) (by first | omega | (simp; done) | (simp; omega)); have hz := hb.size; (try simp at hz); skip))
      all_goals (go_ret; refine ⟨ret_int (by grind [tokens]), ?_⟩; (repeat (first | with_reducible exact Below.refl _ _ | with_reducible exact Nat.le_refl _ | with_reducible refine Below.setCell ?_ ?_ _ | with_reducible refine Below.alloc ?_ ?_ _ | with_reducible refine Below.drew ?_ | with_reducible refine belN ?_ _ | with_reducible refine Below.trans ?_ (Below.mono (by with_reducible assumption) ?_) | omega | focus (simp; done) | focus (simp; omega))))
  · have hv : valid ⟨a, b, c, d, f⟩ = false := by simpa using hv
    go_enter Try.func16, Try.ntmps16
    go_wp2_with (first | (go_at_call 15; refine (valid_any _ _ _ _ _ _).mono ?_; rintro e w' ⟨rfl, hb⟩; have hc0 := fun o => hb.cell (p := ⟨w.heap.size, o, none⟩) (by first | omega | (simp; done) | (simp; omega)); have hf0 := fun o => hb.frozen (p := ⟨w.heap.size, o, none⟩) (by first | omega | (simp; done) | (simp; omega)); have hz := hb.size; (try simp at hz); skip))
    all_goals (go_ret; refine ⟨ret_int (by grind [tokens]), ?_⟩; (repeat (first | with_reducible exact Below.refl _ _ | with_reducible exact Nat.le_refl _ | with_reducible refine Below.setCell ?_ ?_ _ | with_reducible refine Below.alloc ?_ ?_ _ | with_reducible refine Below.drew ?_ | with_reducible refine belN ?_ _ | with_reducible refine Below.trans ?_ (Below.mono (by with_reducible assumption) ?_) | omega | focus (simp; done) | focus (simp; omega))))
end Go.Proofs.Ytdajfecndfkecaa
