/-
  Lemmas and contracts on the way to the laws of this seat; each theorem states its own conditions, and there are no others.
-/
import Derived.Test.YtdajfecndfkecaaB
namespace Go.Proofs.Ytdajfecndfkecaa
open Go.RowKit

set_option maxHeartbeats 400000 in
theorem validr_any (a b c d f : Int) (w : World) : Calls Try.prog 24 #[.agg #[.int .i64 a, .int .i64 b, .int .i64 c, .int .i64 d, .int .i64 f]] w fun e w' => e = .returned (.bool (valid ⟨a, b, c, d, f⟩)) ∧ Below w.heap.size w w' := by
  go_enter Try.func24, Try.ntmps24
  go_wp2
  all_goals (go_ret; refine ⟨ret_bool (by grind [valid, inB, openB]), ?_⟩; (first | (exact rfl; done) | (repeat (first | with_reducible exact Below.refl _ _ | with_reducible exact Nat.le_refl _ | with_reducible refine Below.setCell ?_ ?_ _ | with_reducible refine Below.alloc ?_ ?_ _ | with_reducible refine Below.drew ?_ | with_reducible refine belN ?_ _ | with_reducible refine Below.trans ?_ (Below.mono (by with_reducible assumption) ?_) | omega | focus (simp; done) | focus (simp; omega)))))

set_option maxHeartbeats 400000 in
theorem advancer_any (a b c d f now : Int) (w : World) : Calls Try.prog 28 #[.agg #[.int .i64 a, .int .i64 b, .int .i64 c, .int .i64 d, .int .i64 f], .int .i64 now] w fun e w' => ∃ a' b' c' d' f' r : Int, advance ⟨a, b, c, d, f⟩ now = (⟨a', b', c', d', f'⟩, r) ∧ e = .returned (.tuple #[.agg #[.int .i64 a', .int .i64 b', .int .i64 c', .int .i64 d', .int .i64 f'], .int .i64 r]) ∧ Below w.heap.size w w' := by
  go_enter Try.func28, Try.ntmps28
  go_wp2_with (first | (go_at_call 24; refine (validr_any _ _ _ _ _ _).mono ?_; rintro e w' ⟨rfl, hb⟩; have hc0 := fun o => hb.cell (p := ⟨w.heap.size, o, none⟩) (by first | omega | (simp; done) | (simp; omega)); have hf0 := fun o => hb.frozen (p := ⟨w.heap.size, o, none⟩) (by first | omega | (simp; done) | (simp; omega)); have hc1 := fun o => hb.cell (p := ⟨w.heap.size + 1, o, none⟩) (by first | omega | (simp; done) | (simp; omega)); have hf1 := fun o => hb.frozen (p := ⟨w.heap.size + 1, o, none⟩) (by first | omega | (simp; done) | (simp; omega)); have hz := hb.size; (try simp at hz); skip))
  all_goals (apply bodyPost_ret (hd := rfl); case hr => (simp [results, Try.results28, go_sem, *]; rfl))
  all_goals (refine ⟨_, _, _, _, _, _, ?_, rfl, ?_⟩; (first | focus (simp [advance, zeroBk, inB, openB, *]; done) | focus (simp [advance, zeroBk, inB, openB, *]; omega) | ((try simp only [Hid] at *); grind [advance, zeroBk, inB, openB])); (repeat (first | with_reducible exact Below.refl _ _ | with_reducible exact Nat.le_refl _ | with_reducible refine Below.setCell ?_ ?_ _ | with_reducible refine Below.alloc ?_ ?_ _ | with_reducible refine Below.drew ?_ | with_reducible refine belN ?_ _ | with_reducible refine Below.trans ?_ (Below.mono (by with_reducible assumption) ?_) | omega | focus (simp; done) | focus (simp; omega))))

set_option maxHeartbeats 400000 in
theorem tokensr_any (a b c d f : Int) (w : World) : Calls Try.prog 23 #[.agg #[.int .i64 a, .int .i64 b, .int .i64 c, .int .i64 d, .int .i64 f]] w fun e w' => e = .returned (.int .i64 (tokens ⟨a, b, c, d, f⟩)) ∧ Below w.heap.size w w' := by
  by_cases hv : valid ⟨a, b, c, d, f⟩ = true
  · by_cases ho : openB ⟨a, b, c, d, f⟩ = true
    · have ho' : (a == 4611686018427387904) = true := ho
      go_enter Try.func23, Try.ntmps23
      go_wp2_with (first | (go_at_call 24; refine (validr_any _ _ _ _ _ _).mono ?_; rintro e w' ⟨rfl, hb⟩; have hc0 := fun o => hb.cell (p := ⟨w.heap.size, o, none⟩) (by first | omega | (simp; done) | (simp; omega)); have hf0 := fun o => hb.frozen (p := ⟨w.heap.size, o, none⟩) (by first | omega | (simp; done) | (simp; omega)); have hz := hb.size; (try simp at hz); skip))
      all_goals (go_ret; refine ⟨ret_int (by grind [tokens]), ?_⟩; (repeat (first | with_reducible exact Below.refl _ _ | with_reducible exact Nat.le_refl _ | with_reducible refine Below.setCell ?_ ?_ _ | with_reducible refine Below.alloc ?_ ?_ _ | with_reducible refine Below.drew ?_ | with_reducible refine belN ?_ _ | with_reducible refine Below.trans ?_ (Below.mono (by with_reducible assumption) ?_) | omega | focus (simp; done) | focus (simp; omega))))
    · have ho : openB ⟨a, b, c, d, f⟩ = false := by simpa using ho
      have h1 := vbd hv
      have h2 := vbd2 hv ho
      have h3 : 1 ≤ b := h1.1
      have h4 : 0 ≤ d := h2.2.2.2.2.1
      have h5 : (b == 0) = false := by simp; omega
      have h6 : d ≤ 1125899906842624 := by omega
      have ho' : (a == 4611686018427387904) = false := ho
      clear h1 h2
      go_enter Try.func23, Try.ntmps23
      go_wp2_with (first | (go_at_call 24; refine (validr_any _ _ _ _ _ _).mono ?_; rintro e w' ⟨rfl, hb⟩; have hc0 := fun o => hb.cell (p := ⟨w.heap.size, o, none⟩) (by first | omega | (simp; done) | (simp; omega)); have hf0 := fun o => hb.frozen (p := ⟨w.heap.size, o, none⟩) (by first | omega | (simp; done) | (simp; omega)); have hz := hb.size; (try simp at hz); skip))
      all_goals (go_ret; refine ⟨ret_int (by grind [tokens]), ?_⟩; (repeat (first | with_reducible exact Below.refl _ _ | with_reducible exact Nat.le_refl _ | with_reducible refine Below.setCell ?_ ?_ _ | with_reducible refine Below.alloc ?_ ?_ _ | with_reducible refine Below.drew ?_ | with_reducible refine belN ?_ _ | with_reducible refine Below.trans ?_ (Below.mono (by with_reducible assumption) ?_) | omega | focus (simp; done) | focus (simp; omega))))
  · have hv : valid ⟨a, b, c, d, f⟩ = false := by simpa using hv
    go_enter Try.func23, Try.ntmps23
    go_wp2_with (first | (go_at_call 24; refine (validr_any _ _ _ _ _ _).mono ?_; rintro e w' ⟨rfl, hb⟩; have hc0 := fun o => hb.cell (p := ⟨w.heap.size, o, none⟩) (by first | omega | (simp; done) | (simp; omega)); have hf0 := fun o => hb.frozen (p := ⟨w.heap.size, o, none⟩) (by first | omega | (simp; done) | (simp; omega)); have hz := hb.size; (try simp at hz); skip))
    all_goals (go_ret; refine ⟨ret_int (by grind [tokens]), ?_⟩; (repeat (first | with_reducible exact Below.refl _ _ | with_reducible exact Nat.le_refl _ | with_reducible refine Below.setCell ?_ ?_ _ | with_reducible refine Below.alloc ?_ ?_ _ | with_reducible refine Below.drew ?_ | with_reducible refine belN ?_ _ | with_reducible refine Below.trans ?_ (Below.mono (by with_reducible assumption) ?_) | omega | focus (simp; done) | focus (simp; omega))))

end Go.Proofs.Ytdajfecndfkecaa
