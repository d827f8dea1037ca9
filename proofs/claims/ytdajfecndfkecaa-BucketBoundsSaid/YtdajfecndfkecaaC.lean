/-
  Lemmas and contracts on the way to the laws of this seat; each theorem states its own conditions, and there are no others.
-/
import Derived.Test.YtdajfecndfkecaaB
namespace Go.Proofs.Ytdajfecndfkecaa
open Go.RowKit

def whenB (b : Bk) (n : Int) : Int × Int :=
  if !(valid b) then (0, 1) else if !(inB n 0 1073741824) then (0, 3) else if n ≤ tokens b then (b.now, 0)
  else if b.burst < n then (0, 21) else if b.rate == 0 then (0, 21)
  else if 1048576 < wrap64 (b.now + wrap64 (Int.tdiv (wrap64 (wrap64 (wrap64 (wrap64 (n * b.per) - b.level) + b.rate) - 1)) b.rate)) then (0, 21)
  else (wrap64 (b.now + wrap64 (Int.tdiv (wrap64 (wrap64 (wrap64 (wrap64 (n * b.per) - b.level) + b.rate) - 1)) b.rate)), 0)

set_option maxHeartbeats 800000 in
theorem when_any (a b c d f n : Int) (w : World) : Calls Try.prog 13 #[.agg #[.int .i64 a, .int .i64 b, .int .i64 c, .int .i64 d, .int .i64 f], .int .i64 n] w fun e w' => ∃ t r : Int, whenB ⟨a, b, c, d, f⟩ n = (t, r) ∧ e = .returned (.tuple #[.int .i64 t, .int .i64 r]) ∧ Below w.heap.size w w' := by
  by_cases ha : (a == 0) = true
  · go_enter Try.func13, Try.ntmps13
    go_wp2_with (first | (go_at_call 15; refine (valid_any _ _ _ _ _ _).mono ?_; rintro e w' ⟨rfl, hb⟩; have hc0 := fun o => hb.cell (p := ⟨w.heap.size, o, none⟩) (by first | omega | (simp; done) | (simp; omega)); have hf0 := fun o => hb.frozen (p := ⟨w.heap.size, o, none⟩) (by first | omega | (simp; done) | (simp; omega)); have hz := hb.size; (try simp at hz); skip) | (go_at_call 16; refine (tokens_any _ _ _ _ _ _).mono ?_; rintro e w' ⟨rfl, hb⟩; have hc0 := fun o => hb.cell (p := ⟨w.heap.size, o, none⟩) (by first | omega | (simp; done) | (simp; omega)); have hf0 := fun o => hb.frozen (p := ⟨w.heap.size, o, none⟩) (by first | omega | (simp; done) | (simp; omega)); have hz := hb.size; (try simp at hz); skip) | (go_at_call 25; refine (in_any _ _ _ _).mono ?_; rintro e w' ⟨rfl, rfl⟩))
    all_goals (apply bodyPost_ret (hd := rfl); case hr => (simp [results, Try.results13, go_sem, *]; rfl))
    all_goals (refine ⟨_, _, ?_, rfl, ?_⟩; (first | focus (simp [whenB, *]; done) | focus (simp [whenB, *]; omega) | (grind [whenB])); (repeat (first | with_reducible exact Below.refl _ _ | with_reducible exact Nat.le_refl _ | with_reducible refine Below.setCell ?_ ?_ _ | with_reducible refine Below.alloc ?_ ?_ _ | with_reducible refine Below.drew ?_ | with_reducible refine belN ?_ _ | with_reducible refine Below.trans ?_ (Below.mono (by with_reducible assumption) ?_) | omega | focus (simp; done) | focus (simp; omega))))
  · have ha : (a == 0) = false := by simpa using ha
    have ha2 : ¬ a = 0 := by simpa using ha
    go_enter Try.func13, Try.ntmps13
    go_wp2_with (first | (go_at_call 15; refine (valid_any _ _ _ _ _ _).mono ?_; rintro e w' ⟨rfl, hb⟩; have hc0 := fun o => hb.cell (p := ⟨w.heap.size, o, none⟩) (by first | omega | (simp; done) | (simp; omega)); have hf0 := fun o => hb.frozen (p := ⟨w.heap.size, o, none⟩) (by first | omega | (simp; done) | (simp; omega)); have hz := hb.size; (try simp at hz); skip) | (go_at_call 16; refine (tokens_any _ _ _ _ _ _).mono ?_; rintro e w' ⟨rfl, hb⟩; have hc0 := fun o => hb.cell (p := ⟨w.heap.size, o, none⟩) (by first | omega | (simp; done) | (simp; omega)); have hf0 := fun o => hb.frozen (p := ⟨w.heap.size, o, none⟩) (by first | omega | (simp; done) | (simp; omega)); have hz := hb.size; (try simp at hz); skip) | (go_at_call 25; refine (in_any _ _ _ _).mono ?_; rintro e w' ⟨rfl, rfl⟩) | go_quiet (fail))

    all_goals (apply bodyPost_ret (hd := rfl); case hr => (simp [results, Try.results13, go_sem, *]; rfl))
    all_goals (refine ⟨_, _, ?_, rfl, ?_⟩; (first | focus (simp [whenB, *]; done) | focus (simp [whenB, *]; omega) | (grind [whenB])); (repeat (first | with_reducible exact Below.refl _ _ | with_reducible exact Nat.le_refl _ | with_reducible refine Below.setCell ?_ ?_ _ | with_reducible refine Below.alloc ?_ ?_ _ | with_reducible refine Below.drew ?_ | with_reducible refine belN ?_ _ | with_reducible refine Below.trans ?_ (Below.mono (by with_reducible assumption) ?_) | omega | focus (simp; done) | focus (simp; omega))))

end Go.Proofs.Ytdajfecndfkecaa
