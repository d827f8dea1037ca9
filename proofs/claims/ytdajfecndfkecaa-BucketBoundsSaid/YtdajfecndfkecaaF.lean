/-
  Lemmas and contracts on the way to the laws of this seat; each theorem states its own conditions, and there are no others.
-/
import Derived.Test.YtdajfecndfkecaaD
import Derived.Test.YtdajfecndfkecaaE
namespace Go.Proofs.Ytdajfecndfkecaa
open Go.RowKit

/-- Take, as the reference has it: no limit is asked first. -/
def taker (b : Bk) (now n : Int) : Bk × Int :=
  if (advance b now).2 ≠ 0 then (zeroBk, (advance b now).2) else if !(inB n 0 1073741824) then (zeroBk, 3)
  else if openB (advance b now).1 then ((advance b now).1, 0)
  else if tokens (advance b now).1 < n then ((advance b now).1, 11)
  else (⟨(advance b now).1.rate, (advance b now).1.per, (advance b now).1.burst, wrap64 ((advance b now).1.level - wrap64 (n * (advance b now).1.per)), (advance b now).1.now⟩, 0)
def newr (rate per burst now : Int) : Bk × Int :=
  if rate == 4611686018427387904 then (if inB per 1 1048576 && valid ⟨rate, per, 0, 0, now⟩ then (⟨rate, per, 0, 0, now⟩, 0) else (zeroBk, 3))
  else (if inB per 1 1048576 && inB burst 0 1073741824 && valid ⟨rate, per, burst, wrap64 (burst * per), now⟩ then (⟨rate, per, burst, wrap64 (burst * per), now⟩, 0) else (zeroBk, 3))

set_option maxHeartbeats 800000 in
theorem taker_any (a b c d f now n : Int) (w : World) : Calls Try.prog 22 #[.agg #[.int .i64 a, .int .i64 b, .int .i64 c, .int .i64 d, .int .i64 f], .int .i64 now, .int .i64 n] w fun e w' => ∃ a' b' c' d' f' r : Int, taker ⟨a, b, c, d, f⟩ now n = (⟨a', b', c', d', f'⟩, r) ∧ e = .returned (.tuple #[.agg #[.int .i64 a', .int .i64 b', .int .i64 c', .int .i64 d', .int .i64 f'], .int .i64 r]) ∧ Below w.heap.size w w' := by
  go_enter Try.func22, Try.ntmps22
  go_wp2_with (first | (go_at_call 28; refine (advancer_any _ _ _ _ _ _ _).mono ?_; rintro e w' ⟨x1, x2, x3, x4, x5, x6, hx, rfl, hb⟩; have hc0 := fun o => hb.cell (p := ⟨w.heap.size, o, none⟩) (by first | omega | (simp; done) | (simp; omega)); have hf0 := fun o => hb.frozen (p := ⟨w.heap.size, o, none⟩) (by first | omega | (simp; done) | (simp; omega)); have hc1 := fun o => hb.cell (p := ⟨w.heap.size + 1, o, none⟩) (by first | omega | (simp; done) | (simp; omega)); have hf1 := fun o => hb.frozen (p := ⟨w.heap.size + 1, o, none⟩) (by first | omega | (simp; done) | (simp; omega)); have hz := hb.size; (try simp at hz); (have Hx := Lib.hid hx; clear hx)) | (go_at_call 23; refine (tokensr_any _ _ _ _ _ _).mono ?_; rintro e w' ⟨rfl, hb⟩; have hc0 := fun o => hb.cell (p := ⟨w.heap.size, o, none⟩) (by first | omega | (simp; done) | (simp; omega)); have hf0 := fun o => hb.frozen (p := ⟨w.heap.size, o, none⟩) (by first | omega | (simp; done) | (simp; omega)); have hc1 := fun o => hb.cell (p := ⟨w.heap.size + 1, o, none⟩) (by first | omega | (simp; done) | (simp; omega)); have hf1 := fun o => hb.frozen (p := ⟨w.heap.size + 1, o, none⟩) (by first | omega | (simp; done) | (simp; omega)); have hz := hb.size; (try simp at hz); skip))
  all_goals (apply bodyPost_ret (hd := rfl); case hr => (simp [results, Try.results22, go_sem, *]; rfl))
  all_goals (refine ⟨_, _, _, _, _, _, ?_, rfl, ?_⟩; (first | focus (simp [taker, zeroBk, openB, inB, *]; done) | focus (simp [taker, zeroBk, openB, inB, *]; omega) | ((try simp only [Hid] at *); grind [taker, zeroBk, openB, inB])); (repeat (first | with_reducible exact Below.refl _ _ | with_reducible exact Nat.le_refl _ | with_reducible refine Below.setCell ?_ ?_ _ | with_reducible refine Below.alloc ?_ ?_ _ | with_reducible refine Below.drew ?_ | with_reducible refine belN ?_ _ | with_reducible refine Below.trans ?_ (Below.mono (by with_reducible assumption) ?_) | omega | focus (simp; done) | focus (simp; omega))))

set_option maxHeartbeats 800000 in
theorem newr_any (rate per burst now : Int) (w : World) : Calls Try.prog 21 #[.int .i64 rate, .int .i64 per, .int .i64 burst, .int .i64 now] w fun e w' => ∃ a' b' c' d' f' r : Int, newr rate per burst now = (⟨a', b', c', d', f'⟩, r) ∧ e = .returned (.tuple #[.agg #[.int .i64 a', .int .i64 b', .int .i64 c', .int .i64 d', .int .i64 f'], .int .i64 r]) ∧ Below w.heap.size w w' := by
  go_enter Try.func21, Try.ntmps21
  go_wp2_with (first | (go_at_call 24; refine (validr_any _ _ _ _ _ _).mono ?_; rintro e w' ⟨rfl, hb⟩; have hc0 := fun o => hb.cell (p := ⟨w.heap.size, o, none⟩) (by first | omega | (simp; done) | (simp; omega)); have hf0 := fun o => hb.frozen (p := ⟨w.heap.size, o, none⟩) (by first | omega | (simp; done) | (simp; omega)); have hc1 := fun o => hb.cell (p := ⟨w.heap.size + 1, o, none⟩) (by first | omega | (simp; done) | (simp; omega)); have hf1 := fun o => hb.frozen (p := ⟨w.heap.size + 1, o, none⟩) (by first | omega | (simp; done) | (simp; omega)); have hz := hb.size; (try simp at hz); skip))
  all_goals (apply bodyPost_ret (hd := rfl); case hr => (simp [results, Try.results21, go_sem, *]; rfl))
  all_goals (refine ⟨_, _, _, _, _, _, ?_, rfl, ?_⟩; (first | focus (simp [newr, zeroBk, inB, *]; done) | focus (simp [newr, zeroBk, inB, *]; omega) | ((try simp only [Hid] at *); grind [newr, zeroBk, inB])); (repeat (first | with_reducible exact Below.refl _ _ | with_reducible exact Nat.le_refl _ | with_reducible refine Below.setCell ?_ ?_ _ | with_reducible refine Below.alloc ?_ ?_ _ | with_reducible refine Below.drew ?_ | with_reducible refine belN ?_ _ | with_reducible refine Below.trans ?_ (Below.mono (by with_reducible assumption) ?_) | omega | focus (simp; done) | focus (simp; omega))))

end Go.Proofs.Ytdajfecndfkecaa
