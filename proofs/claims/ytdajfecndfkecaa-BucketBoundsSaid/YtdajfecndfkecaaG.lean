/-
  Lemmas and contracts on the way to the laws of this seat; each theorem states its own conditions, and there are no others.
-/
import Derived.Test.YtdajfecndfkecaaP
import Derived.Deep.RegionHeld3
import Derived.Deep.DeepCutAuto
import Derived.LoopTactic
namespace Go.Proofs.Ytdajfecndfkecaa
open Go.RowKit


/-- Pick, of a list that was made for it. -/
theorem pick_new (D : Nat) (l : List Int) (t : TypeId) (w : World) (N k : Nat) (cs : Array Value) (hN : N = w.heap.size) (hk : k = l.length) (hcs : cs = (l.map (.int .i64 ·)).toArray) (hd : DiceAt w D) (h0 : 0 < l.length) (h1 : l.length ≤ 1000) :
    Calls Try.prog 18 #[.pointer (some ⟨D, 0, none⟩), .slice (some ⟨N, 0, none⟩) k k] (w.alloc (.cells cs t)) fun e w' => ∃ r : Int, e = .returned (.int .i64 r) ∧ r ∈ l ∧ DiceAt w' D ∧ BB D w w' := by
  subst hN hk hcs
  refine (pick_any D w.heap.size 0 l.length l.length l _ (hd.alloc _) rfl h0 h1 (by simp) (by have := hd.lt; omega) (fun i hi => ?_)).mono ?_
  · rw [Nat.zero_add, World.cell?_alloc_new]
    simp [List.getElem?_eq_getElem hi]
  · rintro e w' ⟨r, rfl, hr, hd', hb⟩
    exact ⟨r, rfl, hr, hd', (BB.of_below (by (repeat (first | with_reducible exact Below.refl _ _ | with_reducible exact Nat.le_refl _ | with_reducible refine Below.setCell ?_ ?_ _ | with_reducible refine Below.alloc ?_ ?_ _ | with_reducible refine Below.drew ?_ | with_reducible refine belN ?_ _ | with_reducible refine Below.trans ?_ (Below.mono (by with_reducible assumption) ?_) | omega | focus (simp; done) | focus (simp; omega))))).trans hb⟩

end Go.Proofs.Ytdajfecndfkecaa
