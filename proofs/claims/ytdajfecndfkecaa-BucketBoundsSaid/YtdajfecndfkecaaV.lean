/-
  Lemmas and contracts on the way to the laws of this seat; each theorem states its own conditions, and there are no others.
-/
import Derived.Test.YtdajfecndfkecaaE
import Derived.OpenShut
namespace Go.Proofs.Ytdajfecndfkecaa
open Go.RowKit

/-- What is known of a slice of integers that came in: it is nil, or leads to a row of cells. -/
def IsRow (k : IntKind) (w : World) (a : Option Addr) (len cap : Nat) (zs : List Int) : Prop :=
  (a = none ∧ len = 0 ∧ cap = 0 ∧ zs = []) ∨
  ∃ x, a = some x ∧ len ≤ cap ∧ cap ≤ maxLen ∧ zs.length = cap ∧ (∀ i, i < zs.length → w.cell? (x.add i) = some (.int k (zs.getD i 0))) ∧ ∀ n ∈ zs, (Lit.int k n).wf = true

theorem IsRow.len {k : IntKind} {w : World} {a : Option Addr} {len cap : Nat} {zs : List Int} (h : IsRow k w a len cap zs) : len ≤ maxLen := by
  rcases h with ⟨_, rfl, _, _⟩ | ⟨x, _, h1, h2, _⟩
  · exact Nat.zero_le _
  · omega

theorem dice_of_row {w : World} {a : Option Addr} {len cap : Nat} {zs : List Int} (h : IsRow .i64 w a len cap zs) :
    DiceAt (w.alloc (.cells #[.slice a len cap, .int .i64 0] 45)) w.heap.size := by
  refine ⟨a, len, cap, 0, by simp, heap_alloc_new _ _, Nat.zero_le _, h.len, ?_⟩
  rcases h with ⟨_, rfl, _, _⟩ | ⟨x, rfl, h1, h2, h3, hc, _⟩
  · exact .inl rfl
  · by_cases h0 : len = 0
    · exact .inl h0
    · right
      have h4 := hc 0 (by omega)
      obtain ⟨b, off, spot⟩ := x
      have hs : spot = none := by
        cases spot with
        | none => rfl
        | some s =>
          simp only [Addr.add, if_true, World.cell?] at h4
          split at h4 <;> simp at h4
      subst hs
      have hb : b < w.heap.size := by
        have := World.block_lt_of_cell? _ _ h4
        simpa [Addr.add] using this
      refine ⟨b, off, rfl, hb, fun i hi => ⟨zs.getD i 0, ?_⟩⟩
      rw [World.cell?_alloc_lt _ _ _ hb]
      have := hc i (by omega)
      unfold Addr.add at this
      split at this
      · rename_i hi0; subst hi0; simpa using this
      · exact this

theorem dice_one (w : World) (n : Int) :
    DiceAt ((w.alloc (.cells #[.int .i64 n] 3)).alloc (.cells #[.slice (some ⟨w.heap.size, 0, none⟩) 1 1, .int .i64 0] 45)) (w.heap.size + 1) := by
  have e : (w.alloc (.cells #[.int .i64 n] 3)).heap.size = w.heap.size + 1 := by simp
  refine ⟨_, 1, 1, 0, by simp, ?_, Nat.zero_le _, by unfold maxLen; omega, .inr ⟨w.heap.size, 0, rfl, Nat.lt_succ_self _, fun i hi => ⟨n, ?_⟩⟩⟩
  · rw [← e]; exact heap_alloc_new _ _
  · obtain rfl : i = 0 := by omega
    rw [World.cell?_alloc_lt _ _ _ (by simp)]
    simp [World.cell?_alloc_new]

/-- A number rolled of one number. -/
theorem next_one (w : World) (n m : Int) (N M : Nat) (hN : N = w.heap.size) (hM : M = w.heap.size + 1) (h1 : 1 ≤ m) (h2 : m ≤ 9223372036854775807) :
    Calls Try.prog 12 #[.pointer (some ⟨M, 0, none⟩), .int .i64 m] ((w.alloc (.cells #[.int .i64 n] 3)).alloc (.cells #[.slice (some ⟨N, 0, none⟩) 1 1, .int .i64 0] 45)) fun e w' =>
      ∃ r : Int, e = .returned (.int .i64 r) ∧ 0 ≤ r ∧ r < m ∧ Below w.heap.size w w' := by
  subst hN hM
  refine (next_any (w.heap.size + 1) m _ (dice_one w n) h2).mono ?_
  rintro e w' ⟨r, rfl, hr, _, hb⟩
  exact ⟨r, rfl, hr.1, hr.2.1 h1, Below.trans (by (repeat (first | with_reducible exact Below.refl _ _ | with_reducible exact Nat.le_refl _ | with_reducible refine Below.setCell ?_ ?_ _ | with_reducible refine Below.alloc ?_ ?_ _ | with_reducible refine Below.drew ?_ | with_reducible refine belN ?_ _ | with_reducible refine Below.trans ?_ (Below.mono (by with_reducible assumption) ?_) | omega | focus (simp; done) | focus (simp; omega)))) (hb.below (by omega) (by simp; omega))⟩

/-- Block b is one number, made for a call. -/
def IntAt (w : World) (b : Nat) (x : Int) : Prop := w.heap[b]? = some (.cells #[.int .i64 x] 3 (0, 0))
theorem IntAt.new (w : World) (x : Int) : IntAt (w.alloc (.cells #[.int .i64 x] 3)) w.heap.size x := heap_alloc_new _ _
theorem IntAt.new' (w : World) (x : Int) (N : Nat) (h : N = w.heap.size) : IntAt (w.alloc (.cells #[.int .i64 x] 3)) N x := by subst h; exact heap_alloc_new _ _
theorem IntAt.lt {w : World} {b : Nat} {x : Int} (h : IntAt w b x) : b < w.heap.size := by
  rcases Nat.lt_or_ge b w.heap.size with h' | h'
  · exact h'
  · unfold IntAt at h; simp [Array.getElem?_eq_none h'] at h
theorem IntAt.keep {w w' : World} {b : Nat} {x : Int} (h : IntAt w b x) (hb : Below w.heap.size w w') : IntAt w' b x := by
  have := hb.block b h.lt
  unfold IntAt at *; rw [this]; exact h
theorem IntAt.alloc {w : World} {b : Nat} {x : Int} (h : IntAt w b x) (o : Obj) : IntAt (w.alloc o) b x := h.keep (by (repeat (first | with_reducible exact Below.refl _ _ | with_reducible exact Nat.le_refl _ | with_reducible refine Below.setCell ?_ ?_ _ | with_reducible refine Below.alloc ?_ ?_ _ | with_reducible refine Below.drew ?_ | with_reducible refine belN ?_ _ | with_reducible refine Below.trans ?_ (Below.mono (by with_reducible assumption) ?_) | omega | focus (simp; done) | focus (simp; omega))))
theorem IntAt.keepBB {w w' : World} {b D : Nat} {x : Int} (h : IntAt w b x) (hb : BB D w w') (hn : b ≠ D) : IntAt w' b x := by
  have := hb.block b h.lt hn
  unfold IntAt at *; rw [this]; exact h

theorem IntAt.drew {w : World} {b : Nat} {x : Int} (h : IntAt w b x) : IntAt w.drew b x := h
/-- Dice are rolled out of one number. -/
theorem roll_int (b : Nat) (x : Int) (w : World) (h : IntAt w b x) : Calls Try.prog 10 #[.slice (some ⟨b, 0, none⟩) 1 1] w fun e w' =>
    ∃ D, w.heap.size ≤ D ∧ e = .returned (.pointer (some ⟨D, 0, none⟩)) ∧ DiceAt w' D ∧ Below w.heap.size w w' := by
  refine (roll_any _ _ _ _).mono ?_
  rintro e w' ⟨rfl, rfl⟩
  refine ⟨_, Nat.le_refl _, rfl, ⟨_, 1, 1, 0, by simp, heap_alloc_new _ _, Nat.zero_le _, by unfold maxLen; omega, .inr ⟨b, 0, rfl, h.lt, fun i hi => ⟨x, ?_⟩⟩⟩, by (repeat (first | with_reducible exact Below.refl _ _ | with_reducible exact Nat.le_refl _ | with_reducible refine Below.setCell ?_ ?_ _ | with_reducible refine Below.alloc ?_ ?_ _ | with_reducible refine Below.drew ?_ | with_reducible refine belN ?_ _ | with_reducible refine Below.trans ?_ (Below.mono (by with_reducible assumption) ?_) | omega | focus (simp; done) | focus (simp; omega)))⟩
  obtain rfl : i = 0 := by omega
  have h2 := h.lt
  rw [World.cell?_alloc_lt _ _ _ h2]
  unfold IntAt at h
  simp [World.cell?, h]

end Go.Proofs.Ytdajfecndfkecaa
