/-
  Lemmas and contracts on the way to the laws of this seat; each theorem states its own conditions, and there are no others.
-/
import Derived.Test.YtdajfecndfkecaaA
namespace Go.Proofs.Ytdajfecndfkecaa
open Go.RowKit

/-- All blocks but D are as they were; new ones may have come. -/
structure BB (D : Nat) (w w' : World) : Prop where
  os : w'.os = w.os
  tape : w'.tape = w.tape
  output : w'.output = w.output
  size : w.heap.size ≤ w'.heap.size
  block : ∀ k, k < w.heap.size → k ≠ D → w'.heap[k]? = w.heap[k]?

theorem BB.refl (D : Nat) (w : World) : BB D w w := ⟨rfl, rfl, rfl, Nat.le_refl _, fun _ _ _ => rfl⟩
theorem BB.trans {D : Nat} {a b c : World} (h : BB D a b) (k : BB D b c) : BB D a c :=
  ⟨k.os.trans h.os, k.tape.trans h.tape, k.output.trans h.output, Nat.le_trans h.size k.size, fun i hi hn => (k.block i (Nat.lt_of_lt_of_le hi h.size) hn).trans (h.block i hi hn)⟩
theorem BB.of_below {D : Nat} {a b : World} (h : Below a.heap.size a b) : BB D a b := ⟨h.os, h.tape, h.output, h.size, fun k hk _ => h.block k hk⟩
theorem BB.below {D B : Nat} {a b : World} (h : BB D a b) (hB : B ≤ D) (hs : B ≤ a.heap.size) : Below B a b :=
  ⟨h.os, h.tape, h.output, h.size, fun k hk => h.block k (by omega) (by omega)⟩
theorem BB.drewN {D : Nat} {a w : World} (h : BB D a w) (n : Nat) : BB D a (w.drewN n) := ⟨h.os, h.tape, h.output, h.size, h.block⟩
theorem BB.setD {D : Nat} {a w : World} (h : BB D a w) (o : Nat) (v : Value) : BB D a (w.setCell ⟨D, o, none⟩ v) :=
  h.trans ⟨rfl, rfl, rfl, by simp [World.setCell], fun k _ hn => Below.heap_setCell _ _ _ _ hn⟩
theorem BB.cell {D : Nat} {w w' : World} (h : BB D w w') {p : Addr} (hp : p.block < w.heap.size) (hn : p.block ≠ D) : w'.cell? p = w.cell? p := World.cell?_of_block (w := w) (h.block p.block hp hn)
theorem BB.frozen {D : Nat} {w w' : World} (h : BB D w w') {p : Addr} (hp : p.block < w.heap.size) (hn : p.block ≠ D) : w'.frozen? p = w.frozen? p := World.frozen?_of_block (w := w) (h.block p.block hp hn)

/-- Block D is dice: a list of integers that can be read, and a place in it. -/
def DiceAt (w : World) (D : Nat) : Prop :=
  ∃ (a : Option Addr) (len cap k : Nat), D < w.heap.size ∧ w.heap[D]? = some (.cells #[.slice a len cap, .int .i64 k] 45 (0, 0)) ∧ k ≤ len ∧ len ≤ maxLen ∧
    (len = 0 ∨ ∃ b off, a = some ⟨b, off, none⟩ ∧ b < D ∧ ∀ i, i < len → ∃ x : Int, w.cell? ⟨b, off + i, none⟩ = some (.int .i64 x))

theorem DiceAt.lt {w : World} {D : Nat} (h : DiceAt w D) : D < w.heap.size := by
  obtain ⟨_, _, _, _, h, _⟩ := h; exact h

/-- A store behind the dice keeps them. -/
theorem DiceAt.store {w : World} {D : Nat} (h : DiceAt w D) {p : Addr} (hp : D < p.block) (v : Value) : DiceAt (w.setCell p v) D := by
  obtain ⟨a, len, cap, k, hlt, hD, hk, hl, hr⟩ := h
  refine ⟨a, len, cap, k, by simpa [World.setCell] using hlt, by rw [Below.heap_setCell _ _ _ _ (by omega)]; exact hD, hk, hl, ?_⟩
  rcases hr with hr | ⟨b, off, ha, hb1, hc⟩
  · exact .inl hr
  · exact .inr ⟨b, off, ha, hb1, fun i hi => by
      obtain ⟨x, hx⟩ := hc i hi
      exact ⟨x, (World.cell?_of_block (w := w) (Below.heap_setCell _ _ _ _ (Nat.ne_of_lt (Nat.lt_trans hb1 hp)))).trans hx⟩⟩

/-- What keeps all old blocks keeps the dice. -/
theorem DiceAt.keep {w w' : World} {D : Nat} (h : DiceAt w D) (hb : Below w.heap.size w w') : DiceAt w' D := by
  obtain ⟨a, len, cap, k, hlt, hD, hk, hl, hr⟩ := h
  refine ⟨a, len, cap, k, Nat.lt_of_lt_of_le hlt hb.size, by rw [hb.block D hlt]; exact hD, hk, hl, ?_⟩
  rcases hr with hr | ⟨b, off, ha, hb1, hc⟩
  · exact .inl hr
  · exact .inr ⟨b, off, ha, hb1, fun i hi => by
      obtain ⟨x, hx⟩ := hc i hi
      exact ⟨x, by rw [hb.cell (p := ⟨b, off + i, none⟩) (Nat.lt_trans hb1 hlt)]; exact hx⟩⟩

theorem heap_setCell_D {w : World} {D : Nat} {v u x : Value} {t : TypeId} {fr : Nat × Nat} (h : w.heap[D]? = some (.cells #[v, u] t fr)) : (w.setCell ⟨D, 1, none⟩ x).heap[D]? = some (.cells #[v, x] t fr) := by
  simp [World.setCell, Array.getElem?_modify, h]

theorem DiceAt.step {w : World} {D : Nat} {a : Option Addr} {len cap k : Nat} (hlt : D < w.heap.size) (hD : w.heap[D]? = some (.cells #[.slice a len cap, .int .i64 k] 45 (0, 0))) (hk : k < len) (hl : len ≤ maxLen)
    (hr : len = 0 ∨ ∃ b off, a = some ⟨b, off, none⟩ ∧ b < D ∧ ∀ i, i < len → ∃ x : Int, w.cell? ⟨b, off + i, none⟩ = some (.int .i64 x)) (n m : Nat) :
    DiceAt (((w.drewN n).setCell ⟨D, 1, none⟩ (.int .i64 ((k : Int) + 1))).drewN m) D := by
  refine ⟨a, len, cap, k + 1, by simpa [World.drewN] using hlt, ?_, hk, hl, ?_⟩
  · have := heap_setCell_D (w := w) (x := .int .i64 ((k : Int) + 1)) hD
    exact this
  · rcases hr with hr | ⟨b, off, ha, hb1, hc⟩
    · exact .inl hr
    · refine .inr ⟨b, off, ha, hb1, fun i hi => ?_⟩
      obtain ⟨x, hx⟩ := hc i hi
      refine ⟨x, ?_⟩
      have : ((w.setCell ⟨D, 1, none⟩ (.int .i64 ((k : Int) + 1))).cell? ⟨b, off + i, none⟩) = w.cell? ⟨b, off + i, none⟩ :=
        World.cell?_of_block (w := w) (Below.heap_setCell _ _ _ _ (Nat.ne_of_lt hb1))
      exact this.trans hx

def rmd (x n : Int) : Int := if x.tmod n < 0 then x.tmod n + n else x.tmod n
theorem rmd_bd (x n : Int) (h : 1 ≤ n) : 0 ≤ rmd x n ∧ rmd x n < n := by
  have h1 := Int.tmod_lt_of_pos x (b := n) (by omega)
  have h2 := Int.lt_tmod_of_pos x (b := n) (by omega)
  unfold rmd
  split <;> omega

set_option maxHeartbeats 800000 in
theorem next_any (D : Nat) (n : Int) (w : World) (hd : DiceAt w D) (hn : n ≤ 9223372036854775807) : Calls Try.prog 12 #[.pointer (some ⟨D, 0, none⟩), .int .i64 n] w fun e w' => ∃ r : Int, e = .returned (.int .i64 r) ∧ (0 ≤ r ∧ (1 ≤ n → r < n) ∧ (n < 1 → r = 0)) ∧ DiceAt w' D ∧ BB D w w' := by
  have hd0 := hd
  obtain ⟨a, len, cap, k, hlt, hD, hk, hl, hr⟩ := hd
  have HL := Lib.hid hl
  unfold maxLen at hl
  have hc0 : w.cell? ⟨D, 0, none⟩ = some (.slice a len cap) := by simp [World.cell?, hD]
  have hc1 : w.cell? ⟨D, 1, none⟩ = some (.int .i64 k) := by simp [World.cell?, hD]
  have hf1 : w.frozen? ⟨D, 1, none⟩ = false := by simp [World.frozen?, hD]
  have HR := Lib.hid hr
  have HD := Lib.hid hD
  have HD0 := Lib.hid hd0
  clear hr hD hd0
  by_cases h1 : k < len
  · by_cases h2 : n < 1
    · have hdec : decide (len ≤ k) = false := by simp; omega
      go_enter Try.func12, Try.ntmps12
      go_wp2_with (first | go_quiet (fail))
      go_ret
      exact ⟨0, rfl, by omega, (HD0.out).keep (by (repeat (first | with_reducible exact Below.refl _ _ | with_reducible exact Nat.le_refl _ | with_reducible refine Below.setCell ?_ ?_ _ | with_reducible refine Below.alloc ?_ ?_ _ | with_reducible refine Below.drew ?_ | with_reducible refine belN ?_ _ | with_reducible refine Below.trans ?_ (Below.mono (by with_reducible assumption) ?_) | omega | focus (simp; done) | focus (simp; omega)))), BB.of_below (by (repeat (first | with_reducible exact Below.refl _ _ | with_reducible exact Nat.le_refl _ | with_reducible refine Below.setCell ?_ ?_ _ | with_reducible refine Below.alloc ?_ ?_ _ | with_reducible refine Below.drew ?_ | with_reducible refine belN ?_ _ | with_reducible refine Below.trans ?_ (Below.mono (by with_reducible assumption) ?_) | omega | focus (simp; done) | focus (simp; omega))))⟩
    · have h3 : 1 ≤ n := by omega
      have h4 : ¬ n = 0 := by omega
      have hdec : decide (len ≤ k) = false := by simp; omega
      have hr := HR.out
      rcases hr with hr | ⟨b, off, rfl, hb1, hc⟩
      · omega
      obtain ⟨x, hx⟩ := hc k h1
      have HC := Lib.hid hc
      clear hc
      have hx2 : ∀ v, (w.setCell ⟨D, 1, none⟩ v).cell? ⟨b, off + k, none⟩ = some (.int .i64 x) := fun v => by
        have : (w.setCell ⟨D, 1, none⟩ v).cell? ⟨b, off + k, none⟩ = w.cell? ⟨b, off + k, none⟩ := World.cell?_of_block (w := w) (Below.heap_setCell _ _ _ _ (Nat.ne_of_lt hb1))
        exact this.trans hx
      go_enter Try.func12, Try.ntmps12
      go_wp2_with (first | go_quiet (fail))
      all_goals go_ret
      all_goals
        have t1 := Int.tmod_lt_of_pos x (b := n) (by omega)
        have t2 := Int.lt_tmod_of_pos x (b := n) (by omega)
      · exact ⟨_, rfl, by rw [IntWalk.wrap64_in _ (by omega)]; omega, DiceAt.step hlt HD.out h1 HL.out HR.out _ _, (((BB.refl D w).drewN _).setD _ _).drewN _⟩
      · exact ⟨_, rfl, by omega, DiceAt.step hlt HD.out h1 HL.out HR.out _ _, (((BB.refl D w).drewN _).setD _ _).drewN _⟩
  · have hdec : decide (len ≤ k) = true := by simp; omega
    go_enter Try.func12, Try.ntmps12
    go_wp2_with (first | go_quiet (fail))
    go_ret
    exact ⟨0, rfl, by omega, (HD0.out).keep (by (repeat (first | with_reducible exact Below.refl _ _ | with_reducible exact Nat.le_refl _ | with_reducible refine Below.setCell ?_ ?_ _ | with_reducible refine Below.alloc ?_ ?_ _ | with_reducible refine Below.drew ?_ | with_reducible refine belN ?_ _ | with_reducible refine Below.trans ?_ (Below.mono (by with_reducible assumption) ?_) | omega | focus (simp; done) | focus (simp; omega)))), BB.of_below (by (repeat (first | with_reducible exact Below.refl _ _ | with_reducible exact Nat.le_refl _ | with_reducible refine Below.setCell ?_ ?_ _ | with_reducible refine Below.alloc ?_ ?_ _ | with_reducible refine Below.drew ?_ | with_reducible refine belN ?_ _ | with_reducible refine Below.trans ?_ (Below.mono (by with_reducible assumption) ?_) | omega | focus (simp; done) | focus (simp; omega))))⟩

theorem heap_alloc_new (w : World) (o : Obj) : (w.alloc o).heap[w.heap.size]? = some o := by
  show (w.heap.push o)[w.heap.size]? = _
  simp
theorem BB.setNew {D : Nat} {a w : World} (h : BB D a w) {p : Addr} (hp : a.heap.size ≤ p.block) (v : Value) : BB D a (w.setCell p v) :=
  ⟨h.os, h.tape, h.output, by have := h.size; simpa [World.setCell] using this, fun k hk hn => by rw [Below.heap_setCell _ _ _ _ (by omega)]; exact h.block k hk hn⟩
theorem BB.weaken {D : Nat} {a b c : World} (h : Below a.heap.size a b) (k : BB D b c) : BB D a c := (BB.of_below h).trans k

def BkAt (w : World) (B : Nat) (a b c d f : Int) : Prop := w.heap[B]? = some (.cells #[.int .i64 a, .int .i64 b, .int .i64 c, .int .i64 d, .int .i64 f] 28 (0, 0))
def AnyBk (w : World) (N : Nat) : Prop := ∃ a b c d f : Int, BkAt w N a b c d f

theorem BkAt.cells {w : World} {B : Nat} {a b c d f : Int} (h : BkAt w B a b c d f) :
    w.cell? ⟨B, 0, none⟩ = some (.int .i64 a) ∧ w.cell? ⟨B, 1, none⟩ = some (.int .i64 b) ∧ w.cell? ⟨B, 2, none⟩ = some (.int .i64 c) ∧ w.cell? ⟨B, 3, none⟩ = some (.int .i64 d) ∧ w.cell? ⟨B, 4, none⟩ = some (.int .i64 f) ∧ (∀ o, w.frozen? ⟨B, o, none⟩ = false) ∧ B < w.heap.size := by
  unfold BkAt at h
  have hlt : B < w.heap.size := by
    rcases Nat.lt_or_ge B w.heap.size with h' | h'
    · exact h'
    · simp [Array.getElem?_eq_none h'] at h
  refine ⟨?_, ?_, ?_, ?_, ?_, fun o => ?_, hlt⟩ <;> simp [World.cell?, World.frozen?, h]

theorem BkAt.keepBB {w w' : World} {B D : Nat} {a b c d f : Int} (h : BkAt w B a b c d f) (hb : BB D w w') (hn : B ≠ D) : BkAt w' B a b c d f := by
  have := hb.block B h.cells.2.2.2.2.2.2 hn
  unfold BkAt at *; rw [this]; exact h
theorem BkAt.keep {w w' : World} {B : Nat} {a b c d f : Int} (h : BkAt w B a b c d f) (hb : Below w.heap.size w w') : BkAt w' B a b c d f := by
  have := hb.block B h.cells.2.2.2.2.2.2
  unfold BkAt at *; rw [this]; exact h
theorem BkAt.store {w : World} {B : Nat} {a b c d f a' b' c' d' f' : Int} (h : BkAt w B a b c d f) :
    BkAt (((((w.setCell ⟨B, 0, none⟩ (.int .i64 a')).setCell ⟨B, 1, none⟩ (.int .i64 b')).setCell ⟨B, 2, none⟩ (.int .i64 c')).setCell ⟨B, 3, none⟩ (.int .i64 d')).setCell ⟨B, 4, none⟩ (.int .i64 f')) B a' b' c' d' f' := by
  unfold BkAt at *
  simp [World.setCell, Array.getElem?_modify, h]
theorem BkAt.other {w : World} {B : Nat} {a b c d f : Int} {p : Addr} {v : Value} (h : BkAt w B a b c d f) (hn : B ≠ p.block) : BkAt (w.setCell p v) B a b c d f := by
  unfold BkAt at *
  rw [Below.heap_setCell _ _ _ _ hn]; exact h

theorem BkAt.new (w : World) (a b c d f : Int) : BkAt (w.alloc (.cells #[.int .i64 a, .int .i64 b, .int .i64 c, .int .i64 d, .int .i64 f] 28)) w.heap.size a b c d f := by
  unfold BkAt; rw [heap_alloc_new]
theorem BkAt.alloc {w : World} {B : Nat} {a b c d f : Int} (h : BkAt w B a b c d f) (o : Obj) : BkAt (w.alloc o) B a b c d f := h.keep (by (repeat (first | with_reducible exact Below.refl _ _ | with_reducible exact Nat.le_refl _ | with_reducible refine Below.setCell ?_ ?_ _ | with_reducible refine Below.alloc ?_ ?_ _ | with_reducible refine Below.drew ?_ | with_reducible refine belN ?_ _ | with_reducible refine Below.trans ?_ (Below.mono (by with_reducible assumption) ?_) | omega | focus (simp; done) | focus (simp; omega))))

theorem BkAt.drew {w : World} {B : Nat} {a b c d f : Int} (h : BkAt w B a b c d f) : BkAt w.drew B a b c d f := h
theorem DiceAt.drew {w : World} {D : Nat} (h : DiceAt w D) : DiceAt w.drew D := h.keep ((Below.refl _ _).drew)
theorem DiceAt.alloc {w : World} {D : Nat} (h : DiceAt w D) (o : Obj) : DiceAt (w.alloc o) D := h.keep (by (repeat (first | with_reducible exact Below.refl _ _ | with_reducible exact Nat.le_refl _ | with_reducible refine Below.setCell ?_ ?_ _ | with_reducible refine Below.alloc ?_ ?_ _ | with_reducible refine Below.drew ?_ | with_reducible refine belN ?_ _ | with_reducible refine Below.trans ?_ (Below.mono (by with_reducible assumption) ?_) | omega | focus (simp; done) | focus (simp; omega))))
theorem DiceAt.keepBB {w w' : World} {D D' : Nat} (h : DiceAt w D) (hb : BB D' w w') (hn : D < D') : DiceAt w' D := by
  obtain ⟨a, len, cap, k, hlt, hD, hk, hl, hr⟩ := h
  refine ⟨a, len, cap, k, Nat.lt_of_lt_of_le hlt hb.size, by rw [hb.block D hlt (Nat.ne_of_lt hn)]; exact hD, hk, hl, ?_⟩
  rcases hr with hr | ⟨b, off, ha, hb1, hc⟩
  · exact .inl hr
  · exact .inr ⟨b, off, ha, hb1, fun i hi => by
      obtain ⟨x, hx⟩ := hc i hi
      exact ⟨x, by rw [hb.cell (p := ⟨b, off + i, none⟩) (Nat.lt_trans hb1 hlt) (Nat.ne_of_lt (Nat.lt_trans hb1 hn))]; exact hx⟩⟩
theorem light_any (a : Option Addr) (len cap : Nat) (w : World) (hl : len ≤ maxLen) : Calls Try.prog 8 #[.slice a len cap] w fun e w' => e = .returned (.bool (decide (len ≤ 600))) ∧ w = w' := by
  unfold maxLen at hl
  go_enter Try.func8, Try.ntmps8
  go_wp2
  go_ret
  exact ⟨ret_bool (by simp; omega), rfl⟩

theorem roll_any (a : Option Addr) (len cap : Nat) (w : World) : Calls Try.prog 10 #[.slice a len cap] w fun e w' => e = .returned (.pointer (some ⟨w.heap.size, 0, none⟩)) ∧ w.alloc (.cells #[.slice a len cap, .int .i64 0] 45) = w' := by
  go_enter Try.func10, Try.ntmps10
  go_wp2
  go_ret
  exact ⟨rfl, rfl⟩

set_option maxHeartbeats 800000 in
/-- Pick: one of the numbers that were handed over. -/
theorem pick_any (D : Nat) (b off len cap : Nat) (l : List Int) (w : World) (hd : DiceAt w D) (hlen : l.length = len) (h0 : 0 < len) (h1 : len ≤ 1000) (hb : b < w.heap.size) (hbD : b ≠ D) (hc : ∀ i, i < len → w.cell? ⟨b, off + i, none⟩ = some (.int .i64 (l.getD i 0))) :
    Calls Try.prog 18 #[.pointer (some ⟨D, 0, none⟩), .slice (some ⟨b, off, none⟩) len cap] w fun e w' => ∃ r : Int, e = .returned (.int .i64 r) ∧ r ∈ l ∧ DiceAt w' D ∧ BB D w w' := by
  have HC := Lib.hid hc
  have HL := Lib.hid hlen
  have HD := Lib.hid hd
  clear hc hlen hd
  go_enter Try.func18, Try.ntmps18
  go_wp2_with fail
  refine (next_any D _ _ HD.out (by omega)).mono ?_
  rintro e w' ⟨r, rfl, hr, hd', hbb⟩
  have hr1 : 0 ≤ r := hr.1
  have hr2 : r < len := hr.2.1 (by omega)
  obtain ⟨j, rfl⟩ := Int.eq_ofNat_of_zero_le hr1
  have hj : j < len := by omega
  have hcj : w'.cell? ⟨b, off + j, none⟩ = some (.int .i64 (l.getD j 0)) := by
    rw [hbb.cell (p := ⟨b, off + j, none⟩) hb hbD]; exact HC.out j hj
  have HDD := Lib.hid hd'
  have HBB := Lib.hid hbb
  clear hr hd' hbb
  go_wp2_with (first | go_quiet (fail))
  go_ret
  have hjl : j < l.length := by have := HL.out; omega
  refine ⟨_, rfl, ?_, HDD.out, HBB.out⟩
  rw [List.getElem?_eq_getElem hjl]; exact List.getElem_mem hjl

end Go.Proofs.Ytdajfecndfkecaa
