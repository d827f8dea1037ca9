/-
  Lemmas and contracts on the way to the laws of this seat; each theorem states its own conditions, and there are no others.
-/
import Derived.Test.YtenfpjponaaolaaVD

namespace Go.Proofs.Ytenfpjponaaolaa
open Go
set_option linter.unusedVariables false
set_option linter.unusedSimpArgs false
set_option linter.unusedVariables false

/-- What a change leaves. -/
structure Changed (p : Pool) (nq nb : Int) (y : Pool) : Prop where
  g : y.g = p.g
  q : y.q = nq
  bu : y.bu = nb
  s : y.s = p.s
  sp : y.sp = p.sp
  pe : y.pe = p.pe
  th : y.th = p.th
  em : y.em = p.em
  len : y.l.length = p.l.length
  le0 : 0 ≤ y.le
  l0 : ∀ x ∈ y.l, 0 ≤ x
  held : y.le + y.l.sum = min (p.le + p.l.sum) (if nq = 4611686018427387904 then 0 else nq + nb)
def RatesI (q bu : Int) : Prop := (q = 4611686018427387904 ∧ bu = 0) ∨ (q ≠ 4611686018427387904 ∧ 1 ≤ q ∧ q ≤ 1000000 ∧ 0 ≤ bu ∧ bu ≤ q)
structure Half where
  i : Int
  over : Int
  le : Int
  l : List Int
/-- Behind some rounds of a change: i is the next cell (that of Left comes first). -/
structure HalfOK (p : Pool) (top : Int) (m : Int) (h : Half) : Prop where
  lo : -1 ≤ h.i
  hi : h.i ≤ top
  o0 : 0 ≤ h.over
  le0 : 0 ≤ h.le
  l0 : ∀ x ∈ h.l, 0 ≤ x
  len : h.l.length = p.l.length
  sum : h.le + h.l.sum - h.over = m
  room : h.over ≤ (if h.i = h.l.length then h.le else 0) + (h.l.take (h.i + 1).toNat).sum
  up : h.le + h.l.sum ≤ 2000000
def chP (p : Pool) (q bu : Int) (h : Half) : Pool := { p with q := q, bu := bu, le := h.le, l := h.l }
def over0 (p : Pool) (q bu : Int) : Int := if q = 4611686018427387904 then p.le + p.l.sum else max (p.le + p.l.sum - q - bu) 0
theorem ch_feas (p : Pool) (q bu : Int) (h : Good p) (hr : RatesI q bu) : ∃ y, Changed p q bu y := by
  obtain ⟨m, hm, h0, h1, h2, h3⟩ := h.most
  have hs := sum_nonneg h1
  refine ⟨{ p with q := q, bu := bu, le := min (p.le + p.l.sum) (if q = 4611686018427387904 then 0 else q + bu), l := List.replicate p.l.length 0 }, ⟨rfl, rfl, rfl, rfl, rfl, rfl, rfl, rfl, by simp, ?_, fun x hx => by have := List.eq_of_mem_replicate hx; omega, by simp⟩⟩
  rcases hr with ⟨h5, h6⟩ | ⟨h5, h6, h7, h8, h9⟩
  · simp [h5]; omega
  · simp [h5]; omega
theorem sum_set {l : List Int} {i : Nat} (h : i < l.length) (v : Int) : (l.set i v).sum = l.sum - l.getD i 0 + v := by
  induction l generalizing i with
  | nil => simp at h
  | cons a r ih =>
    cases i with
    | zero => simp only [List.set_cons_zero, List.sum_cons, List.getD_cons_zero]; omega
    | succ i =>
      have := ih (i := i) (by simpa using h)
      simp only [List.set_cons_succ, List.sum_cons, List.getD_cons_succ]; omega
theorem HalfOK.stepL {p : Pool} {m : Int} {x : Half} (h : HalfOK p p.l.length m x) (h0 : 0 ≤ x.i) (h1 : x.i < x.l.length) : HalfOK p p.l.length m ⟨x.i - 1, x.over - min x.over (x.l.getD x.i.toNat 0), x.le, x.l.set x.i.toNat (x.l.getD x.i.toNat 0 - min x.over (x.l.getD x.i.toNat 0))⟩ := by
  obtain ⟨a1, a2, a3, a4, a5, a6, a7, a8, a9⟩ := h
  have hi : x.i.toNat < x.l.length := by omega
  have hs := sum_set hi (x.l.getD x.i.toNat 0 - min x.over (x.l.getD x.i.toNat 0))
  have hg := get_nonneg a5 x.i.toNat
  have e : (x.i + 1).toNat = x.i.toNat + 1 := by omega
  have ht := sum_take_succ x.l x.i.toNat hi
  have ht0 := sum_take_nonneg a5 x.i.toNat
  rw [e, ht, if_neg (by omega)] at a8
  refine ⟨by dsimp only; omega, by dsimp only; omega, by dsimp only; omega, a4, fun y hy => ?_, by simpa using a6, ?_, ?_, ?_⟩
  · rcases List.mem_or_eq_of_mem_set hy with h | h
    · exact a5 y h
    · omega
  · dsimp only; rw [hs]; omega
  · dsimp only; rw [List.length_set, if_neg (by omega)]
    have e2 : (x.i - 1 + 1).toNat = x.i.toNat := by omega
    rw [e2, List.take_set_of_le (Nat.le_refl _)]
    omega
  · dsimp only; rw [hs]; omega
theorem HalfOK.stepE {p : Pool} {m : Int} {x : Half} (h : HalfOK p p.l.length m x) (h0 : 0 ≤ x.i) (h1 : ¬ x.i < x.l.length) : HalfOK p p.l.length m ⟨x.i - 1, x.over - min x.over x.le, x.le - min x.over x.le, x.l⟩ := by
  obtain ⟨a1, a2, a3, a4, a5, a6, a7, a8, a9⟩ := h
  have e : x.i = x.l.length := by omega
  have hs := sum_nonneg a5
  rw [if_pos e, List.take_of_length_le (by omega)] at a8
  refine ⟨by dsimp only; omega, by dsimp only; omega, by dsimp only; omega, by dsimp only; omega, a5, a6, by dsimp only; omega, ?_, by dsimp only; omega⟩
  dsimp only
  rw [if_neg (by omega), List.take_of_length_le (by omega)]
  omega
theorem half_start {p : Pool} (hg : Good p) {o : Int} (h0 : 0 ≤ o) (h1 : o ≤ p.le + p.l.sum) : HalfOK p p.l.length (p.le + p.l.sum - o) ⟨p.l.length, o, p.le, p.l⟩ := by
  obtain ⟨m, hm, a0, a1, a2, a3⟩ := hg.most
  refine ⟨by dsimp only; omega, by dsimp only; omega, h0, a0, a1, rfl, rfl, ?_, by dsimp only; omega⟩
  dsimp only
  rw [if_pos rfl, List.take_of_length_le (by omega)]
  exact h1
theorem half_stop {p : Pool} {q bu m : Int} {x : Half} (h : HalfOK p p.l.length m x) (hi : ¬ 0 ≤ x.i) (hm : m = min (p.le + p.l.sum) (if q = 4611686018427387904 then 0 else q + bu)) : Changed p q bu (chP p q bu x) := by
  obtain ⟨a1, a2, a3, a4, a5, a6, a7, a8, a9⟩ := h
  have e : (x.i + 1).toNat = 0 := by omega
  rw [e, if_neg (by omega)] at a8
  simp only [List.take_zero, List.sum_nil] at a8
  exact ⟨rfl, rfl, rfl, rfl, rfl, rfl, rfl, rfl, a6, a4, a5, by rw [← hm]; show x.le + x.l.sum = m; omega⟩
theorem all_zero {l : List Int} (h : ∀ x ∈ l, 0 ≤ x) (hs : l.sum ≤ 0) : ∀ x ∈ l, x = 0 := fun x hx => by
  obtain ⟨i, hi, rfl⟩ := List.getElem_of_mem hx
  have h1 := get_le_sum h i
  have h2 := h _ hx
  rw [List.getD_eq_getElem?_getD, List.getElem?_eq_getElem hi] at h1
  simp only [Option.getD_some] at h1
  omega
theorem Changed.good {p y : Pool} {q bu : Int} (h : Changed p q bu y) (hg : Good p) (hr : RatesI q bu) : Good y := by
  have hs := sum_nonneg h.l0
  have hh := h.held
  have hle := h.le0
  refine ⟨by rw [h.g]; exact hg.g0, by rw [h.g]; exact hg.g1, ?_, by rw [h.s]; exact hg.s0, by rw [h.s]; exact hg.s1, by rw [h.len]; exact hg.n0, by rw [h.len]; exact hg.n1, by rw [h.sp]; exact hg.sp0, by rw [h.sp]; exact hg.sp1, by rw [h.pe]; exact hg.pe0, by rw [h.pe]; exact hg.pe1, by rw [h.th]; exact hg.th0, by rw [h.th, h.em, h.pe]; exact hg.th1⟩
  rw [h.q, h.bu]
  rcases hr with ⟨h1, h2⟩ | ⟨h1, h2, h3, h4, h5⟩
  · rw [if_pos h1] at hh
    exact .inl ⟨h1, h2, by omega, all_zero h.l0 (by omega)⟩
  · rw [if_neg h1] at hh
    exact .inr ⟨h1, h2, h3, h4, h5, hle, h.l0, by omega⟩
def sChange : FSp := ⟨_, three pkPool pkI pkI, fun x => Good x.1 ∧ RatesI x.2.1 x.2.2.1, Pool, fun x y => Changed x.1 x.2.1 x.2.2.1 y, fun _ y => .tup [ret y, .int .i64 0], fun _ y => row y, fun x h => ch_feas _ _ _ h.1 h.2⟩

def inv17 (p : Pool) (q bu : Int) : Inv where
  X := Half
  ok := HalfOK p p.l.length (p.le + p.l.sum - over0 p q bu)
  sl := fun h => [(9, .int .i64 h.i), (8, .int .i64 h.over)]
  hp := fun h => [(10000, .cells 26 (poolAV (chP p q bu h) (.own 101 0)).flat), (101, .rows 3 0 h.l)]
  keep := [10010]
  me := fun h => (h.i + 1).toNat
set_option maxRecDepth 100000 in
theorem vc17 (p : Pool) (q bu : Int) (hx : Good p ∧ RatesI q bu) : sChange.vc (EV Try.prog [(33, sGood.spec), (34, sCopied.spec), (36, sRates.spec), (14, sHeld.spec), (13, sLimited.spec)] (invs [(11, inv17 p q bu)]) noInv) Try.f17 (p, q, bu, ()) := by
  have e : (Good p ∧ (false = true → ∃ (y : Pool), Changed p q bu y ∧ 0 = y.g ∧ 0 = y.q ∧ 0 = y.bu ∧ 0 = y.s ∧ 0 = y.le ∧ 0 = y.sp ∧ 0 = y.pe ∧ 0 = y.th ∧ false = y.em ∧ (1 : Int) = 0 ∧ NilL Int = y.l) ∧ (false = false → p.l.length ≤ (1048576 : Nat) ∧ (q = 4611686018427387904 ∧ bu = 0 ∨ q ≠ 4611686018427387904 ∧ 1 ≤ q ∧ q ≤ 1000000 ∧ 0 ≤ bu ∧ bu ≤ q) ∧ (false = true → ∃ (y : Pool), Changed p q bu y ∧ 0 = y.g ∧ 0 = y.q ∧ 0 = y.bu ∧ 0 = y.s ∧ 0 = y.le ∧ 0 = y.sp ∧ 0 = y.pe ∧ 0 = y.th ∧ false = y.em ∧ (3 : Int) = 0 ∧ NilL Int = y.l) ∧ (false = false → Small p.le p.l ∧ True ∧ ((!decide (q = 4611686018427387904)) = true → i64R (p.le + p.l.sum - q) ∧ i64R (p.le + p.l.sum - q - bu) ∧ (∃ (x : Half), HalfOK p (↑p.l.length : Int) (p.le + p.l.sum - if q = 4611686018427387904 then p.le + p.l.sum else Max.max (p.le + p.l.sum - q - bu) 0) x ∧ (↑p.l.length : Int) = x.i ∧ Max.max (p.le + p.l.sum - q - bu) 0 = x.over ∧ p.g = p.g ∧ q = q ∧ bu = bu ∧ p.s = p.s ∧ p.le = x.le ∧ p.sp = p.sp ∧ p.pe = p.pe ∧ p.th = p.th ∧ p.em = p.em ∧ p.l = x.l ∧ (0 : Int) = 0 ∧ (0 : Int) = 0 ∧ (0 : Int) = 0 ∧ (0 : Int) = 0 ∧ (0 : Int) = 0 ∧ (0 : Int) = 0 ∧ (0 : Int) = 0 ∧ (0 : Int) = 0) ∧ ∀ (x : Half), HalfOK p (↑p.l.length : Int) (p.le + p.l.sum - if q = 4611686018427387904 then p.le + p.l.sum else Max.max (p.le + p.l.sum - q - bu) 0) x → (decide (0 ≤ x.i) = true → (decide (x.i < (↑x.l.length : Int)) = true → (0 ≤ x.i ∧ x.i < (↑x.l.length : Int)) ∧ i64R (x.l.getD x.i.toNat 0 - Min.min x.over (x.l.getD x.i.toNat 0)) ∧ i64R (x.over - Min.min x.over (x.l.getD x.i.toNat 0)) ∧ i64R (x.i - 1) ∧ ∃ (x' : Half), HalfOK p (↑p.l.length : Int) (p.le + p.l.sum - if q = 4611686018427387904 then p.le + p.l.sum else Max.max (p.le + p.l.sum - q - bu) 0) x' ∧ (x'.i + 1).toNat < (x.i + 1).toNat ∧ x.i - 1 = x'.i ∧ x.over - Min.min x.over (x.l.getD x.i.toNat 0) = x'.over ∧ p.g = p.g ∧ q = q ∧ bu = bu ∧ p.s = p.s ∧ x.le = x'.le ∧ p.sp = p.sp ∧ p.pe = p.pe ∧ p.th = p.th ∧ p.em = p.em ∧ x.l.set x.i.toNat (x.l.getD x.i.toNat 0 - Min.min x.over (x.l.getD x.i.toNat 0)) = x'.l ∧ (0 : Int) = 0 ∧ (0 : Int) = 0 ∧ (0 : Int) = 0 ∧ (0 : Int) = 0 ∧ (0 : Int) = 0 ∧ (0 : Int) = 0 ∧ (0 : Int) = 0 ∧ (0 : Int) = 0) ∧ (decide (x.i < (↑x.l.length : Int)) = false → i64R (x.le - Min.min x.over x.le) ∧ i64R (x.over - Min.min x.over x.le) ∧ i64R (x.i - 1) ∧ ∃ (x' : Half), HalfOK p (↑p.l.length : Int) (p.le + p.l.sum - if q = 4611686018427387904 then p.le + p.l.sum else Max.max (p.le + p.l.sum - q - bu) 0) x' ∧ (x'.i + 1).toNat < (x.i + 1).toNat ∧ x.i - 1 = x'.i ∧ x.over - Min.min x.over x.le = x'.over ∧ p.g = p.g ∧ q = q ∧ bu = bu ∧ p.s = p.s ∧ x.le - Min.min x.over x.le = x'.le ∧ p.sp = p.sp ∧ p.pe = p.pe ∧ p.th = p.th ∧ p.em = p.em ∧ x.l = x'.l ∧ (0 : Int) = 0 ∧ (0 : Int) = 0 ∧ (0 : Int) = 0 ∧ (0 : Int) = 0 ∧ (0 : Int) = 0 ∧ (0 : Int) = 0 ∧ (0 : Int) = 0 ∧ (0 : Int) = 0)) ∧ (decide (0 ≤ x.i) = false → ∃ (y : Pool), Changed p q bu y ∧ p.g = y.g ∧ q = y.q ∧ bu = y.bu ∧ p.s = y.s ∧ x.le = y.le ∧ p.sp = y.sp ∧ p.pe = y.pe ∧ p.th = y.th ∧ p.em = y.em ∧ (0 : Int) = 0 ∧ x.l = y.l)) ∧ ((!decide (q = 4611686018427387904)) = false → (∃ (x : Half), HalfOK p (↑p.l.length : Int) (p.le + p.l.sum - if q = 4611686018427387904 then p.le + p.l.sum else Max.max (p.le + p.l.sum - q - bu) 0) x ∧ (↑p.l.length : Int) = x.i ∧ p.le + p.l.sum = x.over ∧ p.g = p.g ∧ q = q ∧ bu = bu ∧ p.s = p.s ∧ p.le = x.le ∧ p.sp = p.sp ∧ p.pe = p.pe ∧ p.th = p.th ∧ p.em = p.em ∧ p.l = x.l ∧ (0 : Int) = 0 ∧ (0 : Int) = 0 ∧ (0 : Int) = 0 ∧ (0 : Int) = 0 ∧ (0 : Int) = 0 ∧ (0 : Int) = 0 ∧ (0 : Int) = 0 ∧ (0 : Int) = 0) ∧ ∀ (x : Half), HalfOK p (↑p.l.length : Int) (p.le + p.l.sum - if q = 4611686018427387904 then p.le + p.l.sum else Max.max (p.le + p.l.sum - q - bu) 0) x → (decide (0 ≤ x.i) = true → (decide (x.i < (↑x.l.length : Int)) = true → (0 ≤ x.i ∧ x.i < (↑x.l.length : Int)) ∧ i64R (x.l.getD x.i.toNat 0 - Min.min x.over (x.l.getD x.i.toNat 0)) ∧ i64R (x.over - Min.min x.over (x.l.getD x.i.toNat 0)) ∧ i64R (x.i - 1) ∧ ∃ (x' : Half), HalfOK p (↑p.l.length : Int) (p.le + p.l.sum - if q = 4611686018427387904 then p.le + p.l.sum else Max.max (p.le + p.l.sum - q - bu) 0) x' ∧ (x'.i + 1).toNat < (x.i + 1).toNat ∧ x.i - 1 = x'.i ∧ x.over - Min.min x.over (x.l.getD x.i.toNat 0) = x'.over ∧ p.g = p.g ∧ q = q ∧ bu = bu ∧ p.s = p.s ∧ x.le = x'.le ∧ p.sp = p.sp ∧ p.pe = p.pe ∧ p.th = p.th ∧ p.em = p.em ∧ x.l.set x.i.toNat (x.l.getD x.i.toNat 0 - Min.min x.over (x.l.getD x.i.toNat 0)) = x'.l ∧ (0 : Int) = 0 ∧ (0 : Int) = 0 ∧ (0 : Int) = 0 ∧ (0 : Int) = 0 ∧ (0 : Int) = 0 ∧ (0 : Int) = 0 ∧ (0 : Int) = 0 ∧ (0 : Int) = 0) ∧ (decide (x.i < (↑x.l.length : Int)) = false → i64R (x.le - Min.min x.over x.le) ∧ i64R (x.over - Min.min x.over x.le) ∧ i64R (x.i - 1) ∧ ∃ (x' : Half), HalfOK p (↑p.l.length : Int) (p.le + p.l.sum - if q = 4611686018427387904 then p.le + p.l.sum else Max.max (p.le + p.l.sum - q - bu) 0) x' ∧ (x'.i + 1).toNat < (x.i + 1).toNat ∧ x.i - 1 = x'.i ∧ x.over - Min.min x.over x.le = x'.over ∧ p.g = p.g ∧ q = q ∧ bu = bu ∧ p.s = p.s ∧ x.le - Min.min x.over x.le = x'.le ∧ p.sp = p.sp ∧ p.pe = p.pe ∧ p.th = p.th ∧ p.em = p.em ∧ x.l = x'.l ∧ (0 : Int) = 0 ∧ (0 : Int) = 0 ∧ (0 : Int) = 0 ∧ (0 : Int) = 0 ∧ (0 : Int) = 0 ∧ (0 : Int) = 0 ∧ (0 : Int) = 0 ∧ (0 : Int) = 0)) ∧ (decide (0 ≤ x.i) = false → ∃ (y : Pool), Changed p q bu y ∧ p.g = y.g ∧ q = y.q ∧ bu = y.bu ∧ p.s = y.s ∧ x.le = y.le ∧ p.sp = y.sp ∧ p.pe = y.pe ∧ p.th = y.th ∧ p.em = y.em ∧ (0 : Int) = 0 ∧ x.l = y.l))))) = sChange.vc (EV Try.prog [(33, sGood.spec), (34, sCopied.spec), (36, sRates.spec), (14, sHeld.spec), (13, sLimited.spec)] (invs [(11, inv17 p q bu)]) noInv) Try.f17 (p, q, bu, ()) := by kernel_rfl
  rw [← e]
  clear e
  obtain ⟨hg, hr⟩ := hx
  obtain ⟨m, hm, h0, h1, h2, h3⟩ := hg.most
  have hn := hg.n1
  have hs := sum_nonneg h1
  have hsm := hg.small
  have hr' := hr
  unfold RatesI at hr'
  simp only [NilL_eq, i64R, Bool.not_true, Bool.false_eq_true, false_implies, true_implies, true_and, and_true]
  -- one round, and the end, whatever is left over at first
  have round : ∀ M x, HalfOK p p.l.length M x → M = min (p.le + p.l.sum) (if q = 4611686018427387904 then 0 else q + bu) →
      (decide (0 ≤ x.i) = true → (decide (x.i < (x.l.length : Int)) = true → (0 ≤ x.i ∧ x.i < (x.l.length : Int)) ∧ (-9223372036854775808 ≤ x.l.getD x.i.toNat 0 - min x.over (x.l.getD x.i.toNat 0) ∧ x.l.getD x.i.toNat 0 - min x.over (x.l.getD x.i.toNat 0) ≤ 9223372036854775807) ∧ (-9223372036854775808 ≤ x.over - min x.over (x.l.getD x.i.toNat 0) ∧ x.over - min x.over (x.l.getD x.i.toNat 0) ≤ 9223372036854775807) ∧ (-9223372036854775808 ≤ x.i - 1 ∧ x.i - 1 ≤ 9223372036854775807) ∧ ∃ x' : Half, HalfOK p p.l.length M x' ∧ (x'.i + 1).toNat < (x.i + 1).toNat ∧ x.i - 1 = x'.i ∧ x.over - min x.over (x.l.getD x.i.toNat 0) = x'.over ∧ x.le = x'.le ∧ x.l.set x.i.toNat (x.l.getD x.i.toNat 0 - min x.over (x.l.getD x.i.toNat 0)) = x'.l) ∧
        (decide (x.i < (x.l.length : Int)) = false → (-9223372036854775808 ≤ x.le - min x.over x.le ∧ x.le - min x.over x.le ≤ 9223372036854775807) ∧ (-9223372036854775808 ≤ x.over - min x.over x.le ∧ x.over - min x.over x.le ≤ 9223372036854775807) ∧ (-9223372036854775808 ≤ x.i - 1 ∧ x.i - 1 ≤ 9223372036854775807) ∧ ∃ x' : Half, HalfOK p p.l.length M x' ∧ (x'.i + 1).toNat < (x.i + 1).toNat ∧ x.i - 1 = x'.i ∧ x.over - min x.over x.le = x'.over ∧ x.le - min x.over x.le = x'.le ∧ x.l = x'.l)) ∧
      (decide (0 ≤ x.i) = false → ∃ y : Pool, Changed p q bu y ∧ p.g = y.g ∧ q = y.q ∧ bu = y.bu ∧ p.s = y.s ∧ x.le = y.le ∧ p.sp = y.sp ∧ p.pe = y.pe ∧ p.th = y.th ∧ p.em = y.em ∧ x.l = y.l) := fun M x h hM => by
    have hh := h
    obtain ⟨a1, a2, a3, a4, a5, a6, a7, a8, a9⟩ := hh
    have b1 := get_nonneg a5 x.i.toNat
    have b2 := get_le_sum a5 x.i.toNat
    have b3 := sum_nonneg a5
    refine ⟨fun hi => ⟨fun hl => ?_, fun hl => ?_⟩, fun hi => ⟨chP p q bu x, half_stop h (by simpa using hi) hM, rfl, rfl, rfl, rfl, rfl, rfl, rfl, rfl, rfl, rfl⟩⟩
    · simp only [decide_eq_true_eq] at hi hl
      exact ⟨⟨hi, hl⟩, by omega, by omega, by omega, _, h.stepL hi hl, by dsimp only; omega, rfl, rfl, rfl, rfl⟩
    · simp only [decide_eq_true_eq, decide_eq_false_iff_not] at hi hl
      exact ⟨by omega, by omega, by omega, _, h.stepE hi hl, by dsimp only; omega, rfl, rfl, rfl, rfl⟩
  by_cases hq : q = 4611686018427387904
  · have hb : bu = 0 := by omega
    subst hq
    subst hb
    simp only [if_true] at round ⊢
    refine ⟨hg, by omega, by simp, hsm, fun h => by simp at h, fun _ => ⟨⟨_, half_start hg (by omega) (Int.le_refl _), rfl, rfl, rfl, rfl⟩, fun x hx => round _ x hx (by omega)⟩⟩
  · simp only [hq, if_false] at round ⊢
    refine ⟨hg, by omega, by omega, hsm, fun _ => ⟨by omega, by omega, ⟨_, half_start hg (by omega) (by omega), rfl, rfl, rfl, rfl⟩, fun x hx => round _ x hx (by omega)⟩, fun h => by simp [hq] at h⟩

def inv32 (p : Pool) (q bu : Int) : Inv where
  X := Half
  ok := fun h => HalfOK p p.l.length (min (p.le + p.l.sum) (if q = 4611686018427387904 then 0 else q + bu)) h ∧ h.i < p.l.length
  sl := fun h => [(12, .int .i64 h.i), (10, .int .i64 h.over)]
  hp := fun h => [(40020, .cells 26 (poolAV (chP p q bu h) (.own 101 0)).flat), (101, .rows 3 0 h.l)]
  keep := [10000, 10010]
  me := fun h => (h.i + 1).toNat
set_option maxRecDepth 100000 in
theorem vc32 (p : Pool) (q bu : Int) (hx : Good p ∧ RatesI q bu) : sChange.vc (EV Try.prog [(18, sGood.spec), (41, sCopied.spec), (37, sWithin.spec), (15, sHeld.spec), (19, sLimited.spec)] (invs [(15, inv32 p q bu)]) noInv) Try.f32 (p, q, bu, ()) := by
  have e : (Good p ∧ (false = true → ∃ (y : Pool), Changed p q bu y ∧ 0 = y.g ∧ 0 = y.q ∧ 0 = y.bu ∧ 0 = y.s ∧ 0 = y.le ∧ 0 = y.sp ∧ 0 = y.pe ∧ 0 = y.th ∧ false = y.em ∧ (1 : Int) = 0 ∧ NilL Int = y.l) ∧ (false = false → p.l.length ≤ (1048576 : Nat) ∧ True ∧ ((!decide (q = 4611686018427387904)) = true → True ∧ ((!(decide (1 ≤ q) && decide (q ≤ 1000000))) = false → (!(decide (1 ≤ q) && decide (q ≤ 1000000))) = false) ∧ ((!(decide (1 ≤ q) && decide (q ≤ 1000000))) = false → (!(decide (1 ≤ q) && decide (q ≤ 1000000))) = false) ∧ ((!(decide (1 ≤ q) && decide (q ≤ 1000000))) = false → True) ∧ ((!(decide (1 ≤ q) && decide (q ≤ 1000000))) = false → (!(decide (1 ≤ q) && decide (q ≤ 1000000))) = false) ∧ ((!(decide (1 ≤ q) && decide (q ≤ 1000000))) = false → (!(decide (1 ≤ q) && decide (q ≤ 1000000))) = false) ∧ ((!(decide (1 ≤ q) && decide (q ≤ 1000000)) || !(decide (0 ≤ bu) && decide (bu ≤ q))) = true → ∃ (y : Pool), Changed p q bu y ∧ 0 = y.g ∧ 0 = y.q ∧ 0 = y.bu ∧ 0 = y.s ∧ 0 = y.le ∧ 0 = y.sp ∧ 0 = y.pe ∧ 0 = y.th ∧ false = y.em ∧ (3 : Int) = 0 ∧ NilL Int = y.l) ∧ ((!(decide (1 ≤ q) && decide (q ≤ 1000000)) || !(decide (0 ≤ bu) && decide (bu ≤ q))) = false → i64R (q + bu) ∧ Small p.le p.l ∧ i64R (p.le + p.l.sum - (q + bu)) ∧ i64R (p.le - Min.min (Max.max (p.le + p.l.sum - (q + bu)) 0) p.le) ∧ i64R (Max.max (p.le + p.l.sum - (q + bu)) 0 - Min.min (Max.max (p.le + p.l.sum - (q + bu)) 0) p.le) ∧ i64R ((↑p.l.length : Int) - 1) ∧ (∃ (x : Half), (HalfOK p (↑p.l.length : Int) (Min.min (p.le + p.l.sum) (if q = 4611686018427387904 then 0 else q + bu)) x ∧ x.i < (↑p.l.length : Int)) ∧ (↑p.l.length : Int) - 1 = x.i ∧ Max.max (p.le + p.l.sum - (q + bu)) 0 - Min.min (Max.max (p.le + p.l.sum - (q + bu)) 0) p.le = x.over ∧ p.g = p.g ∧ q = q ∧ bu = bu ∧ p.s = p.s ∧ p.le - Min.min (Max.max (p.le + p.l.sum - (q + bu)) 0) p.le = x.le ∧ p.sp = p.sp ∧ p.pe = p.pe ∧ p.th = p.th ∧ p.em = p.em ∧ p.l = x.l ∧ p.g = p.g ∧ p.q = p.q ∧ p.bu = p.bu ∧ p.s = p.s ∧ p.le = p.le ∧ p.l = p.l ∧ p.sp = p.sp ∧ p.pe = p.pe ∧ p.th = p.th ∧ p.em = p.em ∧ (0 : Int) = 0 ∧ (0 : Int) = 0 ∧ (0 : Int) = 0 ∧ (0 : Int) = 0 ∧ (0 : Int) = 0 ∧ (0 : Int) = 0 ∧ (0 : Int) = 0 ∧ (0 : Int) = 0) ∧ ∀ (x : Half), HalfOK p (↑p.l.length : Int) (Min.min (p.le + p.l.sum) (if q = 4611686018427387904 then 0 else q + bu)) x ∧ x.i < (↑p.l.length : Int) → (decide (0 ≤ x.i) = true → (0 ≤ x.i ∧ x.i < (↑x.l.length : Int)) ∧ (0 ≤ x.i ∧ x.i < (↑x.l.length : Int)) ∧ i64R (x.l.getD x.i.toNat 0 - Min.min x.over (x.l.getD x.i.toNat 0)) ∧ (0 ≤ x.i ∧ x.i < (↑x.l.length : Int)) ∧ i64R (x.over - Min.min x.over (x.l.getD x.i.toNat 0)) ∧ i64R (x.i - 1) ∧ ∃ (x' : Half), (HalfOK p (↑p.l.length : Int) (Min.min (p.le + p.l.sum) (if q = 4611686018427387904 then 0 else q + bu)) x' ∧ x'.i < (↑p.l.length : Int)) ∧ (x'.i + 1).toNat < (x.i + 1).toNat ∧ x.i - 1 = x'.i ∧ x.over - Min.min x.over (x.l.getD x.i.toNat 0) = x'.over ∧ p.g = p.g ∧ q = q ∧ bu = bu ∧ p.s = p.s ∧ x.le = x'.le ∧ p.sp = p.sp ∧ p.pe = p.pe ∧ p.th = p.th ∧ p.em = p.em ∧ x.l.set x.i.toNat (x.l.getD x.i.toNat 0 - Min.min x.over (x.l.getD x.i.toNat 0)) = x'.l ∧ p.g = p.g ∧ p.q = p.q ∧ p.bu = p.bu ∧ p.s = p.s ∧ p.le = p.le ∧ p.l = p.l ∧ p.sp = p.sp ∧ p.pe = p.pe ∧ p.th = p.th ∧ p.em = p.em ∧ (0 : Int) = 0 ∧ (0 : Int) = 0 ∧ (0 : Int) = 0 ∧ (0 : Int) = 0 ∧ (0 : Int) = 0 ∧ (0 : Int) = 0 ∧ (0 : Int) = 0 ∧ (0 : Int) = 0) ∧ (decide (0 ≤ x.i) = false → Good { g := p.g, q := q, bu := bu, s := p.s, le := x.le, l := x.l, sp := p.sp, pe := p.pe, th := p.th, em := p.em : Pool } ∧ (false = true → ∃ (y : Pool), Changed p q bu y ∧ 0 = y.g ∧ 0 = y.q ∧ 0 = y.bu ∧ 0 = y.s ∧ 0 = y.le ∧ 0 = y.sp ∧ 0 = y.pe ∧ 0 = y.th ∧ false = y.em ∧ (3 : Int) = 0 ∧ NilL Int = y.l) ∧ (false = false → ∃ (y : Pool), Changed p q bu y ∧ p.g = y.g ∧ q = y.q ∧ bu = y.bu ∧ p.s = y.s ∧ x.le = y.le ∧ p.sp = y.sp ∧ p.pe = y.pe ∧ p.th = y.th ∧ p.em = y.em ∧ (0 : Int) = 0 ∧ x.l = y.l)))) ∧ ((!decide (q = 4611686018427387904)) = false → Small p.le p.l ∧ i64R (p.le + p.l.sum - 0) ∧ i64R (p.le - Min.min (Max.max (p.le + p.l.sum - 0) 0) p.le) ∧ i64R (Max.max (p.le + p.l.sum - 0) 0 - Min.min (Max.max (p.le + p.l.sum - 0) 0) p.le) ∧ i64R ((↑p.l.length : Int) - 1) ∧ (∃ (x : Half), (HalfOK p (↑p.l.length : Int) (Min.min (p.le + p.l.sum) (if q = 4611686018427387904 then 0 else q + bu)) x ∧ x.i < (↑p.l.length : Int)) ∧ (↑p.l.length : Int) - 1 = x.i ∧ Max.max (p.le + p.l.sum - 0) 0 - Min.min (Max.max (p.le + p.l.sum - 0) 0) p.le = x.over ∧ p.g = p.g ∧ q = q ∧ bu = bu ∧ p.s = p.s ∧ p.le - Min.min (Max.max (p.le + p.l.sum - 0) 0) p.le = x.le ∧ p.sp = p.sp ∧ p.pe = p.pe ∧ p.th = p.th ∧ p.em = p.em ∧ p.l = x.l ∧ p.g = p.g ∧ p.q = p.q ∧ p.bu = p.bu ∧ p.s = p.s ∧ p.le = p.le ∧ p.l = p.l ∧ p.sp = p.sp ∧ p.pe = p.pe ∧ p.th = p.th ∧ p.em = p.em ∧ (0 : Int) = 0 ∧ (0 : Int) = 0 ∧ (0 : Int) = 0 ∧ (0 : Int) = 0 ∧ (0 : Int) = 0 ∧ (0 : Int) = 0 ∧ (0 : Int) = 0 ∧ (0 : Int) = 0) ∧ ∀ (x : Half), HalfOK p (↑p.l.length : Int) (Min.min (p.le + p.l.sum) (if q = 4611686018427387904 then 0 else q + bu)) x ∧ x.i < (↑p.l.length : Int) → (decide (0 ≤ x.i) = true → (0 ≤ x.i ∧ x.i < (↑x.l.length : Int)) ∧ (0 ≤ x.i ∧ x.i < (↑x.l.length : Int)) ∧ i64R (x.l.getD x.i.toNat 0 - Min.min x.over (x.l.getD x.i.toNat 0)) ∧ (0 ≤ x.i ∧ x.i < (↑x.l.length : Int)) ∧ i64R (x.over - Min.min x.over (x.l.getD x.i.toNat 0)) ∧ i64R (x.i - 1) ∧ ∃ (x' : Half), (HalfOK p (↑p.l.length : Int) (Min.min (p.le + p.l.sum) (if q = 4611686018427387904 then 0 else q + bu)) x' ∧ x'.i < (↑p.l.length : Int)) ∧ (x'.i + 1).toNat < (x.i + 1).toNat ∧ x.i - 1 = x'.i ∧ x.over - Min.min x.over (x.l.getD x.i.toNat 0) = x'.over ∧ p.g = p.g ∧ q = q ∧ bu = bu ∧ p.s = p.s ∧ x.le = x'.le ∧ p.sp = p.sp ∧ p.pe = p.pe ∧ p.th = p.th ∧ p.em = p.em ∧ x.l.set x.i.toNat (x.l.getD x.i.toNat 0 - Min.min x.over (x.l.getD x.i.toNat 0)) = x'.l ∧ p.g = p.g ∧ p.q = p.q ∧ p.bu = p.bu ∧ p.s = p.s ∧ p.le = p.le ∧ p.l = p.l ∧ p.sp = p.sp ∧ p.pe = p.pe ∧ p.th = p.th ∧ p.em = p.em ∧ (0 : Int) = 0 ∧ (0 : Int) = 0 ∧ (0 : Int) = 0 ∧ (0 : Int) = 0 ∧ (0 : Int) = 0 ∧ (0 : Int) = 0 ∧ (0 : Int) = 0 ∧ (0 : Int) = 0) ∧ (decide (0 ≤ x.i) = false → Good { g := p.g, q := q, bu := bu, s := p.s, le := x.le, l := x.l, sp := p.sp, pe := p.pe, th := p.th, em := p.em : Pool } ∧ (false = true → ∃ (y : Pool), Changed p q bu y ∧ 0 = y.g ∧ 0 = y.q ∧ 0 = y.bu ∧ 0 = y.s ∧ 0 = y.le ∧ 0 = y.sp ∧ 0 = y.pe ∧ 0 = y.th ∧ false = y.em ∧ (3 : Int) = 0 ∧ NilL Int = y.l) ∧ (false = false → ∃ (y : Pool), Changed p q bu y ∧ p.g = y.g ∧ q = y.q ∧ bu = y.bu ∧ p.s = y.s ∧ x.le = y.le ∧ p.sp = y.sp ∧ p.pe = y.pe ∧ p.th = y.th ∧ p.em = y.em ∧ (0 : Int) = 0 ∧ x.l = y.l))))) = sChange.vc (EV Try.prog [(18, sGood.spec), (41, sCopied.spec), (37, sWithin.spec), (15, sHeld.spec), (19, sLimited.spec)] (invs [(15, inv32 p q bu)]) noInv) Try.f32 (p, q, bu, ()) := by kernel_rfl
  rw [← e]
  clear e
  obtain ⟨hg, hr⟩ := hx
  obtain ⟨m, hm, h0, h1, h2, h3⟩ := hg.most
  have hn := hg.n1
  have hn0 := hg.n0
  have hs := sum_nonneg h1
  have hsm := hg.small
  have hr' := hr
  unfold RatesI at hr'
  simp only [NilL_eq, i64R, Bool.not_true, Bool.false_eq_true, false_implies, true_implies, true_and, and_true]
  generalize hM : min (p.le + p.l.sum) (if q = 4611686018427387904 then 0 else q + bu) = M
  have start : ∀ o, M = p.le + p.l.sum - o → 0 ≤ o → o ≤ p.le + p.l.sum → HalfOK p p.l.length M ⟨p.l.length - 1, o - min o p.le, p.le - min o p.le, p.l⟩ := fun o e h0 h1 => by
    rw [e]
    exact (half_start hg h0 h1).stepE (by dsimp only; omega) (by dsimp only; omega)
  have round : ∀ x, HalfOK p p.l.length M x ∧ x.i < p.l.length →
      (decide (0 ≤ x.i) = true → (0 ≤ x.i ∧ x.i < (x.l.length : Int)) ∧ (0 ≤ x.i ∧ x.i < (x.l.length : Int)) ∧ (-9223372036854775808 ≤ x.l.getD x.i.toNat 0 - min x.over (x.l.getD x.i.toNat 0) ∧ x.l.getD x.i.toNat 0 - min x.over (x.l.getD x.i.toNat 0) ≤ 9223372036854775807) ∧ (0 ≤ x.i ∧ x.i < (x.l.length : Int)) ∧ (-9223372036854775808 ≤ x.over - min x.over (x.l.getD x.i.toNat 0) ∧ x.over - min x.over (x.l.getD x.i.toNat 0) ≤ 9223372036854775807) ∧ (-9223372036854775808 ≤ x.i - 1 ∧ x.i - 1 ≤ 9223372036854775807) ∧ ∃ x' : Half, (HalfOK p p.l.length M x' ∧ x'.i < p.l.length) ∧ (x'.i + 1).toNat < (x.i + 1).toNat ∧ x.i - 1 = x'.i ∧ x.over - min x.over (x.l.getD x.i.toNat 0) = x'.over ∧ x.le = x'.le ∧ x.l.set x.i.toNat (x.l.getD x.i.toNat 0 - min x.over (x.l.getD x.i.toNat 0)) = x'.l) ∧
      (decide (0 ≤ x.i) = false → Good ⟨p.g, q, bu, p.s, x.le, x.l, p.sp, p.pe, p.th, p.em⟩ ∧ ∃ y : Pool, Changed p q bu y ∧ p.g = y.g ∧ q = y.q ∧ bu = y.bu ∧ p.s = y.s ∧ x.le = y.le ∧ p.sp = y.sp ∧ p.pe = y.pe ∧ p.th = y.th ∧ p.em = y.em ∧ x.l = y.l) := fun x ⟨h, hl⟩ => by
    have hh := h
    obtain ⟨a1, a2, a3, a4, a5, a6, a7, a8, a9⟩ := hh
    have b1 := get_nonneg a5 x.i.toNat
    have b2 := get_le_sum a5 x.i.toNat
    have b3 := sum_nonneg a5
    refine ⟨fun hi => ?_, fun hi => ?_⟩
    · simp only [decide_eq_true_eq] at hi
      exact ⟨⟨hi, by omega⟩, ⟨hi, by omega⟩, by omega, ⟨hi, by omega⟩, by omega, by omega, _, ⟨h.stepL hi (by omega), by dsimp only; omega⟩, by dsimp only; omega, rfl, rfl, rfl, rfl⟩
    · have hc : Changed p q bu (chP p q bu x) := half_stop h (by simpa using hi) hM.symm
      exact ⟨hc.good hg hr, chP p q bu x, hc, rfl, rfl, rfl, rfl, rfl, rfl, rfl, rfl, rfl, rfl⟩
  have hlen : p.l.length ≤ 1048576 := by omega
  by_cases hq : q = 4611686018427387904
  · have hb : bu = 0 := by omega
    rw [if_pos hq] at hM
    have st := start (max (p.le + p.l.sum - 0) 0) (by omega) (by omega) (by omega)
    subst hq
    refine ⟨hg, hlen, fun h => by simp at h, fun _ => ⟨hsm, by omega, by omega, by omega, by omega, ⟨_, ⟨st, by dsimp only; omega⟩, rfl, rfl, rfl, rfl⟩, round⟩⟩
  · rw [if_neg hq] at hM
    have st := start (max (p.le + p.l.sum - (q + bu)) 0) (by omega) (by omega) (by omega)
    refine ⟨hg, hlen, fun _ => ⟨?_, ?_, ?_, ?_, ?_, fun h => ?_, fun _ => ⟨by omega, hsm, by omega, by omega, by omega, by omega, ⟨_, ⟨st, by dsimp only; omega⟩, rfl, rfl, rfl, rfl⟩, round⟩⟩, fun h => by simp [hq] at h⟩
    all_goals first | exact id | exact fun _ => trivial | (simp at h; omega)
end Go.Proofs.Ytenfpjponaaolaa
