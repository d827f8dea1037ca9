/-
  Lemmas and contracts on the way to the laws of this seat; each theorem states its own conditions, and there are no others.
-/
import Derived.Test.YtemffnpliflkgaaQA
namespace Go.Proofs.Ytemffnpliflkgaa
open Go
set_option linter.unusedVariables false
set_option linter.unusedSimpArgs false
set_option linter.unusedVariables false

def zeroP : Pool := ⟨0, 0, 0, 0, 0, [], 0, 0, 0, false⟩
def refillP (p : Pool) : Pool := { p with le := if p.q = 4611686018427387904 then p.le else p.le + min p.q (p.q + p.bu - (p.le + p.l.sum)), pe := p.pe + 1, sp := 0, em := false }
def tookP (p : Pool) (c : Nat) : Pool := { p with le := p.le - min p.s p.le, l := p.l.set c (p.l.getD c 0 + min p.s p.le) }
def takeR (p : Pool) (c : Nat) : Pool × Int := if p.q ≠ 4611686018427387904 ∧ p.le = 0 then (zeroP, 11) else (tookP p c, 0)
def returnP (p : Pool) (c : Nat) : Pool := { p with le := p.le + p.l.getD c 0, l := p.l.set c 0 }
def usedP (p : Pool) (c : Nat) : Pool := { p with l := p.l.set c (p.l.getD c 0 - 1), sp := min (p.sp + 1) 1099511627776 }
def dryP (p : Pool) : Pool := if p.em then p else { p with em := true, th := p.th + 1 }
def spendR (p : Pool) (c : Nat) : Pool × Int :=
  if p.q = 4611686018427387904 then ({ p with sp := min (p.sp + 1) 1099511627776 }, 0)
  else if p.l.getD c 0 = 0 then (if p.le = 0 then (dryP p, 11) else (usedP (tookP p c) c, 0))
  else (usedP p c, 0)
def newP (g q bu s : Int) (c : Nat) : Pool := ⟨g, q, bu, s, if q = 4611686018427387904 then 0 else q, List.replicate c 0, 0, 1, 0, false⟩
/-- What a change leaves. -/
structure Changed (p : Pool) (nq nb : Int) (y : Pool) : Prop where
  g : y.g = p.g
  q : y.q = nq
  bu : y.bu = nb
  s : y.s = p.s
  sp : y.sp = p.sp
  pe : y.pe = p.pe
  th : y.th = p.th
  em : y.em = p.em
  len : y.l.length = p.l.length
  le0 : 0 ≤ y.le
  l0 : ∀ x ∈ y.l, 0 ≤ x
  held : y.le + y.l.sum = min (p.le + p.l.sum) (if nq = 4611686018427387904 then 0 else nq + nb)
def RatesI (q bu : Int) : Prop := (q = 4611686018427387904 ∧ bu = 0) ∨ (q ≠ 4611686018427387904 ∧ 1 ≤ q ∧ q ≤ 1000000 ∧ 0 ≤ bu ∧ bu ≤ q)
structure Half where
  i : Int
  over : Int
  le : Int
  l : List Int
/-- Behind some rounds of a change: i is the next cell (that of Left comes first). -/
structure HalfOK (p : Pool) (top : Int) (m : Int) (h : Half) : Prop where
  lo : -1 ≤ h.i
  hi : h.i ≤ top
  o0 : 0 ≤ h.over
  le0 : 0 ≤ h.le
  l0 : ∀ x ∈ h.l, 0 ≤ x
  len : h.l.length = p.l.length
  sum : h.le + h.l.sum - h.over = m
  room : h.over ≤ (if h.i = h.l.length then h.le else 0) + (h.l.take (h.i + 1).toNat).sum
  up : h.le + h.l.sum ≤ 2000000
def chP (p : Pool) (q bu : Int) (h : Half) : Pool := { p with q := q, bu := bu, le := h.le, l := h.l }
def over0 (p : Pool) (q bu : Int) : Int := if q = 4611686018427387904 then p.le + p.l.sum else max (p.le + p.l.sum - q - bu) 0
theorem ch_feas (p : Pool) (q bu : Int) (h : Good p) (hr : RatesI q bu) : ∃ y, Changed p q bu y := by
  obtain ⟨m, hm, h0, h1, h2, h3⟩ := h.most
  have hs := sum_nonneg h1
  refine ⟨{ p with q := q, bu := bu, le := min (p.le + p.l.sum) (if q = 4611686018427387904 then 0 else q + bu), l := List.replicate p.l.length 0 }, ⟨rfl, rfl, rfl, rfl, rfl, rfl, rfl, rfl, by simp, ?_, fun x hx => by have := List.eq_of_mem_replicate hx; omega, by simp⟩⟩
  rcases hr with ⟨h5, h6⟩ | ⟨h5, h6, h7, h8, h9⟩
  · simp [h5]; omega
  · simp [h5]; omega
theorem HalfOK.stepL {p : Pool} {m : Int} {x : Half} (h : HalfOK p p.l.length m x) (h0 : 0 ≤ x.i) (h1 : x.i < x.l.length) : HalfOK p p.l.length m ⟨x.i - 1, x.over - min x.over (x.l.getD x.i.toNat 0), x.le, x.l.set x.i.toNat (x.l.getD x.i.toNat 0 - min x.over (x.l.getD x.i.toNat 0))⟩ := by
  obtain ⟨a1, a2, a3, a4, a5, a6, a7, a8, a9⟩ := h
  have hi : x.i.toNat < x.l.length := by omega
  have hs := sum_set hi (x.l.getD x.i.toNat 0 - min x.over (x.l.getD x.i.toNat 0))
  have hg := get_nonneg a5 x.i.toNat
  have e : (x.i + 1).toNat = x.i.toNat + 1 := by omega
  have ht := sum_take_succ x.l x.i.toNat hi
  have ht0 := sum_take_nonneg a5 x.i.toNat
  rw [e, ht, if_neg (by omega)] at a8
  refine ⟨by dsimp only; omega, by dsimp only; omega, by dsimp only; omega, a4, fun y hy => ?_, by simpa using a6, ?_, ?_, ?_⟩
  · rcases List.mem_or_eq_of_mem_set hy with h | h
    · exact a5 y h
    · omega
  · dsimp only; rw [hs]; omega
  · dsimp only; rw [List.length_set, if_neg (by omega)]
    have e2 : (x.i - 1 + 1).toNat = x.i.toNat := by omega
    rw [e2, List.take_set_of_le (Nat.le_refl _)]
    omega
  · dsimp only; rw [hs]; omega
theorem HalfOK.stepE {p : Pool} {m : Int} {x : Half} (h : HalfOK p p.l.length m x) (h0 : 0 ≤ x.i) (h1 : ¬ x.i < x.l.length) : HalfOK p p.l.length m ⟨x.i - 1, x.over - min x.over x.le, x.le - min x.over x.le, x.l⟩ := by
  obtain ⟨a1, a2, a3, a4, a5, a6, a7, a8, a9⟩ := h
  have e : x.i = x.l.length := by omega
  have hs := sum_nonneg a5
  rw [if_pos e, List.take_of_length_le (by omega)] at a8
  refine ⟨by dsimp only; omega, by dsimp only; omega, by dsimp only; omega, by dsimp only; omega, a5, a6, by dsimp only; omega, ?_, by dsimp only; omega⟩
  dsimp only
  rw [if_neg (by omega), List.take_of_length_le (by omega)]
  omega
theorem half_start {p : Pool} (hg : Good p) {o : Int} (h0 : 0 ≤ o) (h1 : o ≤ p.le + p.l.sum) : HalfOK p p.l.length (p.le + p.l.sum - o) ⟨p.l.length, o, p.le, p.l⟩ := by
  obtain ⟨m, hm, a0, a1, a2, a3⟩ := hg.most
  refine ⟨by dsimp only; omega, by dsimp only; omega, h0, a0, a1, rfl, rfl, ?_, by dsimp only; omega⟩
  dsimp only
  rw [if_pos rfl, List.take_of_length_le (by omega)]
  exact h1
theorem half_stop {p : Pool} {q bu m : Int} {x : Half} (h : HalfOK p p.l.length m x) (hi : ¬ 0 ≤ x.i) (hm : m = min (p.le + p.l.sum) (if q = 4611686018427387904 then 0 else q + bu)) : Changed p q bu (chP p q bu x) := by
  obtain ⟨a1, a2, a3, a4, a5, a6, a7, a8, a9⟩ := h
  have e : (x.i + 1).toNat = 0 := by omega
  rw [e, if_neg (by omega)] at a8
  simp only [List.take_zero, List.sum_nil] at a8
  exact ⟨rfl, rfl, rfl, rfl, rfl, rfl, rfl, rfl, a6, a4, a5, by rw [← hm]; show x.le + x.l.sum = m; omega⟩
theorem Changed.good {p y : Pool} {q bu : Int} (h : Changed p q bu y) (hg : Good p) (hr : RatesI q bu) : Good y := by
  have hs := sum_nonneg h.l0
  have hh := h.held
  have hle := h.le0
  refine ⟨by rw [h.g]; exact hg.g0, by rw [h.g]; exact hg.g1, ?_, by rw [h.s]; exact hg.s0, by rw [h.s]; exact hg.s1, by rw [h.len]; exact hg.n0, by rw [h.len]; exact hg.n1, by rw [h.sp]; exact hg.sp0, by rw [h.sp]; exact hg.sp1, by rw [h.pe]; exact hg.pe0, by rw [h.pe]; exact hg.pe1, by rw [h.th]; exact hg.th0, by rw [h.th, h.em, h.pe]; exact hg.th1⟩
  rw [h.q, h.bu]
  rcases hr with ⟨h1, h2⟩ | ⟨h1, h2, h3, h4, h5⟩
  · rw [if_pos h1] at hh
    exact .inl ⟨h1, h2, by omega, all_zero h.l0 (by omega)⟩
  · rw [if_neg h1] at hh
    exact .inr ⟨h1, h2, h3, h4, h5, hle, h.l0, by omega⟩
theorem getD_zero {l : List Int} (h : ∀ x ∈ l, x = 0) (i : Nat) : l.getD i 0 = 0 := by
  have h0 : ∀ x ∈ l, 0 ≤ x := fun x hx => by rw [h x hx]; omega
  have h1 := get_nonneg h0 i
  have h2 := get_le_sum h0 i
  rw [sum_zero h] at h2
  omega
theorem Good.upd {p : Pool} (h : Good p) {le : Int} {l : List Int} (hl : l.length = p.l.length) (h0 : 0 ≤ le) (h1 : ∀ x ∈ l, 0 ≤ x) (hs : le + l.sum ≤ p.le + p.l.sum) : Good { p with le := le, l := l } := by
  have hp := sum_nonneg h1
  refine ⟨h.g0, h.g1, ?_, h.s0, h.s1, by show 1 ≤ l.length; rw [hl]; exact h.n0, by show l.length ≤ 16; rw [hl]; exact h.n1, h.sp0, h.sp1, h.pe0, h.pe1, h.th0, h.th1⟩
  rcases h.lim with ⟨a1, a2, a3, a4⟩ | ⟨a1, a2, a3, a4, a5, a6, a7, a8⟩
  · have := sum_zero a4
    exact .inl ⟨a1, a2, by show le = 0; omega, all_zero h1 (show l.sum ≤ 0 by omega)⟩
  · exact .inr ⟨a1, a2, a3, a4, a5, h0, h1, by show le + l.sum ≤ p.q + p.bu; omega⟩
theorem Good.sp {p : Pool} (h : Good p) {v : Int} (h0 : 0 ≤ v) (h1 : v ≤ 1099511627776) : Good { p with sp := v } :=
  ⟨h.g0, h.g1, h.lim, h.s0, h.s1, h.n0, h.n1, h0, h1, h.pe0, h.pe1, h.th0, h.th1⟩
theorem took_held {p : Pool} {c : Nat} (hc : c < p.l.length) : (tookP p c).le + (tookP p c).l.sum = p.le + p.l.sum := by
  show p.le - min p.s p.le + (p.l.set c (p.l.getD c 0 + min p.s p.le)).sum = _
  rw [sum_set hc]; omega
theorem Good.took {p : Pool} (h : Good p) {c : Nat} (hc : c < p.l.length) : Good (tookP p c) := by
  obtain ⟨m, _, a0, a1, _⟩ := h.most
  have := h.s0
  have := get_nonneg a1 c
  refine h.upd (by simp) (by omega) (fun x hx => ?_) (by have := took_held hc; exact Int.le_of_eq this)
  rcases List.mem_or_eq_of_mem_set hx with h | h
  · exact a1 x h
  · omega
theorem back_held {p : Pool} {c : Nat} (hc : c < p.l.length) : (returnP p c).le + (returnP p c).l.sum = p.le + p.l.sum := by
  show p.le + p.l.getD c 0 + (p.l.set c 0).sum = _
  rw [sum_set hc]; omega
theorem Good.back {p : Pool} (h : Good p) {c : Nat} (hc : c < p.l.length) : Good (returnP p c) := by
  obtain ⟨m, _, a0, a1, _⟩ := h.most
  have := get_nonneg a1 c
  refine h.upd (by simp) (by omega) (fun x hx => ?_) (by have := back_held hc; exact Int.le_of_eq this)
  rcases List.mem_or_eq_of_mem_set hx with h | h
  · exact a1 x h
  · omega
theorem used_held {p : Pool} {c : Nat} (hc : c < p.l.length) : (usedP p c).le + (usedP p c).l.sum = p.le + p.l.sum - 1 := by
  show p.le + (p.l.set c (p.l.getD c 0 - 1)).sum = _
  rw [sum_set hc]; omega
theorem Good.used {p : Pool} (h : Good p) {c : Nat} (hc : c < p.l.length) (h0 : 0 < p.l.getD c 0) : Good (usedP p c) := by
  obtain ⟨m, _, a0, a1, _⟩ := h.most
  have b0 := h.sp0
  have b1 := h.sp1
  have e := used_held hc
  have hg : Good { p with le := p.le, l := p.l.set c (p.l.getD c 0 - 1) } := by
    refine h.upd (by simp) a0 (fun x hx => ?_) ?_
    · rcases List.mem_or_eq_of_mem_set hx with h | h
      · exact a1 x h
      · omega
    · have : p.le + (p.l.set c (p.l.getD c 0 - 1)).sum = p.le + p.l.sum - 1 := e
      omega
  exact hg.sp (v := min (p.sp + 1) 1099511627776) (by omega) (by omega)
theorem Good.dry {p : Pool} (h : Good p) : Good (dryP p) := by
  unfold dryP
  split
  · exact h
  · rename_i he
    have := h.th1
    rw [if_neg (by simpa using he)] at this
    have := h.th0
    exact ⟨h.g0, h.g1, h.lim, h.s0, h.s1, h.n0, h.n1, h.sp0, h.sp1, h.pe0, h.pe1, by show 0 ≤ p.th + 1; omega, by show p.th + 1 ≤ if true then p.pe else p.pe - 1; rw [if_pos rfl]; omega⟩
theorem dry_same (p : Pool) : (dryP p).q = p.q ∧ (dryP p).bu = p.bu ∧ (dryP p).pe = p.pe ∧ (dryP p).l = p.l ∧ (dryP p).le = p.le ∧ (dryP p).sp = p.sp ∧ (dryP p).em = true ∧ (dryP (dryP p)) = dryP p := by
  cases h : p.em <;> simp [dryP, h]
theorem spend_facts {p : Pool} (h : Good p) {c : Nat} (hc : c < p.l.length) : Good (spendR p c).1 ∧ (spendR p c).1.q = p.q ∧ (spendR p c).1.bu = p.bu ∧ (spendR p c).1.pe = p.pe ∧ (spendR p c).1.l.length = p.l.length ∧ (spendR p c).1.sp ≤ p.sp + 1 ∧
    ((p.q = 4611686018427387904 ∧ (spendR p c).2 = 0 ∧ (spendR p c).1.sp = min (p.sp + 1) 1099511627776 ∧ (spendR p c).1.le = p.le ∧ (spendR p c).1.l = p.l) ∨
     (p.q ≠ 4611686018427387904 ∧ 0 < p.le + p.l.getD c 0 ∧ (spendR p c).2 = 0 ∧ (spendR p c).1.sp = min (p.sp + 1) 1099511627776 ∧ (spendR p c).1.le + (spendR p c).1.l.sum = p.le + p.l.sum - 1) ∨
     (p.q ≠ 4611686018427387904 ∧ p.le = 0 ∧ p.l.getD c 0 = 0 ∧ spendR p c = (dryP p, 11))) := by
  obtain ⟨m, _, a0, a1, _⟩ := h.most
  have b0 := h.sp0
  have b1 := h.sp1
  have b2 := get_nonneg a1 c
  have b3 := h.s0
  unfold spendR
  split
  · rename_i hq
    exact ⟨h.sp (v := min (p.sp + 1) 1099511627776) (by omega) (by omega), rfl, rfl, rfl, rfl, by show min (p.sp + 1) 1099511627776 ≤ _; omega, .inl ⟨hq, rfl, rfl, rfl, rfl⟩⟩
  · rename_i hq
    split
    · rename_i hl
      split
      · rename_i hle
        obtain ⟨d1, d2, d3, d4, d5, d6, d7⟩ := dry_same p
        exact ⟨h.dry, d1, d2, d3, by rw [d4], by rw [d6]; omega, .inr (.inr ⟨hq, hle, hl, rfl⟩)⟩
      · rename_i hle
        have hc' : c < (tookP p c).l.length := by simpa [tookP] using hc
        have hp : (tookP p c).l.getD c 0 = min p.s p.le := by
          show (p.l.set c (p.l.getD c 0 + min p.s p.le)).getD c 0 = _
          rw [List.getD_eq_getElem?_getD, List.getElem?_set_self hc, Option.getD_some, hl]; omega
        have e := used_held hc'
        rw [took_held hc] at e
        exact ⟨(h.took hc).used hc' (by rw [hp]; omega), rfl, rfl, rfl, by simp [usedP, tookP], by show min (p.sp + 1) 1099511627776 ≤ _; omega, .inr (.inl ⟨hq, by omega, rfl, rfl, e⟩)⟩
    · rename_i hl
      exact ⟨h.used hc (by omega), rfl, rfl, rfl, by simp [usedP], by show min (p.sp + 1) 1099511627776 ≤ _; omega, .inr (.inl ⟨hq, by omega, rfl, rfl, used_held hc⟩)⟩
theorem refill_facts {p : Pool} (h : Good p) (hp : p.pe < 1099511627776) : Good (refillP p) ∧ (p.q = 4611686018427387904 → (refillP p).le = 0) ∧ (p.q ≠ 4611686018427387904 → (refillP p).le + p.l.sum = min (p.le + p.l.sum + p.q) (p.q + p.bu)) := by
  have hl := h.lim
  have g0 := h.pe0
  have g1 := h.th0
  have g2 := h.th1
  refine ⟨⟨h.g0, h.g1, ?_, h.s0, h.s1, h.n0, h.n1, Int.le_refl 0, by show (0 : Int) ≤ _; omega, by show 0 ≤ p.pe + 1; omega, by show p.pe + 1 ≤ _; omega, h.th0, ?_⟩, fun hq => ?_, fun hq => ?_⟩
  · show (p.q = 4611686018427387904 ∧ p.bu = 0 ∧ (if p.q = 4611686018427387904 then p.le else p.le + min p.q (p.q + p.bu - (p.le + p.l.sum))) = 0 ∧ ∀ x ∈ p.l, x = 0) ∨ (p.q ≠ 4611686018427387904 ∧ 1 ≤ p.q ∧ p.q ≤ 1000000 ∧ 0 ≤ p.bu ∧ p.bu ≤ p.q ∧ 0 ≤ (if p.q = 4611686018427387904 then p.le else p.le + min p.q (p.q + p.bu - (p.le + p.l.sum))) ∧ (∀ x ∈ p.l, 0 ≤ x) ∧ (if p.q = 4611686018427387904 then p.le else p.le + min p.q (p.q + p.bu - (p.le + p.l.sum))) + p.l.sum ≤ p.q + p.bu)
    rcases hl with ⟨a1, a2, a3, a4⟩ | ⟨a1, a2, a3, a4, a5, a6, a7, a8⟩
    · rw [if_pos a1]; exact .inl ⟨a1, a2, a3, a4⟩
    · rw [if_neg a1]; exact .inr ⟨a1, a2, a3, a4, a5, by omega, a7, by omega⟩
  · show p.th ≤ if false then p.pe + 1 else p.pe + 1 - 1
    rw [if_neg (by simp)]
    split at g2 <;> omega
  · show (if p.q = 4611686018427387904 then p.le else _) = 0
    rw [if_pos hq]
    rcases hl with ⟨a1, a2, a3, a4⟩ | ⟨a1, a2⟩
    · exact a3
    · exact absurd hq a1
  · show (if p.q = 4611686018427387904 then p.le else p.le + min p.q (p.q + p.bu - (p.le + p.l.sum))) + p.l.sum = _
    rw [if_neg hq]
    rcases hl with ⟨a1, a2⟩ | ⟨a1, a2, a3, a4, a5, a6, a7, a8⟩
    · exact absurd a1 hq
    · omega
theorem take_facts (p : Pool) (c : Nat) : (p.q ≠ 4611686018427387904 ∧ p.le = 0 ∧ takeR p c = (zeroP, 11)) ∨ takeR p c = (tookP p c, 0) := by
  unfold takeR
  split
  · rename_i h; exact .inl ⟨h.1, h.2, rfl⟩
  · exact .inr rfl
/-- A pool that was made, with i steps still to come. -/
theorem new_good {g q bu s : Int} {c : Nat} (h : 1 ≤ g ∧ g ≤ 2147483647) (hr : RatesI q bu) (hs : 1 ≤ s ∧ s ≤ 1000000) (hc : 1 ≤ c ∧ c ≤ 16) : Good (newP g q bu s c) := by
  have hz : (List.replicate c (0 : Int)).sum = 0 := sum_zero fun x hx => List.eq_of_mem_replicate hx
  refine ⟨h.1, h.2, ?_, hs.1, hs.2, by simpa [newP] using hc.1, by simpa [newP] using hc.2, Int.le_refl 0, by show (0 : Int) ≤ _; omega, by show (0 : Int) ≤ 1; omega, by show (1 : Int) ≤ _; omega, Int.le_refl 0, by show (0 : Int) ≤ if false then 1 else 1 - 1; simp⟩
  show (q = 4611686018427387904 ∧ bu = 0 ∧ (if q = 4611686018427387904 then 0 else q) = 0 ∧ ∀ x ∈ List.replicate c (0 : Int), x = 0) ∨ (q ≠ 4611686018427387904 ∧ 1 ≤ q ∧ q ≤ 1000000 ∧ 0 ≤ bu ∧ bu ≤ q ∧ 0 ≤ (if q = 4611686018427387904 then 0 else q) ∧ (∀ x ∈ List.replicate c (0 : Int), 0 ≤ x) ∧ (if q = 4611686018427387904 then 0 else q) + (List.replicate c (0 : Int)).sum ≤ q + bu)
  rcases hr with ⟨a1, a2⟩ | ⟨a1, a2, a3, a4, a5⟩
  · rw [if_pos a1]; exact .inl ⟨a1, a2, rfl, fun x hx => List.eq_of_mem_replicate hx⟩
  · rw [if_neg a1, hz]; exact .inr ⟨a1, a2, a3, a4, a5, by omega, fun x hx => by rw [List.eq_of_mem_replicate hx]; exact Int.le_refl 0, by omega⟩
def takeG (p : Pool) (c : Int) : Pool × Int := if useI p c = 0 then takeR p c.toNat else (zeroP, useI p c)
def returnG (p : Pool) (c : Int) : Pool × Int := if useI p c = 0 then (returnP p c.toNat, 0) else (zeroP, useI p c)
def spendG (p : Pool) (c : Int) : Pool × Int := if useI p c = 0 then spendR p c.toNat else (zeroP, useI p c)
def refillG (p : Pool) : Pool × Int := if goodB p = false then (zeroP, 1) else if 1099511627776 ≤ p.pe then (zeroP, 7) else (refillP p, 0)
def newG (g q bu s c : Int) : Pool × Int := if 1 ≤ c ∧ c ≤ 16 ∧ goodB (newP g q bu s c.toNat) = true then (newP g q bu s c.toNat, 0) else (zeroP, 3)
def drain : Nat → Int → List Int → List Int
  | 0, _, l => l
  | n + 1, o, l => drain n (o - min o (l.getD n 0)) (l.set n (l.getD n 0 - min o (l.getD n 0)))
def overI (p : Pool) (q bu : Int) : Int := if q = 4611686018427387904 then p.le + p.l.sum else max (p.le + p.l.sum - q - bu) 0
def chD (p : Pool) (q bu : Int) : Pool := { p with q := q, bu := bu, le := p.le - min (overI p q bu) p.le, l := drain p.l.length (overI p q bu - min (overI p q bu) p.le) p.l }
def changeG (p : Pool) (q bu : Int) : Pool × Int := if goodB p = false then (zeroP, 1) else if ratesI q bu = false then (zeroP, 3) else (chD p q bu, 0)
def rem1 (n : Nat) (x : Half) : Int × List Int := if x.i = n then (x.le - min x.over x.le, drain n (x.over - min x.over x.le) x.l) else (x.le, drain (x.i + 1).toNat x.over x.l)
theorem use_ok {p : Pool} {c : Int} (h : useI p c = 0) : Good p ∧ 0 ≤ c ∧ c < p.l.length := by
  unfold useI at h
  by_cases e : goodB p = false
  · rw [if_pos e] at h; omega
  · rw [if_neg e] at h
    have e2 : goodB p = true := by simpa using e
    by_cases e3 : c < 0 ∨ (p.l.length : Int) ≤ c
    · rw [if_pos e3] at h; omega
    · exact ⟨goodB_iff.1 e2, by omega, by omega⟩
theorem use_of {p : Pool} {c : Int} (h : Good p) (h0 : 0 ≤ c) (h1 : c < p.l.length) : useI p c = 0 := by
  rw [useI, if_neg (by rw [goodB_iff.2 h]; simp), if_neg (by omega)]
theorem rem_step {n : Nat} {x : Half} (hl : x.l.length = n) (h0 : 0 ≤ x.i) (h1 : x.i < x.l.length) : rem1 n ⟨x.i - 1, x.over - min x.over (x.l.getD x.i.toNat 0), x.le, x.l.set x.i.toNat (x.l.getD x.i.toNat 0 - min x.over (x.l.getD x.i.toNat 0))⟩ = rem1 n x := by
  unfold rem1
  rw [if_neg (by dsimp only; omega), if_neg (by omega)]
  have e : (x.i + 1).toNat = x.i.toNat + 1 := by omega
  have e2 : (x.i - 1 + 1).toNat = x.i.toNat := by omega
  dsimp only
  rw [e, e2, drain]
theorem rem_top {n : Nat} {x : Half} (hi : x.i = n) : rem1 n ⟨x.i - 1, x.over - min x.over x.le, x.le - min x.over x.le, x.l⟩ = rem1 n x := by
  unfold rem1
  rw [if_neg (by dsimp only; omega), if_pos hi]
  dsimp only
  have e2 : (x.i - 1 + 1).toNat = n := by omega
  rw [e2]
theorem rem_end {n : Nat} {x : Half} (h0 : -1 ≤ x.i) (h1 : ¬ 0 ≤ x.i) : rem1 n x = (x.le, x.l) := by
  unfold rem1
  rw [if_neg (by omega)]
  have e : (x.i + 1).toNat = 0 := by omega
  rw [e, drain]
theorem drain_half {p : Pool} {m : Int} : ∀ (k : Nat) (o le : Int) (l : List Int), HalfOK p p.l.length m ⟨(k : Int) - 1, o, le, l⟩ → k ≤ p.l.length → ∃ o', HalfOK p p.l.length m ⟨-1, o', le, drain k o l⟩
  | 0, o, le, l, h, _ => ⟨o, h⟩
  | k + 1, o, le, l, h, hk => by
    have hl := h.len
    dsimp only at hl
    have h2 := h.stepL (by dsimp only; omega) (by dsimp only; omega)
    have e : ((k + 1 : Nat) : Int) - 1 = k := by omega
    dsimp only at h2
    rw [e] at h2
    simp only [Int.toNat_natCast] at h2
    rw [drain]
    exact drain_half k _ _ _ h2 (by omega)
theorem over_rng {p : Pool} {q bu : Int} (hg : Good p) (hr : ratesI q bu = true) : 0 ≤ overI p q bu ∧ overI p q bu ≤ p.le + p.l.sum ∧ p.le + p.l.sum - overI p q bu = min (p.le + p.l.sum) (if q = 4611686018427387904 then 0 else q + bu) := by
  obtain ⟨m, hm, a0, a1, a2, a3⟩ := hg.most
  have hs := sum_nonneg a1
  unfold overI
  rcases ratesI_iff.1 hr with ⟨h1, h2⟩ | ⟨h1, h2⟩
  · rw [if_pos h1, if_pos h1]; omega
  · rw [if_neg h1, if_neg h1]; omega
theorem ch_changed {p : Pool} {q bu : Int} (hg : Good p) (hr : ratesI q bu = true) : Changed p q bu (chD p q bu) := by
  obtain ⟨o0, o1, o2⟩ := over_rng hg hr
  have h1 := (half_start hg o0 o1).stepE (by dsimp only; omega) (by dsimp only; omega)
  obtain ⟨o', h2⟩ := drain_half p.l.length _ _ _ h1 (Nat.le_refl _)
  exact half_stop h2 (by dsimp only; omega) o2
theorem ch_good {p : Pool} {q bu : Int} (hg : Good p) (hr : ratesI q bu = true) : Good (chD p q bu) := (ch_changed hg hr).good hg (ratesI_iff.1 hr)
theorem tame_new (g q bu s le : Int) (l : List Int) (h0 : -1152921504606846976 ≤ bu) (h1 : bu ≤ 1152921504606846976) (hl : l.length ≤ 1048576) : Tame ⟨g, q, bu, s, le, l, 0, 1, 0, false⟩ := ⟨h0, h1, by show (0 : Int) ≤ _; omega, by show _ ≤ (1 : Int); omega, by show _ ≤ (0 : Int); omega, by show (1 : Int) ≤ _; omega, hl⟩
end Go.Proofs.Ytemffnpliflkgaa
