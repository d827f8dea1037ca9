/-
  Lemmas and contracts on the way to the laws of this seat; each theorem states its own conditions, and there are no others.
-/
import Derived.Test.YtemffnpliflkgaaPA
namespace Go.Proofs.Ytemffnpliflkgaa
open Go
set_option linter.unusedVariables false
set_option linter.unusedSimpArgs false
set_option linter.unusedVariables false

theorem sum_take_succ (l : List Int) (i : Nat) (h : i < l.length) : (l.take (i + 1)).sum = (l.take i).sum + l.getD i 0 := by
  rw [List.take_add_one, List.sum_append]
  simp [List.getD_eq_getElem?_getD, h]
theorem sum_take_nonneg {l : List Int} (h : ∀ x ∈ l, 0 ≤ x) (i : Nat) : 0 ≤ (l.take i).sum := by
  induction l generalizing i with
  | nil => simp
  | cons a r ih =>
    cases i with
    | zero => simp
    | succ i =>
      have := ih (fun x hx => h x (by simp [hx])) i
      have := h a (by simp)
      simp only [List.take_succ_cons, List.sum_cons]; omega
theorem sum_take_le {l : List Int} (h : ∀ x ∈ l, 0 ≤ x) (i : Nat) : (l.take i).sum ≤ l.sum := by
  induction l generalizing i with
  | nil => simp
  | cons a r ih =>
    have hr : ∀ x ∈ r, 0 ≤ x := fun x hx => h x (by simp [hx])
    have h0 := h a (by simp)
    cases i with
    | zero =>
      have := sum_take_nonneg hr r.length
      rw [List.take_length] at this
      simp only [List.take_zero, List.sum_nil, List.sum_cons]; omega
    | succ i =>
      have := ih hr i
      simp only [List.take_succ_cons, List.sum_cons]; omega
theorem get_nonneg {l : List Int} (h : ∀ x ∈ l, 0 ≤ x) (i : Nat) : 0 ≤ l.getD i 0 := by
  rw [List.getD_eq_getElem?_getD]
  cases e : l[i]? with
  | none => simp
  | some x => simpa using h x (List.mem_of_getElem? e)
theorem sum_nonneg {l : List Int} (h : ∀ x ∈ l, 0 ≤ x) : 0 ≤ l.sum := by
  have := sum_take_nonneg h l.length
  rwa [List.take_length] at this
theorem ex_zero (n : Nat) : ∃ x : Nat, x ≤ n ∧ (0 : Int) = x := ⟨0, by omega, rfl⟩
theorem ex_next (n : Nat) : ∀ i : Nat, i < n → ∃ x : Nat, x ≤ n ∧ n - x < n - i ∧ (i : Int) + 1 = x := fun i h => ⟨i + 1, by omega, by omega, by omega⟩
theorem Good.rates {p : Pool} (h : Good p) : Rates p := by
  rcases h.lim with ⟨h1, h2, _⟩ | ⟨h1, h2, h3, h4, h5, _⟩
  · exact .inl ⟨h1, h2⟩
  · exact .inr ⟨h1, h2, h3, h4, h5⟩
theorem sum_zero {l : List Int} (h : ∀ x ∈ l, x = 0) : l.sum = 0 := by
  induction l with
  | nil => rfl
  | cons a l ih => rw [List.sum_cons, h a (by simp), ih fun x hx => h x (by simp [hx])]; rfl
theorem get_le_sum {l : List Int} (h : ∀ x ∈ l, 0 ≤ x) (i : Nat) : l.getD i 0 ≤ l.sum := by
  by_cases hi : i < l.length
  · have h1 := sum_take_succ l i hi
    have h2 := sum_take_le h (i + 1)
    have h3 := sum_take_nonneg h i
    omega
  · have := sum_take_nonneg h l.length
    rw [List.take_length] at this
    rw [List.getD_eq_getElem?_getD, List.getElem?_eq_none (by omega)]
    simpa using this
/-- What the code knows of a good pool: m is what it may hold. -/
theorem Good.most {p : Pool} (h : Good p) : ∃ m, ((p.q = 4611686018427387904 ∧ m = 0 ∧ p.bu = 0 ∧ p.le = 0) ∨ (¬ p.q = 4611686018427387904 ∧ 1 ≤ p.q ∧ p.q ≤ 1000000 ∧ 0 ≤ p.bu ∧ p.bu ≤ p.q ∧ m = p.q + p.bu)) ∧ 0 ≤ p.le ∧ (∀ x ∈ p.l, 0 ≤ x) ∧ p.le + p.l.sum ≤ m ∧ m ≤ 2000000 := by
  rcases h.lim with ⟨h1, h2, h3, h4⟩ | ⟨h1, h2, h3, h4, h5, h6, h7, h8⟩
  · exact ⟨0, .inl ⟨h1, rfl, h2, h3⟩, by omega, fun x hx => by rw [h4 x hx]; omega, by rw [sum_zero h4]; omega, by omega⟩
  · exact ⟨p.q + p.bu, .inr ⟨h1, h2, h3, h4, h5, rfl⟩, h6, h7, h8, by omega⟩
theorem Good.small {p : Pool} (h : Good p) : Small p.le p.l := by
  obtain ⟨m, _, h1, h2, h3, h4⟩ := h.most
  have := h.n1
  exact ⟨h1, h2, by omega, by omega⟩
theorem Good.cell_le {p : Pool} (h : Good p) (i : Nat) : 0 ≤ (p.le :: p.l).getD i 0 ∧ (p.le :: p.l).getD i 0 ≤ p.le + p.l.sum := by
  obtain ⟨m, _, h1, h2, h3, h4⟩ := h.most
  have h5 : ∀ x ∈ p.le :: p.l, 0 ≤ x := fun x hx => by
    rcases List.mem_cons.1 hx with e | hx
    · omega
    · exact h2 x hx
  have := get_nonneg h5 i
  have := get_le_sum h5 i
  rw [List.sum_cons] at this
  omega
theorem Good.room {p : Pool} (h : Good p) {c : Int} (_ : 0 ≤ c) (_ : c < p.l.length) : 0 ≤ p.l.getD c.toNat 0 ∧ p.le + p.l.getD c.toNat 0 ≤ 2000000 ∧ 0 ≤ p.le := by
  obtain ⟨m, _, h1, h2, h3, h4⟩ := h.most
  have := get_nonneg h2 c.toNat
  have := get_le_sum h2 c.toNat
  omega
theorem sum_set {l : List Int} {i : Nat} (h : i < l.length) (v : Int) : (l.set i v).sum = l.sum - l.getD i 0 + v := by
  induction l generalizing i with
  | nil => simp at h
  | cons a r ih =>
    cases i with
    | zero => simp only [List.set_cons_zero, List.sum_cons, List.getD_cons_zero]; omega
    | succ i =>
      have := ih (i := i) (by simpa using h)
      simp only [List.set_cons_succ, List.sum_cons, List.getD_cons_succ]; omega
theorem all_zero {l : List Int} (h : ∀ x ∈ l, 0 ≤ x) (hs : l.sum ≤ 0) : ∀ x ∈ l, x = 0 := fun x hx => by
  obtain ⟨i, hi, rfl⟩ := List.getElem_of_mem hx
  have h1 := get_le_sum h i
  have h2 := h _ hx
  rw [List.getD_eq_getElem?_getD, List.getElem?_eq_getElem hi] at h1
  simp only [Option.getD_some] at h1
  omega

def mostI (p : Pool) : Int := if p.q = 4611686018427387904 then 0 else p.q + p.bu
def ratesI (q bu : Int) : Bool := if q = 4611686018427387904 then decide (bu = 0) else (decide (1 ≤ q) && decide (q ≤ 1000000)) && (decide (0 ≤ bu) && decide (bu ≤ q))
def cellB (m x : Int) : Bool := decide (0 ≤ x) && decide (x ≤ m)
def heldB (p : Pool) : Bool := (p.le :: p.l).all (cellB (mostI p)) && decide (p.le + p.l.sum ≤ mostI p)
def countB (p : Pool) : Bool := ((decide (0 ≤ p.sp) && decide (p.sp ≤ 1099511627776)) && (decide (0 ≤ p.pe) && decide (p.pe ≤ 1099511627776)) && (decide (0 ≤ p.th) && decide (p.th ≤ 1099511627776))) && decide (p.th ≤ if p.em then p.pe else p.pe - 1)
def goodB (p : Pool) : Bool := (decide (1 ≤ p.g) && decide (p.g ≤ 2147483647)) && ratesI p.q p.bu && (decide (1 ≤ p.s) && decide (p.s ≤ 1000000)) && (decide (1 ≤ (p.l.length : Int)) && decide ((p.l.length : Int) ≤ 16)) && heldB p && countB p
theorem ratesI_iff {q bu : Int} : ratesI q bu = true ↔ (q = 4611686018427387904 ∧ bu = 0) ∨ (q ≠ 4611686018427387904 ∧ 1 ≤ q ∧ q ≤ 1000000 ∧ 0 ≤ bu ∧ bu ≤ q) := by
  unfold ratesI
  split
  · simp only [decide_eq_true_eq]; omega
  · simp only [Bool.and_eq_true, decide_eq_true_eq]; omega
theorem heldB_iff {p : Pool} : heldB p = true ↔ (0 ≤ p.le ∧ p.le ≤ mostI p) ∧ (∀ x ∈ p.l, 0 ≤ x ∧ x ≤ mostI p) ∧ p.le + p.l.sum ≤ mostI p := by
  simp only [heldB, cellB, Bool.and_eq_true, List.all_eq_true, decide_eq_true_eq, List.mem_cons, forall_eq_or_imp, and_assoc]
theorem countB_iff {p : Pool} : countB p = true ↔ (0 ≤ p.sp ∧ p.sp ≤ 1099511627776) ∧ (0 ≤ p.pe ∧ p.pe ≤ 1099511627776) ∧ 0 ≤ p.th ∧ p.th ≤ 1099511627776 ∧ p.th ≤ if p.em then p.pe else p.pe - 1 := by
  simp only [countB, Bool.and_eq_true, decide_eq_true_eq, and_assoc]
theorem mem_le_sum {l : List Int} (h : ∀ x ∈ l, 0 ≤ x) {x : Int} (hx : x ∈ l) : x ≤ l.sum := by
  obtain ⟨i, hi, rfl⟩ := List.getElem_of_mem hx
  have h1 := get_le_sum h i
  rw [List.getD_eq_getElem?_getD, List.getElem?_eq_getElem hi] at h1
  simpa using h1
theorem goodB_iff {p : Pool} : goodB p = true ↔ Good p := by
  simp only [goodB, Bool.and_eq_true, decide_eq_true_eq, ratesI_iff, heldB_iff, countB_iff]
  constructor
  · rintro ⟨⟨⟨⟨⟨h1, h2⟩, h3⟩, h4⟩, h5⟩, h6, h7, h8, h9, h10⟩
    obtain ⟨h5a, h5b, h5c⟩ := h5
    have hl : ∀ x ∈ p.l, 0 ≤ x := fun x hx => (h5b x hx).1
    have hs := sum_nonneg hl
    refine ⟨h1.1, h1.2, ?_, h3.1, h3.2, by omega, by omega, h6.1, h6.2, h7.1, h7.2, h8, h10⟩
    rcases h2 with ⟨q1, q2⟩ | ⟨q1, q2, q3, q4, q5⟩
    · rw [mostI, if_pos q1] at h5c h5a
      exact .inl ⟨q1, q2, by omega, all_zero hl (by omega)⟩
    · rw [mostI, if_neg q1] at h5c
      exact .inr ⟨q1, q2, q3, q4, q5, h5a.1, hl, by omega⟩
  · intro h
    obtain ⟨m, hm, h0, h1, h2, h3⟩ := h.most
    have hs := sum_nonneg h1
    have em : mostI p = m := by
      unfold mostI
      rcases hm with ⟨a, b, _⟩ | ⟨a, _, _, _, _, b⟩
      · rw [if_pos a, b]
      · rw [if_neg a, b]
    have n0 := h.n0
    have n1 := h.n1
    have t1 := h.th1
    have p1 := h.pe1
    refine ⟨⟨⟨⟨⟨⟨h.g0, h.g1⟩, h.rates⟩, h.s0, h.s1⟩, by omega, by omega⟩, ⟨h0, by omega⟩, fun x hx => ⟨h1 x hx, ?_⟩, by omega⟩, ⟨h.sp0, h.sp1⟩, ⟨h.pe0, h.pe1⟩, h.th0, ?_, t1⟩
    · have := mem_le_sum h1 hx
      omega
    · cases e : p.em
      · rw [e] at t1; simp only [Bool.false_eq_true, if_false] at t1; omega
      · rw [e] at t1; simp only [if_true] at t1; omega
/-- What the code may meet: not every pool is good, but its numbers are not huge. -/
structure Tame (p : Pool) : Prop where
  bu0 : -1152921504606846976 ≤ p.bu
  bu1 : p.bu ≤ 1152921504606846976
  th : p.th ≤ 1152921504606846976
  pe : -1152921504606846976 ≤ p.pe
  th0 : -1152921504606846976 ≤ p.th
  pe1 : p.pe ≤ 1152921504606846976
  len : p.l.length ≤ 1048576
theorem Good.tame {p : Pool} (h : Good p) : Tame p := by
  obtain ⟨m, hm, h0, h1, h2, h3⟩ := h.most
  have n1 := h.n1
  have p1 := h.pe1
  have p0 := h.pe0
  have t1 := h.th1
  have t0 := h.th0
  refine ⟨by omega, by omega, ?_, by omega, by omega, by omega, by omega⟩
  cases e : p.em
  · rw [e] at t1; simp only [Bool.false_eq_true, if_false] at t1; omega
  · rw [e] at t1; simp only [if_true] at t1; omega
end Go.Proofs.Ytemffnpliflkgaa
