/-
  Lemmas and contracts on the way to the laws of this seat; each theorem states its own conditions, and there are no others.
-/
import Derived.Test.YtompifpamldjaaaND
namespace Go.Proofs.Ytompifpamldjaaa
open Go
set_option linter.unusedVariables false
set_option linter.unusedSimpArgs false
set_option linter.unusedVariables false
set_option linter.unusedSimpArgs false
set_option linter.unusedVariables false

/-- Ascending, each once. -/
def AscI (l : List Int) : Prop := ∀ i j : Nat, i < j → j < l.length → l.getD i 0 < l.getD j 0
theorem asc_nil : AscI [] := fun i j _ h => absurd h (by simp)
/-- A number put into its place. -/
def insL (l : List Int) (k : Nat) (x : Int) : List Int := l.take k ++ x :: l.drop k
theorem ins_len (l : List Int) {k : Nat} (x : Int) (h : k ≤ l.length) : (insL l k x).length = l.length + 1 := by
  simp [insL]; omega
theorem ins_get (l : List Int) {k : Nat} (x : Int) (h : k ≤ l.length) (i : Nat) : (insL l k x).getD i 0 = if i < k then l.getD i 0 else if i = k then x else l.getD (i - 1) 0 := by
  have e1 : (l.take k).length = k := by simp; omega
  simp only [insL, List.getD_eq_getElem?_getD]
  by_cases h1 : i < k
  · rw [if_pos h1, List.getElem?_append_left (by omega), List.getElem?_take_of_lt h1]
  · rw [if_neg h1, List.getElem?_append_right (by omega), e1]
    by_cases h2 : i = k
    · rw [if_pos h2, h2, Nat.sub_self]; rfl
    · rw [if_neg h2]
      obtain ⟨m, hm⟩ : ∃ m, i - k = m + 1 := ⟨i - k - 1, by omega⟩
      rw [hm, List.getElem?_cons_succ, List.getElem?_drop]
      congr 2
      omega
theorem ins_mem (l : List Int) {k : Nat} (x z : Int) : z ∈ insL l k x ↔ z = x ∨ z ∈ l := by
  rw [insL, List.mem_append, List.mem_cons]
  conv => rhs; rw [← List.take_append_drop k l, List.mem_append]
  constructor
  · rintro (h | h | h) <;> simp [h]
  · rintro (h | h | h) <;> simp [h]
theorem ins_asc {l : List Int} {k : Nat} {x : Int} (h : AscI l) (hk : k ≤ l.length) (hr : ∀ j, k ≤ j → j < l.length → x < l.getD j 0) (hl : 0 < k → l.getD (k - 1) 0 < x) : AscI (insL l k x) := by
  intro i j hij hj
  rw [ins_len l x hk] at hj
  rw [ins_get l x hk, ins_get l x hk]
  have lt : ∀ i, i < k → l.getD i 0 < x := fun i hi => by
    have h1 := hl (by omega)
    by_cases e : i = k - 1
    · rw [e]; exact h1
    · have := h i (k - 1) (by omega) (by omega); omega
  by_cases c1 : i < k
  · rw [if_pos c1]
    by_cases c2 : j < k
    · rw [if_pos c2]; exact h i j hij (by omega)
    · rw [if_neg c2]
      by_cases c3 : j = k
      · rw [if_pos c3]; exact lt i c1
      · rw [if_neg c3]
        have := lt i c1
        have := hr (j - 1) (by omega) (by omega)
        omega
  · rw [if_neg c1, if_neg (by omega : ¬ j < k), if_neg (by omega : ¬ j = k)]
    by_cases c4 : i = k
    · rw [if_pos c4]; exact hr (j - 1) (by omega) (by omega)
    · rw [if_neg c4]; exact h (i - 1) (j - 1) (by omega) (by omega)
theorem asc_ins_ex {l : List Int} (h : AscI l) (x : Int) : ∃ y, AscI y ∧ (∀ z, z ∈ y ↔ z = x ∨ z ∈ l) ∧ y.length ≤ l.length + 1 := by
  by_cases hm : x ∈ l
  · exact ⟨l, h, fun z => ⟨.inr, fun hz => by rcases hz with rfl | hz; exact hm; exact hz⟩, by omega⟩
  · have key : ∀ n : Nat, n ≤ l.length → ∃ k, k ≤ n ∧ (∀ j, k ≤ j → j < n → x < l.getD j 0) ∧ (0 < k → l.getD (k - 1) 0 < x) := by
      intro n
      induction n with
      | zero => exact fun _ => ⟨0, by omega, fun j h1 h2 => by omega, fun h => by omega⟩
      | succ n ih =>
        intro hn
        by_cases c : x < l.getD n 0
        · obtain ⟨k, h1, h2, h3⟩ := ih (by omega)
          refine ⟨k, by omega, fun j hj1 hj2 => ?_, h3⟩
          by_cases e : j = n
          · rw [e]; exact c
          · exact h2 j hj1 (by omega)
        · refine ⟨n + 1, by omega, fun j h1 h2 => by omega, fun _ => ?_⟩
          have h4 : l.getD n 0 ∈ l := by
            rw [List.getD_eq_getElem?_getD, List.getElem?_eq_getElem (by omega)]
            exact List.getElem_mem _
          have h5 : l.getD n 0 ≠ x := fun e => hm (e ▸ h4)
          show l.getD n 0 < x
          omega
    obtain ⟨k, h1, h2, h3⟩ := key l.length (Nat.le_refl _)
    exact ⟨insL l k x, ins_asc h h1 h2 h3, fun z => ins_mem l x z, Nat.le_of_eq (ins_len l x h1)⟩
theorem sorted_ex : ∀ l : List Int, ∃ y : List Int, (AscI y ∧ ∀ z, z ∈ y ↔ z ∈ l) ∧ y.length ≤ l.length
  | [] => ⟨[], ⟨asc_nil, fun z => Iff.rfl⟩, Nat.le_refl _⟩
  | x :: l => by
    obtain ⟨y, ⟨h1, h2⟩, h3⟩ := sorted_ex l
    obtain ⟨z, g1, g2, g3⟩ := asc_ins_ex h1 x
    exact ⟨z, ⟨g1, fun w => by rw [g2, h2, List.mem_cons]⟩, by rw [List.length_cons]; omega⟩
/-- What the copying makes of a list with one more place. -/
theorem copy_ins {l : List Int} {k : Nat} {x : Int} (h : k ≤ l.length) : (copyL (l ++ [0]) (k + 1) (((l ++ [0]).drop k).take (l.length + 1 - (k + 1)))).set k x = insL l k x := by
  have e1 : ((l ++ [0]).drop k).take (l.length + 1 - (k + 1)) = l.drop k := by
    rw [List.drop_append_of_le_length h, List.take_append_of_le_length (by simp), List.take_of_length_le (by simp)]
  have e2 : (l ++ [0]).take (k + 1) = l.take k ++ [(l ++ [0]).getD k 0] := by
    rw [List.take_add_one, List.getElem?_eq_getElem (by simp; omega), List.take_append_of_le_length h, List.getD_eq_getElem?_getD, List.getElem?_eq_getElem (by simp; omega)]
    rfl
  have e3 : (l ++ [0]).drop (k + 1 + (l.drop k).length) = [] := List.drop_eq_nil_of_le (by simp; omega)
  rw [e1, copyL, e2, e3, List.append_nil, List.append_assoc, List.set_append_right _ _ (by simp; omega)]
  have e4 : k - (l.take k).length = 0 := by simp; omega
  rw [e4, insL]
  rfl
theorem Asc.nil (n : Int) : Asc [] n := fun i hi => by simp at hi
theorem Asc.up {l : List Int} {n m : Int} (h : Asc l n) (hm : n ≤ m) : Asc l m := fun i hi => by
  obtain ⟨a, b, c⟩ := h i hi
  exact ⟨a, by omega, c⟩
theorem nth_app1 {l l' : List Int} {i : Nat} (h : i < l.length) : nth (l ++ l') i = nth l i := by
  unfold nth; rw [List.getD_eq_getElem?_getD, List.getElem?_append_left h, ← List.getD_eq_getElem?_getD]
theorem nth_app2 {l : List Int} {x : Int} : nth (l ++ [x]) l.length = x := by
  unfold nth; rw [List.getD_eq_getElem?_getD, List.getElem?_append_right (Nat.le_refl _)]; simp
theorem Asc.snoc {l : List Int} {i : Int} (h : Asc l i) (h0 : 0 ≤ i) : Asc (l ++ [i]) (i + 1) := fun j hj => by
  rw [List.length_append, List.length_singleton] at hj
  unfold ascO
  by_cases e : j < l.length
  · obtain ⟨a, b, c⟩ := h j e
    rw [nth_app1 e]
    refine ⟨a, by omega, fun h1 => ?_⟩
    rw [nth_app1 (by omega)]; exact c h1
  · have e2 : j = l.length := by omega
    subst e2
    rw [nth_app2]
    refine ⟨h0, by omega, fun h1 => ?_⟩
    rw [nth_app1 (by omega)]
    exact (h (l.length - 1) (by omega)).2.1
theorem Asc.ascI {l : List Int} {n : Int} (h : Asc l n) : AscI l := fun i j hij hj => h.mono i j hij hj
theorem AscI.asc {l : List Int} {n : Int} (h : AscI l) (hb : ∀ z ∈ l, 0 ≤ z ∧ z < n) : Asc l n := fun i hi => by
  have := hb _ (nth_mem hi)
  exact ⟨this.1, this.2, fun h0 => h (i - 1) i (by omega) hi⟩
theorem Asc.bnd {l : List Int} {n : Int} (h : Asc l n) : ∀ z ∈ l, 0 ≤ z ∧ z < n := fun z hz => by
  obtain ⟨u, hu, eu⟩ := List.getElem_of_mem hz
  have e : nth l u = z := by rw [nth, List.getD_eq_getElem?_getD, List.getElem?_eq_getElem hu]; exact eu
  have := h u hu
  unfold ascO at this
  rw [e] at this
  exact ⟨this.1, this.2.1⟩
end Go.Proofs.Ytompifpamldjaaa

namespace Go.Proofs.Ytompifpamldjaaa
open Go
set_option linter.unusedVariables false

def sNext : FSp := ⟨_, Sig.dice (one pkI) (fun _ => rfl), fun x => DOK x.1 ∧ x.2.1 ≤ 4611686018427387904, Int × Int, fun x y => (1 ≤ x.2.1 → 0 ≤ y.1 ∧ y.1 < x.2.1) ∧ (x.2.1 < 1 → y.1 = 0) ∧ x.1.2 ≤ y.2 ∧ y.2 ≤ x.1.1.length, fun _ y => .int .i64 y.1, fun x y => [(0, diceO (x.1.1, y.2))], fun x h => ⟨(0, x.1.2), fun h => ⟨Int.le_refl _, by show (0 : Int) < x.2.1; omega⟩, fun _ => rfl, Int.le_refl _, h.1.hi⟩⟩
def sRoll : DS := ⟨_, one pkIntsP, fun _ => True, fun _ => .ptr 100 0, fun x => [(100, diceO (x.1, 0))]⟩
def sLight : DS := ⟨_, one pkInts, fun _ => True, fun x => .bool (decide ((x.1.length : Int) ≤ 600)), nou⟩
def sBool : FSp := ⟨_, Sig.dice (one pkI) (fun _ => rfl), fun x => DOK x.1 ∧ 1 ≤ x.2.1 ∧ x.2.1 ≤ 1000, Bool × Int, fun x y => x.1.2 ≤ y.2 ∧ y.2 ≤ x.1.1.length, fun _ y => .bool y.1, fun x y => [(0, diceO (x.1.1, y.2))], fun x h => ⟨(true, x.1.2), Int.le_refl _, h.1.hi⟩⟩
def sPick : FSp := ⟨_, Sig.dice (one pkInts) (fun _ => rfl), fun x => DOK x.1 ∧ 1 ≤ x.2.1.length ∧ x.2.1.length ≤ 1000, Int × Int, fun x y => y.1 ∈ x.2.1 ∧ x.1.2 ≤ y.2 ∧ y.2 ≤ x.1.1.length, fun _ y => .int .i64 y.1, fun x y => [(0, diceO (x.1.1, y.2))], fun x h => ⟨(x.2.1.getD 0 0, x.1.2), by obtain ⟨h1, h2, h3⟩ := h; match h4 : x.2.1, h2 with | a :: l, _ => simp, Int.le_refl _, h.1.hi⟩⟩

def memB (l : List Int) (x : Int) : Bool := l.contains x
theorem memB_iff {l : List Int} {x : Int} : memB l x = true ↔ x ∈ l := by simp [memB]
theorem memB_at {l : List Int} {x : Int} {i : Nat} (h : i < l.length) (e : l.getD i 0 = x) : memB l x = true := by
  rw [memB_iff, ← e, List.getD_eq_getElem?_getD, List.getElem?_eq_getElem h]
  exact List.getElem_mem h
theorem memB_not {l : List Int} {x : Int} (h : ∀ i, i < l.length → ¬ l.getD i 0 = x) : memB l x = false := by
  rw [← Bool.not_eq_true, memB_iff]
  intro hm
  obtain ⟨i, hi, e⟩ := List.getElem_of_mem hm
  refine h i hi ?_
  rw [List.getD_eq_getElem?_getD, List.getElem?_eq_getElem hi]
  exact e
def idxI (l : List Int) (x : Int) : Int := match l.findIdx? (fun y => decide (y = x)) with
  | some k => k
  | none => -1
theorem idxI_first {l : List Int} {x : Int} {i : Nat} (h : ∀ j, j < i → ¬ l.getD j 0 = x) (hi : i < l.length) (e : l.getD i 0 = x) : idxI l x = i := by
  have : l.findIdx? (fun y => decide (y = x)) = some i := by
    rw [List.findIdx?_eq_some_iff_getElem]
    have e1 : ∀ j (hj : j < l.length), l.getD j 0 = l[j] := fun j hj => by simp [List.getD_eq_getElem?_getD, hj]
    refine ⟨hi, by rw [← e1 i hi]; simpa using e, fun j hj => ?_⟩
    have := h j hj
    rw [e1 j (by omega)] at this
    simpa using this
  rw [idxI, this]
theorem idxI_all {l : List Int} {x : Int} (h : ∀ j, j < l.length → ¬ l.getD j 0 = x) : idxI l x = -1 := by
  have : l.findIdx? (fun y => decide (y = x)) = none := by
    rw [List.findIdx?_eq_none_iff]
    intro y hy
    obtain ⟨i, hi, e⟩ := List.getElem_of_mem hy
    have := h i hi
    rw [List.getD_eq_getElem?_getD, List.getElem?_eq_getElem hi, Option.getD_some, e] at this
    simpa using this
  rw [idxI, this]
theorem idxI_mem (l : List Int) (x : Int) : decide (0 ≤ idxI l x) = memB l x := by
  by_cases h : ∀ j, j < l.length → ¬ l.getD j 0 = x
  · rw [idxI_all h, memB_not h]; rfl
  · have hm : memB l x = true := by
      cases e : memB l x
      · exfalso
        refine h fun j hj ej => ?_
        rw [memB_at hj ej] at e; cases e
      · rfl
    rw [hm, decide_eq_true_eq]
    unfold idxI
    split
    · omega
    · rename_i hn
      rw [List.findIdx?_eq_none_iff] at hn
      have := hn x (memB_iff.1 hm)
      simp at this

def sHasI : DS := ⟨_, two pkInts pkI, fun x => x.1.length ≤ 9223372036854775807, fun x => .bool (memB x.1 x.2.1), nou⟩
def sIdxI : DS := ⟨_, two pkInts pkI, fun x => x.1.length ≤ 9223372036854775807, fun x => .int .i64 (idxI x.1 x.2.1), nou⟩
def sSorted : FSp := ⟨_, one pkInts, fun x => x.1.length ≤ 1000, List Int, fun x y => (AscI y ∧ ∀ z, z ∈ y ↔ z ∈ x.1) ∧ y.length ≤ x.1.length, fun _ _ => .own 101 0, fun _ y => [(101, .rows 3 0 y)], fun x _ => sorted_ex x.1⟩
def sSetD : FSp := ⟨_, Sig.dice (one pkI) (fun _ => rfl), fun x => DOK x.1 ∧ 0 ≤ x.2.1 ∧ x.2.1 ≤ 64, List Int × Int, fun x y => (Asc y.1 x.2.1 ∧ y.1.length ≤ x.2.1) ∧ x.1.2 ≤ y.2 ∧ y.2 ≤ x.1.1.length, fun _ _ => .own 101 0, fun x y => [(0, diceO (x.1.1, y.2)), (101, .rows 3 0 y.1)], fun x h => ⟨([], x.1.2), ⟨Asc.nil _, h.2.1⟩, Int.le_refl _, h.1.hi⟩⟩


set_option maxRecDepth 100000 in
theorem vc14 (L : List Int) (k n : Int) (hx : DOK (L, k) ∧ n ≤ 4611686018427387904) : sNext.vc (EV Try.prog [] noInv noInv) Try.f14 ((L, k), n, ()) := by
  have e : ((decide ((↑L.length : Int) ≤ k) = false → decide ((↑L.length : Int) ≤ k) = false) ∧ (decide ((↑L.length : Int) ≤ k) = false → decide ((↑L.length : Int) ≤ k) = false) ∧ ((decide ((↑L.length : Int) ≤ k) || decide (n < 1)) = true → ∃ (y : Int × Int), ((1 ≤ n → 0 ≤ y.1 ∧ y.1 < n) ∧ (n < 1 → y.1 = 0) ∧ k ≤ y.2 ∧ y.2 ≤ (↑L.length : Int)) ∧ 0 = y.1 ∧ L = L ∧ k = y.2) ∧ ((decide ((↑L.length : Int) ≤ k) || decide (n < 1)) = false → i64R (k + 1) ∧ i64R (k + (1 : Int) - 1) ∧ (0 ≤ k + (1 : Int) - 1 ∧ k + (1 : Int) - 1 < (↑L.length : Int)) ∧ 0 < n ∧ (decide ((L.getD (k + (1 : Int) - 1).toNat 0).tmod n < 0) = true → i64R ((L.getD (k + (1 : Int) - 1).toNat 0).tmod n + n) ∧ ∃ (y : Int × Int), ((1 ≤ n → 0 ≤ y.1 ∧ y.1 < n) ∧ (n < 1 → y.1 = 0) ∧ k ≤ y.2 ∧ y.2 ≤ (↑L.length : Int)) ∧ (L.getD (k + (1 : Int) - 1).toNat 0).tmod n + n = y.1 ∧ L = L ∧ k + 1 = y.2) ∧ (decide ((L.getD (k + (1 : Int) - 1).toNat 0).tmod n < 0) = false → ∃ (y : Int × Int), ((1 ≤ n → 0 ≤ y.1 ∧ y.1 < n) ∧ (n < 1 → y.1 = 0) ∧ k ≤ y.2 ∧ y.2 ≤ (↑L.length : Int)) ∧ (L.getD (k + (1 : Int) - 1).toNat 0).tmod n = y.1 ∧ L = L ∧ k + 1 = y.2))) = sNext.vc (EV Try.prog [] noInv noInv) Try.f14 ((L, k), n, ()) := by kernel_rfl
  rw [← e]
  clear e
  obtain ⟨⟨h1, h2, h3⟩, h4⟩ := hx
  have h1 : 0 ≤ k := h1
  have h2 : k ≤ L.length := h2
  have h3 : L.length ≤ 600 := h3
  have key : 0 < n → ∀ x : Int, -n < x.tmod n ∧ x.tmod n < n := fun h x => ⟨Int.lt_tmod_of_pos x h, Int.tmod_lt_of_pos x h⟩
  refine ⟨fun h => h, fun h => h, fun h => ⟨(0, k), ⟨⟨fun _ => ⟨Int.le_refl _, by simp at h ⊢; omega⟩, fun _ => rfl, Int.le_refl _, h2⟩, rfl, rfl, rfl⟩⟩, fun h => ?_⟩
  have h5 : k < L.length ∧ 1 ≤ n := by simp at h; omega
  have h6 := key (by omega) (L.getD (k + 1 - 1).toNat 0)
  generalize (L.getD (k + 1 - 1).toNat 0).tmod n = x at *
  simp only [i64R]
  refine ⟨by omega, by omega, by omega, by omega, fun h => ⟨by simp at h; omega, (x + n, k + 1), ⟨⟨fun _ => ?_, fun _ => ?_, ?_, ?_⟩, by simp⟩⟩, fun h => ⟨(x, k + 1), ⟨⟨fun _ => ?_, fun _ => ?_, ?_, ?_⟩, by simp⟩⟩⟩
  all_goals (simp at h ⊢; omega)


set_option maxRecDepth 100000 in
theorem vc11 (L : List Int) (hx : True) : sRoll.vc (EV Try.prog [] noInv noInv) Try.f11 (L, ()) := by
  have e : (∃ (y : Unit), True ∧ L = L ∧ (0 : Int) = 0) = sRoll.vc (EV Try.prog [] noInv noInv) Try.f11 (L, ()) := by kernel_rfl
  rw [← e]
  clear e
  simp


set_option maxRecDepth 100000 in
theorem vc9 (L : List Int) (hx : True) : sLight.vc (EV Try.prog [] noInv noInv) Try.f9 (L, ()) := by
  have e : (∃ (y : Unit), True ∧ decide ((↑L.length : Int) ≤ 600) = decide ((↑L.length : Int) ≤ 600)) = sLight.vc (EV Try.prog [] noInv noInv) Try.f9 (L, ()) := by kernel_rfl
  rw [← e]
  clear e
  simp


set_option maxRecDepth 100000 in
theorem vc40 (L : List Int) (k n : Int) (hx : DOK (L, k) ∧ 1 ≤ n ∧ n ≤ 1000) : sBool.vc (EV Try.prog [(14, sNext.spec)] noInv noInv) Try.f40 ((L, k), n, ()) := by
  have e : ((DOK (L, k) ∧ n ≤ 4611686018427387904) ∧ (∀ (y : Int × Int), true = true) ∧ ∀ (y : Int × Int), (1 ≤ n → 0 ≤ y.1 ∧ y.1 < n) ∧ (n < 1 → y.1 = 0) ∧ k ≤ y.2 ∧ y.2 ≤ (↑L.length : Int) → i64R (n - 1) ∧ ∃ (y_1 : Bool × Int), (k ≤ y_1.2 ∧ y_1.2 ≤ (↑L.length : Int)) ∧ decide (y.1 = n - 1) = y_1.1 ∧ L = L ∧ y.2 = y_1.2) = sBool.vc (EV Try.prog [(14, sNext.spec)] noInv noInv) Try.f40 ((L, k), n, ()) := by kernel_rfl
  rw [← e]
  clear e
  obtain ⟨h1, h2, h3⟩ := hx
  simp only [Prod.forall, Prod.exists, implies_true, true_and, i64R, Int.reduceNeg]
  refine ⟨⟨h1, by omega⟩, fun a b hy => ⟨by omega, _, _, hy.2.2, rfl, rfl⟩⟩


set_option maxRecDepth 100000 in
theorem vc19 (L : List Int) (k : Int) (l : List Int) (hx : DOK (L, k) ∧ 1 ≤ l.length ∧ l.length ≤ 1000) : sPick.vc (EV Try.prog [(14, sNext.spec)] noInv noInv) Try.f19 ((L, k), l, ()) := by
  have e : ((DOK (L, k) ∧ (↑l.length : Int) ≤ 4611686018427387904) ∧ (∀ (y : Int × Int), true = true) ∧ ∀ (y : Int × Int), (1 ≤ (↑l.length : Int) → 0 ≤ y.1 ∧ y.1 < (↑l.length : Int)) ∧ ((↑l.length : Int) < 1 → y.1 = 0) ∧ k ≤ y.2 ∧ y.2 ≤ (↑L.length : Int) → (0 ≤ y.1 ∧ y.1 < (↑l.length : Int)) ∧ ∃ (y_1 : Int × Int), (y_1.1 ∈ l ∧ k ≤ y_1.2 ∧ y_1.2 ≤ (↑L.length : Int)) ∧ l.getD y.1.toNat 0 = y_1.1 ∧ L = L ∧ y.2 = y_1.2) = sPick.vc (EV Try.prog [(14, sNext.spec)] noInv noInv) Try.f19 ((L, k), l, ()) := by kernel_rfl
  rw [← e]
  clear e
  obtain ⟨h1, h2, h3⟩ := hx
  simp only [Prod.forall, Prod.exists, implies_true, true_and]
  refine ⟨⟨h1, by omega⟩, fun a b hy => ?_⟩
  have hb := hy.1 (by omega)
  refine ⟨hb, _, _, ⟨?_, hy.2.2⟩, rfl, rfl⟩
  rw [List.getD_eq_getElem?_getD, List.getElem?_eq_getElem (by omega)]
  exact List.getElem_mem _

def inv46 (l : List Int) (g : Int) : Inv where
  X := Int
  ok := fun i => 0 ≤ i ∧ i ≤ l.length ∧ ∀ j : Nat, (j : Int) < i → ¬ l.getD j 0 = g
  sl := fun i => [(5, .int .i64 i)]
  hp := fun _ => []
  keep := []
  me := fun i => (l.length - i).toNat
set_option maxRecDepth 100000 in
theorem vc46 (l : List Int) (g : Int) (hx : l.length ≤ 9223372036854775807) : sHasI.vc (EV Try.prog [] (invs [(2, inv46 l g)]) noInv) Try.f46 (l, g, ()) := by
  have e : ((∃ (x : Int), (0 ≤ x ∧ x ≤ (↑l.length : Int) ∧ ∀ (j : Nat), (↑j : Int) < x → ¬l.getD j 0 = g) ∧ 0 = x) ∧ ∀ (x : Int), (0 ≤ x ∧ x ≤ (↑l.length : Int) ∧ ∀ (j : Nat), (↑j : Int) < x → ¬l.getD j 0 = g) → (decide (x < (↑l.length : Int)) = true → (0 ≤ x ∧ x < (↑l.length : Int)) ∧ (decide (l.getD x.toNat 0 = g) = true → ∃ (y : Unit), True ∧ true = memB l g) ∧ (decide (l.getD x.toNat 0 = g) = false → i64R (x + 1) ∧ ∃ (x' : Int), (0 ≤ x' ∧ x' ≤ (↑l.length : Int) ∧ ∀ (j : Nat), (↑j : Int) < x' → ¬l.getD j 0 = g) ∧ ((↑l.length : Int) - x').toNat < ((↑l.length : Int) - x).toNat ∧ x + 1 = x')) ∧ (decide (x < (↑l.length : Int)) = false → ∃ (y : Unit), True ∧ false = memB l g)) = sHasI.vc (EV Try.prog [] (invs [(2, inv46 l g)]) noInv) Try.f46 (l, g, ()) := by kernel_rfl
  rw [← e]
  clear e
  simp only [true_and, exists_const]
  simp only [i64R, Int.reduceNeg, decide_eq_true_eq, decide_eq_false_iff_not]
  refine ⟨⟨0, ⟨by omega, by omega, fun j hj => by omega⟩, rfl⟩, fun x hi => ⟨fun hlt => ⟨by omega, fun he => (memB_at (i := x.toNat) (by omega) he).symm, fun hne => ⟨by omega, x + 1, ⟨by omega, by omega, fun j hj => ?_⟩, by omega, rfl⟩⟩, fun hge => (memB_not fun j hj => hi.2.2 j (by omega)).symm⟩⟩
  by_cases e : (j : Int) < x
  · exact hi.2.2 j e
  · have : j = x.toNat := by omega
    rw [this]; exact hne

def inv50 (l : List Int) (g : Int) : Inv where
  X := Int
  ok := fun i => 0 ≤ i ∧ i ≤ l.length ∧ ∀ j : Nat, (j : Int) < i → ¬ l.getD j 0 = g
  sl := fun i => [(8, .int .i64 i)]
  hp := fun _ => []
  keep := []
  me := fun i => (l.length - i).toNat
set_option maxRecDepth 100000 in
theorem vc50 (l : List Int) (g : Int) (hx : l.length ≤ 9223372036854775807) : sIdxI.vc (EV Try.prog [] (invs [(2, inv50 l g)]) noInv) Try.f50 (l, g, ()) := by
  have e : ((∃ (x : Int), (0 ≤ x ∧ x ≤ (↑l.length : Int) ∧ ∀ (j : Nat), (↑j : Int) < x → ¬l.getD j 0 = g) ∧ 0 = x) ∧ ∀ (x : Int), (0 ≤ x ∧ x ≤ (↑l.length : Int) ∧ ∀ (j : Nat), (↑j : Int) < x → ¬l.getD j 0 = g) → (decide (x < (↑l.length : Int)) = true → (0 ≤ x ∧ x < (↑l.length : Int)) ∧ (decide (g = l.getD x.toNat 0) = true → ∃ (y : Unit), True ∧ x = idxI l g) ∧ (decide (g = l.getD x.toNat 0) = false → i64R (x + 1) ∧ ∃ (x' : Int), (0 ≤ x' ∧ x' ≤ (↑l.length : Int) ∧ ∀ (j : Nat), (↑j : Int) < x' → ¬l.getD j 0 = g) ∧ ((↑l.length : Int) - x').toNat < ((↑l.length : Int) - x).toNat ∧ x + 1 = x')) ∧ (decide (x < (↑l.length : Int)) = false → ∃ (y : Unit), True ∧ (-1) = idxI l g)) = sIdxI.vc (EV Try.prog [] (invs [(2, inv50 l g)]) noInv) Try.f50 (l, g, ()) := by kernel_rfl
  rw [← e]
  clear e
  simp only [true_and, exists_const]
  simp only [i64R, Int.reduceNeg, decide_eq_true_eq, decide_eq_false_iff_not]
  refine ⟨⟨0, ⟨by omega, by omega, fun j hj => by omega⟩, rfl⟩, fun x hi => ⟨fun hlt => ⟨by omega, fun he => ?_, fun hne => ⟨by omega, x + 1, ⟨by omega, by omega, fun j hj => ?_⟩, by omega, rfl⟩⟩, fun hge => (idxI_all fun j hj => hi.2.2 j (by omega)).symm⟩⟩
  · rw [idxI_first (i := x.toNat) (fun j hj => hi.2.2 j (by omega)) (by omega) he.symm]; omega
  · by_cases e : (j : Int) < x
    · exact hi.2.2 j e
    · have : j = x.toNat := by omega
      rw [this]; exact fun e => hne e.symm


set_option maxRecDepth 100000 in
theorem vc43 (l : List Int) (g : Int) (hx : l.length ≤ 9223372036854775807) : sHasI.vc (EV Try.prog [(50, sIdxI.spec)] noInv noInv) Try.f43 (l, g, ()) := by
  have e : (l.length ≤ (9223372036854775807 : Nat) ∧ ∃ (y : Unit), True ∧ decide (0 ≤ idxI l g) = memB l g) = sHasI.vc (EV Try.prog [(50, sIdxI.spec)] noInv noInv) Try.f43 (l, g, ()) := by kernel_rfl
  rw [← e]
  clear e
  simp only [true_and, exists_const]
  exact ⟨hx, idxI_mem l g⟩

def inv39a (l : List Int) (s : St) : Inv where
  X := Int × List Int
  ok := fun x => (0 ≤ x.1 ∧ x.1 ≤ l.length) ∧ (AscI x.2 ∧ ∀ z, z ∈ x.2 ↔ z ∈ l.take x.1.toNat) ∧ x.2.length ≤ x.1
  sl := fun x => [(4, .int .i64 x.1), (3, .own 101 0)]
  hp := fun x => [(101, .rows 3 0 x.2)]
  keep := []
  me := fun x => (l.length - x.1).toNat
def inv39b (l : List Int) (s : St) : Inv where
  X := Int
  ok := fun k => (0 ≤ k ∧ k ≤ (contI s (s.t 3)).length) ∧ ∀ j : Nat, k ≤ j → j < (contI s (s.t 3)).length → l.getD (slotI s 4).toNat 0 < (contI s (s.t 3)).getD j 0
  sl := fun k => [(5, .int .i64 k), (3, .own 101 0)]
  hp := fun k => [(101, .rows 3 0 (contI s (s.t 3)))]
  keep := []
  me := fun k => k.toNat
set_option maxRecDepth 100000 in
theorem vc39 (l : List Int) (hx : l.length ≤ 1000) : sSorted.vc (EV Try.prog [] (invsS [(3, inv39a l), (6, inv39b l)]) noInv) Try.f39 (l, ()) := by
  have e : ((∃ (x : Int × List Int), ((0 ≤ x.1 ∧ x.1 ≤ (↑l.length : Int)) ∧ (AscI x.2 ∧ ∀ (z : Int), z ∈ x.2 ↔ z ∈ List.take x.1.toNat l) ∧ (↑x.2.length : Int) ≤ x.1) ∧ 0 = x.1 ∧ NilL Int = x.2) ∧ ∀ (x : Int × List Int), (0 ≤ x.1 ∧ x.1 ≤ (↑l.length : Int)) ∧ (AscI x.2 ∧ ∀ (z : Int), z ∈ x.2 ↔ z ∈ List.take x.1.toNat l) ∧ (↑x.2.length : Int) ≤ x.1 → (decide (x.1 < (↑l.length : Int)) = true → (∃ (x_1 : Int), ((0 ≤ x_1 ∧ x_1 ≤ (↑x.2.length : Int)) ∧ ∀ (j : Nat), x_1 ≤ (↑j : Int) → j < x.2.length → l.getD x.1.toNat 0 < x.2.getD j 0) ∧ (↑x.2.length : Int) = x_1 ∧ x.2 = x.2) ∧ ∀ (x_1 : Int), ((0 ≤ x_1 ∧ x_1 ≤ (↑x.2.length : Int)) ∧ ∀ (j : Nat), x_1 ≤ (↑j : Int) → j < x.2.length → l.getD x.1.toNat 0 < x.2.getD j 0) → (decide (0 < x_1) = true → decide (0 < x_1) = true) ∧ (decide (0 < x_1) = true → decide (0 < x_1) = true) ∧ (decide (0 < x_1) = true → 0 ≤ x.1 ∧ x.1 < (↑l.length : Int)) ∧ (decide (0 < x_1) = true → decide (0 < x_1) = true) ∧ (decide (0 < x_1) = true → decide (0 < x_1) = true) ∧ (decide (0 < x_1) = true → i64R (x_1 - 1)) ∧ (decide (0 < x_1) = true → decide (0 < x_1) = true) ∧ (decide (0 < x_1) = true → decide (0 < x_1) = true) ∧ (decide (0 < x_1) = true → 0 ≤ x_1 - 1 ∧ x_1 - 1 < (↑x.2.length : Int)) ∧ (decide (0 < x_1) = true → decide (0 < x_1) = true) ∧ (decide (0 < x_1) = true → decide (0 < x_1) = true) ∧ (decide (0 < x_1) = true → decide (0 < x_1) = true) ∧ (decide (0 < x_1) = true → decide (0 < x_1) = true) ∧ ((decide (0 < x_1) && decide (l.getD x.1.toNat 0 < x.2.getD (x_1 - 1).toNat 0)) = true → i64R (x_1 - 1) ∧ ∃ (x' : Int), ((0 ≤ x' ∧ x' ≤ (↑x.2.length : Int)) ∧ ∀ (j : Nat), x' ≤ (↑j : Int) → j < x.2.length → l.getD x.1.toNat 0 < x.2.getD j 0) ∧ x'.toNat < x_1.toNat ∧ x_1 - 1 = x' ∧ x.2 = x.2) ∧ ((decide (0 < x_1) && decide (l.getD x.1.toNat 0 < x.2.getD (x_1 - 1).toNat 0)) = false → (decide (0 < x_1) = true → decide (0 < x_1) = true) ∧ (decide (0 < x_1) = true → i64R (x_1 - 1)) ∧ (decide (0 < x_1) = true → decide (0 < x_1) = true) ∧ (decide (0 < x_1) = true → decide (0 < x_1) = true) ∧ (decide (0 < x_1) = true → 0 ≤ x_1 - 1 ∧ x_1 - 1 < (↑x.2.length : Int)) ∧ (decide (0 < x_1) = true → decide (0 < x_1) = true) ∧ (decide (0 < x_1) = true → decide (0 < x_1) = true) ∧ (decide (0 < x_1) = true → decide (0 < x_1) = true) ∧ (decide (0 < x_1) = true → 0 ≤ x.1 ∧ x.1 < (↑l.length : Int)) ∧ (decide (0 < x_1) = true → decide (0 < x_1) = true) ∧ (decide (0 < x_1) = true → decide (0 < x_1) = true) ∧ (decide (0 < x_1) = true → decide (0 < x_1) = true) ∧ (decide (0 < x_1) = true → decide (0 < x_1) = true) ∧ ((decide (0 < x_1) && decide (x.2.getD (x_1 - 1).toNat 0 = l.getD x.1.toNat 0)) = true → i64R (x.1 + 1) ∧ ∃ (x' : Int × List Int), ((0 ≤ x'.1 ∧ x'.1 ≤ (↑l.length : Int)) ∧ (AscI x'.2 ∧ ∀ (z : Int), z ∈ x'.2 ↔ z ∈ List.take x'.1.toNat l) ∧ (↑x'.2.length : Int) ≤ x'.1) ∧ ((↑l.length : Int) - x'.1).toNat < ((↑l.length : Int) - x.1).toNat ∧ x.1 + 1 = x'.1 ∧ x.2 = x'.2) ∧ ((decide (0 < x_1) && decide (x.2.getD (x_1 - 1).toNat 0 = l.getD x.1.toNat 0)) = false → x.2.length + (0 :: NilL Int).length ≤ (68719476736 : Nat) ∧ i64R (x_1 + 1) ∧ (0 ≤ x_1 + 1 ∧ x_1 + 1 ≤ (↑(x.2 ++ 0 :: NilL Int).length : Int)) ∧ (0 ≤ x_1 ∧ x_1 ≤ (↑(x.2 ++ 0 :: NilL Int).length : Int)) ∧ (0 ≤ x.1 ∧ x.1 < (↑l.length : Int)) ∧ (0 ≤ x_1 ∧ x_1 < (↑(copyL (x.2 ++ 0 :: NilL Int) (x_1 + 1).toNat (List.take ((↑(x.2 ++ 0 :: NilL Int).length : Int) - (x_1 + 1)).toNat (List.take ((↑(x.2 ++ 0 :: NilL Int).length : Int) - x_1).toNat (List.drop x_1.toNat (x.2 ++ 0 :: NilL Int))))).length : Int)) ∧ i64R (x.1 + 1) ∧ ∃ (x' : Int × List Int), ((0 ≤ x'.1 ∧ x'.1 ≤ (↑l.length : Int)) ∧ (AscI x'.2 ∧ ∀ (z : Int), z ∈ x'.2 ↔ z ∈ List.take x'.1.toNat l) ∧ (↑x'.2.length : Int) ≤ x'.1) ∧ ((↑l.length : Int) - x'.1).toNat < ((↑l.length : Int) - x.1).toNat ∧ x.1 + 1 = x'.1 ∧ (copyL (x.2 ++ 0 :: NilL Int) (x_1 + 1).toNat (List.take ((↑(x.2 ++ 0 :: NilL Int).length : Int) - (x_1 + 1)).toNat (List.take ((↑(x.2 ++ 0 :: NilL Int).length : Int) - x_1).toNat (List.drop x_1.toNat (x.2 ++ 0 :: NilL Int))))).set x_1.toNat (l.getD x.1.toNat 0) = x'.2))) ∧ (decide (x.1 < (↑l.length : Int)) = false → ∃ (y : List Int), ((AscI y ∧ ∀ (z : Int), z ∈ y ↔ z ∈ l) ∧ y.length ≤ l.length) ∧ x.2 = y)) = sSorted.vc (EV Try.prog [] (invsS [(3, inv39a l), (6, inv39b l)]) noInv) Try.f39 (l, ()) := by kernel_rfl
  rw [← e]
  clear e
  simp only [imp_self, true_and, and_true]
  simp only [Prod.forall, Prod.exists, i64R, Int.reduceNeg, decide_eq_true_eq, decide_eq_false_iff_not, Bool.and_eq_true, Bool.and_eq_false_iff]
  simp only [NilL_eq]
  refine ⟨⟨0, [], ⟨by omega, ⟨asc_nil, fun z => by simp⟩, by simp⟩, rfl, rfl⟩, fun i b hi => ⟨fun hlt => ?_, fun hge => ⟨b, ⟨⟨hi.2.1.1, fun z => by rw [hi.2.1.2 z, List.take_of_length_le (by omega)]⟩, by omega⟩, rfl⟩⟩⟩
  obtain ⟨⟨i0, i1⟩, ⟨ha, hm⟩, hbl⟩ := hi
  have etk : ∀ z, z ∈ l.take (i + 1).toNat ↔ z = l.getD i.toNat 0 ∨ z ∈ l.take i.toNat := fun z => by
    have e : (i + 1).toNat = i.toNat + 1 := by omega
    rw [e, List.take_add_one, List.getElem?_eq_getElem (by omega), List.mem_append, List.getD_eq_getElem?_getD, List.getElem?_eq_getElem (by omega)]
    simp [or_comm]
  generalize l.getD i.toNat 0 = v at *
  refine ⟨⟨b.length, ⟨by omega, fun j h1 h2 => by omega⟩, rfl⟩, fun k hk => ⟨fun _ => by omega, fun _ => by omega, fun _ => by omega, fun h => ⟨by omega, k - 1, ⟨by omega, fun j h1 h2 => ?_⟩, by omega, rfl⟩, fun h => ⟨fun _ => by omega, fun _ => by omega, fun _ => by omega, fun h2 => ⟨by omega, i + 1, b, ⟨by omega, ⟨ha, fun z => ?_⟩, by omega⟩, by omega, rfl, rfl⟩, fun h2 => ?_⟩⟩⟩
  · by_cases e : (j : Int) = k - 1
    · have : j = (k - 1).toNat := by omega
      rw [this]; exact h.2
    · exact hk.2 j (by omega) h2
  · rw [etk, hm]
    refine ⟨.inr, fun hz => ?_⟩
    rcases hz with rfl | hz
    · rw [← hm, ← h2.2]
      exact nth_mem (l := b) (by omega)
    · exact hz
  · obtain ⟨k', rfl⟩ : ∃ k' : Nat, k = k' := ⟨k.toNat, by omega⟩
    have e1 : ((k' : Int) + 1).toNat = k' + 1 := by omega
    have e2 : (((b ++ [0]).length : Int) - ((k' : Int) + 1)).toNat = b.length + 1 - (k' + 1) := by simp only [List.length_append, List.length_cons, List.length_nil]; omega
    have e3 : (((b ++ [0]).length : Int) - (k' : Int)).toNat = b.length + 1 - k' := by simp only [List.length_append, List.length_cons, List.length_nil]; omega
    have e4 : min (b.length + 1 - (k' + 1)) (b.length + 1 - k') = b.length + 1 - (k' + 1) := by omega
    have hc := copy_ins (l := b) (k := k') (x := v) (by omega)
    rw [e1, e2, e3, Int.toNat_natCast, List.take_take, e4, hc]
    have hlen : (copyL (b ++ [0]) (k' + 1) (((b ++ [0]).drop k').take (b.length + 1 - (k' + 1)))).length = b.length + 1 := by
      have := congrArg List.length hc
      rw [List.length_set, ins_len b v (by omega)] at this
      exact this
    rw [hlen]
    simp only [List.length_append, List.length_cons, List.length_nil]
    have hins := ins_asc (k := k') (x := v) ha (by omega) (fun j h3 h4 => hk.2 j (by omega) h4) (fun h0 => by
      have e5 : ((k' : Int) - 1).toNat = k' - 1 := by omega
      rw [e5] at h h2
      have h3 : ¬ b.getD (k' - 1) 0 = v := h2.resolve_left (by omega)
      have h4 : ¬ v < b.getD (k' - 1) 0 := h.resolve_left (by omega)
      omega)
    refine ⟨by omega, by omega, by omega, by omega, by omega, by omega, by omega, i + 1, insL b k' v, ⟨by omega, ⟨hins, fun z => ?_⟩, ?_⟩, by omega, rfl, rfl⟩
    · rw [ins_mem, etk, hm]
    · rw [ins_len b v (by omega)]; omega

def inv22 (L : List Int) (k n : Int) : Inv where
  X := (Int × List Int) × Int
  ok := fun x => ((0 ≤ x.1.1 ∧ x.1.1 ≤ n) ∧ Asc x.1.2 x.1.1 ∧ x.1.2.length ≤ x.1.1) ∧ DOK (L, x.2) ∧ k ≤ x.2
  sl := fun x => [(6, .int .i64 x.1.1), (5, .own 101 0)]
  hp := fun x => [(0, diceO (L, x.2)), (101, .rows 3 0 x.1.2)]
  keep := []
  me := fun x => (n - x.1.1).toNat
set_option maxRecDepth 100000 in
theorem vc22 (L : List Int) (k n : Int) (hx : DOK (L, k) ∧ 0 ≤ n ∧ n ≤ 64) : sSetD.vc (EV Try.prog [(40, sBool.spec)] (invs [(3, inv22 L k n)]) noInv) Try.f22 ((L, k), n, ()) := by
  have e : ((∃ (x : (Int × List Int) × Int), (((0 ≤ x.1.1 ∧ x.1.1 ≤ n) ∧ Asc x.1.2 x.1.1 ∧ (↑x.1.2.length : Int) ≤ x.1.1) ∧ DOK (L, x.2) ∧ k ≤ x.2) ∧ 0 = x.1.1 ∧ L = L ∧ k = x.2 ∧ NilL Int = x.1.2) ∧ ∀ (x : (Int × List Int) × Int), ((0 ≤ x.1.1 ∧ x.1.1 ≤ n) ∧ Asc x.1.2 x.1.1 ∧ (↑x.1.2.length : Int) ≤ x.1.1) ∧ DOK (L, x.2) ∧ k ≤ x.2 → (decide (x.1.1 < n) = true → (DOK (L, x.2) ∧ (1 : Int) ≤ 3 ∧ (3 : Int) ≤ 1000) ∧ (∀ (y : Bool × Int), true = true) ∧ ∀ (y : Bool × Int), x.2 ≤ y.2 ∧ y.2 ≤ (↑L.length : Int) → (y.1 = true → x.1.2.length + (x.1.1 :: NilL Int).length ≤ (68719476736 : Nat) ∧ i64R (x.1.1 + 1) ∧ ∃ (x' : (Int × List Int) × Int), (((0 ≤ x'.1.1 ∧ x'.1.1 ≤ n) ∧ Asc x'.1.2 x'.1.1 ∧ (↑x'.1.2.length : Int) ≤ x'.1.1) ∧ DOK (L, x'.2) ∧ k ≤ x'.2) ∧ (n - x'.1.1).toNat < (n - x.1.1).toNat ∧ x.1.1 + 1 = x'.1.1 ∧ L = L ∧ y.2 = x'.2 ∧ x.1.2 ++ x.1.1 :: NilL Int = x'.1.2) ∧ (y.1 = false → i64R (x.1.1 + 1) ∧ ∃ (x' : (Int × List Int) × Int), (((0 ≤ x'.1.1 ∧ x'.1.1 ≤ n) ∧ Asc x'.1.2 x'.1.1 ∧ (↑x'.1.2.length : Int) ≤ x'.1.1) ∧ DOK (L, x'.2) ∧ k ≤ x'.2) ∧ (n - x'.1.1).toNat < (n - x.1.1).toNat ∧ x.1.1 + 1 = x'.1.1 ∧ L = L ∧ y.2 = x'.2 ∧ x.1.2 = x'.1.2)) ∧ (decide (x.1.1 < n) = false → ∃ (y : List Int × Int), ((Asc y.1 n ∧ (↑y.1.length : Int) ≤ n) ∧ k ≤ y.2 ∧ y.2 ≤ (↑L.length : Int)) ∧ L = L ∧ x.2 = y.2 ∧ x.1.2 = y.1)) = sSetD.vc (EV Try.prog [(40, sBool.spec)] (invs [(3, inv22 L k n)]) noInv) Try.f22 ((L, k), n, ()) := by kernel_rfl
  rw [← e]
  clear e
  simp only [true_and, implies_true]
  simp only [Prod.forall, Prod.exists, and_true, i64R, Int.reduceLE, Int.reduceNeg, decide_eq_true_eq, decide_eq_false_iff_not]
  try simp only [NilL_eq]
  obtain ⟨hk, n0, n1⟩ := hx
  have hd : ∀ j : Int, k ≤ j → j ≤ L.length → DOK (L, j) := fun j h1 h2 => ⟨by have : 0 ≤ k := hk.lo; show 0 ≤ j; omega, h2, hk.len⟩
  refine ⟨⟨0, [], k, ⟨⟨by omega, Asc.nil _, by simp⟩, hk, by omega⟩, rfl, rfl, rfl⟩, fun i l j hi => ⟨fun hlt => ⟨hi.2.1, fun b j2 hj => ⟨fun _ => ⟨?_, by omega, i + 1, l ++ [i], j2, ⟨⟨by omega, hi.1.2.1.snoc hi.1.1.1, ?_⟩, hd _ (by omega) (by omega), by omega⟩, by omega, rfl, rfl, rfl⟩, fun _ => ⟨by omega, i + 1, l, j2, ⟨⟨by omega, hi.1.2.1.up (by omega), by omega⟩, hd _ (by omega) (by omega), by omega⟩, by omega, rfl, rfl, rfl⟩⟩⟩, fun hge => ⟨l, j, ⟨⟨hi.1.2.1.up (by omega), by omega⟩, by omega, hi.2.1.hi⟩, rfl, rfl⟩⟩⟩
  · simp only [List.length_cons, List.length_nil]; omega
  · rw [List.length_append]; simp only [List.length_cons, List.length_nil]; omega
end Go.Proofs.Ytompifpamldjaaa

namespace Go.Proofs.Ytompifpamldjaaa
open Go
set_option linter.unusedVariables false

theorem Asc.bad {l : List Int} {n : Int} : ¬ Asc l n → false = ascB l n := fun h => (ascB_f.2 h).symm
theorem getD_mem' {l : List Int} {i : Nat} (h : i < l.length) : l.getD i 0 ∈ l := nth_mem h
theorem minus_ex (a b : List Int) : ∃ y : List Int, (AscI y ∧ ∀ z, z ∈ y ↔ z ∈ a ∧ ¬ z ∈ b) ∧ y.length ≤ a.length := by
  obtain ⟨y, ⟨h1, h2⟩, h3⟩ := sorted_ex (a.filter fun z => decide (¬ z ∈ b))
  refine ⟨y, ⟨h1, fun z => by rw [h2, List.mem_filter]; simp⟩, Nat.le_trans h3 (List.length_filter_le _ _)⟩
def withB (a b : List Int) : Bool := a.all fun x => decide (x ∈ b)
theorem withB_t {a b : List Int} : withB a b = true ↔ ∀ x ∈ a, x ∈ b := by simp [withB]
theorem withB_f {a b : List Int} : withB a b = false ↔ ¬ ∀ x ∈ a, x ∈ b := by rw [← withB_t]; simp
noncomputable def sAsc3 : DS := sAsc
def sMinus : FSp := ⟨_, two pkInts pkInts, fun x => x.1.length ≤ 1000 ∧ x.2.1.length ≤ 1000, List Int, fun x y => (AscI y ∧ ∀ z, z ∈ y ↔ z ∈ x.1 ∧ ¬ z ∈ x.2.1) ∧ y.length ≤ x.1.length, fun _ _ => .own 101 0, fun _ y => [(101, .rows 3 0 y)], fun x _ => minus_ex x.1 x.2.1⟩
noncomputable def sWithin : DS := ⟨_, two pkInts pkInts, fun x => x.1.length ≤ 1000 ∧ x.2.1.length ≤ 1000, fun x => .bool (withB x.1 x.2.1), nou⟩
theorem union_ex (a b : List Int) : ∃ y : List Int, (AscI y ∧ ∀ z, z ∈ y ↔ z ∈ a ∨ z ∈ b) ∧ y.length ≤ a.length + b.length := by
  obtain ⟨y, ⟨h1, h2⟩, h3⟩ := sorted_ex (a ++ b)
  exact ⟨y, ⟨h1, fun z => by rw [h2, List.mem_append]⟩, by rwa [List.length_append] at h3⟩
def sUnion : FSp := ⟨_, two pkInts pkInts, fun x => x.1.length ≤ 400 ∧ x.2.1.length ≤ 400, List Int, fun x y => (AscI y ∧ ∀ z, z ∈ y ↔ z ∈ x.1 ∨ z ∈ x.2.1) ∧ y.length ≤ x.1.length + x.2.1.length, fun _ _ => .own 101 0, fun _ y => [(101, .rows 3 0 y)], fun x _ => union_ex x.1 x.2.1⟩
def spA (l : List Spt) (i : Nat) : Spt := l.getD i (dfl 5)
def eqL {α : Type} [DecidableEq α] (a b : List α) : Bool := decide (a = b)
theorem eqL_all {α : Type} [DecidableEq α] (d : α) {a b : List α} (hl : a.length = b.length) (h : ∀ j, j < a.length → a.getD j d = b.getD j d) : true = eqL a b := by
  symm
  rw [eqL, decide_eq_true_eq]
  refine List.ext_getElem hl fun i h1 h2 => ?_
  have := h i h1
  simpa [List.getD_eq_getElem?_getD, h1, h2] using this
theorem eqL_not {α : Type} [DecidableEq α] (d : α) {a b : List α} {j : Nat} (h : ¬ a.getD j d = b.getD j d) : false = eqL a b := by
  symm
  rw [eqL, decide_eq_false_iff_not]
  intro e; rw [e] at h; exact h rfl
theorem eqL_len {α : Type} [DecidableEq α] {a b : List α} (h : ¬ (a.length : Int) = b.length) : false = eqL a b := by
  symm
  rw [eqL, decide_eq_false_iff_not]
  intro e; exact h (by rw [e])
def sSameS : DS := ⟨_, two (pkL 5) (pkL 5), fun x => x.1.length ≤ 9223372036854775807 ∧ x.2.1.length ≤ 9223372036854775807, fun x => .bool (eqL (α := Spt) x.1 x.2.1), nou⟩
def sSameI : DS := ⟨_, two pkInts pkInts, fun x => x.1.length ≤ 9223372036854775807 ∧ x.2.1.length ≤ 9223372036854775807, fun x => .bool (eqL (α := Int) x.1 x.2.1), nou⟩
def ldF (l : List Spt) (n : Int) (k : Nat) : Int := if (spA l k).node = n then (spA l k).pages else 0
def loadN (l : List Spt) (n : Int) (k : Nat) : Int := sumF (ldF l n) k
def loadS (l : List Spt) (n : Int) : Int := loadN l n l.length
/-- Spots that can be added up. -/
structure SB (l : List Spt) : Prop where
  len : l.length ≤ 1000
  pg : ∀ k, -2199023255552 ≤ (spA l k).pages ∧ (spA l k).pages ≤ 2199023255552
theorem sumF_bnd {f : Nat → Int} {n : Nat} {b : Int} (h : ∀ i, i < n → -b ≤ f i ∧ f i ≤ b) : -(b * n) ≤ sumF f n ∧ sumF f n ≤ b * n := by
  induction n with
  | zero => simp [sumF]
  | succ n ih =>
    have h1 := ih fun i hi => h i (by omega)
    have h2 := h n (by omega)
    have e : b * ((n + 1 : Nat) : Int) = b * n + b := by rw [Int.natCast_add, Int.mul_add]; simp
    rw [e, sumF]
    omega
theorem loadN_bnd {l : List Spt} (h : SB l) {n : Int} {k : Nat} (hk : k ≤ 1000) : -2199023255552000 ≤ loadN l n k ∧ loadN l n k ≤ 2199023255552000 := by
  have := sumF_bnd (f := ldF l n) (n := k) (b := 2199023255552) fun i _ => by
    have := h.pg i
    unfold ldF; split <;> omega
  unfold loadN
  have e : (2199023255552 : Int) * k ≤ 2199023255552000 := by omega
  omega
def sLoad : DS := ⟨_, two (pkL 5) pkI, fun x => SB x.1, fun x => .int .i64 (loadS x.1 x.2.1), nou⟩

def inv47 (l : List Int) (n : Int) (s : St) : Inv where
  X := Int
  ok := fun i => 0 ≤ i ∧ i ≤ l.length ∧ ∀ j : Nat, j < i.toNat → ascO n l j
  sl := fun i => [(5, .int .i64 i)]
  hp := fun i => []
  keep := []
  me := fun i => (l.length - i).toNat
set_option maxRecDepth 100000 in
theorem vc47 (l : List Int) (n : Int) (hx : l.length ≤ 9223372036854775807) : sAsc3.vc (EV Try.prog [] (invsS [(2, inv47 l n)]) noInv) Try.f47 (l, n, ()) := by
  have e : ((∃ (x : Int), (0 ≤ x ∧ x ≤ (↑l.length : Int) ∧ ∀ (j : Nat), j < x.toNat → ascO n l j) ∧ 0 = x) ∧ ∀ (x : Int), (0 ≤ x ∧ x ≤ (↑l.length : Int) ∧ ∀ (j : Nat), j < x.toNat → ascO n l j) → (decide (x < (↑l.length : Int)) = true → (0 ≤ x ∧ x < (↑l.length : Int)) ∧ (decide (nth l x.toNat < 0) = false → decide (nth l x.toNat < 0) = false) ∧ (decide (nth l x.toNat < 0) = false → decide (nth l x.toNat < 0) = false) ∧ (decide (nth l x.toNat < 0) = false → 0 ≤ x ∧ x < (↑l.length : Int)) ∧ (decide (nth l x.toNat < 0) = false → decide (nth l x.toNat < 0) = false) ∧ (decide (nth l x.toNat < 0) = false → decide (nth l x.toNat < 0) = false) ∧ (decide (nth l x.toNat < 0) = false → decide (nth l x.toNat < 0) = false) ∧ (decide (nth l x.toNat < 0) = false → decide (nth l x.toNat < 0) = false) ∧ ((decide (nth l x.toNat < 0) || decide (n ≤ nth l x.toNat)) = false → (decide (nth l x.toNat < 0) || decide (n ≤ nth l x.toNat)) = false) ∧ ((decide (nth l x.toNat < 0) || decide (n ≤ nth l x.toNat)) = false → (decide (nth l x.toNat < 0) || decide (n ≤ nth l x.toNat)) = false) ∧ ((!(decide (nth l x.toNat < 0) || decide (n ≤ nth l x.toNat)) && decide (0 < x)) = true → (!(decide (nth l x.toNat < 0) || decide (n ≤ nth l x.toNat)) && decide (0 < x)) = true) ∧ ((!(decide (nth l x.toNat < 0) || decide (n ≤ nth l x.toNat)) && decide (0 < x)) = true → i64R (x - 1)) ∧ ((!(decide (nth l x.toNat < 0) || decide (n ≤ nth l x.toNat)) && decide (0 < x)) = true → (!(decide (nth l x.toNat < 0) || decide (n ≤ nth l x.toNat)) && decide (0 < x)) = true) ∧ ((!(decide (nth l x.toNat < 0) || decide (n ≤ nth l x.toNat)) && decide (0 < x)) = true → (!(decide (nth l x.toNat < 0) || decide (n ≤ nth l x.toNat)) && decide (0 < x)) = true) ∧ ((!(decide (nth l x.toNat < 0) || decide (n ≤ nth l x.toNat)) && decide (0 < x)) = true → 0 ≤ x - 1 ∧ x - 1 < (↑l.length : Int)) ∧ ((!(decide (nth l x.toNat < 0) || decide (n ≤ nth l x.toNat)) && decide (0 < x)) = true → (!(decide (nth l x.toNat < 0) || decide (n ≤ nth l x.toNat)) && decide (0 < x)) = true) ∧ ((!(decide (nth l x.toNat < 0) || decide (n ≤ nth l x.toNat)) && decide (0 < x)) = true → (!(decide (nth l x.toNat < 0) || decide (n ≤ nth l x.toNat)) && decide (0 < x)) = true) ∧ ((!(decide (nth l x.toNat < 0) || decide (n ≤ nth l x.toNat)) && decide (0 < x)) = true → (!(decide (nth l x.toNat < 0) || decide (n ≤ nth l x.toNat)) && decide (0 < x)) = true) ∧ ((!(decide (nth l x.toNat < 0) || decide (n ≤ nth l x.toNat)) && decide (0 < x)) = true → 0 ≤ x ∧ x < (↑l.length : Int)) ∧ ((!(decide (nth l x.toNat < 0) || decide (n ≤ nth l x.toNat)) && decide (0 < x)) = true → (!(decide (nth l x.toNat < 0) || decide (n ≤ nth l x.toNat)) && decide (0 < x)) = true) ∧ ((!(decide (nth l x.toNat < 0) || decide (n ≤ nth l x.toNat)) && decide (0 < x)) = true → (!(decide (nth l x.toNat < 0) || decide (n ≤ nth l x.toNat)) && decide (0 < x)) = true) ∧ ((!(decide (nth l x.toNat < 0) || decide (n ≤ nth l x.toNat)) && decide (0 < x)) = true → (!(decide (nth l x.toNat < 0) || decide (n ≤ nth l x.toNat)) && decide (0 < x)) = true) ∧ ((decide (nth l x.toNat < 0) || decide (n ≤ nth l x.toNat)) = false → (decide (nth l x.toNat < 0) || decide (n ≤ nth l x.toNat)) = false) ∧ ((decide (nth l x.toNat < 0) || decide (n ≤ nth l x.toNat)) = false → decide (0 < x) = true → (!(decide (nth l x.toNat < 0) || decide (n ≤ nth l x.toNat)) && decide (0 < x)) = true) ∧ ((decide (nth l x.toNat < 0) || decide (n ≤ nth l x.toNat)) = false → (decide (nth l x.toNat < 0) || decide (n ≤ nth l x.toNat)) = false) ∧ ((decide (nth l x.toNat < 0) || decide (n ≤ nth l x.toNat) || decide (0 < x) && decide (nth l x.toNat ≤ nth l (x - 1).toNat)) = true → ∃ (y : Unit), True ∧ false = ascB l n) ∧ ((decide (nth l x.toNat < 0) || decide (n ≤ nth l x.toNat) || decide (0 < x) && decide (nth l x.toNat ≤ nth l (x - 1).toNat)) = false → i64R (x + 1) ∧ ∃ (x' : Int), (0 ≤ x' ∧ x' ≤ (↑l.length : Int) ∧ ∀ (j : Nat), j < x'.toNat → ascO n l j) ∧ ((↑l.length : Int) - x').toNat < ((↑l.length : Int) - x).toNat ∧ x + 1 = x')) ∧ (decide (x < (↑l.length : Int)) = false → ∃ (y : Unit), True ∧ true = ascB l n)) = sAsc3.vc (EV Try.prog [] (invsS [(2, inv47 l n)]) noInv) Try.f47 (l, n, ()) := by kernel_rfl
  rw [← e]
  clear e
  simp only [imp_self, true_and, exists_const, gd1]
  simp only [i64R, Int.reduceNeg, decide_eq_true_eq, decide_eq_false_iff_not, Bool.not_eq_true', Bool.and_eq_true, Bool.or_eq_true, Bool.and_eq_false_iff, Bool.or_eq_false_iff ]
  have nx : ¬ Asc l n → false = ascB l n := fun h => (ascB_f.2 h).symm
  refine ⟨⟨0, ⟨by omega, by omega, fun j hj => by simp at hj⟩, rfl⟩, fun i hi => ?_⟩
  obtain ⟨i0, i1, hj⟩ := hi
  refine ⟨fun hlt => ⟨⟨i0, hlt⟩, fun _ => by omega, fun _ => by omega, fun _ => by omega, fun _ => by omega, fun h => nx fun hA => ?_, fun h => ⟨by omega, i + 1, ⟨by omega, by omega, fun j hj' => ?_⟩, by omega, rfl⟩⟩, fun hge => ?_⟩
  · obtain ⟨a, b, c⟩ := hA i.toNat (by omega)
    rw [show i.toNat - 1 = (i - 1).toNat by omega] at c
    rcases h with (h | h) | h
    · omega
    · omega
    · have := c (by omega); omega
  · by_cases e : j = i.toNat
    · subst e
      refine ⟨by omega, by omega, fun h0 => ?_⟩
      rw [show i.toNat - 1 = (i - 1).toNat by omega]
      rcases h.2 with h2 | h2 <;> omega
    · exact hj j (by omega)
  · symm
    exact ascB_t.2 fun j hj' => hj j (by omega)

def inv53 (a b : List Int) (s : St) : Inv where
  X := Int × List Int
  ok := fun x => (0 ≤ x.1 ∧ x.1 ≤ a.length) ∧ (∀ z, z ∈ x.2 ↔ z ∈ a.take x.1.toNat ∧ ¬ z ∈ b) ∧ x.2.length ≤ x.1
  sl := fun x => [(6, .int .i64 x.1), (5, .own 101 0)]
  hp := fun x => [(101, .rows 3 0 x.2)]
  keep := []
  me := fun x => (a.length - x.1).toNat
set_option maxRecDepth 100000 in
theorem vc53 (a b : List Int) (hx : a.length ≤ 1000 ∧ b.length ≤ 1000) : sMinus.vc (EV Try.prog [(46, sHasI.spec), (39, sSorted.spec)] (invsS [(3, inv53 a b)]) noInv) Try.f53 (a, b, ()) := by
  have e : ((∃ (x : Int × List Int), ((0 ≤ x.1 ∧ x.1 ≤ (↑a.length : Int)) ∧ (∀ (z : Int), z ∈ x.2 ↔ z ∈ List.take x.1.toNat a ∧ ¬z ∈ b) ∧ (↑x.2.length : Int) ≤ x.1) ∧ 0 = x.1 ∧ NilL Int = x.2) ∧ ∀ (x : Int × List Int), (0 ≤ x.1 ∧ x.1 ≤ (↑a.length : Int)) ∧ (∀ (z : Int), z ∈ x.2 ↔ z ∈ List.take x.1.toNat a ∧ ¬z ∈ b) ∧ (↑x.2.length : Int) ≤ x.1 → (decide (x.1 < (↑a.length : Int)) = true → (0 ≤ x.1 ∧ x.1 < (↑a.length : Int)) ∧ b.length ≤ (9223372036854775807 : Nat) ∧ ((!memB b (a.getD x.1.toNat 0)) = true → (0 ≤ x.1 ∧ x.1 < (↑a.length : Int)) ∧ x.2.length + (a.getD x.1.toNat 0 :: NilL Int).length ≤ (68719476736 : Nat) ∧ i64R (x.1 + 1) ∧ ∃ (x' : Int × List Int), ((0 ≤ x'.1 ∧ x'.1 ≤ (↑a.length : Int)) ∧ (∀ (z : Int), z ∈ x'.2 ↔ z ∈ List.take x'.1.toNat a ∧ ¬z ∈ b) ∧ (↑x'.2.length : Int) ≤ x'.1) ∧ ((↑a.length : Int) - x'.1).toNat < ((↑a.length : Int) - x.1).toNat ∧ x.1 + 1 = x'.1 ∧ x.2 ++ a.getD x.1.toNat 0 :: NilL Int = x'.2) ∧ ((!memB b (a.getD x.1.toNat 0)) = false → i64R (x.1 + 1) ∧ ∃ (x' : Int × List Int), ((0 ≤ x'.1 ∧ x'.1 ≤ (↑a.length : Int)) ∧ (∀ (z : Int), z ∈ x'.2 ↔ z ∈ List.take x'.1.toNat a ∧ ¬z ∈ b) ∧ (↑x'.2.length : Int) ≤ x'.1) ∧ ((↑a.length : Int) - x'.1).toNat < ((↑a.length : Int) - x.1).toNat ∧ x.1 + 1 = x'.1 ∧ x.2 = x'.2)) ∧ (decide (x.1 < (↑a.length : Int)) = false → x.2.length ≤ (1000 : Nat) ∧ (∀ (y : List Int), true = true) ∧ ∀ (y : List Int), (AscI y ∧ ∀ (z : Int), z ∈ y ↔ z ∈ x.2) ∧ y.length ≤ x.2.length → ∃ (y_1 : List Int), ((AscI y_1 ∧ ∀ (z : Int), z ∈ y_1 ↔ z ∈ a ∧ ¬z ∈ b) ∧ y_1.length ≤ a.length) ∧ y = y_1)) = sMinus.vc (EV Try.prog [(46, sHasI.spec), (39, sSorted.spec)] (invsS [(3, inv53 a b)]) noInv) Try.f53 (a, b, ()) := by kernel_rfl
  rw [← e]
  clear e
  simp only [true_and, implies_true]
  simp only [Prod.forall, Prod.exists, i64R, Int.reduceNeg, decide_eq_true_eq, decide_eq_false_iff_not, Bool.not_eq_true', Bool.not_eq_false']
  try simp only [NilL_eq]
  have etk : ∀ i : Int, 0 ≤ i → i < a.length → ∀ z, z ∈ a.take (i + 1).toNat ↔ z = a.getD i.toNat 0 ∨ z ∈ a.take i.toNat := fun i h0 h1 z => by
    have e : (i + 1).toNat = i.toNat + 1 := by omega
    rw [e, List.take_add_one, List.getElem?_eq_getElem (by omega), List.mem_append, List.getD_eq_getElem?_getD, List.getElem?_eq_getElem (by omega)]
    simp [or_comm]
  have hmb : ∀ z, memB b z = false ↔ ¬ z ∈ b := fun z => by rw [← memB_iff]; simp
  have hmt : ∀ z, memB b z = true ↔ z ∈ b := fun z => memB_iff
  refine ⟨⟨0, [], ⟨by omega, fun z => by simp, by simp⟩, rfl, rfl⟩, fun i y hi => ⟨fun hlt => ⟨by omega, by omega, fun hb => ⟨by omega, by simp only [List.length_cons, List.length_nil]; omega, by omega, i + 1, _, ⟨by omega, fun z => ?_, by simp; omega⟩, by omega, rfl, rfl⟩, fun hb => ⟨by omega, i + 1, y, ⟨by omega, fun z => ?_, by omega⟩, by omega, rfl, rfl⟩⟩, fun hge => ⟨by omega, fun y2 hy => ⟨y2, ⟨⟨hy.1.1, fun z => ?_⟩, by omega⟩, rfl⟩⟩⟩⟩
  · rw [etk i (by omega) (by omega), List.mem_append, hi.2.1, List.mem_singleton]
    rw [hmb] at hb
    constructor
    · rintro (h | h)
      · exact ⟨.inr h.1, h.2⟩
      · rw [h]; exact ⟨.inl rfl, hb⟩
    · rintro ⟨h | h, h2⟩
      · exact .inr h
      · exact .inl ⟨h, h2⟩
  · rw [etk i (by omega) (by omega), hi.2.1]
    rw [hmt] at hb
    constructor
    · rintro h; exact ⟨.inr h.1, h.2⟩
    · rintro ⟨h | h, h2⟩
      · rw [h] at h2; exact absurd hb h2
      · exact ⟨h, h2⟩
  · rw [hy.1.2, hi.2.1, List.take_of_length_le (by omega)]


set_option maxRecDepth 100000 in
theorem vc52 (a b : List Int) (hx : a.length ≤ 1000 ∧ b.length ≤ 1000) : sWithin.vc (EV Try.prog [(53, sMinus.spec)] noInv noInv) Try.f52 (a, b, ()) := by
  have e : ((a.length ≤ (1000 : Nat) ∧ b.length ≤ (1000 : Nat)) ∧ (∀ (y : List Int), true = true) ∧ ∀ (y : List Int), (AscI y ∧ ∀ (z : Int), z ∈ y ↔ z ∈ a ∧ ¬z ∈ b) ∧ y.length ≤ a.length → ∃ (y_1 : Unit), True ∧ decide ((↑y.length : Int) = 0) = withB a b) = sWithin.vc (EV Try.prog [(53, sMinus.spec)] noInv noInv) Try.f52 (a, b, ()) := by kernel_rfl
  rw [← e]
  clear e
  simp only [true_and, exists_const, implies_true]
  refine ⟨hx, fun y hy => ?_⟩
  obtain ⟨⟨h1, h2⟩, h3⟩ := hy
  by_cases e : y = []
  · subst e
    have : withB a b = true := withB_t.2 fun x hx => by
      by_cases hb : x ∈ b
      · exact hb
      · have := (h2 x).2 ⟨hx, hb⟩; simp at this
    rw [this]; rfl
  · have : withB a b = false := withB_f.2 fun h => by
      obtain ⟨x, hx⟩ := List.exists_mem_of_ne_nil y e
      have := (h2 x).1 hx
      exact this.2 (h x this.1)
    rw [this]
    have : y.length ≠ 0 := fun h => e (List.eq_nil_of_length_eq_zero h)
    simp; exact e


set_option maxRecDepth 100000 in
theorem vc21 (a b : List Int) (hx : a.length ≤ 400 ∧ b.length ≤ 400) : sUnion.vc (EV Try.prog [(39, sSorted.spec)] noInv noInv) Try.f21 (a, b, ()) := by
  have e : (a.length ≤ (68719476736 : Nat) ∧ a.length + b.length ≤ (68719476736 : Nat) ∧ (a ++ b).length ≤ (1000 : Nat) ∧ (∀ (y : List Int), true = true) ∧ ∀ (y : List Int), (AscI y ∧ ∀ (z : Int), z ∈ y ↔ z ∈ a ++ b) ∧ y.length ≤ (a ++ b).length → ∃ (y_1 : List Int), ((AscI y_1 ∧ ∀ (z : Int), z ∈ y_1 ↔ z ∈ a ∨ z ∈ b) ∧ y_1.length ≤ a.length + b.length) ∧ y = y_1) = sUnion.vc (EV Try.prog [(39, sSorted.spec)] noInv noInv) Try.f21 (a, b, ()) := by kernel_rfl
  rw [← e]
  clear e
  simp only [true_and, implies_true]
  refine ⟨by omega, by omega, by rw [List.length_append]; omega, fun y hy => ⟨y, ⟨⟨hy.1.1, fun z => by rw [hy.1.2, List.mem_append]⟩, by have := hy.2; rw [List.length_append] at this; exact this⟩, rfl⟩⟩

def inv16 (a b : List Spt) (s : St) : Inv where
  X := Int
  ok := fun i => 0 ≤ i ∧ i ≤ a.length ∧ ∀ j : Nat, j < i.toNat → a.getD j (dfl 5) = b.getD j (dfl 5)
  sl := fun i => [(5, .int .i64 i)]
  hp := fun i => []
  keep := []
  me := fun i => (a.length - i).toNat
set_option maxRecDepth 100000 in
theorem vc16 (a b : List Spt) (hx : a.length ≤ 9223372036854775807 ∧ b.length ≤ 9223372036854775807) : sSameS.vc (EV Try.prog [] (invsS [(4, inv16 a b)]) noInv) Try.f16 (a, b, ()) := by
  have e : (((!decide ((↑a.length : Int) = (↑b.length : Int))) = true → ∃ (y : Unit), True ∧ false = eqL a b) ∧ ((!decide ((↑a.length : Int) = (↑b.length : Int))) = false → (∃ (x : Int), (0 ≤ x ∧ x ≤ (↑a.length : Int) ∧ ∀ (j : Nat), j < x.toNat → a.getD j { grp := 0, node := 0, pages := 0 : Spt } = b.getD j { grp := 0, node := 0, pages := 0 : Spt }) ∧ 0 = x) ∧ ∀ (x : Int), (0 ≤ x ∧ x ≤ (↑a.length : Int) ∧ ∀ (j : Nat), j < x.toNat → a.getD j { grp := 0, node := 0, pages := 0 : Spt } = b.getD j { grp := 0, node := 0, pages := 0 : Spt }) → (decide (x < (↑a.length : Int)) = true → (0 ≤ x ∧ x < (↑a.length : Int)) ∧ (0 ≤ x ∧ x < (↑b.length : Int)) ∧ ((!(decide ((a.getD x.toNat { grp := 0, node := 0, pages := 0 : Spt }).grp = (b.getD x.toNat { grp := 0, node := 0, pages := 0 : Spt }).grp) && (decide ((a.getD x.toNat { grp := 0, node := 0, pages := 0 : Spt }).node = (b.getD x.toNat { grp := 0, node := 0, pages := 0 : Spt }).node) && (decide ((a.getD x.toNat { grp := 0, node := 0, pages := 0 : Spt }).pages = (b.getD x.toNat { grp := 0, node := 0, pages := 0 : Spt }).pages) && true)))) = true → ∃ (y : Unit), True ∧ false = eqL a b) ∧ ((!(decide ((a.getD x.toNat { grp := 0, node := 0, pages := 0 : Spt }).grp = (b.getD x.toNat { grp := 0, node := 0, pages := 0 : Spt }).grp) && (decide ((a.getD x.toNat { grp := 0, node := 0, pages := 0 : Spt }).node = (b.getD x.toNat { grp := 0, node := 0, pages := 0 : Spt }).node) && (decide ((a.getD x.toNat { grp := 0, node := 0, pages := 0 : Spt }).pages = (b.getD x.toNat { grp := 0, node := 0, pages := 0 : Spt }).pages) && true)))) = false → i64R (x + 1) ∧ ∃ (x' : Int), (0 ≤ x' ∧ x' ≤ (↑a.length : Int) ∧ ∀ (j : Nat), j < x'.toNat → a.getD j { grp := 0, node := 0, pages := 0 : Spt } = b.getD j { grp := 0, node := 0, pages := 0 : Spt }) ∧ ((↑a.length : Int) - x').toNat < ((↑a.length : Int) - x).toNat ∧ x + 1 = x')) ∧ (decide (x < (↑a.length : Int)) = false → ∃ (y : Unit), True ∧ true = eqL a b))) = sSameS.vc (EV Try.prog [] (invsS [(4, inv16 a b)]) noInv) Try.f16 (a, b, ()) := by kernel_rfl
  rw [← e]
  clear e
  simp only [true_and, exists_const]
  simp only [or_false, and_true, i64R, Int.reduceNeg, decide_eq_true_eq, decide_eq_false_iff_not, Bool.not_eq_true', Bool.not_eq_false', Bool.true_eq_false, Bool.and_eq_true, Bool.and_eq_false_iff]
  try simp only [NilL_eq]
  refine ⟨fun h => eqL_len h, fun h => ⟨⟨0, ⟨by omega, by omega, fun j hj => by simp at hj⟩, rfl⟩, fun i hi => ⟨fun hlt => ⟨by omega, by omega, fun h2 => ?_, fun h2 => ⟨by omega, i + 1, ⟨by omega, by omega, fun j hj => ?_⟩, by omega, rfl⟩⟩, fun hge => ?_⟩⟩⟩
  · refine eqL_not (α := Spt) ⟨0, 0, 0⟩ (j := i.toNat) fun e => ?_
    rw [e] at h2; simp at h2
  · by_cases e : j = i.toNat
    · subst e
      generalize a.getD i.toNat ⟨0, 0, 0⟩ = u at *
      generalize b.getD i.toNat ⟨0, 0, 0⟩ = v at *
      obtain ⟨u1, u2, u3⟩ := u
      obtain ⟨v1, v2, v3⟩ := v
      simp only at h2
      rw [h2.1, h2.2.1, h2.2.2]
    · exact hi.2.2 j (by omega)
  · exact eqL_all (α := Spt) ⟨0, 0, 0⟩ (by omega) fun j hj => hi.2.2 j (by omega)

def inv17 (a b : List Int) (s : St) : Inv where
  X := Int
  ok := fun i => 0 ≤ i ∧ i ≤ a.length ∧ ∀ j : Nat, j < i.toNat → a.getD j 0 = b.getD j 0
  sl := fun i => [(5, .int .i64 i)]
  hp := fun i => []
  keep := []
  me := fun i => (a.length - i).toNat
set_option maxRecDepth 100000 in
theorem vc17 (a b : List Int) (hx : a.length ≤ 9223372036854775807 ∧ b.length ≤ 9223372036854775807) : sSameI.vc (EV Try.prog [] (invsS [(4, inv17 a b)]) noInv) Try.f17 (a, b, ()) := by
  have e : (((!decide ((↑a.length : Int) = (↑b.length : Int))) = true → ∃ (y : Unit), True ∧ false = eqL a b) ∧ ((!decide ((↑a.length : Int) = (↑b.length : Int))) = false → (∃ (x : Int), (0 ≤ x ∧ x ≤ (↑a.length : Int) ∧ ∀ (j : Nat), j < x.toNat → a.getD j 0 = b.getD j 0) ∧ 0 = x) ∧ ∀ (x : Int), (0 ≤ x ∧ x ≤ (↑a.length : Int) ∧ ∀ (j : Nat), j < x.toNat → a.getD j 0 = b.getD j 0) → (decide (x < (↑a.length : Int)) = true → (0 ≤ x ∧ x < (↑a.length : Int)) ∧ (0 ≤ x ∧ x < (↑b.length : Int)) ∧ ((!decide (a.getD x.toNat 0 = b.getD x.toNat 0)) = true → ∃ (y : Unit), True ∧ false = eqL a b) ∧ ((!decide (a.getD x.toNat 0 = b.getD x.toNat 0)) = false → i64R (x + 1) ∧ ∃ (x' : Int), (0 ≤ x' ∧ x' ≤ (↑a.length : Int) ∧ ∀ (j : Nat), j < x'.toNat → a.getD j 0 = b.getD j 0) ∧ ((↑a.length : Int) - x').toNat < ((↑a.length : Int) - x).toNat ∧ x + 1 = x')) ∧ (decide (x < (↑a.length : Int)) = false → ∃ (y : Unit), True ∧ true = eqL a b))) = sSameI.vc (EV Try.prog [] (invsS [(4, inv17 a b)]) noInv) Try.f17 (a, b, ()) := by kernel_rfl
  rw [← e]
  clear e
  simp only [true_and, exists_const]
  simp only [i64R, Int.reduceNeg, decide_eq_true_eq, decide_eq_false_iff_not, Bool.not_eq_true', Bool.not_eq_false']
  try simp only [NilL_eq]
  refine ⟨fun h => eqL_len h, fun h => ⟨⟨0, ⟨by omega, by omega, fun j hj => by simp at hj⟩, rfl⟩, fun i hi => ⟨fun hlt => ⟨by omega, by omega, fun h2 => ?_, fun h2 => ⟨by omega, i + 1, ⟨by omega, by omega, fun j hj => ?_⟩, by omega, rfl⟩⟩, fun hge => ?_⟩⟩⟩
  · exact eqL_not (α := Int) 0 (j := i.toNat) h2
  · by_cases e : j = i.toNat
    · subst e; exact h2
    · exact hi.2.2 j (by omega)
  · exact eqL_all (α := Int) 0 (by omega) fun j hj => hi.2.2 j (by omega)

def inv23 (l : List Spt) (n : Int) (s : St) : Inv where
  X := Int
  ok := fun i => 0 ≤ i ∧ i ≤ l.length
  sl := fun i => [(10, .int .i64 i), (5, .int .i64 (loadN l n i.toNat))]
  hp := fun i => []
  keep := []
  me := fun i => (l.length - i).toNat
set_option maxRecDepth 100000 in
theorem vc23 (l : List Spt) (n : Int) (hx : SB l) : sLoad.vc (EV Try.prog [] (invsS [(3, inv23 l n)]) noInv) Try.f23 (l, n, ()) := by
  have e : ((∃ (x : Int), (0 ≤ x ∧ x ≤ (↑l.length : Int)) ∧ 0 = x ∧ 0 = loadN l n x.toNat) ∧ ∀ (x : Int), 0 ≤ x ∧ x ≤ (↑l.length : Int) → (decide (x < (↑l.length : Int)) = true → (0 ≤ x ∧ x < (↑l.length : Int)) ∧ (decide ((spA l x.toNat).node = n) = true → i64R (loadN l n x.toNat + (spA l x.toNat).pages) ∧ i64R (x + 1) ∧ ∃ (x' : Int), (0 ≤ x' ∧ x' ≤ (↑l.length : Int)) ∧ ((↑l.length : Int) - x').toNat < ((↑l.length : Int) - x).toNat ∧ x + 1 = x' ∧ loadN l n x.toNat + (spA l x.toNat).pages = loadN l n x'.toNat) ∧ (decide ((spA l x.toNat).node = n) = false → i64R (x + 1) ∧ ∃ (x' : Int), (0 ≤ x' ∧ x' ≤ (↑l.length : Int)) ∧ ((↑l.length : Int) - x').toNat < ((↑l.length : Int) - x).toNat ∧ x + 1 = x' ∧ loadN l n x.toNat = loadN l n x'.toNat)) ∧ (decide (x < (↑l.length : Int)) = false → ∃ (y : Unit), True ∧ loadN l n x.toNat = loadS l n)) = sLoad.vc (EV Try.prog [] (invsS [(3, inv23 l n)]) noInv) Try.f23 (l, n, ()) := by kernel_rfl
  rw [← e]
  clear e
  simp only [true_and, exists_const]
  simp only [i64R, Int.reduceNeg, decide_eq_true_eq, decide_eq_false_iff_not]
  have hl := hx.len
  have st : ∀ i : Int, 0 ≤ i → loadN l n (i + 1).toNat = loadN l n i.toNat + ldF l n i.toNat := fun i h0 => by
    have e : (i + 1).toNat = i.toNat + 1 := by omega
    rw [e]; rfl
  have fin : ∀ i : Int, i = l.length → loadN l n i.toNat = loadS l n := fun i h => by rw [h]; rfl
  refine ⟨⟨0, by omega, rfl, rfl⟩, fun i hi => ⟨fun hlt => ⟨by omega, fun h => ?_, fun h => ⟨by omega, i + 1, by omega, by omega, rfl, ?_⟩⟩, fun hge => fin i (by omega)⟩⟩
  · have h1 := loadN_bnd hx (n := n) (k := i.toNat) (by omega)
    have h2 := hx.pg i.toNat
    have h3 := st i (by omega)
    rw [ldF, if_pos h] at h3
    refine ⟨by omega, by omega, i + 1, by omega, by omega, rfl, h3.symm⟩
  · have h3 := st i (by omega)
    rw [ldF, if_neg h] at h3
    omega

def inv26 (l : List Spt) (n : Int) (s : St) : Inv where
  X := Int
  ok := fun i => 0 ≤ i ∧ i ≤ l.length
  sl := fun i => [(6, .int .i64 i), (5, .int .i64 (loadN l n i.toNat))]
  hp := fun i => []
  keep := []
  me := fun i => (l.length - i).toNat
set_option maxRecDepth 100000 in
theorem vc26 (l : List Spt) (n : Int) (hx : SB l) : sLoad.vc (EV Try.prog [] (invsS [(3, inv26 l n)]) noInv) Try.f26 (l, n, ()) := by
  have e : ((∃ (x : Int), (0 ≤ x ∧ x ≤ (↑l.length : Int)) ∧ 0 = x ∧ 0 = loadN l n x.toNat) ∧ ∀ (x : Int), 0 ≤ x ∧ x ≤ (↑l.length : Int) → (decide (x < (↑l.length : Int)) = true → (0 ≤ x ∧ x < (↑l.length : Int)) ∧ (decide ((spA l x.toNat).node = n) = true → (0 ≤ x ∧ x < (↑l.length : Int)) ∧ i64R (loadN l n x.toNat + (spA l x.toNat).pages) ∧ i64R (x + 1) ∧ ∃ (x' : Int), (0 ≤ x' ∧ x' ≤ (↑l.length : Int)) ∧ ((↑l.length : Int) - x').toNat < ((↑l.length : Int) - x).toNat ∧ x + 1 = x' ∧ loadN l n x.toNat + (spA l x.toNat).pages = loadN l n x'.toNat) ∧ (decide ((spA l x.toNat).node = n) = false → i64R (x + 1) ∧ ∃ (x' : Int), (0 ≤ x' ∧ x' ≤ (↑l.length : Int)) ∧ ((↑l.length : Int) - x').toNat < ((↑l.length : Int) - x).toNat ∧ x + 1 = x' ∧ loadN l n x.toNat = loadN l n x'.toNat)) ∧ (decide (x < (↑l.length : Int)) = false → ∃ (y : Unit), True ∧ loadN l n x.toNat = loadS l n)) = sLoad.vc (EV Try.prog [] (invsS [(3, inv26 l n)]) noInv) Try.f26 (l, n, ()) := by kernel_rfl
  rw [← e]
  clear e
  simp only [true_and, exists_const]
  simp only [i64R, Int.reduceNeg, decide_eq_true_eq, decide_eq_false_iff_not]
  have hl := hx.len
  have st : ∀ i : Int, 0 ≤ i → loadN l n (i + 1).toNat = loadN l n i.toNat + ldF l n i.toNat := fun i h0 => by
    have e : (i + 1).toNat = i.toNat + 1 := by omega
    rw [e]; rfl
  have fin : ∀ i : Int, i = l.length → loadN l n i.toNat = loadS l n := fun i h => by rw [h]; rfl
  refine ⟨⟨0, by omega, rfl, rfl⟩, fun i hi => ⟨fun hlt => ⟨by omega, fun h => ?_, fun h => ⟨by omega, i + 1, by omega, by omega, rfl, ?_⟩⟩, fun hge => fin i (by omega)⟩⟩
  · have h1 := loadN_bnd hx (n := n) (k := i.toNat) (by omega)
    have h2 := hx.pg i.toNat
    have h3 := st i (by omega)
    rw [ldF, if_pos h] at h3
    refine ⟨by omega, by omega, by omega, i + 1, by omega, by omega, rfl, h3.symm⟩
  · have h3 := st i (by omega)
    rw [ldF, if_neg h] at h3
    omega
end Go.Proofs.Ytompifpamldjaaa

namespace Go.Proofs.Ytompifpamldjaaa
open Go
set_option linter.unusedVariables false

open Classical in
/-- The first place below n with a property; -1 if there is none. -/
noncomputable def fstI (p : Nat → Prop) (n : Nat) : Int := if h : ∃ i, i < n ∧ p i ∧ ∀ j, j < i → ¬ p j then (h.choose : Int) else -1
theorem fstI_at {p : Nat → Prop} {n i : Nat} (hi : i < n) (h : p i) (hj : ∀ j, j < i → ¬ p j) : fstI p n = i := by
  have hx : ∃ i, i < n ∧ p i ∧ ∀ j, j < i → ¬ p j := ⟨i, hi, h, hj⟩
  rw [fstI, dif_pos hx]
  obtain ⟨h1, h2, h3⟩ := hx.choose_spec
  generalize hx.choose = k at h1 h2 h3
  rcases Nat.lt_trichotomy k i with h4 | h4 | h4
  · exact absurd h2 (hj k h4)
  · rw [h4]
  · exact absurd h (h3 i h4)
theorem fstI_no {p : Nat → Prop} {n : Nat} (hj : ∀ j, j < n → ¬ p j) : fstI p n = -1 := by
  rw [fstI, dif_neg]
  rintro ⟨i, hi, h, _⟩
  exact hj i hi h
theorem fstI_cases (p : Nat → Prop) (n : Nat) : (fstI p n = -1 ∧ ∀ j, j < n → ¬ p j) ∨ ∃ i : Nat, fstI p n = i ∧ i < n ∧ p i ∧ ∀ j, j < i → ¬ p j := by
  by_cases h : ∃ i, i < n ∧ p i
  · obtain ⟨i, hi, hp⟩ := h
    have key : ∀ m : Nat, ∀ k, k ≤ m → k < n → p k → ∃ i : Nat, i < n ∧ p i ∧ ∀ j, j < i → ¬ p j := by
      intro m
      induction m with
      | zero => intro k hk hk2 hp; exact ⟨k, hk2, hp, fun j hj => by omega⟩
      | succ m ih =>
        intro k hk hk2 hp
        by_cases e : ∃ j, j < k ∧ p j
        · obtain ⟨j, hj, hpj⟩ := e
          exact ih j (by omega) (by omega) hpj
        · exact ⟨k, hk2, hp, fun j hj hpj => e ⟨j, hj, hpj⟩⟩
    obtain ⟨i, h1, h2, h3⟩ := key i i (Nat.le_refl _) hi hp
    exact .inr ⟨i, fstI_at h1 h2 h3, h1, h2, h3⟩
  · have hn : ∀ j, j < n → ¬ p j := fun j hj hp => h ⟨j, hj, hp⟩
    exact .inl ⟨fstI_no hn, hn⟩
def getSptA : AV → Option Spt
  | .agg [.int .i64 a, .int .i64 b, .int .i64 c] => some ⟨a, b, c⟩
  | _ => none
def pkSpt : PK Spt where
  get := getSptA
  put := fun s => .agg [.int .i64 s.grp, .int .i64 s.node, .int .i64 s.pages]
  ok := fun v a h w S μ x _ hx => by
    unfold getSptA at h
    split at h
    · cases h; exact hx
    · cases h
def getChgA : AV → Option Chg
  | .agg [.int .i64 a, .int .i64 b] => some ⟨a, b⟩
  | _ => none
def pkChg : PK Chg where
  get := getChgA
  put := fun s => .agg [.int .i64 s.grp, .int .i64 s.own]
  ok := fun v a h w S μ x _ hx => by
    unfold getChgA at h
    split at h
    · cases h; exact hx
    · cases h
def getPeekS : AV → Option Spt
  | .ipt false [.int .i64 a, .int .i64 b, .int .i64 c] 0 => some ⟨a, b, c⟩
  | _ => none
/-- A spot that is looked at. -/
def pkPeekS : PK Spt where
  get := getPeekS
  put := fun s => .ipt false [.int .i64 s.grp, .int .i64 s.node, .int .i64 s.pages] 0
  ok := fun v a h w S μ x _ hx => by
    unfold getPeekS at h
    split at h
    · cases h; exact hx
    · cases h
def getEqS : AV → Option Spt
  | .fn (.func 35) [] [.ipt false [.int .i64 a, .int .i64 b, .int .i64 c] 0] => some ⟨a, b, c⟩
  | _ => none
def pkEqS : PK Spt where
  get := getEqS
  put := fun s => .fn (.func 35) [] [.ipt false [.int .i64 s.grp, .int .i64 s.node, .int .i64 s.pages] 0]
  ok := fun v a h w S μ x _ hx => by
    unfold getEqS at h
    split at h
    · cases h; exact hx
    · cases h
def getEqC : AV → Option Spt
  | .fn (.func 42) [] [.ipt false [.int .i64 a, .int .i64 b, .int .i64 c] 0] => some ⟨a, b, c⟩
  | _ => none
def pkEqC : PK Spt where
  get := getEqC
  put := fun s => .fn (.func 42) [] [.ipt false [.int .i64 s.grp, .int .i64 s.node, .int .i64 s.pages] 0]
  ok := fun v a h w S μ x _ hx => by
    unfold getEqC at h
    split at h
    · cases h; exact hx
    · cases h
def getGt : AV → Option Unit
  | .fn (.func 45) [] [] => some ()
  | _ => none
def pkGt : PK Unit where
  get := getGt
  put := fun _ => .fn (.func 45) [] []
  ok := fun v a h w S μ x _ hx => by
    unfold getGt at h
    split at h
    · cases h; exact hx
    · cases h
def getPeekL : AV → Option (List Int)
  | .ipt false [.irec false 0 l] 0 => some l
  | _ => none
/-- A slice in a box that is looked at. -/
def pkPeekL : PK (List Int) where
  get := getPeekL
  put := fun l => .ipt false [.irec false 0 l] 0
  ok := fun v a h w S μ x _ hx => by
    unfold getPeekL at h
    split at h
    · cases h; exact hx
    · cases h
def getOut : AV → Option (List Int)
  | .fn (.func 48) [] [.ipt false [.irec false 0 l] 0] => some l
  | _ => none
def pkOut : PK (List Int) where
  get := getOut
  put := fun l => .fn (.func 48) [] [.ipt false [.irec false 0 l] 0]
  ok := fun v a h w S μ x _ hx => by
    unfold getOut at h
    split at h
    · cases h; exact hx
    · cases h
def isAt (l : List Spt) (g n : Int) (i : Nat) : Prop := (spA l i).grp = g ∧ (spA l i).node = n
def isGr (C : List Chg) (g : Int) (i : Nat) : Prop := grpAt C i = g
def isPos (l : List Int) (i : Nat) : Prop := 0 < nth l i
def isOut (S l : List Int) (i : Nat) : Prop := ¬ nth l i ∈ S
noncomputable def atI (l : List Spt) (g n : Int) : Int := fstI (isAt l g n) l.length
noncomputable def grI (C : List Chg) (g : Int) : Int := fstI (isGr C g) C.length
noncomputable def posI (l : List Int) : Int := fstI (isPos l) l.length
noncomputable def outI (S l : List Int) : Int := fstI (isOut S l) l.length
noncomputable def sEqS : DS := ⟨_, two pkSpt pkPeekS, fun _ => True, fun x => .bool (decide (x.1.grp = x.2.1.grp) && decide (x.1.node = x.2.1.node)), nou⟩
noncomputable def sIdxS : DS := ⟨_, two (pkL 5) pkEqS, fun x => x.1.length ≤ 9223372036854775807, fun x => .int .i64 (atI x.1 x.2.1.grp x.2.1.node), nou⟩
noncomputable def sEqC : DS := ⟨_, two pkChg pkPeekS, fun _ => True, fun x => .bool (decide (x.1.grp = x.2.1.grp)), nou⟩
noncomputable def sIdxC : DS := ⟨_, two (pkL 3) pkEqC, fun x => x.1.length ≤ 9223372036854775807, fun x => .int .i64 (grI x.1 x.2.1.grp), nou⟩
noncomputable def sPosX : DS := ⟨_, one pkI, fun _ => True, fun x => .bool (decide (0 < x.1)), nou⟩
noncomputable def sIdxP : DS := ⟨_, two pkInts pkGt, fun x => x.1.length ≤ 9223372036854775807, fun x => .int .i64 (posI x.1), nou⟩
noncomputable def sConP : DS := ⟨_, two pkInts pkGt, fun x => x.1.length ≤ 9223372036854775807, fun x => .bool (decide (0 ≤ posI x.1)), nou⟩
noncomputable def sOutX : DS := ⟨_, two pkI pkPeekL, fun x => x.2.1.length ≤ 9223372036854775807, fun x => .bool (!memB x.2.1 x.1), nou⟩
noncomputable def sIdxO : DS := ⟨_, two pkInts pkOut, fun x => x.1.length ≤ 9223372036854775807 ∧ x.2.1.length ≤ 9223372036854775807, fun x => .int .i64 (outI x.2.1 x.1), nou⟩
noncomputable def sConO : DS := ⟨_, two pkInts pkOut, fun x => x.1.length ≤ 9223372036854775807 ∧ x.2.1.length ≤ 9223372036854775807, fun x => .bool (decide (0 ≤ outI x.2.1 x.1)), nou⟩
noncomputable def oldP (l : List Spt) (g n : Int) : Int := if atI l g n < 0 then 0 else (spA l (atI l g n).toNat).pages
noncomputable def mvF (l m : List Spt) (k : Nat) : Int := max 0 ((spA m k).pages - oldP l (spA m k).grp (spA m k).node)
noncomputable def mvN (l m : List Spt) (k : Nat) : Int := sumF (mvF l m) k
noncomputable def moves (l m : List Spt) : Int := mvN l m m.length
theorem oldP_bnd {l : List Spt} (h : SB l) (g n : Int) : -2199023255552 ≤ oldP l g n ∧ oldP l g n ≤ 2199023255552 := by
  unfold oldP
  split
  · omega
  · exact h.pg _
theorem mvF_bnd {l m : List Spt} (hl : SB l) (hm : SB m) (k : Nat) : 0 ≤ mvF l m k ∧ mvF l m k ≤ 4398046511104 := by
  have := oldP_bnd hl (spA m k).grp (spA m k).node
  have := hm.pg k
  unfold mvF
  omega
theorem mvN_bnd {l m : List Spt} (hl : SB l) (hm : SB m) {k : Nat} (hk : k ≤ 1000) : 0 ≤ mvN l m k ∧ mvN l m k ≤ 4398046511104000 := by
  have h1 := sumF_bnd (f := mvF l m) (n := k) (b := 4398046511104) fun i _ => by
    have := mvF_bnd hl hm i; omega
  have h2 := sumF_nonneg (f := mvF l m) (n := k) fun i _ => (mvF_bnd hl hm i).1
  have e : (4398046511104 : Int) * k ≤ 4398046511104000 := by omega
  unfold mvN
  omega
noncomputable def sMoves : DS := ⟨_, two (pkL 5) (pkL 5), fun x => SB x.1 ∧ SB x.2.1, fun x => .int .i64 (moves x.1 x.2.1), nou⟩


set_option maxRecDepth 100000 in
theorem vc35 (a b c d e f : Int) (hx : True) : sEqS.vc (EV Try.prog [] noInv noInv) Try.f35 (⟨a, b, c⟩, ⟨d, e, f⟩, ()) := by
  have e : ((decide (a = d) = true → decide (a = d) = true) ∧ (decide (a = d) = true → decide (a = d) = true) ∧ (decide (a = d) = true → decide (a = d) = true) ∧ (decide (a = d) = true → decide (a = d) = true) ∧ (decide (a = d) = true → decide (a = d) = true) ∧ ∃ (y : Unit), True ∧ (decide (a = d) && decide (b = e)) = (decide (a = d) && decide (b = e))) = sEqS.vc (EV Try.prog [] noInv noInv) Try.f35 (⟨a, b, c⟩, ⟨d, e, f⟩, ()) := by kernel_rfl
  rw [← e]
  clear e
  simp only [imp_self, and_true, exists_const]
  try rfl

def inv34 (l : List Spt) (a b : Int) (s : St) : Inv where
  X := Int
  ok := fun i => 0 ≤ i ∧ i ≤ l.length ∧ ∀ j : Nat, j < i.toNat → ¬ isAt l a b j
  sl := fun i => [(8, .int .i64 i)]
  hp := fun i => []
  keep := []
  me := fun i => (l.length - i).toNat
set_option maxRecDepth 100000 in
theorem vc34 (l : List Spt) (a b c : Int) (hx : l.length ≤ 9223372036854775807) : sIdxS.vc (EV Try.prog [(35, sEqS.spec)] (invsS [(2, inv34 l a b)]) noInv) Try.f34 (l, ⟨a, b, c⟩, ()) := by
  have e : ((∃ (x : Int), (0 ≤ x ∧ x ≤ (↑l.length : Int) ∧ ∀ (j : Nat), j < x.toNat → ¬isAt l a b j) ∧ 0 = x) ∧ ∀ (x : Int), (0 ≤ x ∧ x ≤ (↑l.length : Int) ∧ ∀ (j : Nat), j < x.toNat → ¬isAt l a b j) → (decide (x < (↑l.length : Int)) = true → (0 ≤ x ∧ x < (↑l.length : Int)) ∧ True ∧ ((decide ((spA l x.toNat).grp = a) && decide ((spA l x.toNat).node = b)) = true → ∃ (y : Unit), True ∧ x = atI l a b) ∧ ((decide ((spA l x.toNat).grp = a) && decide ((spA l x.toNat).node = b)) = false → i64R (x + 1) ∧ ∃ (x' : Int), (0 ≤ x' ∧ x' ≤ (↑l.length : Int) ∧ ∀ (j : Nat), j < x'.toNat → ¬isAt l a b j) ∧ ((↑l.length : Int) - x').toNat < ((↑l.length : Int) - x).toNat ∧ x + 1 = x')) ∧ (decide (x < (↑l.length : Int)) = false → ∃ (y : Unit), True ∧ (-1) = atI l a b)) = sIdxS.vc (EV Try.prog [(35, sEqS.spec)] (invsS [(2, inv34 l a b)]) noInv) Try.f34 (l, ⟨a, b, c⟩, ()) := by kernel_rfl
  rw [← e]
  clear e
  simp only [true_and, exists_const]
  simp only [i64R, Int.reduceNeg, decide_eq_true_eq, decide_eq_false_iff_not, Bool.and_eq_true, Bool.and_eq_false_iff]
  try simp only [NilL_eq]
  refine ⟨⟨0, ⟨by omega, by omega, fun j hj => by simp at hj⟩, rfl⟩, fun i hi => ⟨fun hlt => ⟨by omega, fun h => ?_, fun h => ⟨by omega, i + 1, ⟨by omega, by omega, fun j hj => ?_⟩, by omega, rfl⟩⟩, fun hge => (fstI_no fun j hj => hi.2.2 j (by omega)).symm⟩⟩
  · rw [atI, fstI_at (i := i.toNat) (by omega) h fun j hj => hi.2.2 j hj]; omega
  · by_cases e : j = i.toNat
    · subst e
      rintro ⟨h1, h2⟩
      rcases h with h | h
      · exact h h1
      · exact h h2
    · exact hi.2.2 j (by omega)


set_option maxRecDepth 100000 in
theorem vc42 (a b d e f : Int) (hx : True) : sEqC.vc (EV Try.prog [] noInv noInv) Try.f42 (⟨a, b⟩, ⟨d, e, f⟩, ()) := by
  have e : (∃ (y : Unit), True ∧ decide (a = d) = decide (a = d)) = sEqC.vc (EV Try.prog [] noInv noInv) Try.f42 (⟨a, b⟩, ⟨d, e, f⟩, ()) := by kernel_rfl
  rw [← e]
  clear e
  simp only [and_true, exists_const]
  try rfl

def inv41 (l : List Chg) (a : Int) (s : St) : Inv where
  X := Int
  ok := fun i => 0 ≤ i ∧ i ≤ l.length ∧ ∀ j : Nat, j < i.toNat → ¬ isGr l a j
  sl := fun i => [(8, .int .i64 i)]
  hp := fun i => []
  keep := []
  me := fun i => (l.length - i).toNat
set_option maxRecDepth 100000 in
theorem vc41 (l : List Chg) (a b c : Int) (hx : l.length ≤ 9223372036854775807) : sIdxC.vc (EV Try.prog [(42, sEqC.spec)] (invsS [(2, inv41 l a)]) noInv) Try.f41 (l, ⟨a, b, c⟩, ()) := by
  have e : ((∃ (x : Int), (0 ≤ x ∧ x ≤ (↑l.length : Int) ∧ ∀ (j : Nat), j < x.toNat → ¬isGr l a j) ∧ 0 = x) ∧ ∀ (x : Int), (0 ≤ x ∧ x ≤ (↑l.length : Int) ∧ ∀ (j : Nat), j < x.toNat → ¬isGr l a j) → (decide (x < (↑l.length : Int)) = true → (0 ≤ x ∧ x < (↑l.length : Int)) ∧ True ∧ (decide ((l.getD x.toNat { grp := 0, own := 0 : Chg }).grp = a) = true → ∃ (y : Unit), True ∧ x = grI l a) ∧ (decide ((l.getD x.toNat { grp := 0, own := 0 : Chg }).grp = a) = false → i64R (x + 1) ∧ ∃ (x' : Int), (0 ≤ x' ∧ x' ≤ (↑l.length : Int) ∧ ∀ (j : Nat), j < x'.toNat → ¬isGr l a j) ∧ ((↑l.length : Int) - x').toNat < ((↑l.length : Int) - x).toNat ∧ x + 1 = x')) ∧ (decide (x < (↑l.length : Int)) = false → ∃ (y : Unit), True ∧ (-1) = grI l a)) = sIdxC.vc (EV Try.prog [(42, sEqC.spec)] (invsS [(2, inv41 l a)]) noInv) Try.f41 (l, ⟨a, b, c⟩, ()) := by kernel_rfl
  rw [← e]
  clear e
  simp only [true_and, exists_const]
  simp only [i64R, Int.reduceNeg, decide_eq_true_eq, decide_eq_false_iff_not]
  try simp only [NilL_eq]
  refine ⟨⟨0, ⟨by omega, by omega, fun j hj => by simp at hj⟩, rfl⟩, fun i hi => ⟨fun hlt => ⟨by omega, fun h => ?_, fun h => ⟨by omega, i + 1, ⟨by omega, by omega, fun j hj => ?_⟩, by omega, rfl⟩⟩, fun hge => (fstI_no fun j hj => hi.2.2 j (by omega)).symm⟩⟩
  · rw [grI, fstI_at (i := i.toNat) (by omega) h fun j hj => hi.2.2 j hj]; omega
  · by_cases e : j = i.toNat
    · subst e
      exact h
    · exact hi.2.2 j (by omega)


set_option maxRecDepth 100000 in
theorem vc45 (a : Int) (hx : True) : sPosX.vc (EV Try.prog [] noInv noInv) Try.f45 (a, ()) := by
  have e : (∃ (y : Unit), True ∧ decide (0 < a) = decide (0 < a)) = sPosX.vc (EV Try.prog [] noInv noInv) Try.f45 (a, ()) := by kernel_rfl
  rw [← e]
  clear e
  simp only [and_true, exists_const]
  try rfl

def inv51p (l : List Int) (s : St) : Inv where
  X := Int
  ok := fun i => 0 ≤ i ∧ i ≤ l.length ∧ ∀ j : Nat, j < i.toNat → ¬ isPos l j
  sl := fun i => [(8, .int .i64 i)]
  hp := fun i => []
  keep := []
  me := fun i => (l.length - i).toNat
set_option maxRecDepth 100000 in
theorem vc51p (l : List Int) (hx : l.length ≤ 9223372036854775807) : sIdxP.vc (EV Try.prog [(45, sPosX.spec)] (invsS [(2, inv51p l)]) noInv) Try.f51 (l, (), ()) := by
  have e : ((∃ (x : Int), (0 ≤ x ∧ x ≤ (↑l.length : Int) ∧ ∀ (j : Nat), j < x.toNat → ¬isPos l j) ∧ 0 = x) ∧ ∀ (x : Int), (0 ≤ x ∧ x ≤ (↑l.length : Int) ∧ ∀ (j : Nat), j < x.toNat → ¬isPos l j) → (decide (x < (↑l.length : Int)) = true → (0 ≤ x ∧ x < (↑l.length : Int)) ∧ True ∧ (decide (0 < nth l x.toNat) = true → ∃ (y : Unit), True ∧ x = posI l) ∧ (decide (0 < nth l x.toNat) = false → i64R (x + 1) ∧ ∃ (x' : Int), (0 ≤ x' ∧ x' ≤ (↑l.length : Int) ∧ ∀ (j : Nat), j < x'.toNat → ¬isPos l j) ∧ ((↑l.length : Int) - x').toNat < ((↑l.length : Int) - x).toNat ∧ x + 1 = x')) ∧ (decide (x < (↑l.length : Int)) = false → ∃ (y : Unit), True ∧ (-1) = posI l)) = sIdxP.vc (EV Try.prog [(45, sPosX.spec)] (invsS [(2, inv51p l)]) noInv) Try.f51 (l, (), ()) := by kernel_rfl
  rw [← e]
  clear e
  simp only [true_and, exists_const]
  simp only [i64R, Int.reduceNeg, decide_eq_true_eq, decide_eq_false_iff_not]
  try simp only [NilL_eq]
  refine ⟨⟨0, ⟨by omega, by omega, fun j hj => by simp at hj⟩, rfl⟩, fun i hi => ⟨fun hlt => ⟨by omega, fun h => ?_, fun h => ⟨by omega, i + 1, ⟨by omega, by omega, fun j hj => ?_⟩, by omega, rfl⟩⟩, fun hge => (fstI_no fun j hj => hi.2.2 j (by omega)).symm⟩⟩
  · rw [posI, fstI_at (i := i.toNat) (by omega) h fun j hj => hi.2.2 j hj]; omega
  · by_cases e : j = i.toNat
    · subst e
      exact h
    · exact hi.2.2 j (by omega)


set_option maxRecDepth 100000 in
theorem vc44p (l : List Int) (hx : l.length ≤ 9223372036854775807) : sConP.vc (EV Try.prog [(51, sIdxP.spec)] noInv noInv) Try.f44 (l, (), ()) := by
  have e : (l.length ≤ (9223372036854775807 : Nat) ∧ ∃ (y : Unit), True ∧ decide (0 ≤ posI l) = decide (0 ≤ posI l)) = sConP.vc (EV Try.prog [(51, sIdxP.spec)] noInv noInv) Try.f44 (l, (), ()) := by kernel_rfl
  rw [← e]
  clear e
  simp only [and_true, exists_const]
  exact hx


set_option maxRecDepth 100000 in
theorem vc48 (a : Int) (S : List Int) (hx : S.length ≤ 9223372036854775807) : sOutX.vc (EV Try.prog [(43, sHasI.spec)] noInv noInv) Try.f48 (a, S, ()) := by
  have e : (S.length ≤ (9223372036854775807 : Nat) ∧ ∃ (y : Unit), True ∧ (!memB S a) = !memB S a) = sOutX.vc (EV Try.prog [(43, sHasI.spec)] noInv noInv) Try.f48 (a, S, ()) := by kernel_rfl
  rw [← e]
  clear e
  simp only [and_true, exists_const]
  exact hx

def inv51o (l S : List Int) (s : St) : Inv where
  X := Int
  ok := fun i => 0 ≤ i ∧ i ≤ l.length ∧ ∀ j : Nat, j < i.toNat → ¬ isOut S l j
  sl := fun i => [(8, .int .i64 i)]
  hp := fun i => []
  keep := []
  me := fun i => (l.length - i).toNat
set_option maxRecDepth 100000 in
theorem vc51o (l S : List Int) (hx : l.length ≤ 9223372036854775807 ∧ S.length ≤ 9223372036854775807) : sIdxO.vc (EV Try.prog [(48, sOutX.spec)] (invsS [(2, inv51o l S)]) noInv) Try.f51 (l, S, ()) := by
  have e : ((∃ (x : Int), (0 ≤ x ∧ x ≤ (↑l.length : Int) ∧ ∀ (j : Nat), j < x.toNat → ¬isOut S l j) ∧ 0 = x) ∧ ∀ (x : Int), (0 ≤ x ∧ x ≤ (↑l.length : Int) ∧ ∀ (j : Nat), j < x.toNat → ¬isOut S l j) → (decide (x < (↑l.length : Int)) = true → (0 ≤ x ∧ x < (↑l.length : Int)) ∧ S.length ≤ (9223372036854775807 : Nat) ∧ ((!memB S (nth l x.toNat)) = true → ∃ (y : Unit), True ∧ x = outI S l) ∧ ((!memB S (nth l x.toNat)) = false → i64R (x + 1) ∧ ∃ (x' : Int), (0 ≤ x' ∧ x' ≤ (↑l.length : Int) ∧ ∀ (j : Nat), j < x'.toNat → ¬isOut S l j) ∧ ((↑l.length : Int) - x').toNat < ((↑l.length : Int) - x).toNat ∧ x + 1 = x')) ∧ (decide (x < (↑l.length : Int)) = false → ∃ (y : Unit), True ∧ (-1) = outI S l)) = sIdxO.vc (EV Try.prog [(48, sOutX.spec)] (invsS [(2, inv51o l S)]) noInv) Try.f51 (l, S, ()) := by kernel_rfl
  rw [← e]
  clear e
  simp only [true_and, exists_const]
  simp only [i64R, Int.reduceNeg, decide_eq_true_eq, decide_eq_false_iff_not, Bool.not_eq_true', Bool.not_eq_false']
  try simp only [NilL_eq]
  refine ⟨⟨0, ⟨by omega, by omega, fun j hj => by simp at hj⟩, rfl⟩, fun i hi => ⟨fun hlt => ⟨by omega, by omega, fun h => ?_, fun h => ⟨by omega, i + 1, ⟨by omega, by omega, fun j hj => ?_⟩, by omega, rfl⟩⟩, fun hge => (fstI_no fun j hj => hi.2.2 j (by omega)).symm⟩⟩
  · rw [outI, fstI_at (i := i.toNat) (by omega) (fun hm => by rw [memB_iff.2 hm] at h; cases h) fun j hj => hi.2.2 j hj]; omega
  · by_cases e : j = i.toNat
    · subst e
      exact fun hn => hn (memB_iff.1 h)
    · exact hi.2.2 j (by omega)


set_option maxRecDepth 100000 in
theorem vc44o (l S : List Int) (hx : l.length ≤ 9223372036854775807 ∧ S.length ≤ 9223372036854775807) : sConO.vc (EV Try.prog [(51, sIdxO.spec)] noInv noInv) Try.f44 (l, S, ()) := by
  have e : ((l.length ≤ (9223372036854775807 : Nat) ∧ S.length ≤ (9223372036854775807 : Nat)) ∧ ∃ (y : Unit), True ∧ decide (0 ≤ outI S l) = decide (0 ≤ outI S l)) = sConO.vc (EV Try.prog [(51, sIdxO.spec)] noInv noInv) Try.f44 (l, S, ()) := by kernel_rfl
  rw [← e]
  clear e
  simp only [and_true, exists_const]
  exact hx

noncomputable def inv15 (l m : List Spt) (s : St) : Inv where
  X := Int
  ok := fun i => 0 ≤ i ∧ i ≤ m.length
  sl := fun i => [(11, .int .i64 i), (5, .int .i64 (mvN l m i.toNat))]
  hp := fun i => []
  keep := []
  me := fun i => (m.length - i).toNat
set_option maxRecDepth 100000 in
theorem vc15 (l m : List Spt) (hx : SB l ∧ SB m) : sMoves.vc (EV Try.prog [(34, sIdxS.spec)] (invsS [(3, inv15 l m)]) noInv) Try.f15 (l, m, ()) := by
  have e : ((∃ (x : Int), (0 ≤ x ∧ x ≤ (↑m.length : Int)) ∧ 0 = x ∧ 0 = mvN l m x.toNat) ∧ ∀ (x : Int), 0 ≤ x ∧ x ≤ (↑m.length : Int) → (decide (x < (↑m.length : Int)) = true → (0 ≤ x ∧ x < (↑m.length : Int)) ∧ l.length ≤ (9223372036854775807 : Nat) ∧ (decide (atI l (spA m x.toNat).grp (spA m x.toNat).node < 0) = true → i64R (mvN l m x.toNat + Max.max 0 (spA m x.toNat).pages) ∧ i64R (x + 1) ∧ ∃ (x' : Int), (0 ≤ x' ∧ x' ≤ (↑m.length : Int)) ∧ ((↑m.length : Int) - x').toNat < ((↑m.length : Int) - x).toNat ∧ x + 1 = x' ∧ mvN l m x.toNat + Max.max 0 (spA m x.toNat).pages = mvN l m x'.toNat) ∧ (decide (atI l (spA m x.toNat).grp (spA m x.toNat).node < 0) = false → (0 ≤ atI l (spA m x.toNat).grp (spA m x.toNat).node ∧ atI l (spA m x.toNat).grp (spA m x.toNat).node < (↑l.length : Int)) ∧ i64R ((spA m x.toNat).pages - (spA l (atI l (spA m x.toNat).grp (spA m x.toNat).node).toNat).pages) ∧ i64R (mvN l m x.toNat + Max.max 0 ((spA m x.toNat).pages - (spA l (atI l (spA m x.toNat).grp (spA m x.toNat).node).toNat).pages)) ∧ i64R (x + 1) ∧ ∃ (x' : Int), (0 ≤ x' ∧ x' ≤ (↑m.length : Int)) ∧ ((↑m.length : Int) - x').toNat < ((↑m.length : Int) - x).toNat ∧ x + 1 = x' ∧ mvN l m x.toNat + Max.max 0 ((spA m x.toNat).pages - (spA l (atI l (spA m x.toNat).grp (spA m x.toNat).node).toNat).pages) = mvN l m x'.toNat)) ∧ (decide (x < (↑m.length : Int)) = false → ∃ (y : Unit), True ∧ mvN l m x.toNat = moves l m)) = sMoves.vc (EV Try.prog [(34, sIdxS.spec)] (invsS [(3, inv15 l m)]) noInv) Try.f15 (l, m, ()) := by kernel_rfl
  rw [← e]
  clear e
  simp only [true_and, exists_const]
  simp only [i64R, Int.reduceNeg, decide_eq_true_eq, decide_eq_false_iff_not]
  obtain ⟨hsl, hsm⟩ := hx
  have hl := hsl.len
  have hm := hsm.len
  have st : ∀ i : Int, 0 ≤ i → mvN l m (i + 1).toNat = mvN l m i.toNat + max 0 ((spA m i.toNat).pages - oldP l (spA m i.toNat).grp (spA m i.toNat).node) := fun i h0 => by
    have e : (i + 1).toNat = i.toNat + 1 := by omega
    rw [e]; rfl
  have fin : ∀ i : Int, i = m.length → mvN l m i.toNat = moves l m := fun i h => by rw [h]; rfl
  refine ⟨⟨0, by omega, rfl, rfl⟩, fun i hi => ⟨fun hlt => ?_, fun hge => fin i (by omega)⟩⟩
  have h1 := mvN_bnd hsl hsm (k := i.toNat) (by omega)
  have h2 := hsm.pg i.toNat
  have h3 := st i (by omega)
  have h4 := oldP_bnd hsl (spA m i.toNat).grp (spA m i.toNat).node
  have h5 : ∀ _ : Nat, ((atI l (spA m i.toNat).grp (spA m i.toNat).node = -1) ∨ ∃ k : Nat, (atI l (spA m i.toNat).grp (spA m i.toNat).node = k) ∧ k < l.length) := fun _ => by
    rcases fstI_cases (isAt l (spA m i.toNat).grp (spA m i.toNat).node) l.length with h | ⟨k, h, h', _⟩
    · exact .inl h.1
    · exact .inr ⟨k, h, h'⟩
  refine ⟨by omega, by omega, fun h => ?_, fun h => ?_⟩
  · rw [oldP, if_pos h, Int.sub_zero] at h3
    exact ⟨by omega, by omega, i + 1, by omega, by omega, rfl, h3.symm⟩
  · rw [oldP, if_neg h] at h3 h4
    refine ⟨?_, by omega, by omega, by omega, i + 1, by omega, by omega, rfl, h3.symm⟩
    rcases h5 0 with h6 | ⟨k, h6, h7⟩ <;> omega

noncomputable def inv27a (l m : List Spt) (s : St) : Inv where
  X := Int
  ok := fun i => 0 ≤ i ∧ i ≤ m.length
  sl := fun i => [(6, .int .i64 i), (5, .int .i64 (mvN l m i.toNat))]
  hp := fun i => []
  keep := []
  me := fun i => (m.length - i).toNat
def oldI (l : List Spt) (g n k o : Int) : Prop := (o = 0 ∧ ∀ j : Nat, k < j → j < l.length → ¬ isAt l g n j) ∨ ∃ i : Nat, k < i ∧ i < l.length ∧ isAt l g n i ∧ o = (spA l i).pages ∧ ∀ j : Nat, k < j → j < i → ¬ isAt l g n j
def inv27b (l m : List Spt) (s : St) : Inv where
  X := Int × Int
  ok := fun x => (-1 ≤ x.1 ∧ x.1 < l.length) ∧ oldI l (spA m (slotI s 6).toNat).grp (spA m (slotI s 6).toNat).node x.1 x.2
  sl := fun x => [(8, .int .i64 x.1), (7, .int .i64 x.2)]
  hp := fun i => []
  keep := []
  me := fun x => (x.1 + 1).toNat
set_option maxRecDepth 100000 in
theorem vc27 (l m : List Spt) (hx : SB l ∧ SB m) : sMoves.vc (EV Try.prog [] (invsS [(3, inv27a l m), (7, inv27b l m)]) noInv) Try.f27 (l, m, ()) := by
  have e : ((∃ (x : Int), (0 ≤ x ∧ x ≤ (↑m.length : Int)) ∧ 0 = x ∧ 0 = mvN l m x.toNat) ∧ ∀ (x : Int), 0 ≤ x ∧ x ≤ (↑m.length : Int) → (decide (x < (↑m.length : Int)) = true → i64R ((↑l.length : Int) - 1) ∧ (∃ (x_1 : Int × Int), (((-1) ≤ x_1.1 ∧ x_1.1 < (↑l.length : Int)) ∧ oldI l (spA m x.toNat).grp (spA m x.toNat).node x_1.1 x_1.2) ∧ (↑l.length : Int) - 1 = x_1.1 ∧ 0 = x_1.2) ∧ ∀ (x_1 : Int × Int), ((-1) ≤ x_1.1 ∧ x_1.1 < (↑l.length : Int)) ∧ oldI l (spA m x.toNat).grp (spA m x.toNat).node x_1.1 x_1.2 → (decide (0 ≤ x_1.1) = true → (0 ≤ x_1.1 ∧ x_1.1 < (↑l.length : Int)) ∧ (0 ≤ x ∧ x < (↑m.length : Int)) ∧ (decide ((spA l x_1.1.toNat).grp = (spA m x.toNat).grp) = true → decide ((spA l x_1.1.toNat).grp = (spA m x.toNat).grp) = true) ∧ (decide ((spA l x_1.1.toNat).grp = (spA m x.toNat).grp) = true → decide ((spA l x_1.1.toNat).grp = (spA m x.toNat).grp) = true) ∧ (decide ((spA l x_1.1.toNat).grp = (spA m x.toNat).grp) = true → 0 ≤ x_1.1 ∧ x_1.1 < (↑l.length : Int)) ∧ (decide ((spA l x_1.1.toNat).grp = (spA m x.toNat).grp) = true → decide ((spA l x_1.1.toNat).grp = (spA m x.toNat).grp) = true) ∧ (decide ((spA l x_1.1.toNat).grp = (spA m x.toNat).grp) = true → decide ((spA l x_1.1.toNat).grp = (spA m x.toNat).grp) = true) ∧ (decide ((spA l x_1.1.toNat).grp = (spA m x.toNat).grp) = true → decide ((spA l x_1.1.toNat).grp = (spA m x.toNat).grp) = true) ∧ (decide ((spA l x_1.1.toNat).grp = (spA m x.toNat).grp) = true → decide ((spA l x_1.1.toNat).grp = (spA m x.toNat).grp) = true) ∧ (decide ((spA l x_1.1.toNat).grp = (spA m x.toNat).grp) = true → 0 ≤ x ∧ x < (↑m.length : Int)) ∧ (decide ((spA l x_1.1.toNat).grp = (spA m x.toNat).grp) = true → decide ((spA l x_1.1.toNat).grp = (spA m x.toNat).grp) = true) ∧ (decide ((spA l x_1.1.toNat).grp = (spA m x.toNat).grp) = true → decide ((spA l x_1.1.toNat).grp = (spA m x.toNat).grp) = true) ∧ (decide ((spA l x_1.1.toNat).grp = (spA m x.toNat).grp) = true → decide ((spA l x_1.1.toNat).grp = (spA m x.toNat).grp) = true) ∧ (decide ((spA l x_1.1.toNat).grp = (spA m x.toNat).grp) = true → decide ((spA l x_1.1.toNat).grp = (spA m x.toNat).grp) = true) ∧ (decide ((spA l x_1.1.toNat).grp = (spA m x.toNat).grp) = true → decide ((spA l x_1.1.toNat).grp = (spA m x.toNat).grp) = true) ∧ ((decide ((spA l x_1.1.toNat).grp = (spA m x.toNat).grp) && decide ((spA l x_1.1.toNat).node = (spA m x.toNat).node)) = true → (0 ≤ x_1.1 ∧ x_1.1 < (↑l.length : Int)) ∧ i64R (x_1.1 - 1) ∧ ∃ (x' : Int × Int), (((-1) ≤ x'.1 ∧ x'.1 < (↑l.length : Int)) ∧ oldI l (spA m x.toNat).grp (spA m x.toNat).node x'.1 x'.2) ∧ (x'.1 + 1).toNat < (x_1.1 + 1).toNat ∧ x_1.1 - 1 = x'.1 ∧ (spA l x_1.1.toNat).pages = x'.2) ∧ ((decide ((spA l x_1.1.toNat).grp = (spA m x.toNat).grp) && decide ((spA l x_1.1.toNat).node = (spA m x.toNat).node)) = false → i64R (x_1.1 - 1) ∧ ∃ (x' : Int × Int), (((-1) ≤ x'.1 ∧ x'.1 < (↑l.length : Int)) ∧ oldI l (spA m x.toNat).grp (spA m x.toNat).node x'.1 x'.2) ∧ (x'.1 + 1).toNat < (x_1.1 + 1).toNat ∧ x_1.1 - 1 = x'.1 ∧ x_1.2 = x'.2)) ∧ (decide (0 ≤ x_1.1) = false → (0 ≤ x ∧ x < (↑m.length : Int)) ∧ i64R ((spA m x.toNat).pages - x_1.2) ∧ i64R (mvN l m x.toNat + Max.max 0 ((spA m x.toNat).pages - x_1.2)) ∧ i64R (x + 1) ∧ ∃ (x' : Int), (0 ≤ x' ∧ x' ≤ (↑m.length : Int)) ∧ ((↑m.length : Int) - x').toNat < ((↑m.length : Int) - x).toNat ∧ x + 1 = x' ∧ mvN l m x.toNat + Max.max 0 ((spA m x.toNat).pages - x_1.2) = mvN l m x'.toNat)) ∧ (decide (x < (↑m.length : Int)) = false → ∃ (y : Unit), True ∧ mvN l m x.toNat = moves l m)) = sMoves.vc (EV Try.prog [] (invsS [(3, inv27a l m), (7, inv27b l m)]) noInv) Try.f27 (l, m, ()) := by kernel_rfl
  rw [← e]
  clear e
  simp only [imp_self, true_and, exists_const]
  simp only [Prod.forall, Prod.exists, i64R, Int.reduceNeg, decide_eq_true_eq, decide_eq_false_iff_not, Bool.and_eq_true, Bool.and_eq_false_iff]
  obtain ⟨hsl, hsm⟩ := hx
  have hl := hsl.len
  have hm := hsm.len
  have st : ∀ i : Int, 0 ≤ i → mvN l m (i + 1).toNat = mvN l m i.toNat + max 0 ((spA m i.toNat).pages - oldP l (spA m i.toNat).grp (spA m i.toNat).node) := fun i h0 => by
    have e : (i + 1).toNat = i.toNat + 1 := by omega
    rw [e]; rfl
  have fin : ∀ i : Int, i = m.length → mvN l m i.toNat = moves l m := fun i h => by rw [h]; rfl
  refine ⟨⟨0, by omega, rfl, rfl⟩, fun i hi => ⟨fun hlt => ?_, fun hge => fin i (by omega)⟩⟩
  have h1 := mvN_bnd hsl hsm (k := i.toNat) (by omega)
  have h2 := hsm.pg i.toNat
  have h3 := st i (by omega)
  have h4 := oldP_bnd hsl (spA m i.toNat).grp (spA m i.toNat).node
  refine ⟨by omega, ⟨(l.length : Int) - 1, 0, ⟨by omega, .inl ⟨rfl, fun j h1 h2 => by omega⟩⟩, rfl, rfl⟩, fun a b hab => ⟨fun ha => ⟨by omega, by omega, fun _ => by omega, fun _ => by omega, fun h => ⟨by omega, by omega, a - 1, (spA l a.toNat).pages, ⟨by omega, .inr ⟨a.toNat, by omega, by omega, h, rfl, fun j h1 h2 => by omega⟩⟩, by omega, rfl, rfl⟩, fun h => ⟨by omega, a - 1, b, ⟨by omega, ?_⟩, by omega, rfl, rfl⟩⟩, fun ha => ?_⟩⟩
  · have hn : ¬ isAt l (spA m i.toNat).grp (spA m i.toNat).node a.toNat := by
      rintro ⟨e1, e2⟩
      rcases h with h | h
      · exact h e1
      · exact h e2
    rcases hab.2 with ⟨e1, e2⟩ | ⟨k, e1, e2, e3, e4, e5⟩
    · refine .inl ⟨e1, fun j hj hj2 => ?_⟩
      by_cases e : j = a.toNat
      · rw [e]; exact hn
      · exact e2 j (by omega) hj2
    · refine .inr ⟨k, by omega, e2, e3, e4, fun j hj hj2 => ?_⟩
      by_cases e : j = a.toNat
      · rw [e]; exact hn
      · exact e5 j (by omega) hj2
  · have hb : b = oldP l (spA m i.toNat).grp (spA m i.toNat).node := by
      rcases hab.2 with ⟨e1, e2⟩ | ⟨k, e1, e2, e3, e4, e5⟩
      · rw [oldP, atI, fstI_no fun j hj => e2 j (by omega) hj, if_pos (by omega), e1]
      · rw [oldP, atI, fstI_at e2 e3 fun j hj => e5 j (by omega) hj, if_neg (by omega), e4, Int.toNat_natCast]
    rw [hb]
    exact ⟨by omega, by omega, by omega, by omega, i + 1, by omega, by omega, rfl, h3.symm⟩
end Go.Proofs.Ytompifpamldjaaa

namespace Go.Proofs.Ytompifpamldjaaa
open Go
set_option linter.unusedVariables false

/-- Demands that dice make: n of them. -/
structure Dem (C : List Chg) (A : List NSet) (n c : Int) : Prop where
  lc : (C.length : Int) = n
  la : A.length = C.length
  chg : ∀ i, i < C.length → chgO C A c i
  own : ∀ i, i < C.length → ownAt C i ≤ 40
  gl : ∀ i, i < C.length → grpAt C i ≤ 2 * ((i : Int) + 1)
structure CapO (c : List Int) (n : Int) : Prop where
  lc : (c.length : Int) = n
  v : ∀ x ∈ c, 0 ≤ x ∧ x ≤ 100
/-- What Demands makes. -/
structure MadeD (y : List Chg × List NSet × List Int) : Prop where
  vok : VOK y.1 y.2.1 y.2.2
  own : ∀ i, i < y.1.length → ownAt y.1 i ≤ 40
  c6 : y.1.length ≤ 6
  k5 : y.2.2.length ≤ 5
  cap : ∀ x ∈ y.2.2, 0 ≤ x ∧ x ≤ 100
  gl : ∀ i, i < y.1.length → grpAt y.1 i ≤ 12
theorem Dem.nil (c : Int) : Dem [] [] 0 c := ⟨rfl, rfl, fun i hi => by simp at hi, fun i hi => by simp at hi, fun i hi => by simp at hi⟩
theorem getD_app1 {α : Type} {l l' : List α} {d : α} {i : Nat} (h : i < l.length) : (l ++ l').getD i d = l.getD i d := by
  rw [List.getD_eq_getElem?_getD, List.getElem?_append_left h, ← List.getD_eq_getElem?_getD]
theorem getD_app2 {α : Type} {l : List α} {x d : α} : (l ++ [x]).getD l.length d = x := by
  rw [List.getD_eq_getElem?_getD, List.getElem?_append_right (Nat.le_refl _)]; simp
theorem Dem.snoc {C : List Chg} {A : List NSet} {n c : Int} (h : Dem C A n c) {g o : Int} {s : List Int} (hg : 1 ≤ g) (hg2 : ∀ i, i < C.length → grpAt C i < g) (hg3 : g ≤ 2 * (n + 1)) (ho : 1 ≤ o) (ho2 : o ≤ 40) (hs : s ≠ []) (ha : Asc s c) : Dem (C ++ [⟨g, o⟩]) (A ++ [⟨g, s⟩]) (n + 1) c := by
  have hl := h.la
  have g1 : ∀ i, i < C.length → grpAt (C ++ [⟨g, o⟩]) i = grpAt C i := fun i hi => by unfold grpAt; rw [getD_app1 hi]
  have o1 : ∀ i, i < C.length → ownAt (C ++ [⟨g, o⟩]) i = ownAt C i := fun i hi => by unfold ownAt; rw [getD_app1 hi]
  have s1 : ∀ i, i < C.length → setAt (A ++ [⟨g, s⟩]) i = setAt A i := fun i hi => by unfold setAt; rw [getD_app1 (by omega)]
  have n1 : ∀ i, i < C.length → nodesAt (A ++ [⟨g, s⟩]) i = nodesAt A i := fun i hi => by unfold nodesAt; rw [getD_app1 (by omega)]
  have g2 : grpAt (C ++ [⟨g, o⟩]) C.length = g := by unfold grpAt; rw [getD_app2 (α := Chg)]
  have o2 : ownAt (C ++ [⟨g, o⟩]) C.length = o := by unfold ownAt; rw [getD_app2 (α := Chg)]
  have s2 : setAt (A ++ [⟨g, s⟩]) C.length = g := by unfold setAt; rw [← hl, getD_app2 (α := NSet)]
  have n2 : nodesAt (A ++ [⟨g, s⟩]) C.length = s := by unfold nodesAt; rw [← hl, getD_app2 (α := NSet)]
  have lc := h.lc
  refine ⟨by simp; omega, by simp; omega, fun i hi => ?_, fun i hi => ?_, fun i hi => ?_⟩
  all_goals (rw [List.length_append, List.length_singleton] at hi; by_cases e : i < C.length)
  · obtain ⟨a1, a2, a3, a4, a5, a6, a7⟩ := h.chg i e
    unfold chgO
    rw [g1 i e, o1 i e, s1 i e, n1 i e]
    refine ⟨a1, fun h0 => ?_, a3, a4, a5, a6, a7⟩
    rw [g1 _ (by omega)]; exact a2 h0
  · have e2 : i = C.length := by omega
    subst e2
    unfold chgO
    rw [g2, o2, s2, n2]
    refine ⟨hg, fun h0 => ?_, ho, by omega, rfl, hs, ha⟩
    rw [g1 _ (by omega)]; exact hg2 _ (by omega)
  · rw [o1 i e]; exact h.own i e
  · have e2 : i = C.length := by omega
    subst e2
    rw [o2]; exact ho2
  · rw [g1 i e]; exact h.gl i e
  · have e2 : i = C.length := by omega
    subst e2
    rw [g2]; omega
theorem CapO.snoc {c : List Int} {n x : Int} (h : CapO c n) (hx : x ∈ [0, 5, 9, 20, 100]) : CapO (c ++ [x]) (n + 1) := by
  refine ⟨by simp; have := h.lc; omega, fun y hy => ?_⟩
  rw [List.mem_append, List.mem_singleton] at hy
  rcases hy with hy | hy
  · exact h.v y hy
  · subst hy; simp at hx; omega
theorem Dem.vok {C : List Chg} {A : List NSet} {n : Int} {c : List Int} {m : Int} (h : Dem C A n c.length) (hc : CapO c m) (hn : n ≤ 6) (h1 : 1 ≤ m) (h5 : m ≤ 5) : MadeD (C, A, c) := by
  have lc := h.lc
  have l2 := hc.lc
  refine ⟨⟨by show 1 ≤ c.length; omega, by show c.length ≤ 8; omega, by show C.length ≤ 64; omega, h.la, fun j hj => ?_, h.chg⟩, h.own, by show C.length ≤ 6; omega, by show c.length ≤ 5; omega, hc.v, fun i hi => ?_⟩
  · have := hc.v _ (nth_mem hj)
    show 0 ≤ nth c j ∧ nth c j ≤ 16777216
    omega
  · have := h.gl i hi
    have hi : i < C.length := hi
    show grpAt C i ≤ 12
    omega
theorem MadeD.ex : MadeD ([], [], [0]) := by
  refine ⟨⟨by decide, by decide, by decide, rfl, fun j hj => ?_, fun i hi => by simp at hi⟩, fun i hi => by simp at hi, by decide, by decide, fun x hx => ?_, fun i hi => by simp at hi⟩
  · have : j = 0 := by simp at hj; exact hj
    subst this; decide
  · simp at hx; omega
def sDem : FSp := ⟨_, Sig.dice Sig.nil (fun _ => rfl), fun x => DOK x.1, (List Chg × List NSet × List Int) × Int, fun x y => MadeD y.1 ∧ x.1.2 ≤ y.2 ∧ y.2 ≤ x.1.1.length, fun _ _ => .tup [.own 101 3, .own 103 4, .own 105 0], fun x y => [(0, diceO (x.1.1, y.2)), (101, .rows 41 3 y.1.1), (103, .rows 43 4 y.1.2.1), (105, .rows 3 0 y.1.2.2)], fun x h => ⟨(([], [], [0]), x.1.2), MadeD.ex, Int.le_refl _, h.hi⟩⟩

def inv12a (L : List Int) (k : Int) (s : St) : Inv where
  X := (Int × List Int) × Int
  ok := fun x => (0 ≤ x.1.1 ∧ x.1.1 ≤ slotI s 6 ∧ CapO x.1.2 (slotI s 6 - x.1.1)) ∧ DOK (L, x.2) ∧ k ≤ x.2
  sl := fun x => [(6, .int .i64 x.1.1), (5, .own 101 0)]
  hp := fun x => [(0, diceO (L, x.2)), (101, .rows 3 0 x.1.2)]
  keep := []
  me := fun x => x.1.1.toNat
def inv12b (L : List Int) (k : Int) (s : St) : Inv where
  X := (Int × Int × List Chg × List NSet) × Int
  ok := fun x => ((0 ≤ x.1.1 ∧ x.1.1 ≤ slotI s 10) ∧ (0 ≤ x.1.2.1 ∧ x.1.2.1 ≤ 2 * (slotI s 10 - x.1.1) ∧ ∀ i, i < x.1.2.2.1.length → grpAt x.1.2.2.1 i ≤ x.1.2.1) ∧ Dem x.1.2.2.1 x.1.2.2.2 (slotI s 10 - x.1.1) (contI s (s.t 5)).length) ∧ DOK (L, x.2) ∧ k ≤ x.2
  sl := fun x => [(10, .int .i64 x.1.1), (9, .int .i64 x.1.2.1), (7, .own 101 3), (8, .own 103 4), (5, .own 105 0)]
  hp := fun x => [(0, diceO (L, x.2)), (101, .rows 41 3 x.1.2.2.1), (103, .rows 43 4 x.1.2.2.2), (105, .rows 3 0 (contI s (s.t 5)))]
  keep := []
  me := fun x => x.1.1.toNat
set_option maxRecDepth 100000 in
theorem vc12 (L : List Int) (k : Int) (hx : DOK (L, k)) : sDem.vc (EV Try.prog [(14, sNext.spec), (19, sPick.spec), (22, sSetD.spec)] (invsS [(3, inv12a L k), (10, inv12b L k)]) noInv) Try.f12 ((L, k), ()) := by
  have e : ((DOK (L, k) ∧ (5 : Int) ≤ 4611686018427387904) ∧ (∀ (y : Int × Int), true = true) ∧ ∀ (y : Int × Int), ((1 : Int) ≤ 5 → 0 ≤ y.1 ∧ y.1 < 5) ∧ ((5 : Int) < 1 → y.1 = 0) ∧ k ≤ y.2 ∧ y.2 ≤ (↑L.length : Int) → i64R (1 + y.1) ∧ (∃ (x : (Int × List Int) × Int), ((0 ≤ x.1.1 ∧ x.1.1 ≤ 1 + y.1 ∧ CapO x.1.2 (1 + y.1 - x.1.1)) ∧ DOK (L, x.2) ∧ k ≤ x.2) ∧ 1 + y.1 = x.1.1 ∧ L = L ∧ y.2 = x.2 ∧ NilL Int = x.1.2) ∧ ∀ (x : (Int × List Int) × Int), (0 ≤ x.1.1 ∧ x.1.1 ≤ 1 + y.1 ∧ CapO x.1.2 (1 + y.1 - x.1.1)) ∧ DOK (L, x.2) ∧ k ≤ x.2 → (decide (0 < x.1.1) = true → (DOK (L, x.2) ∧ (1 : Nat) ≤ (0 :: 5 :: 9 :: 20 :: 100 :: NilL Int).length ∧ (0 :: 5 :: 9 :: 20 :: 100 :: NilL Int).length ≤ (1000 : Nat)) ∧ (∀ (y : Int × Int), true = true) ∧ ∀ (y_1 : Int × Int), y_1.1 ∈ 0 :: 5 :: 9 :: 20 :: 100 :: NilL Int ∧ x.2 ≤ y_1.2 ∧ y_1.2 ≤ (↑L.length : Int) → x.1.2.length + (y_1.1 :: NilL Int).length ≤ (68719476736 : Nat) ∧ i64R (x.1.1 - 1) ∧ ∃ (x' : (Int × List Int) × Int), ((0 ≤ x'.1.1 ∧ x'.1.1 ≤ 1 + y.1 ∧ CapO x'.1.2 (1 + y.1 - x'.1.1)) ∧ DOK (L, x'.2) ∧ k ≤ x'.2) ∧ x'.1.1.toNat < x.1.1.toNat ∧ x.1.1 - 1 = x'.1.1 ∧ L = L ∧ y_1.2 = x'.2 ∧ x.1.2 ++ y_1.1 :: NilL Int = x'.1.2) ∧ (decide (0 < x.1.1) = false → (DOK (L, x.2) ∧ (7 : Int) ≤ 4611686018427387904) ∧ (∀ (y : Int × Int), true = true) ∧ ∀ (y : Int × Int), ((1 : Int) ≤ 7 → 0 ≤ y.1 ∧ y.1 < 7) ∧ ((7 : Int) < 1 → y.1 = 0) ∧ x.2 ≤ y.2 ∧ y.2 ≤ (↑L.length : Int) → (∃ (x_1 : (Int × Int × List Chg × List NSet) × Int), (((0 ≤ x_1.1.1 ∧ x_1.1.1 ≤ y.1) ∧ (0 ≤ x_1.1.2.1 ∧ x_1.1.2.1 ≤ 2 * (y.1 - x_1.1.1) ∧ ∀ (i : Nat), i < x_1.1.2.2.1.length → (x_1.1.2.2.1.getD i { grp := 0, own := 0 : Chg }).grp ≤ x_1.1.2.1) ∧ Dem x_1.1.2.2.1 x_1.1.2.2.2 (y.1 - x_1.1.1) (↑x.1.2.length : Int)) ∧ DOK (L, x_1.2) ∧ k ≤ x_1.2) ∧ y.1 = x_1.1.1 ∧ 0 = x_1.1.2.1 ∧ L = L ∧ y.2 = x_1.2 ∧ NilL Chg = x_1.1.2.2.1 ∧ NilL NSet = x_1.1.2.2.2 ∧ x.1.2 = x.1.2) ∧ ∀ (x_1 : (Int × Int × List Chg × List NSet) × Int), ((0 ≤ x_1.1.1 ∧ x_1.1.1 ≤ y.1) ∧ (0 ≤ x_1.1.2.1 ∧ x_1.1.2.1 ≤ 2 * (y.1 - x_1.1.1) ∧ ∀ (i : Nat), i < x_1.1.2.2.1.length → (x_1.1.2.2.1.getD i { grp := 0, own := 0 : Chg }).grp ≤ x_1.1.2.1) ∧ Dem x_1.1.2.2.1 x_1.1.2.2.2 (y.1 - x_1.1.1) (↑x.1.2.length : Int)) ∧ DOK (L, x_1.2) ∧ k ≤ x_1.2 → (decide (0 < x_1.1.1) = true → (DOK (L, x_1.2) ∧ (2 : Int) ≤ 4611686018427387904) ∧ (∀ (y : Int × Int), true = true) ∧ ∀ (y_1 : Int × Int), ((1 : Int) ≤ 2 → 0 ≤ y_1.1 ∧ y_1.1 < 2) ∧ ((2 : Int) < 1 → y_1.1 = 0) ∧ x_1.2 ≤ y_1.2 ∧ y_1.2 ≤ (↑L.length : Int) → i64R (1 + y_1.1) ∧ i64R (x_1.1.2.1 + (1 + y_1.1)) ∧ (DOK (L, y_1.2) ∧ 0 ≤ (↑x.1.2.length : Int) ∧ (↑x.1.2.length : Int) ≤ 64) ∧ (∀ (y : List Int × Int), true = true) ∧ ∀ (y_2 : List Int × Int), (Asc y_2.1 (↑x.1.2.length : Int) ∧ (↑y_2.1.length : Int) ≤ (↑x.1.2.length : Int)) ∧ y_1.2 ≤ y_2.2 ∧ y_2.2 ≤ (↑L.length : Int) → (decide ((↑y_2.1.length : Int) = 0) = true → (DOK (L, y_2.2) ∧ (↑x.1.2.length : Int) ≤ 4611686018427387904) ∧ (∀ (y : Int × Int), true = true) ∧ ∀ (y_3 : Int × Int), (1 ≤ (↑x.1.2.length : Int) → 0 ≤ y_3.1 ∧ y_3.1 < (↑x.1.2.length : Int)) ∧ ((↑x.1.2.length : Int) < 1 → y_3.1 = 0) ∧ y_2.2 ≤ y_3.2 ∧ y_3.2 ≤ (↑L.length : Int) → (DOK (L, y_3.2) ∧ (1 : Nat) ≤ (1 :: 3 :: 8 :: 15 :: 40 :: NilL Int).length ∧ (1 :: 3 :: 8 :: 15 :: 40 :: NilL Int).length ≤ (1000 : Nat)) ∧ (∀ (y : Int × Int), true = true) ∧ ∀ (y_4 : Int × Int), y_4.1 ∈ 1 :: 3 :: 8 :: 15 :: 40 :: NilL Int ∧ y_3.2 ≤ y_4.2 ∧ y_4.2 ≤ (↑L.length : Int) → x_1.1.2.2.1.length + ({ grp := x_1.1.2.1 + (1 + y_1.1), own := y_4.1 : Chg } :: NilL Chg).length ≤ (68719476736 : Nat) ∧ x_1.1.2.2.2.length + ({ grp := x_1.1.2.1 + (1 + y_1.1), nodes := y_3.1 :: NilL Int : NSet } :: NilL NSet).length ≤ (68719476736 : Nat) ∧ i64R (x_1.1.1 - 1) ∧ ∃ (x' : (Int × Int × List Chg × List NSet) × Int), (((0 ≤ x'.1.1 ∧ x'.1.1 ≤ y.1) ∧ (0 ≤ x'.1.2.1 ∧ x'.1.2.1 ≤ 2 * (y.1 - x'.1.1) ∧ ∀ (i : Nat), i < x'.1.2.2.1.length → (x'.1.2.2.1.getD i { grp := 0, own := 0 : Chg }).grp ≤ x'.1.2.1) ∧ Dem x'.1.2.2.1 x'.1.2.2.2 (y.1 - x'.1.1) (↑x.1.2.length : Int)) ∧ DOK (L, x'.2) ∧ k ≤ x'.2) ∧ x'.1.1.toNat < x_1.1.1.toNat ∧ x_1.1.1 - 1 = x'.1.1 ∧ x_1.1.2.1 + (1 + y_1.1) = x'.1.2.1 ∧ L = L ∧ y_4.2 = x'.2 ∧ x_1.1.2.2.1 ++ { grp := x_1.1.2.1 + (1 + y_1.1), own := y_4.1 : Chg } :: NilL Chg = x'.1.2.2.1 ∧ x_1.1.2.2.2 ++ { grp := x_1.1.2.1 + (1 + y_1.1), nodes := y_3.1 :: NilL Int : NSet } :: NilL NSet = x'.1.2.2.2 ∧ x.1.2 = x.1.2) ∧ (decide ((↑y_2.1.length : Int) = 0) = false → (DOK (L, y_2.2) ∧ (1 : Nat) ≤ (1 :: 3 :: 8 :: 15 :: 40 :: NilL Int).length ∧ (1 :: 3 :: 8 :: 15 :: 40 :: NilL Int).length ≤ (1000 : Nat)) ∧ (∀ (y : Int × Int), true = true) ∧ ∀ (y_3 : Int × Int), y_3.1 ∈ 1 :: 3 :: 8 :: 15 :: 40 :: NilL Int ∧ y_2.2 ≤ y_3.2 ∧ y_3.2 ≤ (↑L.length : Int) → x_1.1.2.2.1.length + ({ grp := x_1.1.2.1 + (1 + y_1.1), own := y_3.1 : Chg } :: NilL Chg).length ≤ (68719476736 : Nat) ∧ x_1.1.2.2.2.length + ({ grp := x_1.1.2.1 + (1 + y_1.1), nodes := y_2.1 : NSet } :: NilL NSet).length ≤ (68719476736 : Nat) ∧ i64R (x_1.1.1 - 1) ∧ ∃ (x' : (Int × Int × List Chg × List NSet) × Int), (((0 ≤ x'.1.1 ∧ x'.1.1 ≤ y.1) ∧ (0 ≤ x'.1.2.1 ∧ x'.1.2.1 ≤ 2 * (y.1 - x'.1.1) ∧ ∀ (i : Nat), i < x'.1.2.2.1.length → (x'.1.2.2.1.getD i { grp := 0, own := 0 : Chg }).grp ≤ x'.1.2.1) ∧ Dem x'.1.2.2.1 x'.1.2.2.2 (y.1 - x'.1.1) (↑x.1.2.length : Int)) ∧ DOK (L, x'.2) ∧ k ≤ x'.2) ∧ x'.1.1.toNat < x_1.1.1.toNat ∧ x_1.1.1 - 1 = x'.1.1 ∧ x_1.1.2.1 + (1 + y_1.1) = x'.1.2.1 ∧ L = L ∧ y_3.2 = x'.2 ∧ x_1.1.2.2.1 ++ { grp := x_1.1.2.1 + (1 + y_1.1), own := y_3.1 : Chg } :: NilL Chg = x'.1.2.2.1 ∧ x_1.1.2.2.2 ++ { grp := x_1.1.2.1 + (1 + y_1.1), nodes := y_2.1 : NSet } :: NilL NSet = x'.1.2.2.2 ∧ x.1.2 = x.1.2)) ∧ (decide (0 < x_1.1.1) = false → ∃ (y : (List Chg × List NSet × List Int) × Int), (MadeD y.1 ∧ k ≤ y.2 ∧ y.2 ≤ (↑L.length : Int)) ∧ L = L ∧ x_1.2 = y.2 ∧ x_1.1.2.2.1 = y.1.1 ∧ x_1.1.2.2.2 = y.1.2.1 ∧ x.1.2 = y.1.2.2))) = sDem.vc (EV Try.prog [(14, sNext.spec), (19, sPick.spec), (22, sSetD.spec)] (invsS [(3, inv12a L k), (10, inv12b L k)]) noInv) Try.f12 ((L, k), ()) := by kernel_rfl
  rw [← e]
  clear e
  simp only [true_and, and_true, implies_true]
  simp only [Prod.forall, Prod.exists, forall_const, true_and, and_true, i64R, Int.reduceLE, Int.reduceLT, Int.reduceNeg, false_implies, decide_eq_true_eq, decide_eq_false_iff_not]
  try simp only [NilL_eq]
  have hd : ∀ j : Int, k ≤ j → j ≤ L.length → DOK (L, j) := fun j h1 h2 => ⟨by have : 0 ≤ k := hx.lo; show 0 ≤ j; omega, h2, hx.len⟩
  have l5 : ∀ a b c d e : Int, [a, b, c, d, e].length = 5 := fun _ _ _ _ _ => rfl
  have l1 : ∀ {α : Type} (a : α), [a].length = 1 := fun _ => rfl
  have big : ∀ {C : List Chg} {A : List NSet} {m n : Int}, Dem C A m n → m ≤ 6 → C.length ≤ 6 ∧ A.length ≤ 6 := fun h h2 => by have := h.lc; have := h.la; omega
  refine ⟨hx, fun n0 k0 h0 => ⟨by omega, ⟨1 + n0, [], k0, ⟨⟨by omega, by omega, ⟨by simp, fun x hx => by simp at hx⟩⟩, hd _ (by omega) (by omega), by omega⟩, rfl, rfl, rfl⟩, fun i c k1 h1 => ⟨fun hp => ⟨⟨h1.2.1, by rw [l5]; omega⟩, fun v k2 h2 => ⟨by rw [l1]; have := h1.1.2.2.lc; omega, by omega, i - 1, c ++ [v], k2, ⟨⟨by omega, by omega, ?_⟩, hd _ (by omega) (by omega), by omega⟩, by omega, rfl, rfl, rfl⟩⟩, fun hn => ?_⟩⟩⟩
  · have := h1.1.2.2.snoc h2.1
    rwa [show 1 + n0 - i + 1 = 1 + n0 - (i - 1) by omega] at this
  obtain ⟨⟨i0, i1, hc⟩, hk1, hk1'⟩ := h1
  have hcl := hc.lc
  refine ⟨hk1, fun m k2 h2 => ⟨⟨m, 0, [], [], k2, ⟨⟨by omega, ⟨by omega, by omega, fun i hi => by simp at hi⟩, ?_⟩, hd _ (by omega) (by omega), by omega⟩, rfl, rfl, rfl, rfl, rfl⟩, fun t g C A k3 h3 => ⟨fun hp => ?_, fun hn2 => ?_⟩⟩⟩
  · rw [Int.sub_self]; exact Dem.nil _
  · obtain ⟨⟨t0, ⟨g0, g1, g2⟩, hD⟩, hk3, hk3'⟩ := h3
    have hb := big hD (by omega)
    have stp : ∀ (b : Int) (s : List Int) (o : Int), 0 ≤ b ∧ b < 2 → s ≠ [] → Asc s c.length → o ∈ [(1 : Int), 3, 8, 15, 40] → Dem (C ++ [⟨g + (1 + b), o⟩]) (A ++ [⟨g + (1 + b), s⟩]) (m - (t - 1)) c.length := fun b s o hb hs ha ho => by
      have ho2 : 1 ≤ o ∧ o ≤ 40 := by simp at ho; omega
      have := hD.snoc (g := g + (1 + b)) (by omega) (fun i hi => by have := g2 i hi; unfold grpAt; show (C.getD i ⟨0, 0⟩).grp < _; omega) (by omega) ho2.1 ho2.2 hs ha
      rwa [show m - t + 1 = m - (t - 1) by omega] at this
    have gs : ∀ (b o : Int), 0 ≤ b ∧ b < 2 → ∀ i, i < (C ++ [(⟨g + (1 + b), o⟩ : Chg)]).length → ((C ++ [(⟨g + (1 + b), o⟩ : Chg)]).getD i ⟨0, 0⟩).grp ≤ g + (1 + b) := fun b o hb i hi => by
      by_cases e : i < C.length
      · rw [getD_app1 e]; have := g2 i e; omega
      · have e2 : i = C.length := by simp at hi; omega
        subst e2
        rw [getD_app2]
        exact Int.le_refl _
    refine ⟨hk3, fun b k4 h4 => ⟨by omega, by omega, ⟨hd _ (by omega) (by omega), by omega⟩, fun s k5 h5 => ⟨fun he => ⟨⟨hd _ (by omega) (by omega), by omega⟩, fun v k6 h6 => ⟨⟨hd _ (by omega) (by omega), by rw [l5]; omega⟩, fun o k7 h7 => ⟨by rw [l1]; omega, by rw [l1]; omega, by omega, t - 1, g + (1 + b), C ++ [⟨g + (1 + b), o⟩], A ++ [⟨g + (1 + b), [v]⟩], k7, ⟨⟨by omega, ⟨by omega, by omega, gs b o (by omega)⟩, stp b [v] o (by omega) (by simp) ?_ h7.1⟩, hd _ (by omega) (by omega), by omega⟩, by omega, rfl, rfl, rfl, rfl, rfl⟩⟩⟩, fun he => ⟨⟨hd _ (by omega) (by omega), by rw [l5]; omega⟩, fun o k7 h7 => ⟨by rw [l1]; omega, by rw [l1]; omega, by omega, t - 1, g + (1 + b), C ++ [⟨g + (1 + b), o⟩], A ++ [⟨g + (1 + b), s⟩], k7, ⟨⟨by omega, ⟨by omega, by omega, gs b o (by omega)⟩, stp b s o (by omega) (fun e => he (by rw [e]; rfl)) h5.1.1 h7.1⟩, hd _ (by omega) (by omega), by omega⟩, by omega, rfl, rfl, rfl, rfl, rfl⟩⟩⟩⟩⟩
    intro j hj
    have e : j = 0 := by simp at hj; exact hj
    subst e
    have hv := h6.1 (by omega)
    exact ⟨hv.1, hv.2, fun h => by omega⟩
  · obtain ⟨⟨t0, ⟨g0, g1, g2⟩, hD⟩, hk3, hk3'⟩ := h3
    exact ⟨C, A, c, k3, ⟨hD.vok hc (by omega) (by omega) (by omega), by omega, hk3.hi⟩, rfl, rfl, rfl, rfl⟩
end Go.Proofs.Ytompifpamldjaaa
namespace Go.Proofs.Ytompifpamldjaaa
set_option linter.unusedVariables false

abbrev cell (M : List (List Int)) (i j : Nat) : Int := nth (rowAt M i) j
theorem Asc.last {S' : List Int} {x n : Int} (h : Asc (S' ++ [x]) n) : 0 ≤ x ∧ x < n ∧ Asc S' x := by
  have hl : (S' ++ [x]).length = S'.length + 1 := by simp
  have h1 := h S'.length (by omega)
  unfold ascO at h1
  rw [nth_app2] at h1
  refine ⟨h1.1, h1.2.1, fun i hi => ?_⟩
  have h2 := h i (by omega)
  have h3 := h.mono i S'.length hi (by omega)
  unfold ascO at h2 ⊢
  rw [nth_app2] at h3
  rw [nth_app1 hi] at h2 h3
  refine ⟨h2.1, h3, fun h0 => ?_⟩
  have := h2.2.2 h0
  rwa [nth_app1 (by omega)] at this
theorem Asc.cut {S : List Int} {n : Nat} (h : Asc S ((n + 1 : Nat) : Int)) : (Asc S n ∧ ¬ (n : Int) ∈ S) ∨ ∃ S', S = S' ++ [(n : Int)] ∧ Asc S' n := by
  rcases List.eq_nil_or_concat S with e | ⟨S', x, e⟩
  · subst e; exact .inl ⟨Asc.nil _, by simp⟩
  · rw [List.concat_eq_append] at e
    subst e
    obtain ⟨h1, h2, h3⟩ := h.last
    by_cases e : x = n
    · subst e; exact .inr ⟨S', rfl, h3⟩
    · have h4 : Asc (S' ++ [x]) n := (h3.snoc h1).up (by omega)
      refine .inl ⟨h4, fun hm => ?_⟩
      have := h4.bnd _ hm
      omega
theorem sum_asc {f : Nat → Int} : ∀ {n : Nat} {S : List Int}, Asc S n → (S.map fun x => f x.toNat).sum = sumF (fun j => if (j : Int) ∈ S then f j else 0) n
  | 0, S, h => by
    cases S with
    | nil => rfl
    | cons a r =>
      have := h 0 (by simp)
      unfold ascO at this
      omega
  | n + 1, S, h => by
    rcases h.cut with ⟨h1, h2⟩ | ⟨S', e, h1⟩
    · rw [sum_asc h1, sumF, if_neg h2]; omega
    · subst e
      have hn : ∀ j : Nat, j < n → ((j : Int) ∈ S' ++ [(n : Int)] ↔ (j : Int) ∈ S') := fun j hj => by
        rw [List.mem_append, List.mem_singleton]
        constructor
        · rintro (h | h)
          · exact h
          · omega
        · exact .inl
      have e2 : sumF (fun j => if (j : Int) ∈ S' ++ [(n : Int)] then f j else 0) n = sumF (fun j => if (j : Int) ∈ S' then f j else 0) n := sumF_congr fun j hj => by simp only [hn j hj]
      rw [List.map_append, List.sum_append, sum_asc h1, sumF, if_pos (by simp), e2]
      simp
theorem Plc.row_sum {C : List Chg} {A : List NSet} {cap : List Int} {M : List (List Int)} (h : Plc C A cap M) {i : Nat} (hi : i < C.length) : sumF (cell M i) cap.length = ownAt C i := by
  rw [← h.rs i hi, sumF_list, h.row i hi]
theorem Plc.col_sum {C : List Chg} {A : List NSet} {cap : List Int} {M : List (List Int)} (h : Plc C A cap M) (j : Nat) : sumF (fun i => cell M i j) C.length = colS M j := by
  rw [colS_sum, h.lm]
/-- Where there is a placement, no nodes refuse. -/
theorem hall {C : List Chg} {A : List NSet} {cap S : List Int} {M : List (List Int)} (h : Plc C A cap M) (hr : IsRef C A cap S) : False := by
  have h1 := hr.gt
  have e := sum_asc (f := fun j => nth cap j) hr.asc
  rw [e] at h1
  have h2 : need C A S ≤ sumF (fun i => sumF (fun j => if (j : Int) ∈ S then cell M i j else 0) cap.length) C.length := by
    refine sumF_le fun i hi => ?_
    show (if ∀ x ∈ nodesAt A i, x ∈ S then ownAt C i else 0) ≤ _
    split
    · rename_i hs
      rw [← h.row_sum hi]
      refine sumF_le fun j hj => ?_
      split
      · exact Int.le_refl _
      · rename_i hj2
        rcases int_lt_or 0 (cell M i j) with h3 | h3
        · exact absurd (hs _ (h.ms i j h3)) hj2
        · exact h3
    · refine sumF_nonneg fun j hj => ?_
      split
      · exact h.m0 i j
      · exact Int.le_refl _
  rw [sumF_swap (fun i j => if (j : Int) ∈ S then cell M i j else 0)] at h2
  have h3 : sumF (fun j => sumF (fun i => if (j : Int) ∈ S then cell M i j else 0) C.length) cap.length ≤ sumF (fun j => if (j : Int) ∈ S then nth cap j else 0) cap.length := by
    refine sumF_le fun j hj => ?_
    by_cases hs : (j : Int) ∈ S
    · simp only [if_pos hs]
      rw [h.col_sum]; exact h.cs j
    · simp only [if_neg hs]
      rw [sumF_zero]; exact Int.le_refl _
  omega
theorem hallI {C : List Chg} {A : List NSet} {cap S : List Int} {l : List Spt} (h : IsPl C A cap l) (hr : IsRef C A cap S) : False := by
  obtain ⟨M, h1, _⟩ := h
  exact hall h1 hr
/-- What refuses less refuses more. -/
theorem IsRef.mono {C C' : List Chg} {A A' : List NSet} {cap cap' S : List Int} (h : IsRef C' A' cap' S) (hl : C'.length = C.length) (hc : cap'.length = cap.length) (ho : ∀ i, i < C.length → ownAt C' i ≤ ownAt C i) (ho0 : ∀ i, i < C.length → 0 ≤ ownAt C i) (hn : ∀ i, i < C.length → ∀ x ∈ nodesAt A i, x ∈ nodesAt A' i) (hk : ∀ j, nth cap j ≤ nth cap' j) : IsRef C A cap S := by
  have ha : Asc S cap.length := by rw [← hc]; exact h.asc
  refine ⟨ha, ?_⟩
  have h1 := h.gt
  rw [sum_asc (f := fun j => nth cap j) ha]
  rw [sum_asc (f := fun j => nth cap' j) h.asc, hc] at h1
  have h2 : sumF (fun j => if (j : Int) ∈ S then nth cap j else 0) cap.length ≤ sumF (fun j => if (j : Int) ∈ S then nth cap' j else 0) cap.length := sumF_le fun j _ => by
    split
    · exact hk j
    · exact Int.le_refl _
  have h3 : need C' A' S ≤ need C A S := by
    unfold need
    rw [hl]
    refine sumF_le fun i hi => ?_
    by_cases c : ∀ x ∈ nodesAt A' i, x ∈ S
    · rw [if_pos c, if_pos fun x hx => c x (hn i hi x hx)]
      exact ho i hi
    · rw [if_neg c]
      split
      · exact ho0 i hi
      · exact Int.le_refl _
  omega
/-- Place does it where no nodes refuse. -/
theorem PlaceR.ok {C : List Chg} {A : List NSet} {cap : List Int} {y : List Spt × List Int × Int} (h : PlaceR C A cap y) (hv : VOK C A cap) (hr : ∀ S, ¬ IsRef C A cap S) : IsPl C A cap y.1 ∧ y.2.1 = [] ∧ y.2.2 = 0 := by
  rcases h with h | h | h
  · exact absurd hv h.1
  · exact h.2
  · exact absurd h.2.2.1 (hr _)
theorem PlaceR.err {C : List Chg} {A : List NSet} {cap : List Int} {y : List Spt × List Int × Int} (h : PlaceR C A cap y) (hv : VOK C A cap) : (y.2.2 = 0 ∧ IsPl C A cap y.1 ∧ y.2.1 = []) ∨ (y.2.2 = 20 ∧ y.1 = [] ∧ IsRef C A cap y.2.1) := by
  rcases h with h | h | h
  · exact absurd hv h.1
  · exact .inl ⟨h.2.2.2, h.2.1, h.2.2.1⟩
  · exact .inr ⟨h.2.2.2, h.2.1, h.2.2.1⟩

/-! Spots -/
theorem mem_spotsR {g : Int} {row : List Int} {s : Spt} : ∀ {n : Nat}, s ∈ spotsR g row n ↔ ∃ j, j < n ∧ s = ⟨g, (j : Int), nth row j⟩ ∧ 0 < nth row j
  | 0 => by simp [spotsR]
  | n + 1 => by
    rw [spotsR, List.mem_append, mem_spotsR]
    constructor
    · rintro (⟨j, h1, h2⟩ | h)
      · exact ⟨j, by omega, h2⟩
      · split at h
        · rename_i e
          exact ⟨n, by omega, by simpa using h, e⟩
        · simp at h
    · rintro ⟨j, h1, h2, h3⟩
      by_cases e : j = n
      · subst e
        right; rw [if_pos h3]; simp [h2]
      · exact .inl ⟨j, by omega, h2, h3⟩
theorem mem_allS {C : List Chg} {M : List (List Int)} {n : Nat} {s : Spt} : ∀ {t : Nat}, s ∈ allS C M n t ↔ ∃ i j, i < t ∧ j < n ∧ s = ⟨grpAt C i, (j : Int), cell M i j⟩ ∧ 0 < cell M i j
  | 0 => by simp [allS]
  | t + 1 => by
    rw [allS, List.mem_append, mem_allS, mem_spotsR]
    constructor
    · rintro (⟨i, j, h1, h2⟩ | ⟨j, h⟩)
      · exact ⟨i, j, by omega, h2⟩
      · exact ⟨t, j, by omega, h⟩
    · rintro ⟨i, j, h1, h2⟩
      by_cases e : i = t
      · subst e; exact .inr ⟨j, h2⟩
      · exact .inl ⟨i, j, by omega, h2⟩
theorem sum_spotsR {f : Spt → Int} {g : Int} {row : List Int} : ∀ {n : Nat}, ((spotsR g row n).map f).sum = sumF (fun j => if 0 < nth row j then f ⟨g, (j : Int), nth row j⟩ else 0) n
  | 0 => rfl
  | n + 1 => by
    rw [spotsR, List.map_append, List.sum_append, sum_spotsR, sumF]
    split <;> simp
theorem sum_allS {f : Spt → Int} {C : List Chg} {M : List (List Int)} {n : Nat} : ∀ {t : Nat}, ((allS C M n t).map f).sum = sumF (fun i => sumF (fun j => if 0 < cell M i j then f ⟨grpAt C i, (j : Int), cell M i j⟩ else 0) n) t
  | 0 => rfl
  | t + 1 => by rw [allS, List.map_append, List.sum_append, sum_allS, sumF, sum_spotsR]
theorem spA_mem {l : List Spt} {k : Nat} (h : k < l.length) : spA l k ∈ l := by
  rw [spA, List.getD_eq_getElem?_getD, List.getElem?_eq_getElem h]; exact List.getElem_mem _
theorem mem_spA {l : List Spt} {s : Spt} (h : s ∈ l) : ∃ k, k < l.length ∧ spA l k = s := by
  obtain ⟨k, hk, e⟩ := List.getElem_of_mem h
  exact ⟨k, hk, by rw [spA, List.getD_eq_getElem?_getD, List.getElem?_eq_getElem hk]; exact e⟩
theorem sum_sp (f : Spt → Int) : ∀ l : List Spt, sumF (fun k => f (spA l k)) l.length = (l.map f).sum
  | [] => rfl
  | a :: r => by
    rw [List.length_cons, sumF_shift, List.map_cons, List.sum_cons, ← sum_sp f r]
    rfl
theorem VOK.asc {C : List Chg} {A : List NSet} {cap : List Int} (h : VOK C A cap) : ∀ i j, i < j → j < C.length → grpAt C i < grpAt C j := fun i j hij => by
  induction j with
  | zero => omega
  | succ j ih =>
    intro hj
    have h1 := (h.chg (j + 1) hj).2.1 (by omega)
    rw [Nat.add_sub_cancel] at h1
    by_cases e : i = j
    · rw [e]; exact h1
    · have := ih (by omega) (by omega); omega
theorem VOK.inj {C : List Chg} {A : List NSet} {cap : List Int} (h : VOK C A cap) {i j : Nat} (hi : i < C.length) (hj : j < C.length) (e : grpAt C i = grpAt C j) : i = j := by
  rcases Nat.lt_trichotomy i j with h1 | h1 | h1
  · have := h.asc i j h1 hj; omega
  · exact h1
  · have := h.asc j i h1 hi; omega
/-- What lies at a node, as Moves finds it. -/
theorem old_cell {C : List Chg} {A : List NSet} {cap : List Int} {M : List (List Int)} (hv : VOK C A cap) (h0 : ∀ i j, 0 ≤ cell M i j) {n i j : Nat} (hi : i < C.length) (hj : j < n) : oldP (allS C M n C.length) (grpAt C i) (j : Int) = cell M i j := by
  unfold oldP atI
  rcases fstI_cases (isAt (allS C M n C.length) (grpAt C i) (j : Int)) (allS C M n C.length).length with ⟨e, h⟩ | ⟨k, e, hk, h, _⟩
  · rw [e, if_pos (by omega)]
    rcases int_lt_or 0 (cell M i j) with h1 | h1
    · obtain ⟨k, hk, e2⟩ := mem_spA (mem_allS.2 ⟨i, j, hi, hj, rfl, h1⟩ : _ ∈ allS C M n C.length)
      refine absurd ?_ (h k hk)
      unfold isAt
      rw [e2]; exact ⟨rfl, rfl⟩
    · have := h0 i j; omega
  · rw [e, if_neg (by omega), Int.toNat_natCast]
    obtain ⟨i', j', h1, h2, h3, h4⟩ := mem_allS.1 (spA_mem hk)
    unfold isAt at h
    rw [h3] at h ⊢
    have e1 := hv.inj h1 hi h.1
    have e2 : j' = j := by have : ((j' : Nat) : Int) = j := h.2; omega
    subst e1; subst e2; rfl
theorem moves_sum (l m : List Spt) : moves l m = (m.map fun s => max 0 (s.pages - oldP l s.grp s.node)).sum := by
  unfold moves mvN
  rw [← sum_sp]; rfl
theorem load_sum (l : List Spt) (n : Int) : loadS l n = (l.map fun s => if s.node = n then s.pages else 0).sum := by
  unfold loadS loadN
  rw [← sum_sp]; rfl
theorem moves_cells {C : List Chg} {A : List NSet} {cap : List Int} {M N : List (List Int)} (hv : VOK C A cap) (hM : ∀ i j, 0 ≤ cell M i j) (hN : ∀ i j, 0 ≤ cell N i j) (n : Nat) : moves (allS C M n C.length) (allS C N n C.length) = sumF (fun i => sumF (fun j => max 0 (cell N i j - cell M i j)) n) C.length := by
  rw [moves_sum, sum_allS]
  refine sumF_congr fun i hi => sumF_congr fun j hj => ?_
  show (if 0 < cell N i j then max 0 (cell N i j - oldP (allS C M n C.length) (grpAt C i) (j : Int)) else 0) = _
  rw [old_cell hv hM hi hj]
  have := hM i j
  have := hN i j
  split <;> omega
theorem sumF_sub (f g : Nat → Int) (n : Nat) : sumF (fun i => f i - g i) n = sumF f n - sumF g n := by
  induction n with
  | zero => rfl
  | succ n ih => simp only [sumF, ih]; omega
theorem sumF_null {f : Nat → Int} {n : Nat} (h : ∀ i, i < n → 0 ≤ f i) (e : sumF f n = 0) : ∀ i, i < n → f i = 0 := fun i hi => by
  have := sumF_cell h hi
  have := h i hi
  omega
theorem spotsR_congr {g : Int} {r r' : List Int} : ∀ {n : Nat}, (∀ j, j < n → nth r j = nth r' j) → spotsR g r n = spotsR g r' n
  | 0, _ => rfl
  | n + 1, h => by rw [spotsR, spotsR, spotsR_congr fun j hj => h j (by omega), h n (by omega)]
theorem allS_congr {C : List Chg} {M N : List (List Int)} {n : Nat} : ∀ {t : Nat}, (∀ i j, i < t → j < n → cell M i j = cell N i j) → allS C M n t = allS C N n t
  | 0, _ => rfl
  | t + 1, h => by rw [allS, allS, allS_congr fun i j hi hj => h i j (by omega) hj, spotsR_congr fun j hj => h t j (by omega) hj]
/-- Between two placements of the same demands as many pages move in the one direction as in the other, and none only if they are the same. -/
theorem moves_both {C : List Chg} {A A' : List NSet} {cap cap' : List Int} {p q : List Spt} (hv : VOK C A cap) (hp : IsPl C A cap p) (hq : IsPl C A' cap' q) (hl : cap'.length = cap.length) : moves p q = moves q p ∧ 0 ≤ moves p q ∧ decide (moves p q = 0) = eqL p q := by
  obtain ⟨M, hM, rfl⟩ := hp
  obtain ⟨N, hN, rfl⟩ := hq
  rw [hl]
  have e1 := moves_cells hv hM.m0 hN.m0 cap.length
  have e2 := moves_cells hv hN.m0 hM.m0 cap.length
  have r1 : ∀ i, i < C.length → sumF (cell M i) cap.length = ownAt C i := fun i hi => hM.row_sum hi
  have r2 : ∀ i, i < C.length → sumF (cell N i) cap.length = ownAt C i := fun i hi => by have := hN.row_sum hi; rwa [hl] at this
  have e3 : sumF (fun i => sumF (fun j => max 0 (cell N i j - cell M i j)) cap.length) C.length = sumF (fun i => sumF (fun j => max 0 (cell M i j - cell N i j)) cap.length) C.length := by
    refine sumF_congr fun i hi => ?_
    have h1 := sumF_sub (fun j => max 0 (cell N i j - cell M i j)) (fun j => max 0 (cell M i j - cell N i j)) cap.length
    have h2 := sumF_sub (cell N i) (cell M i) cap.length
    rw [sumF_congr (g := fun j => cell N i j - cell M i j) fun j _ => by omega] at h1
    rw [r1 i hi, r2 i hi] at h2
    omega
  have n1 : ∀ i, i < C.length → 0 ≤ sumF (fun j => max 0 (cell N i j - cell M i j)) cap.length := fun i _ => sumF_nonneg fun j _ => by omega
  have n2 : ∀ i, i < C.length → 0 ≤ sumF (fun j => max 0 (cell M i j - cell N i j)) cap.length := fun i _ => sumF_nonneg fun j _ => by omega
  refine ⟨by rw [e1, e2, e3], by rw [e1]; exact sumF_nonneg n1, ?_⟩
  unfold eqL
  refine decide_eq_decide.2 ⟨fun h => ?_, fun h => ?_⟩
  · have h1 : sumF (fun i => sumF (fun j => max 0 (cell N i j - cell M i j)) cap.length) C.length = 0 := by rw [← e1]; exact h
    have h2 := h1
    rw [e3] at h2
    refine allS_congr fun i j hi hj => ?_
    have a := sumF_null (f := fun j => max 0 (cell N i j - cell M i j)) (fun j _ => by omega) (sumF_null (f := fun i => sumF (fun j => max 0 (cell N i j - cell M i j)) cap.length) n1 h1 i hi) j hj
    have b := sumF_null (f := fun j => max 0 (cell M i j - cell N i j)) (fun j _ => by omega) (sumF_null (f := fun i => sumF (fun j => max 0 (cell M i j - cell N i j)) cap.length) n2 h2 i hi) j hj
    omega
  · have e4 := moves_cells hv hM.m0 hM.m0 cap.length
    rw [← h, e4, sumF_congr (g := fun _ => 0) fun i _ => ?_, sumF_zero]
    rw [sumF_congr (g := fun _ => 0) fun j _ => by omega, sumF_zero]
theorem loadS_cells {C : List Chg} {M : List (List Int)} (h0 : ∀ i j, 0 ≤ cell M i j) {n j : Nat} (hj : j < n) : loadS (allS C M n C.length) (j : Int) = sumF (fun i => cell M i j) C.length := by
  rw [load_sum, sum_allS]
  refine sumF_congr fun i hi => ?_
  have key : ∀ n, sumF (fun j' => if 0 < cell M i j' then (if ((j' : Nat) : Int) = j then cell M i j' else 0) else 0) n = if j < n then cell M i j else 0 := fun n => by
    induction n with
    | zero => rfl
    | succ n ih =>
      rw [sumF, ih]
      have := h0 i n
      by_cases e : n = j
      · subst e
        rw [if_neg (Nat.lt_irrefl n), if_pos (Nat.lt_succ_self n), if_pos rfl]
        by_cases c : 0 < cell M i n
        · rw [if_pos c]; omega
        · rw [if_neg c]; omega
      · have e2 : ¬ ((n : Nat) : Int) = j := by omega
        rw [if_neg e2]
        split <;> split <;> split <;> omega
  have := key n
  rw [if_pos hj] at this
  exact this
theorem IsPl.loads {C : List Chg} {A : List NSet} {cap : List Int} {p : List Spt} (h : IsPl C A cap p) : (∀ j : Nat, j < cap.length → 0 ≤ loadS p j ∧ loadS p j ≤ nth cap j) ∧ sumF (fun j => loadS p (j : Int)) cap.length = sumF (ownAt C) C.length := by
  obtain ⟨M, hM, rfl⟩ := h
  have e : ∀ j, j < cap.length → loadS (allS C M cap.length C.length) (j : Int) = colS M j := fun j hj => by rw [loadS_cells hM.m0 hj, hM.col_sum]
  refine ⟨fun j hj => ?_, ?_⟩
  · rw [e j hj]
    refine ⟨?_, hM.cs j⟩
    rw [colS_sum]
    exact sumF_nonneg fun i _ => hM.m0 i j
  · rw [sumF_congr (g := fun j => sumF (fun i => cell M i j) C.length) fun j hj => by rw [e j hj, hM.col_sum], sumF_swap (fun j i => cell M i j)]
    exact sumF_congr fun i hi => hM.row_sum hi
theorem sum_ge {f : Spt → Int} : ∀ {l : List Spt}, (∀ s ∈ l, 1 ≤ f s) → (l.length : Int) ≤ (l.map f).sum
  | [], _ => by simp
  | a :: r, h => by
    have h1 := h a (by simp)
    have h2 := sum_ge (l := r) fun s hs => h s (List.mem_cons_of_mem _ hs)
    rw [List.map_cons, List.sum_cons, List.length_cons]; omega
theorem IsPl.pos {C : List Chg} {A : List NSet} {cap : List Int} {p : List Spt} (h : IsPl C A cap p) : ∀ s ∈ p, 1 ≤ s.pages := fun s hs => by
  obtain ⟨M, hM, rfl⟩ := h
  obtain ⟨i, j, h1, h2, h3, h4⟩ := mem_allS.1 hs
  subst h3; exact h4
theorem moves_nil {C : List Chg} {A : List NSet} {cap : List Int} {p : List Spt} (h : IsPl C A cap p) : (p.length : Int) ≤ moves [] p ∧ moves p [] = 0 := by
  refine ⟨?_, rfl⟩
  rw [moves_sum]
  refine sum_ge fun s hs => ?_
  have := h.pos s hs
  have e : oldP [] s.grp s.node = 0 := by
    unfold oldP atI
    rw [fstI_no fun j hj => by simp at hj, if_pos (by omega)]
  rw [e]; omega
theorem spots_len {g : Int} {row : List Int} : ∀ {n : Nat}, (spotsR g row n).length ≤ n
  | 0 => Nat.le_refl _
  | n + 1 => by
    have := spots_len (g := g) (row := row) (n := n)
    rw [spotsR, List.length_append]
    split <;> simp <;> omega
theorem allS_len {C : List Chg} {M : List (List Int)} {n : Nat} : ∀ {t : Nat}, (allS C M n t).length ≤ t * n
  | 0 => by simp [allS]
  | t + 1 => by
    have := allS_len (C := C) (M := M) (n := n) (t := t)
    have := spots_len (g := grpAt C t) (row := rowAt M t) (n := n)
    rw [allS, List.length_append, Nat.succ_mul]; omega
theorem IsPl.sb {C : List Chg} {A : List NSet} {cap : List Int} {p : List Spt} (h : IsPl C A cap p) (hv : VOK C A cap) : SB p ∧ p.length ≤ 512 ∧ ∀ k, (spA p k).pages ≤ 16777216 := by
  have hp := h.pos
  obtain ⟨M, hM, rfl⟩ := h
  have hl : (allS C M cap.length C.length).length ≤ 512 := Nat.le_trans allS_len (Nat.mul_le_mul hv.d64 hv.c8)
  have hb : ∀ k, 0 ≤ (spA (allS C M cap.length C.length) k).pages ∧ (spA (allS C M cap.length C.length) k).pages ≤ 16777216 := fun k => by
    by_cases hk : k < (allS C M cap.length C.length).length
    · have h1 := hp _ (spA_mem hk)
      obtain ⟨i, j, h3, h4, h5, h6⟩ := mem_allS.1 (spA_mem hk)
      have h7 := sumF_cell (f := cell M i) (fun j _ => hM.m0 i j) h4
      rw [hM.row_sum h3] at h7
      have h8 := (hv.chg i h3).2.2.2.1
      rw [h5] at h1 ⊢
      simp only at h1 ⊢
      omega
    · have e : spA (allS C M cap.length C.length) k = ⟨0, 0, 0⟩ := by
        rw [spA, List.getD_eq_getElem?_getD, List.getElem?_eq_none (by omega)]; rfl
      rw [e]; decide
  refine ⟨⟨by omega, fun k => ?_⟩, hl, fun k => (hb k).2⟩
  have := hb k
  omega
theorem SB.nil : SB [] := ⟨by simp, fun k => by have : spA [] k = ⟨0, 0, 0⟩ := rfl
                                                rw [this]; decide⟩
end Go.Proofs.Ytompifpamldjaaa

namespace Go.Proofs.Ytompifpamldjaaa
open Go
set_option linter.unusedVariables false

def dEx : List Chg := [⟨2, 6⟩, ⟨3, 5⟩]
def aEx : List NSet := [⟨2, [0, 1]⟩, ⟨3, [0]⟩]
theorem asc_one {S : List Int} (h : Asc S ((1 : Nat) : Int)) : S = [] ∨ S = [0] := by
  rcases h.cut with ⟨h1, _⟩ | ⟨S', e, h1⟩
  · cases S with
    | nil => exact .inl rfl
    | cons a r =>
      have := h1 0 (by simp)
      unfold ascO at this
      omega
  · cases S' with
    | nil => exact .inr e
    | cons a r =>
      have := h1 0 (by simp)
      unfold ascO at this
      omega
theorem asc_two {S : List Int} (h : Asc S ((2 : Nat) : Int)) : S = [] ∨ S = [0] ∨ S = [1] ∨ S = [0, 1] := by
  rcases h.cut with ⟨h1, _⟩ | ⟨S', e, h1⟩
  · rcases asc_one h1 with h | h
    · exact .inl h
    · exact .inr (.inl h)
  · rcases asc_one h1 with h | h
    · subst h; exact .inr (.inr (.inl e))
    · subst h; exact .inr (.inr (.inr e))
theorem lt2 {P : Nat → Prop} (h0 : P 0) (h1 : P 1) : ∀ j, j < 2 → P j := fun j hj => by
  match j, hj with
  | 0, _ => exact h0
  | 1, _ => exact h1
theorem vokEx {a b : Int} (ha : 0 ≤ a ∧ a ≤ 16777216) (hb : 0 ≤ b ∧ b ≤ 16777216) : VOK dEx aEx [a, b] := by
  refine ⟨by show 1 ≤ 2; omega, by show 2 ≤ 8; omega, by show 2 ≤ 64; omega, rfl, lt2 ha hb, lt2 ?_ ?_⟩
  · refine ⟨by decide, fun h => by omega, by decide, by decide, rfl, by decide, ?_⟩
    show Asc [0, 1] 2
    exact ((Asc.nil 0).snoc (by omega)).snoc (by omega)
  · refine ⟨by decide, fun _ => by decide, by decide, by decide, rfl, by decide, ?_⟩
    show Asc [0] 2
    exact ((Asc.nil 0).snoc (by omega)).up (by omega)
theorem noRef65 : ∀ S, ¬ IsRef dEx aEx [6, 5] S := fun S h => by
  have h1 := h.gt
  rcases asc_two h.asc with e | e | e | e <;> subst e
  · have : need dEx aEx [] = 0 := by decide
    rw [this] at h1; simp at h1
  · have : need dEx aEx [0] = 5 := by decide
    rw [this] at h1; simp at h1
  · have : need dEx aEx [1] = 0 := by decide
    rw [this] at h1; simp at h1
  · have : need dEx aEx [0, 1] = 11 := by decide
    rw [this] at h1; simp at h1
theorem ref49 {S : List Int} (h : IsRef dEx aEx [4, 9] S) : S = [0] := by
  have h1 := h.gt
  rcases asc_two h.asc with e | e | e | e <;> subst e
  · have : need dEx aEx [] = 0 := by decide
    rw [this] at h1; simp at h1
  · rfl
  · have : need dEx aEx [1] = 0 := by decide
    rw [this] at h1; simp at h1
  · have : need dEx aEx [0, 1] = 11 := by decide
    rw [this] at h1; simp at h1
theorem isRef49 : IsRef dEx aEx [4, 9] [0] := by
  refine ⟨((Asc.nil 0).snoc (by omega)).up (by decide), ?_⟩
  have : need dEx aEx [0] = 5 := by decide
  rw [this]; simp
theorem isPl65 {l : List Spt} (h : IsPl dEx aEx [6, 5] l) : l = [⟨2, 0, 1⟩, ⟨2, 1, 5⟩, ⟨3, 0, 5⟩] := by
  obtain ⟨M, hM, rfl⟩ := h
  have r0 := hM.row_sum (i := 0) (by decide)
  have r1 := hM.row_sum (i := 1) (by decide)
  have c0 := hM.col_sum 0
  have c1 := hM.col_sum 1
  have b0 := hM.cs 0
  have b1 := hM.cs 1
  have z : cell M 1 1 = 0 := by
    rcases int_lt_or 0 (cell M 1 1) with h | h
    · have := hM.ms 1 1 h
      simp [nodesAt, aEx] at this
    · have : 0 ≤ cell M 1 1 := hM.m0 1 1
      omega
  have e0 : ownAt dEx 0 = 6 := rfl
  have e1 : ownAt dEx 1 = 5 := rfl
  have k0 : nth [(6 : Int), 5] 0 = 6 := rfl
  have k1 : nth [(6 : Int), 5] 1 = 5 := rfl
  rw [e0] at r0
  rw [e1] at r1
  rw [← c0, k0] at b0
  rw [← c1, k1] at b1
  simp only [List.length_cons, List.length_nil, sumF, dEx] at r0 r1 b0 b1
  have a00 : cell M 0 0 = 1 := by omega
  have a01 : cell M 0 1 = 5 := by omega
  have a10 : cell M 1 0 = 5 := by omega
  show ((([] : List Spt) ++ (([] ++ if 0 < cell M 0 0 then [⟨2, 0, cell M 0 0⟩] else []) ++ if 0 < cell M 0 1 then [⟨2, 1, cell M 0 1⟩] else [])) ++ (([] ++ if 0 < cell M 1 0 then [⟨3, 0, cell M 1 0⟩] else []) ++ if 0 < cell M 1 1 then [⟨3, 1, cell M 1 1⟩] else [])) = _
  rw [a00, a01, a10, z]; rfl
theorem vok0 : VOK [] [] [0] := MadeD.ex.vok
theorem noRef0 : ∀ S, ¬ IsRef [] [] [0] S := fun S h => by
  have h1 := h.gt
  have e : need [] [] S = 0 := rfl
  rw [e, sum_asc (f := fun j => nth [0] j) h.asc] at h1
  have h2 : (0 : Int) ≤ sumF (fun j => if (j : Int) ∈ S then nth [(0 : Int)] j else 0) [(0 : Int)].length := sumF_nonneg fun j hj => by
    have : j = 0 := by simp at hj; exact hj
    subst this
    split <;> decide
  omega
theorem isPl0 {l : List Spt} (h : IsPl [] [] [0] l) : l = [] := by
  obtain ⟨M, hM, rfl⟩ := h
  rfl
theorem sml_lit {C : List Chg} {A : List NSet} {cap : List Int} (h1 : C.length ≤ 1000) (h2 : cap.length ≤ 1000) (h3 : ∀ i, i < A.length → (nodesAt A i).length ≤ 1000) : Sml C A cap := by
  refine ⟨by omega, by omega, fun i => ?_⟩
  by_cases h : i < A.length
  · have := h3 i h; omega
  · have : nodesAt A i = [] := by
      unfold nodesAt
      rw [List.getD_eq_getElem?_getD, List.getElem?_eq_none (by omega)]; rfl
    rw [this]; simp
theorem VOK.sml {C : List Chg} {A : List NSet} {cap : List Int} (h : VOK C A cap) : Sml C A cap := by
  have := h.d64
  have := h.c8
  refine sml_lit (by omega) (by omega) fun i hi => ?_
  have := (h.chg i (by have := h.la; omega)).2.2.2.2.2.2.len
  omega
theorem moves_self {C : List Chg} {A : List NSet} {cap : List Int} {p : List Spt} (hv : VOK C A cap) (h : IsPl C A cap p) : moves p p = 0 := by
  have := (moves_both hv h h rfl).2.2
  have e : eqL p p = true := by simp [eqL]
  rw [e] at this
  exact of_decide_eq_true this
def sSane : DS := ⟨_, Sig.nil, fun _ => True, fun _ => .bool true, nou⟩


set_option maxRecDepth 100000 in
theorem vc10 (u : Unit) (hx : True) : sSane.vc (EV Try.prog [(13, sPlace.spec), (16, sSameS.spec), (17, sSameI.spec), (15, sMoves.spec)] noInv noInv) Try.f10 () := by
  have e : (Sml ({ grp := 2, own := 6 : Chg } :: { grp := 3, own := 5 : Chg } :: NilL Chg) ({ grp := 2, nodes := 0 :: 1 :: NilL Int : NSet } :: { grp := 3, nodes := 0 :: NilL Int : NSet } :: NilL NSet) (6 :: 5 :: NilL Int) ∧ (∀ (y : List Spt × List Int × Int), true = true) ∧ ∀ (y : List Spt × List Int × Int), PlaceR ({ grp := 2, own := 6 : Chg } :: { grp := 3, own := 5 : Chg } :: NilL Chg) ({ grp := 2, nodes := 0 :: 1 :: NilL Int : NSet } :: { grp := 3, nodes := 0 :: NilL Int : NSet } :: NilL NSet) (6 :: 5 :: NilL Int) y → Sml ({ grp := 2, own := 6 : Chg } :: { grp := 3, own := 5 : Chg } :: NilL Chg) ({ grp := 2, nodes := 0 :: 1 :: NilL Int : NSet } :: { grp := 3, nodes := 0 :: NilL Int : NSet } :: NilL NSet) (4 :: 9 :: NilL Int) ∧ (∀ (y : List Spt × List Int × Int), true = true) ∧ ∀ (y_1 : List Spt × List Int × Int), PlaceR ({ grp := 2, own := 6 : Chg } :: { grp := 3, own := 5 : Chg } :: NilL Chg) ({ grp := 2, nodes := 0 :: 1 :: NilL Int : NSet } :: { grp := 3, nodes := 0 :: NilL Int : NSet } :: NilL NSet) (4 :: 9 :: NilL Int) y_1 → Sml (NilL Chg) (NilL NSet) (0 :: NilL Int) ∧ (∀ (y : List Spt × List Int × Int), true = true) ∧ ∀ (y_2 : List Spt × List Int × Int), PlaceR (NilL Chg) (NilL NSet) (0 :: NilL Int) y_2 → (decide (y.2.2 = 0) = true → decide (y.2.2 = 0) = true) ∧ (decide (y.2.2 = 0) = true → decide (y.2.2 = 0) = true) ∧ (decide (y.2.2 = 0) = true → decide (y.2.2 = 0) = true) ∧ (decide (y.2.2 = 0) = true → decide (y.2.2 = 0) = true) ∧ (decide (y.2.2 = 0) = true → decide (y.2.2 = 0) = true) ∧ (decide (y.2.2 = 0) = true → y.1.length ≤ (9223372036854775807 : Nat) ∧ ({ grp := 2, node := 0, pages := 1 : Spt } :: { grp := 2, node := 1, pages := 5 : Spt } :: { grp := 3, node := 0, pages := 5 : Spt } :: NilL Spt).length ≤ (9223372036854775807 : Nat)) ∧ (decide (y.2.2 = 0) = true → decide (y.2.2 = 0) = true) ∧ ((decide (y.2.2 = 0) && eqL y.1 ({ grp := 2, node := 0, pages := 1 : Spt } :: { grp := 2, node := 1, pages := 5 : Spt } :: { grp := 3, node := 0, pages := 5 : Spt } :: NilL Spt)) = true → (decide (y.2.2 = 0) && eqL y.1 ({ grp := 2, node := 0, pages := 1 : Spt } :: { grp := 2, node := 1, pages := 5 : Spt } :: { grp := 3, node := 0, pages := 5 : Spt } :: NilL Spt)) = true) ∧ ((decide (y.2.2 = 0) && eqL y.1 ({ grp := 2, node := 0, pages := 1 : Spt } :: { grp := 2, node := 1, pages := 5 : Spt } :: { grp := 3, node := 0, pages := 5 : Spt } :: NilL Spt)) = true → (decide (y.2.2 = 0) && eqL y.1 ({ grp := 2, node := 0, pages := 1 : Spt } :: { grp := 2, node := 1, pages := 5 : Spt } :: { grp := 3, node := 0, pages := 5 : Spt } :: NilL Spt)) = true) ∧ ((decide (y.2.2 = 0) && eqL y.1 ({ grp := 2, node := 0, pages := 1 : Spt } :: { grp := 2, node := 1, pages := 5 : Spt } :: { grp := 3, node := 0, pages := 5 : Spt } :: NilL Spt) && decide (y_1.2.2 = 20)) = true → (decide (y.2.2 = 0) && eqL y.1 ({ grp := 2, node := 0, pages := 1 : Spt } :: { grp := 2, node := 1, pages := 5 : Spt } :: { grp := 3, node := 0, pages := 5 : Spt } :: NilL Spt) && decide (y_1.2.2 = 20)) = true) ∧ ((decide (y.2.2 = 0) && eqL y.1 ({ grp := 2, node := 0, pages := 1 : Spt } :: { grp := 2, node := 1, pages := 5 : Spt } :: { grp := 3, node := 0, pages := 5 : Spt } :: NilL Spt) && decide (y_1.2.2 = 20)) = true → (decide (y.2.2 = 0) && eqL y.1 ({ grp := 2, node := 0, pages := 1 : Spt } :: { grp := 2, node := 1, pages := 5 : Spt } :: { grp := 3, node := 0, pages := 5 : Spt } :: NilL Spt) && decide (y_1.2.2 = 20)) = true) ∧ ((decide (y.2.2 = 0) && eqL y.1 ({ grp := 2, node := 0, pages := 1 : Spt } :: { grp := 2, node := 1, pages := 5 : Spt } :: { grp := 3, node := 0, pages := 5 : Spt } :: NilL Spt) && decide (y_1.2.2 = 20)) = true → y_1.2.1.length ≤ (9223372036854775807 : Nat) ∧ (0 :: NilL Int).length ≤ (9223372036854775807 : Nat)) ∧ ((decide (y.2.2 = 0) && eqL y.1 ({ grp := 2, node := 0, pages := 1 : Spt } :: { grp := 2, node := 1, pages := 5 : Spt } :: { grp := 3, node := 0, pages := 5 : Spt } :: NilL Spt) && decide (y_1.2.2 = 20)) = true → (decide (y.2.2 = 0) && eqL y.1 ({ grp := 2, node := 0, pages := 1 : Spt } :: { grp := 2, node := 1, pages := 5 : Spt } :: { grp := 3, node := 0, pages := 5 : Spt } :: NilL Spt) && decide (y_1.2.2 = 20)) = true) ∧ ((decide (y.2.2 = 0) && eqL y.1 ({ grp := 2, node := 0, pages := 1 : Spt } :: { grp := 2, node := 1, pages := 5 : Spt } :: { grp := 3, node := 0, pages := 5 : Spt } :: NilL Spt) && decide (y_1.2.2 = 20) && eqL y_1.2.1 (0 :: NilL Int)) = true → (decide (y.2.2 = 0) && eqL y.1 ({ grp := 2, node := 0, pages := 1 : Spt } :: { grp := 2, node := 1, pages := 5 : Spt } :: { grp := 3, node := 0, pages := 5 : Spt } :: NilL Spt) && decide (y_1.2.2 = 20) && eqL y_1.2.1 (0 :: NilL Int)) = true) ∧ ((decide (y.2.2 = 0) && eqL y.1 ({ grp := 2, node := 0, pages := 1 : Spt } :: { grp := 2, node := 1, pages := 5 : Spt } :: { grp := 3, node := 0, pages := 5 : Spt } :: NilL Spt) && decide (y_1.2.2 = 20) && eqL y_1.2.1 (0 :: NilL Int)) = true → (decide (y.2.2 = 0) && eqL y.1 ({ grp := 2, node := 0, pages := 1 : Spt } :: { grp := 2, node := 1, pages := 5 : Spt } :: { grp := 3, node := 0, pages := 5 : Spt } :: NilL Spt) && decide (y_1.2.2 = 20) && eqL y_1.2.1 (0 :: NilL Int)) = true) ∧ ((decide (y.2.2 = 0) && eqL y.1 ({ grp := 2, node := 0, pages := 1 : Spt } :: { grp := 2, node := 1, pages := 5 : Spt } :: { grp := 3, node := 0, pages := 5 : Spt } :: NilL Spt) && decide (y_1.2.2 = 20) && eqL y_1.2.1 (0 :: NilL Int) && decide (y_2.2.2 = 0)) = true → (decide (y.2.2 = 0) && eqL y.1 ({ grp := 2, node := 0, pages := 1 : Spt } :: { grp := 2, node := 1, pages := 5 : Spt } :: { grp := 3, node := 0, pages := 5 : Spt } :: NilL Spt) && decide (y_1.2.2 = 20) && eqL y_1.2.1 (0 :: NilL Int) && decide (y_2.2.2 = 0)) = true) ∧ ((decide (y.2.2 = 0) && eqL y.1 ({ grp := 2, node := 0, pages := 1 : Spt } :: { grp := 2, node := 1, pages := 5 : Spt } :: { grp := 3, node := 0, pages := 5 : Spt } :: NilL Spt) && decide (y_1.2.2 = 20) && eqL y_1.2.1 (0 :: NilL Int) && decide (y_2.2.2 = 0)) = true → (decide (y.2.2 = 0) && eqL y.1 ({ grp := 2, node := 0, pages := 1 : Spt } :: { grp := 2, node := 1, pages := 5 : Spt } :: { grp := 3, node := 0, pages := 5 : Spt } :: NilL Spt) && decide (y_1.2.2 = 20) && eqL y_1.2.1 (0 :: NilL Int) && decide (y_2.2.2 = 0)) = true) ∧ ((decide (y.2.2 = 0) && eqL y.1 ({ grp := 2, node := 0, pages := 1 : Spt } :: { grp := 2, node := 1, pages := 5 : Spt } :: { grp := 3, node := 0, pages := 5 : Spt } :: NilL Spt) && decide (y_1.2.2 = 20) && eqL y_1.2.1 (0 :: NilL Int) && decide (y_2.2.2 = 0)) = true → (decide (y.2.2 = 0) && eqL y.1 ({ grp := 2, node := 0, pages := 1 : Spt } :: { grp := 2, node := 1, pages := 5 : Spt } :: { grp := 3, node := 0, pages := 5 : Spt } :: NilL Spt) && decide (y_1.2.2 = 20) && eqL y_1.2.1 (0 :: NilL Int) && decide (y_2.2.2 = 0)) = true) ∧ ((decide (y.2.2 = 0) && eqL y.1 ({ grp := 2, node := 0, pages := 1 : Spt } :: { grp := 2, node := 1, pages := 5 : Spt } :: { grp := 3, node := 0, pages := 5 : Spt } :: NilL Spt) && decide (y_1.2.2 = 20) && eqL y_1.2.1 (0 :: NilL Int) && decide (y_2.2.2 = 0) && decide ((↑y_2.1.length : Int) = 0)) = true → (decide (y.2.2 = 0) && eqL y.1 ({ grp := 2, node := 0, pages := 1 : Spt } :: { grp := 2, node := 1, pages := 5 : Spt } :: { grp := 3, node := 0, pages := 5 : Spt } :: NilL Spt) && decide (y_1.2.2 = 20) && eqL y_1.2.1 (0 :: NilL Int) && decide (y_2.2.2 = 0) && decide ((↑y_2.1.length : Int) = 0)) = true) ∧ ((decide (y.2.2 = 0) && eqL y.1 ({ grp := 2, node := 0, pages := 1 : Spt } :: { grp := 2, node := 1, pages := 5 : Spt } :: { grp := 3, node := 0, pages := 5 : Spt } :: NilL Spt) && decide (y_1.2.2 = 20) && eqL y_1.2.1 (0 :: NilL Int) && decide (y_2.2.2 = 0) && decide ((↑y_2.1.length : Int) = 0)) = true → (decide (y.2.2 = 0) && eqL y.1 ({ grp := 2, node := 0, pages := 1 : Spt } :: { grp := 2, node := 1, pages := 5 : Spt } :: { grp := 3, node := 0, pages := 5 : Spt } :: NilL Spt) && decide (y_1.2.2 = 20) && eqL y_1.2.1 (0 :: NilL Int) && decide (y_2.2.2 = 0) && decide ((↑y_2.1.length : Int) = 0)) = true) ∧ ((decide (y.2.2 = 0) && eqL y.1 ({ grp := 2, node := 0, pages := 1 : Spt } :: { grp := 2, node := 1, pages := 5 : Spt } :: { grp := 3, node := 0, pages := 5 : Spt } :: NilL Spt) && decide (y_1.2.2 = 20) && eqL y_1.2.1 (0 :: NilL Int) && decide (y_2.2.2 = 0) && decide ((↑y_2.1.length : Int) = 0)) = true → SB y.1 ∧ SB y.1) ∧ ((decide (y.2.2 = 0) && eqL y.1 ({ grp := 2, node := 0, pages := 1 : Spt } :: { grp := 2, node := 1, pages := 5 : Spt } :: { grp := 3, node := 0, pages := 5 : Spt } :: NilL Spt) && decide (y_1.2.2 = 20) && eqL y_1.2.1 (0 :: NilL Int) && decide (y_2.2.2 = 0) && decide ((↑y_2.1.length : Int) = 0)) = true → (decide (y.2.2 = 0) && eqL y.1 ({ grp := 2, node := 0, pages := 1 : Spt } :: { grp := 2, node := 1, pages := 5 : Spt } :: { grp := 3, node := 0, pages := 5 : Spt } :: NilL Spt) && decide (y_1.2.2 = 20) && eqL y_1.2.1 (0 :: NilL Int) && decide (y_2.2.2 = 0) && decide ((↑y_2.1.length : Int) = 0)) = true) ∧ ((decide (y.2.2 = 0) && eqL y.1 ({ grp := 2, node := 0, pages := 1 : Spt } :: { grp := 2, node := 1, pages := 5 : Spt } :: { grp := 3, node := 0, pages := 5 : Spt } :: NilL Spt) && decide (y_1.2.2 = 20) && eqL y_1.2.1 (0 :: NilL Int) && decide (y_2.2.2 = 0) && decide ((↑y_2.1.length : Int) = 0)) = true → (decide (y.2.2 = 0) && eqL y.1 ({ grp := 2, node := 0, pages := 1 : Spt } :: { grp := 2, node := 1, pages := 5 : Spt } :: { grp := 3, node := 0, pages := 5 : Spt } :: NilL Spt) && decide (y_1.2.2 = 20) && eqL y_1.2.1 (0 :: NilL Int) && decide (y_2.2.2 = 0) && decide ((↑y_2.1.length : Int) = 0)) = true) ∧ ∃ (y_3 : Unit), True ∧ (decide (y.2.2 = 0) && eqL y.1 ({ grp := 2, node := 0, pages := 1 : Spt } :: { grp := 2, node := 1, pages := 5 : Spt } :: { grp := 3, node := 0, pages := 5 : Spt } :: NilL Spt) && decide (y_1.2.2 = 20) && eqL y_1.2.1 (0 :: NilL Int) && decide (y_2.2.2 = 0) && decide ((↑y_2.1.length : Int) = 0) && decide (moves y.1 y.1 = 0)) = true) = sSane.vc (EV Try.prog [(13, sPlace.spec), (16, sSameS.spec), (17, sSameI.spec), (15, sMoves.spec)] noInv noInv) Try.f10 () := by kernel_rfl
  rw [← e]
  clear e
  simp only [imp_self, true_and, exists_const, implies_true]
  try simp only [NilL_eq]
  have v65 : VOK dEx aEx [6, 5] := vokEx (by omega) (by omega)
  have v49 : VOK dEx aEx [4, 9] := vokEx (by omega) (by omega)
  refine ⟨v65.sml, fun y hy => ⟨v49.sml, fun y1 hy1 => ⟨vok0.sml, fun y2 hy2 => ?_⟩⟩⟩
  obtain ⟨a1, a2, a3⟩ := PlaceR.ok hy v65 noRef65
  obtain ⟨c1, c2, c3⟩ := PlaceR.ok hy2 vok0 noRef0
  have b : y1.2.2 = 20 ∧ y1.2.1 = [0] := by
    rcases PlaceR.err hy1 v49 with h | h
    · exact (hallI h.2.1 isRef49).elim
    · exact ⟨h.1, ref49 h.2.2⟩
  have sb := (a1.sb v65).1
  have mv := moves_self v65 a1
  rw [isPl65 a1] at sb mv
  rw [isPl65 a1, isPl0 c1, a3, b.1, b.2, c3, mv]
  exact ⟨fun _ => ⟨by decide, by decide⟩, fun _ => ⟨by decide, by decide⟩, fun _ => ⟨sb, sb⟩, rfl⟩
end Go.Proofs.Ytompifpamldjaaa

namespace Go.Proofs.Ytompifpamldjaaa
open Go
set_option linter.unusedVariables false

def contC (s : St) (v : AV) : List Chg := match v with
  | .nsl => []
  | v => match contentA s.h v with
    | some ⟨3, l⟩ => l
    | _ => []
def contN (s : St) (v : AV) : List NSet := match v with
  | .nsl => []
  | v => match contentA s.h v with
    | some ⟨4, l⟩ => l
    | _ => []
def contP (s : St) (v : AV) : List Spt := match v with
  | .nsl => []
  | v => match contentA s.h v with
    | some ⟨5, l⟩ => l
    | _ => []
def sLaw28 : DS := ⟨_, one pkIntsP, fun _ => True, fun _ => .bool true, nou⟩
def ownN (C : List Chg) (i : Nat) : Int := sumF (ownAt C) i
def ldN (p : List Spt) (i : Nat) : Int := sumF (fun j => loadS p (j : Int)) i
theorem VOK.setCap {C : List Chg} {A : List NSet} {cap cap' : List Int} (h : VOK C A cap) (hl : cap'.length = cap.length) (hb : ∀ j, j < cap'.length → 0 ≤ nth cap' j ∧ nth cap' j ≤ 16777216) : VOK C A cap' :=
  ⟨by rw [hl]; exact h.c1, by rw [hl]; exact h.c8, h.d64, h.la, hb, fun i hi => by rw [hl]; exact h.chg i hi⟩
theorem MadeD.cap1 {y : List Chg × List NSet × List Int} (h : MadeD y) (j : Nat) : 0 ≤ nth y.2.2 j ∧ nth y.2.2 j ≤ 100 := by
  by_cases hj : j < y.2.2.length
  · exact h.cap _ (nth_mem hj)
  · rw [nth_out (by omega)]; omega
theorem MadeD.up {y : List Chg × List NSet × List Int} (h : MadeD y) {a : Nat} {d : Int} (ha : a < y.2.2.length) (h0 : 0 ≤ d) (h1 : d ≤ 100) : VOK y.1 y.2.1 (y.2.2.set a (nth y.2.2 a + d)) := by
  refine h.vok.setCap (by simp) fun j hj => ?_
  rw [nth_set ha]
  have h2 := h.cap1 a
  have h3 := h.cap1 j
  split <;> omega


set_option maxRecDepth 100000 in
theorem vc3 (L : List Int) (hx : True) : sLaw28.vc (EV Try.prog [(9, sLight.spec), (10, sSane.spec), (11, sRoll.spec), (12, sDem.spec), (13, sPlace.spec), (14, sNext.spec), (15, sMoves.spec), (16, sSameS.spec)] noInv noInv) Try.f3 (L, ()) := by
  have e : (True ∧ ((!decide ((↑L.length : Int) ≤ 600)) = true → True ∧ ∃ (y : Unit), True ∧ true = true) ∧ ((!decide ((↑L.length : Int) ≤ 600)) = false → True ∧ DOK (L, 0) ∧ (∀ (y : (List Chg × List NSet × List Int) × Int), true = true) ∧ ∀ (y : (List Chg × List NSet × List Int) × Int), MadeD y.1 ∧ 0 ≤ y.2 ∧ y.2 ≤ (↑L.length : Int) → Sml y.1.1 y.1.2.1 y.1.2.2 ∧ (∀ (y : List Spt × List Int × Int), true = true) ∧ ∀ (y_1 : List Spt × List Int × Int), PlaceR y.1.1 y.1.2.1 y.1.2.2 y_1 → y.1.2.2.length ≤ (68719476736 : Nat) ∧ (DOK (L, y.2) ∧ (↑y.1.2.2.length : Int) ≤ 4611686018427387904) ∧ (∀ (y : Int × Int), true = true) ∧ ∀ (y_2 : Int × Int), (1 ≤ (↑y.1.2.2.length : Int) → 0 ≤ y_2.1 ∧ y_2.1 < (↑y.1.2.2.length : Int)) ∧ ((↑y.1.2.2.length : Int) < 1 → y_2.1 = 0) ∧ y.2 ≤ y_2.2 ∧ y_2.2 ≤ (↑L.length : Int) → (0 ≤ y_2.1 ∧ y_2.1 < (↑y.1.2.2.length : Int)) ∧ i64R (y.1.2.2.getD y_2.1.toNat (0 : Int) + 50) ∧ (0 ≤ y_2.1 ∧ y_2.1 < (↑y.1.2.2.length : Int)) ∧ Sml y.1.1 y.1.2.1 (y.1.2.2.set y_2.1.toNat (y.1.2.2.getD y_2.1.toNat (0 : Int) + 50)) ∧ (∀ (y : List Spt × List Int × Int), true = true) ∧ ∀ (y_3 : List Spt × List Int × Int), PlaceR y.1.1 y.1.2.1 (y.1.2.2.set y_2.1.toNat (y.1.2.2.getD y_2.1.toNat (0 : Int) + 50)) y_3 → ((!decide (y_1.2.2 = 0)) = false → (!decide (y_1.2.2 = 0)) = false) ∧ ((!decide (y_1.2.2 = 0)) = false → (!decide (y_1.2.2 = 0)) = false) ∧ ((!decide (y_1.2.2 = 0) || !decide (y_3.2.2 = 0)) = true → (decide (y_1.2.2 = 0) = false → decide (y_1.2.2 = 0) = false) ∧ (decide (y_1.2.2 = 0) = false → decide (y_1.2.2 = 0) = false) ∧ ((decide (y_1.2.2 = 0) || decide (y_1.2.2 = 20)) = true → (decide (y_1.2.2 = 0) || decide (y_1.2.2 = 20)) = true) ∧ ((decide (y_1.2.2 = 0) || decide (y_1.2.2 = 20)) = true → (decide (y_1.2.2 = 0) || decide (y_1.2.2 = 20)) = true) ∧ (((decide (y_1.2.2 = 0) || decide (y_1.2.2 = 20)) && !decide (y_3.2.2 = 0)) = true → ((decide (y_1.2.2 = 0) || decide (y_1.2.2 = 20)) && !decide (y_3.2.2 = 0)) = true) ∧ ((decide (y_1.2.2 = 0) || decide (y_1.2.2 = 20)) = true → (decide (y_1.2.2 = 0) || decide (y_1.2.2 = 20)) = true) ∧ ((decide (y_1.2.2 = 0) || decide (y_1.2.2 = 20)) = true → decide (y_3.2.2 = 0) = false → ((decide (y_1.2.2 = 0) || decide (y_1.2.2 = 20)) && !decide (y_3.2.2 = 0)) = true) ∧ ((decide (y_1.2.2 = 0) || decide (y_1.2.2 = 20)) = true → (decide (y_1.2.2 = 0) || decide (y_1.2.2 = 20)) = true) ∧ (((decide (y_1.2.2 = 0) || decide (y_1.2.2 = 20)) && (decide (y_3.2.2 = 0) || decide (y_3.2.2 = 20))) = true → True) ∧ (((decide (y_1.2.2 = 0) || decide (y_1.2.2 = 20)) && (decide (y_3.2.2 = 0) || decide (y_3.2.2 = 20))) = true → ((decide (y_1.2.2 = 0) || decide (y_1.2.2 = 20)) && (decide (y_3.2.2 = 0) || decide (y_3.2.2 = 20))) = true) ∧ ∃ (y : Unit), True ∧ ((decide (y_1.2.2 = 0) || decide (y_1.2.2 = 20)) && (decide (y_3.2.2 = 0) || decide (y_3.2.2 = 20)) && true) = true) ∧ ((!decide (y_1.2.2 = 0) || !decide (y_3.2.2 = 0)) = false → (SB y_1.1 ∧ SB y_3.1) ∧ (SB y_3.1 ∧ SB y_1.1) ∧ (decide (moves y_1.1 y_3.1 = moves y_3.1 y_1.1) = true → decide (moves y_1.1 y_3.1 = moves y_3.1 y_1.1) = true) ∧ (decide (moves y_1.1 y_3.1 = moves y_3.1 y_1.1) = true → decide (moves y_1.1 y_3.1 = moves y_3.1 y_1.1) = true) ∧ ((decide (moves y_1.1 y_3.1 = moves y_3.1 y_1.1) && decide (0 ≤ moves y_1.1 y_3.1)) = true → (decide (moves y_1.1 y_3.1 = moves y_3.1 y_1.1) && decide (0 ≤ moves y_1.1 y_3.1)) = true) ∧ ((decide (moves y_1.1 y_3.1 = moves y_3.1 y_1.1) && decide (0 ≤ moves y_1.1 y_3.1)) = true → (decide (moves y_1.1 y_3.1 = moves y_3.1 y_1.1) && decide (0 ≤ moves y_1.1 y_3.1)) = true) ∧ ((decide (moves y_1.1 y_3.1 = moves y_3.1 y_1.1) && decide (0 ≤ moves y_1.1 y_3.1)) = true → (decide (moves y_1.1 y_3.1 = moves y_3.1 y_1.1) && decide (0 ≤ moves y_1.1 y_3.1)) = true) ∧ ((decide (moves y_1.1 y_3.1 = moves y_3.1 y_1.1) && decide (0 ≤ moves y_1.1 y_3.1)) = true → y_1.1.length ≤ (9223372036854775807 : Nat) ∧ y_3.1.length ≤ (9223372036854775807 : Nat)) ∧ ((decide (moves y_1.1 y_3.1 = moves y_3.1 y_1.1) && decide (0 ≤ moves y_1.1 y_3.1)) = true → (decide (moves y_1.1 y_3.1 = moves y_3.1 y_1.1) && decide (0 ≤ moves y_1.1 y_3.1)) = true) ∧ ((decide (moves y_1.1 y_3.1 = moves y_3.1 y_1.1) && decide (0 ≤ moves y_1.1 y_3.1)) = true → (decide (moves y_1.1 y_3.1 = moves y_3.1 y_1.1) && decide (0 ≤ moves y_1.1 y_3.1)) = true) ∧ ((decide (moves y_1.1 y_3.1 = moves y_3.1 y_1.1) && decide (0 ≤ moves y_1.1 y_3.1)) = true → (decide (moves y_1.1 y_3.1 = moves y_3.1 y_1.1) && decide (0 ≤ moves y_1.1 y_3.1)) = true) ∧ ((decide (moves y_1.1 y_3.1 = moves y_3.1 y_1.1) && decide (0 ≤ moves y_1.1 y_3.1) && decide (moves y_1.1 y_3.1 = 0) == eqL y_1.1 y_3.1) = true → True) ∧ ((decide (moves y_1.1 y_3.1 = moves y_3.1 y_1.1) && decide (0 ≤ moves y_1.1 y_3.1) && decide (moves y_1.1 y_3.1 = 0) == eqL y_1.1 y_3.1) = true → (decide (moves y_1.1 y_3.1 = moves y_3.1 y_1.1) && decide (0 ≤ moves y_1.1 y_3.1) && decide (moves y_1.1 y_3.1 = 0) == eqL y_1.1 y_3.1) = true) ∧ ∃ (y : Unit), True ∧ (decide (moves y_1.1 y_3.1 = moves y_3.1 y_1.1) && decide (0 ≤ moves y_1.1 y_3.1) && decide (moves y_1.1 y_3.1 = 0) == eqL y_1.1 y_3.1 && true) = true))) = sLaw28.vc (EV Try.prog [(9, sLight.spec), (10, sSane.spec), (11, sRoll.spec), (12, sDem.spec), (13, sPlace.spec), (14, sNext.spec), (15, sMoves.spec), (16, sSameS.spec)] noInv noInv) Try.f3 (L, ()) := by kernel_rfl
  rw [← e]
  clear e
  simp only [imp_self, true_and, and_true, exists_const, implies_true]
  try simp only [Prod.forall, and_true, i64R, Int.reduceNeg, decide_eq_true_eq, decide_eq_false_iff_not, Bool.not_eq_true', Bool.not_eq_false', Bool.and_eq_true, Bool.or_eq_true, Bool.or_eq_false_iff ]
  try simp only [NilL_eq]
  intro hL
  have hd : ∀ j : Int, 0 ≤ j → j ≤ L.length → DOK (L, j) := fun j h1 h2 => ⟨h1, h2, by show L.length ≤ 600; omega⟩
  refine ⟨hd 0 (by omega) (by omega), fun C A cap j1 hM => ?_⟩
  obtain ⟨hM, m0, m1⟩ := hM
  have hv : VOK C A cap := hM.vok
  have c1 := hv.c1
  have c8 := hv.c8
  refine ⟨hv.sml, fun p n e hp => ⟨by omega, ⟨hd _ (by omega) (by omega), by omega⟩, fun a j2 h2 => ?_⟩⟩
  have ha := h2.1 (by omega)
  have hb : 0 ≤ nth cap a.toNat ∧ nth cap a.toNat ≤ 100 := hM.cap1 a.toNat
  have hv' : VOK C A (cap.set a.toNat (cap.getD a.toNat 0 + 50)) := hM.up (a := a.toNat) (d := 50) (by show a.toNat < cap.length; omega) (by omega) (by omega)
  refine ⟨ha, ⟨by show -9223372036854775808 ≤ nth cap a.toNat + 50; omega, by show nth cap a.toNat + 50 ≤ 9223372036854775807; omega⟩, ha, hv'.sml, fun q n' e' hq => ?_⟩
  have he : e = 0 ∨ e = 20 := (hp.err hv).elim (fun h => .inl h.1) (fun h => .inr h.1)
  have he' : e' = 0 ∨ e' = 20 := (hq.err hv').elim (fun h => .inl h.1) (fun h => .inr h.1)
  refine ⟨fun h => ⟨fun h1 h2 => ⟨h1, h2⟩, he, he'⟩, fun h => ?_⟩
  have ip : IsPl C A cap p := (hp.err hv).elim (fun h => h.2.1) (fun h' => by have : e = 20 := h'.1; omega)
  have iq : IsPl C A (cap.set a.toNat (cap.getD a.toNat 0 + 50)) q := (hq.err hv').elim (fun h => h.2.1) (fun h' => by have : e' = 20 := h'.1; omega)
  have sp := ip.sb hv
  have sq := iq.sb hv'
  obtain ⟨mb1, mb2, mb3⟩ := moves_both hv ip iq (by simp)
  refine ⟨⟨sp.1, sq.1⟩, ⟨sq.1, sp.1⟩, fun _ => ⟨by omega, by omega⟩, ⟨mb1, mb2⟩, ?_⟩
  rw [mb3]; simp

def inv7a (s : St) : Inv where
  X := Int
  ok := fun i => 0 ≤ i ∧ i ≤ (contC s (s.t 4)).length
  sl := fun i => [(11, .int .i64 i), (10, .int .i64 (ownN (contC s (s.t 4)) i.toNat)), (4, .own 101 3), (6, .own 103 0), (7, .own 105 5)]
  hp := fun i => [(101, .rows 41 3 (contC s (s.t 4))), (103, .rows 3 0 (contI s (s.t 6))), (105, .rows 39 5 (contP s (s.t 7)))]
  keep := []
  me := fun i => ((contC s (s.t 4)).length - i).toNat
def inv7b (s : St) : Inv where
  X := Int
  ok := fun i => 0 ≤ i ∧ i ≤ (contI s (s.t 6)).length
  sl := fun i => [(12, .int .i64 i), (10, .int .i64 (slotI s 10 - ldN (contP s (s.t 7)) i.toNat)), (6, .own 103 0), (7, .own 105 5)]
  hp := fun i => [(103, .rows 3 0 (contI s (s.t 6))), (105, .rows 39 5 (contP s (s.t 7)))]
  keep := []
  me := fun i => ((contI s (s.t 6)).length - i).toNat
set_option maxRecDepth 100000 in
theorem vc7 (L : List Int) (hx : True) : sLaw28.vc (EV Try.prog [(9, sLight.spec), (10, sSane.spec), (11, sRoll.spec), (12, sDem.spec), (13, sPlace.spec), (23, sLoad.spec), (15, sMoves.spec)] (invsS [(10, inv7a), (14, inv7b)]) noInv) Try.f7 (L, ()) := by
  have e : (True ∧ ((!decide ((↑L.length : Int) ≤ 600)) = true → True ∧ ∃ (y : Unit), True ∧ true = true) ∧ ((!decide ((↑L.length : Int) ≤ 600)) = false → True ∧ DOK (L, 0) ∧ (∀ (y : (List Chg × List NSet × List Int) × Int), true = true) ∧ ∀ (y : (List Chg × List NSet × List Int) × Int), MadeD y.1 ∧ 0 ≤ y.2 ∧ y.2 ≤ (↑L.length : Int) → Sml y.1.1 y.1.2.1 y.1.2.2 ∧ (∀ (y : List Spt × List Int × Int), true = true) ∧ ∀ (y_1 : List Spt × List Int × Int), PlaceR y.1.1 y.1.2.1 y.1.2.2 y_1 → ((!decide (y_1.2.2 = 0)) = true → (decide (y_1.2.2 = 20) = true → True) ∧ (decide (y_1.2.2 = 20) = true → decide (y_1.2.2 = 20) = true) ∧ ∃ (y : Unit), True ∧ (decide (y_1.2.2 = 20) && true) = true) ∧ ((!decide (y_1.2.2 = 0)) = false → (∃ (x : Int), (0 ≤ x ∧ x ≤ (↑y.1.1.length : Int)) ∧ 0 = x ∧ 0 = ownN y.1.1 x.toNat ∧ y.1.1 = y.1.1 ∧ y.1.2.2 = y.1.2.2 ∧ y_1.1 = y_1.1) ∧ ∀ (x : Int), 0 ≤ x ∧ x ≤ (↑y.1.1.length : Int) → (decide (x < (↑y.1.1.length : Int)) = true → (0 ≤ x ∧ x < (↑y.1.1.length : Int)) ∧ i64R (ownN y.1.1 x.toNat + (y.1.1.getD x.toNat { grp := 0, own := 0 : Chg }).own) ∧ i64R (x + 1) ∧ ∃ (x' : Int), (0 ≤ x' ∧ x' ≤ (↑y.1.1.length : Int)) ∧ ((↑y.1.1.length : Int) - x').toNat < ((↑y.1.1.length : Int) - x).toNat ∧ x + 1 = x' ∧ ownN y.1.1 x.toNat + (y.1.1.getD x.toNat { grp := 0, own := 0 : Chg }).own = ownN y.1.1 x'.toNat ∧ y.1.1 = y.1.1 ∧ y.1.2.2 = y.1.2.2 ∧ y_1.1 = y_1.1) ∧ (decide (x < (↑y.1.1.length : Int)) = false → (∃ (x_1 : Int), (0 ≤ x_1 ∧ x_1 ≤ (↑y.1.2.2.length : Int)) ∧ 0 = x_1 ∧ ownN y.1.1 x.toNat = ownN y.1.1 x.toNat - ldN y_1.1 x_1.toNat ∧ y.1.2.2 = y.1.2.2 ∧ y_1.1 = y_1.1) ∧ ∀ (x_1 : Int), 0 ≤ x_1 ∧ x_1 ≤ (↑y.1.2.2.length : Int) → (decide (x_1 < (↑y.1.2.2.length : Int)) = true → SB y_1.1 ∧ (decide (loadS y_1.1 x_1 < 0) = false → decide (loadS y_1.1 x_1 < 0) = false) ∧ (decide (loadS y_1.1 x_1 < 0) = false → decide (loadS y_1.1 x_1 < 0) = false) ∧ (decide (loadS y_1.1 x_1 < 0) = false → 0 ≤ x_1 ∧ x_1 < (↑y.1.2.2.length : Int)) ∧ (decide (loadS y_1.1 x_1 < 0) = false → decide (loadS y_1.1 x_1 < 0) = false) ∧ (decide (loadS y_1.1 x_1 < 0) = false → decide (loadS y_1.1 x_1 < 0) = false) ∧ (decide (loadS y_1.1 x_1 < 0) = false → decide (loadS y_1.1 x_1 < 0) = false) ∧ (decide (loadS y_1.1 x_1 < 0) = false → decide (loadS y_1.1 x_1 < 0) = false) ∧ ((decide (loadS y_1.1 x_1 < 0) || decide (nth y.1.2.2 x_1.toNat < loadS y_1.1 x_1)) = true → ∃ (y : Unit), True ∧ false = true) ∧ ((decide (loadS y_1.1 x_1 < 0) || decide (nth y.1.2.2 x_1.toNat < loadS y_1.1 x_1)) = false → i64R (ownN y.1.1 x.toNat - ldN y_1.1 x_1.toNat - loadS y_1.1 x_1) ∧ i64R (x_1 + 1) ∧ ∃ (x' : Int), (0 ≤ x' ∧ x' ≤ (↑y.1.2.2.length : Int)) ∧ ((↑y.1.2.2.length : Int) - x').toNat < ((↑y.1.2.2.length : Int) - x_1).toNat ∧ x_1 + 1 = x' ∧ ownN y.1.1 x.toNat - ldN y_1.1 x_1.toNat - loadS y_1.1 x_1 = ownN y.1.1 x.toNat - ldN y_1.1 x'.toNat ∧ y.1.2.2 = y.1.2.2 ∧ y_1.1 = y_1.1)) ∧ (decide (x_1 < (↑y.1.2.2.length : Int)) = false → (decide (ownN y.1.1 x.toNat - ldN y_1.1 x_1.toNat = 0) = true → decide (ownN y.1.1 x.toNat - ldN y_1.1 x_1.toNat = 0) = true) ∧ (decide (ownN y.1.1 x.toNat - ldN y_1.1 x_1.toNat = 0) = true → SB (NilL Spt) ∧ SB y_1.1) ∧ (decide (ownN y.1.1 x.toNat - ldN y_1.1 x_1.toNat = 0) = true → decide (ownN y.1.1 x.toNat - ldN y_1.1 x_1.toNat = 0) = true) ∧ (decide (ownN y.1.1 x.toNat - ldN y_1.1 x_1.toNat = 0) = true → decide (ownN y.1.1 x.toNat - ldN y_1.1 x_1.toNat = 0) = true) ∧ (decide (ownN y.1.1 x.toNat - ldN y_1.1 x_1.toNat = 0) = true → decide (ownN y.1.1 x.toNat - ldN y_1.1 x_1.toNat = 0) = true) ∧ (decide (ownN y.1.1 x.toNat - ldN y_1.1 x_1.toNat = 0) = true → decide (ownN y.1.1 x.toNat - ldN y_1.1 x_1.toNat = 0) = true) ∧ ((decide (ownN y.1.1 x.toNat - ldN y_1.1 x_1.toNat = 0) && decide ((↑y_1.1.length : Int) ≤ moves (NilL Spt) y_1.1)) = true → (decide (ownN y.1.1 x.toNat - ldN y_1.1 x_1.toNat = 0) && decide ((↑y_1.1.length : Int) ≤ moves (NilL Spt) y_1.1)) = true) ∧ ((decide (ownN y.1.1 x.toNat - ldN y_1.1 x_1.toNat = 0) && decide ((↑y_1.1.length : Int) ≤ moves (NilL Spt) y_1.1)) = true → SB y_1.1 ∧ SB (NilL Spt)) ∧ ((decide (ownN y.1.1 x.toNat - ldN y_1.1 x_1.toNat = 0) && decide ((↑y_1.1.length : Int) ≤ moves (NilL Spt) y_1.1)) = true → (decide (ownN y.1.1 x.toNat - ldN y_1.1 x_1.toNat = 0) && decide ((↑y_1.1.length : Int) ≤ moves (NilL Spt) y_1.1)) = true) ∧ ((decide (ownN y.1.1 x.toNat - ldN y_1.1 x_1.toNat = 0) && decide ((↑y_1.1.length : Int) ≤ moves (NilL Spt) y_1.1)) = true → (decide (ownN y.1.1 x.toNat - ldN y_1.1 x_1.toNat = 0) && decide ((↑y_1.1.length : Int) ≤ moves (NilL Spt) y_1.1)) = true) ∧ ((decide (ownN y.1.1 x.toNat - ldN y_1.1 x_1.toNat = 0) && decide ((↑y_1.1.length : Int) ≤ moves (NilL Spt) y_1.1) && decide (moves y_1.1 (NilL Spt) = 0)) = true → True) ∧ ((decide (ownN y.1.1 x.toNat - ldN y_1.1 x_1.toNat = 0) && decide ((↑y_1.1.length : Int) ≤ moves (NilL Spt) y_1.1) && decide (moves y_1.1 (NilL Spt) = 0)) = true → (decide (ownN y.1.1 x.toNat - ldN y_1.1 x_1.toNat = 0) && decide ((↑y_1.1.length : Int) ≤ moves (NilL Spt) y_1.1) && decide (moves y_1.1 (NilL Spt) = 0)) = true) ∧ ∃ (y_2 : Unit), True ∧ (decide (ownN y.1.1 x.toNat - ldN y_1.1 x_1.toNat = 0) && decide ((↑y_1.1.length : Int) ≤ moves (NilL Spt) y_1.1) && decide (moves y_1.1 (NilL Spt) = 0) && true) = true))))) = sLaw28.vc (EV Try.prog [(9, sLight.spec), (10, sSane.spec), (11, sRoll.spec), (12, sDem.spec), (13, sPlace.spec), (23, sLoad.spec), (15, sMoves.spec)] (invsS [(10, inv7a), (14, inv7b)]) noInv) Try.f7 (L, ()) := by kernel_rfl
  rw [← e]
  clear e
  simp only [imp_self, true_and, and_true, exists_const, implies_true]
  try simp only [Prod.forall, and_true, i64R, Int.reduceNeg, decide_eq_true_eq, decide_eq_false_iff_not, Bool.not_eq_true', Bool.not_eq_false', Bool.false_eq_true, Bool.and_eq_true, Bool.or_eq_true, Bool.or_eq_false_iff ]
  try simp only [NilL_eq]
  intro hL
  have hd : ∀ j : Int, 0 ≤ j → j ≤ L.length → DOK (L, j) := fun j h1 h2 => ⟨h1, h2, by show L.length ≤ 600; omega⟩
  refine ⟨hd 0 (by omega) (by omega), fun C A cap j1 hM => ?_⟩
  obtain ⟨hM, m0, m1⟩ := hM
  have hv : VOK C A cap := hM.vok
  have c8 := hv.c8
  have d64 := hv.d64
  refine ⟨hv.sml, fun p n e hp => ⟨fun h => (hp.err hv).elim (fun h' => absurd h'.1 h) (fun h' => h'.1), fun h => ⟨⟨0, by omega, rfl, rfl⟩, fun i hi => ?_⟩⟩⟩
  have ip : IsPl C A cap p := (hp.err hv).elim (fun h => h.2.1) (fun h' => by have : e = 20 := h'.1; omega)
  have sp := (ip.sb hv).1
  obtain ⟨l1, l2⟩ := ip.loads
  have ob : ∀ i : Nat, 0 ≤ ownAt C i ∧ ownAt C i ≤ 16777216 := fun i => by
    by_cases h : i < C.length
    · have := (hv.chg i h).2.2; omega
    · have : ownAt C i = 0 := by unfold ownAt; rw [List.getD_eq_getElem?_getD, List.getElem?_eq_none (by omega)]; rfl
      omega
  have onb : ∀ i : Nat, i ≤ 64 → 0 ≤ ownN C i ∧ ownN C i ≤ 16777216 * 64 := fun i hi => by
    have h1 := sumF_bnd (f := ownAt C) (n := i) (b := 16777216) fun k _ => by have := ob k; omega
    have h2 := sumF_nonneg (f := ownAt C) (n := i) fun k _ => (ob k).1
    unfold ownN; omega
  have lnb : ∀ i : Nat, i ≤ cap.length → 0 ≤ ldN p i ∧ ldN p i ≤ 16777216 * 8 := fun i hi => by
    have hk : ∀ k, k < i → 0 ≤ loadS p (k : Int) ∧ loadS p (k : Int) ≤ 16777216 := fun k hk => by
      have h3 := l1 k (by omega)
      have h4 := hv.capB k
      omega
    have h1 := sumF_bnd (f := fun j => loadS p (j : Int)) (n := i) (b := 16777216) fun k hk' => by have := hk k hk'; omega
    have h2 := sumF_nonneg (f := fun j => loadS p (j : Int)) (n := i) fun k hk' => (hk k hk').1
    unfold ldN; omega
  refine ⟨fun hlt => ?_, fun hge => ⟨⟨0, by omega, rfl, ?_⟩, fun j hj => ⟨fun hlt => ?_, fun hge2 => ?_⟩⟩⟩
  · have h1 := onb i.toNat (by omega)
    have h2 := ob i.toNat
    have h3 : ownN C (i + 1).toNat = ownN C i.toNat + ownAt C i.toNat := by rw [show (i + 1).toNat = i.toNat + 1 by omega]; rfl
    exact ⟨by omega, by show -9223372036854775808 ≤ ownN C i.toNat + ownAt C i.toNat ∧ ownN C i.toNat + ownAt C i.toNat ≤ 9223372036854775807; omega, by omega, i + 1, by omega, by omega, rfl, h3.symm⟩
  · show ownN C i.toNat = ownN C i.toNat - 0
    omega
  · have h0 := l1 j.toNat (by omega)
    have e0 : ((j.toNat : Nat) : Int) = j := by omega
    rw [e0] at h0
    have h1 := onb i.toNat (by omega)
    have h2 := lnb j.toNat (by omega)
    have h4 := hv.capB j.toNat
    have h3 : ldN p (j + 1).toNat = ldN p j.toNat + loadS p j := by
      rw [show (j + 1).toNat = j.toNat + 1 by omega]
      show ldN p j.toNat + loadS p ((j.toNat : Nat) : Int) = _
      rw [e0]
    exact ⟨sp, fun _ => by omega, fun h => by rcases h with h | h <;> omega, fun _ => ⟨by omega, by omega, j + 1, by omega, by omega, rfl, by omega⟩⟩
  · have e1 : i = C.length := by omega
    have e2 : j = cap.length := by omega
    have e3 : ownN C i.toNat - ldN p j.toNat = 0 := by
      rw [e1, e2]
      show sumF (ownAt C) C.length - sumF (fun j => loadS p (j : Int)) cap.length = 0
      omega
    obtain ⟨n1, n2⟩ := moves_nil ip
    exact ⟨fun _ => ⟨SB.nil, sp⟩, fun _ => ⟨sp, SB.nil⟩, ⟨e3, n1⟩, n2⟩
end Go.Proofs.Ytompifpamldjaaa

namespace Go.Proofs.Ytompifpamldjaaa
open Go
set_option linter.unusedVariables false

def sLaw28i : DS := ⟨_, two pkIntsP pkI, fun _ => True, fun _ => .bool true, nou⟩
def setOwn (C : List Chg) (i : Nat) (o : Int) : List Chg := C.set i ⟨grpAt C i, o⟩
def setNds (A : List NSet) (i : Nat) (l : List Int) : List NSet := A.set i ⟨setAt A i, l⟩
theorem getD_set' {α : Type} {l : List α} {i : Nat} (hi : i < l.length) (v d : α) (j : Nat) : (l.set i v).getD j d = if j = i then v else l.getD j d := by
  rw [List.getD_eq_getElem?_getD, List.getD_eq_getElem?_getD, List.getElem?_set]
  by_cases h : i = j
  · subst h; simp [hi]
  · simp [h, Ne.symm h]
theorem setOwn_grp {C : List Chg} {i : Nat} (hi : i < C.length) (o : Int) (j : Nat) : grpAt (setOwn C i o) j = grpAt C j := by
  show (((C.set i (⟨grpAt C i, o⟩ : Chg)).getD j (⟨0, 0⟩ : Chg))).grp = _
  rw [getD_set' hi]
  split
  · rename_i e; rw [e]
  · rfl
theorem setOwn_own {C : List Chg} {i : Nat} (hi : i < C.length) (o : Int) (j : Nat) : ownAt (setOwn C i o) j = if j = i then o else ownAt C j := by
  show (((C.set i (⟨grpAt C i, o⟩ : Chg)).getD j (⟨0, 0⟩ : Chg))).own = _
  rw [getD_set' hi]
  split <;> rfl
theorem setNds_grp {A : List NSet} {i : Nat} (hi : i < A.length) (l : List Int) (j : Nat) : setAt (setNds A i l) j = setAt A j := by
  show (((A.set i (⟨setAt A i, l⟩ : NSet)).getD j (⟨0, []⟩ : NSet))).grp = _
  rw [getD_set' hi]
  split
  · rename_i e; rw [e]
  · rfl
theorem setNds_nds {A : List NSet} {i : Nat} (hi : i < A.length) (l : List Int) (j : Nat) : nodesAt (setNds A i l) j = if j = i then l else nodesAt A j := by
  show (((A.set i (⟨setAt A i, l⟩ : NSet)).getD j (⟨0, []⟩ : NSet))).nodes = _
  rw [getD_set' hi]
  split <;> rfl
theorem VOK.ownTo {C : List Chg} {A : List NSet} {cap : List Int} (h : VOK C A cap) {i : Nat} (hi : i < C.length) {o : Int} (h1 : 1 ≤ o) (h2 : o ≤ 16777216) : VOK (setOwn C i o) A cap := by
  have hl : (setOwn C i o).length = C.length := by simp [setOwn]
  refine ⟨h.c1, h.c8, by rw [hl]; exact h.d64, by rw [hl]; exact h.la, h.cp, fun j hj => ?_⟩
  rw [hl] at hj
  obtain ⟨a1, a2, a3, a4, a5, a6, a7⟩ := h.chg j hj
  unfold chgO
  rw [setOwn_grp hi, setOwn_grp hi, setOwn_own hi]
  refine ⟨a1, a2, ?_, ?_, a5, a6, a7⟩ <;> split <;> omega
theorem VOK.ndsTo {C : List Chg} {A : List NSet} {cap : List Int} (h : VOK C A cap) {i : Nat} (hi : i < A.length) {l : List Int} (h1 : l ≠ []) (h2 : Asc l cap.length) : VOK C (setNds A i l) cap := by
  have hl : (setNds A i l).length = A.length := by simp [setNds]
  refine ⟨h.c1, h.c8, h.d64, by rw [hl]; exact h.la, h.cp, fun j hj => ?_⟩
  obtain ⟨a1, a2, a3, a4, a5, a6, a7⟩ := h.chg j hj
  unfold chgO
  rw [setNds_grp hi, setNds_nds hi]
  refine ⟨a1, a2, a3, a4, a5, ?_, ?_⟩ <;> split <;> assumption


set_option maxRecDepth 100000 in
theorem vc6 (L : List Int) (i : Int) (hx : True) : sLaw28i.vc (EV Try.prog [(9, sLight.spec), (10, sSane.spec), (11, sRoll.spec), (12, sDem.spec), (13, sPlace.spec), (14, sNext.spec), (21, sUnion.spec), (22, sSetD.spec)] noInv noInv) Try.f6 (L, i, ()) := by
  have e : (True ∧ ((!decide ((↑L.length : Int) ≤ 600)) = true → True ∧ ∃ (y : Unit), True ∧ true = true) ∧ ((!decide ((↑L.length : Int) ≤ 600)) = false → True ∧ DOK (L, 0) ∧ (∀ (y : (List Chg × List NSet × List Int) × Int), true = true) ∧ ∀ (y : (List Chg × List NSet × List Int) × Int), MadeD y.1 ∧ 0 ≤ y.2 ∧ y.2 ≤ (↑L.length : Int) → Sml y.1.1 y.1.2.1 y.1.2.2 ∧ (∀ (y : List Spt × List Int × Int), true = true) ∧ ∀ (y_1 : List Spt × List Int × Int), PlaceR y.1.1 y.1.2.1 y.1.2.2 y_1 → ((!decide (y_1.2.2 = 0)) = false → (!decide (y_1.2.2 = 0)) = false) ∧ ((!decide (y_1.2.2 = 0)) = false → (!decide (y_1.2.2 = 0)) = false) ∧ ((!decide (y_1.2.2 = 0)) = false → (!decide (y_1.2.2 = 0)) = false) ∧ ((!decide (y_1.2.2 = 0) || decide ((↑y.1.1.length : Int) = 0)) = true → (decide (y_1.2.2 = 0) = false → decide (y_1.2.2 = 0) = false) ∧ (decide (y_1.2.2 = 0) = false → decide (y_1.2.2 = 0) = false) ∧ ((decide (y_1.2.2 = 0) || decide (y_1.2.2 = 20)) = true → True) ∧ ((decide (y_1.2.2 = 0) || decide (y_1.2.2 = 20)) = true → (decide (y_1.2.2 = 0) || decide (y_1.2.2 = 20)) = true) ∧ ∃ (y : Unit), True ∧ ((decide (y_1.2.2 = 0) || decide (y_1.2.2 = 20)) && true) = true) ∧ ((!decide (y_1.2.2 = 0) || decide ((↑y.1.1.length : Int) = 0)) = false → True ∧ (DOK (i :: NilL Int, 0) ∧ (↑y.1.1.length : Int) ≤ 4611686018427387904) ∧ (∀ (y : Int × Int), true = true) ∧ ∀ (y_2 : Int × Int), (1 ≤ (↑y.1.1.length : Int) → 0 ≤ y_2.1 ∧ y_2.1 < (↑y.1.1.length : Int)) ∧ ((↑y.1.1.length : Int) < 1 → y_2.1 = 0) ∧ 0 ≤ y_2.2 ∧ y_2.2 ≤ (↑(i :: NilL Int).length : Int) → y.1.1.length ≤ (68719476736 : Nat) ∧ y.1.2.1.length ≤ (68719476736 : Nat) ∧ y.1.2.2.length ≤ (68719476736 : Nat) ∧ (0 ≤ y_2.1 ∧ y_2.1 < (↑y.1.1.length : Int)) ∧ (DOK (L, y.2) ∧ (y.1.1.getD y_2.1.toNat { grp := 0, own := 0 : Chg }).own ≤ 4611686018427387904) ∧ (∀ (y : Int × Int), true = true) ∧ ∀ (y_3 : Int × Int), (1 ≤ (y.1.1.getD y_2.1.toNat { grp := 0, own := 0 : Chg }).own → 0 ≤ y_3.1 ∧ y_3.1 < (y.1.1.getD y_2.1.toNat { grp := 0, own := 0 : Chg }).own) ∧ ((y.1.1.getD y_2.1.toNat { grp := 0, own := 0 : Chg }).own < 1 → y_3.1 = 0) ∧ y.2 ≤ y_3.2 ∧ y_3.2 ≤ (↑L.length : Int) → i64R (1 + y_3.1) ∧ (0 ≤ y_2.1 ∧ y_2.1 < (↑y.1.1.length : Int)) ∧ (0 ≤ y_2.1 ∧ y_2.1 < (↑y.1.2.1.length : Int)) ∧ (DOK (L, y_3.2) ∧ 0 ≤ (↑y.1.2.2.length : Int) ∧ (↑y.1.2.2.length : Int) ≤ 64) ∧ (∀ (y : List Int × Int), true = true) ∧ ∀ (y_4 : List Int × Int), (Asc y_4.1 (↑y.1.2.2.length : Int) ∧ (↑y_4.1.length : Int) ≤ (↑y.1.2.2.length : Int)) ∧ y_3.2 ≤ y_4.2 ∧ y_4.2 ≤ (↑L.length : Int) → ((y.1.2.1.getD y_2.1.toNat { grp := 0, nodes := NilL Int : NSet }).nodes.length ≤ (400 : Nat) ∧ y_4.1.length ≤ (400 : Nat)) ∧ (∀ (y : List Int), true = true) ∧ ∀ (y_5 : List Int), (AscI y_5 ∧ ∀ (z : Int), z ∈ y_5 ↔ z ∈ (y.1.2.1.getD y_2.1.toNat { grp := 0, nodes := NilL Int : NSet }).nodes ∨ z ∈ y_4.1) ∧ y_5.length ≤ (y.1.2.1.getD y_2.1.toNat { grp := 0, nodes := NilL Int : NSet }).nodes.length + y_4.1.length → (0 ≤ y_2.1 ∧ y_2.1 < (↑y.1.2.1.length : Int)) ∧ (DOK (L, y_4.2) ∧ (↑y.1.2.2.length : Int) ≤ 4611686018427387904) ∧ (∀ (y : Int × Int), true = true) ∧ ∀ (y_6 : Int × Int), (1 ≤ (↑y.1.2.2.length : Int) → 0 ≤ y_6.1 ∧ y_6.1 < (↑y.1.2.2.length : Int)) ∧ ((↑y.1.2.2.length : Int) < 1 → y_6.1 = 0) ∧ y_4.2 ≤ y_6.2 ∧ y_6.2 ≤ (↑L.length : Int) → (0 ≤ y_6.1 ∧ y_6.1 < (↑y.1.2.2.length : Int)) ∧ (DOK (L, y_6.2) ∧ (20 : Int) ≤ 4611686018427387904) ∧ (∀ (y : Int × Int), true = true) ∧ ∀ (y_7 : Int × Int), ((1 : Int) ≤ 20 → 0 ≤ y_7.1 ∧ y_7.1 < 20) ∧ ((20 : Int) < 1 → y_7.1 = 0) ∧ y_6.2 ≤ y_7.2 ∧ y_7.2 ≤ (↑L.length : Int) → i64R (y.1.2.2.getD y_6.1.toNat 0 + y_7.1) ∧ (0 ≤ y_6.1 ∧ y_6.1 < (↑y.1.2.2.length : Int)) ∧ Sml (y.1.1.set y_2.1.toNat { grp := (y.1.1.getD y_2.1.toNat { grp := 0, own := 0 : Chg }).grp, own := 1 + y_3.1 : Chg }) y.1.2.1 y.1.2.2 ∧ (∀ (y : List Spt × List Int × Int), true = true) ∧ ∀ (y_8 : List Spt × List Int × Int), PlaceR (y.1.1.set y_2.1.toNat { grp := (y.1.1.getD y_2.1.toNat { grp := 0, own := 0 : Chg }).grp, own := 1 + y_3.1 : Chg }) y.1.2.1 y.1.2.2 y_8 → Sml y.1.1 (y.1.2.1.set y_2.1.toNat { grp := (y.1.2.1.getD y_2.1.toNat { grp := 0, nodes := NilL Int : NSet }).grp, nodes := y_5 : NSet }) y.1.2.2 ∧ (∀ (y : List Spt × List Int × Int), true = true) ∧ ∀ (y_9 : List Spt × List Int × Int), PlaceR y.1.1 (y.1.2.1.set y_2.1.toNat { grp := (y.1.2.1.getD y_2.1.toNat { grp := 0, nodes := NilL Int : NSet }).grp, nodes := y_5 : NSet }) y.1.2.2 y_9 → Sml y.1.1 y.1.2.1 (y.1.2.2.set y_6.1.toNat (y.1.2.2.getD y_6.1.toNat 0 + y_7.1)) ∧ (∀ (y : List Spt × List Int × Int), true = true) ∧ ∀ (y_10 : List Spt × List Int × Int), PlaceR y.1.1 y.1.2.1 (y.1.2.2.set y_6.1.toNat (y.1.2.2.getD y_6.1.toNat 0 + y_7.1)) y_10 → (decide (y_8.2.2 = 0) = true → decide (y_8.2.2 = 0) = true) ∧ (decide (y_8.2.2 = 0) = true → decide (y_8.2.2 = 0) = true) ∧ ((decide (y_8.2.2 = 0) && decide (y_9.2.2 = 0)) = true → (decide (y_8.2.2 = 0) && decide (y_9.2.2 = 0)) = true) ∧ ((decide (y_8.2.2 = 0) && decide (y_9.2.2 = 0)) = true → (decide (y_8.2.2 = 0) && decide (y_9.2.2 = 0)) = true) ∧ ((decide (y_8.2.2 = 0) && decide (y_9.2.2 = 0) && decide (y_10.2.2 = 0)) = true → True) ∧ ((decide (y_8.2.2 = 0) && decide (y_9.2.2 = 0) && decide (y_10.2.2 = 0)) = true → (decide (y_8.2.2 = 0) && decide (y_9.2.2 = 0) && decide (y_10.2.2 = 0)) = true) ∧ ∃ (y : Unit), True ∧ (decide (y_8.2.2 = 0) && decide (y_9.2.2 = 0) && decide (y_10.2.2 = 0) && true) = true))) = sLaw28i.vc (EV Try.prog [(9, sLight.spec), (10, sSane.spec), (11, sRoll.spec), (12, sDem.spec), (13, sPlace.spec), (14, sNext.spec), (21, sUnion.spec), (22, sSetD.spec)] noInv noInv) Try.f6 (L, i, ()) := by kernel_rfl
  rw [← e]
  clear e
  simp only [imp_self, true_and, and_true, exists_const, implies_true]
  try simp only [Prod.forall, forall_const, true_and, and_true, i64R, Int.reduceLE, Int.reduceLT, Int.reduceNeg, false_implies, decide_eq_true_eq, decide_eq_false_iff_not, Bool.not_eq_true', Bool.not_eq_false', Bool.and_eq_true, Bool.or_eq_true, Bool.or_eq_false_iff ]
  try simp only [NilL_eq]
  intro hL
  have hd : ∀ j : Int, 0 ≤ j → j ≤ L.length → DOK (L, j) := fun j h1 h2 => ⟨h1, h2, by show L.length ≤ 600; omega⟩
  refine ⟨hd 0 (by omega) (by omega), fun C A cap j1 hM => ?_⟩
  obtain ⟨hM, m0, m1⟩ := hM
  have hv : VOK C A cap := hM.vok
  have c1 := hv.c1
  have c8 := hv.c8
  have d64 := hv.d64
  have la := hv.la
  refine ⟨hv.sml, fun p n e hp => ⟨fun _ => (hp.err hv).elim (fun h => .inl h.1) (fun h => .inr h.1), fun h => ?_⟩⟩
  have ip : IsPl C A cap p := (hp.err hv).elim (fun h => h.2.1) (fun h' => by have : e = 20 := h'.1; omega)
  refine ⟨⟨⟨by show (0 : Int) ≤ 0; omega, by show (0 : Int) ≤ ([i].length : Nat); simp, by show [i].length ≤ 600; simp⟩, by omega⟩, fun x _ hx => ?_⟩
  have hx := hx.1 (by omega)
  have ho : 1 ≤ ownAt C x.toNat ∧ ownAt C x.toNat ≤ 40 := ⟨(hv.chg x.toNat (by omega)).2.2.1, hM.own x.toNat (by show x.toNat < C.length; omega)⟩
  refine ⟨by omega, by omega, by omega, hx, ⟨hd _ (by omega) (by omega), by show ownAt C x.toNat ≤ 4611686018427387904; omega⟩, fun o j2 h2 => ?_⟩
  have h2o : 0 ≤ o ∧ o < ownAt C x.toNat := h2.1 ho.1
  refine ⟨by omega, hx, by omega, ⟨hd _ (by omega) (by omega), by omega⟩, fun s j3 h3 => ?_⟩
  have hna := (hv.chg x.toNat (by omega)).2.2.2.2.2.2
  have hnl := hna.len
  refine ⟨⟨by show (nodesAt A x.toNat).length ≤ 400; omega, by omega⟩, fun u hu => ?_⟩
  obtain ⟨⟨u1, u2⟩, _⟩ := hu
  have u2 : ∀ z, z ∈ u ↔ z ∈ nodesAt A x.toNat ∨ z ∈ s := u2
  refine ⟨by omega, ⟨hd _ (by omega) (by omega), by omega⟩, fun a j4 h4 => ?_⟩
  have ha := h4.1 (by omega)
  refine ⟨ha, hd _ (by omega) (by omega), fun d j5 h5 => ?_⟩
  have hb : 0 ≤ nth cap a.toNat ∧ nth cap a.toNat ≤ 100 := hM.cap1 a.toNat
  have v1 : VOK (setOwn C x.toNat (1 + o)) A cap := hv.ownTo (by omega) (by omega) (by omega)
  have v2 : VOK C (setNds A x.toNat u) cap := hv.ndsTo (by omega) (fun e => by
    have h0 := (hv.chg x.toNat (by omega)).2.2.2.2.2.1
    obtain ⟨z, hz⟩ := List.exists_mem_of_ne_nil _ h0
    have := (u2 z).2 (.inl hz)
    rw [e] at this; cases this) (u1.asc fun z hz => by
    rcases (u2 z).1 hz with h | h
    · exact hna.bnd z h
    · exact h3.1.1.bnd z h)
  have v3 : VOK C A (cap.set a.toNat (cap.getD a.toNat 0 + d)) := hM.up (a := a.toNat) (d := d) (by show a.toNat < cap.length; omega) (by omega) (by omega)
  refine ⟨⟨by show -9223372036854775808 ≤ nth cap a.toNat + d; omega, by show nth cap a.toNat + d ≤ 9223372036854775807; omega⟩, ha, v1.sml, fun p1 n1 e1 hp1 => ⟨v2.sml, fun p2 n2 e2 hp2 => ⟨v3.sml, fun p3 n3 e3 hp3 => ⟨⟨?_, ?_⟩, ?_⟩⟩⟩⟩
  · have hp1 : PlaceR (setOwn C x.toNat (1 + o)) A cap (p1, n1, e1) := hp1
    refine (PlaceR.ok hp1 v1 fun S hS => hallI ip (hS.mono (by simp [setOwn]) rfl (fun k hk => ?_) (fun k hk => ?_) (fun k hk z hz => hz) (fun k => Int.le_refl _))).2.2
    · rw [setOwn_own (by omega)]
      split
      · rename_i e; subst e; omega
      · exact Int.le_refl _
    · have := (hv.chg k hk).2.2.1; omega
  · have hp2 : PlaceR C (setNds A x.toNat u) cap (p2, n2, e2) := hp2
    refine (PlaceR.ok hp2 v2 fun S hS => hallI ip (hS.mono rfl rfl (fun k hk => Int.le_refl _) (fun k hk => ?_) (fun k hk z hz => ?_) (fun k => Int.le_refl _))).2.2
    · have := (hv.chg k hk).2.2.1; omega
    · rw [setNds_nds (by omega)]
      split
      · rename_i e; subst e; exact (u2 z).2 (.inl hz)
      · exact hz
  · refine (PlaceR.ok hp3 v3 fun S hS => hallI ip (hS.mono rfl (by simp) (fun k hk => Int.le_refl _) (fun k hk => ?_) (fun k hk z hz => hz) (fun k => ?_))).2.2
    · have := (hv.chg k hk).2.2.1; omega
    · show nth cap k ≤ nth (cap.set a.toNat (nth cap a.toNat + d)) k
      rw [nth_set (by omega)]
      split
      · rename_i e; subst e; omega
      · exact Int.le_refl _
end Go.Proofs.Ytompifpamldjaaa
