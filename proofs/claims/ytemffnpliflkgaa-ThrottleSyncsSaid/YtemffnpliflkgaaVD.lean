/-
  Lemmas and contracts on the way to the laws of this seat; each theorem states its own conditions, and there are no others.
-/
import Derived.Test.YtemffnpliflkgaaVC

namespace Go.Proofs.Ytemffnpliflkgaa
open Go
set_option linter.unusedVariables false
set_option linter.unusedSimpArgs false
set_option linter.unusedVariables false

def memB (l : List Int) (x : Int) : Bool := l.contains x
theorem memB_iff {l : List Int} {x : Int} : memB l x = true ↔ x ∈ l := by simp [memB]
theorem memB_at {l : List Int} {x : Int} {i : Nat} (h : i < l.length) (e : l.getD i 0 = x) : memB l x = true := by
  rw [memB_iff, ← e, List.getD_eq_getElem?_getD, List.getElem?_eq_getElem h]
  exact List.getElem_mem h
theorem memB_not {l : List Int} {x : Int} (h : ∀ i, i < l.length → ¬ l.getD i 0 = x) : memB l x = false := by
  rw [← Bool.not_eq_true, memB_iff]
  intro hm
  obtain ⟨i, hi, e⟩ := List.getElem_of_mem hm
  refine h i hi ?_
  rw [List.getD_eq_getElem?_getD, List.getElem?_eq_getElem hi]
  exact e
def idxI (l : List Int) (x : Int) : Int := match l.findIdx? (fun y => decide (y = x)) with
  | some k => k
  | none => -1
theorem idxI_first {l : List Int} {x : Int} {i : Nat} (h : ∀ j, j < i → ¬ l.getD j 0 = x) (hi : i < l.length) (e : l.getD i 0 = x) : idxI l x = i := by
  have : l.findIdx? (fun y => decide (y = x)) = some i := by
    rw [List.findIdx?_eq_some_iff_getElem]
    have e1 : ∀ j (hj : j < l.length), l.getD j 0 = l[j] := fun j hj => by simp [List.getD_eq_getElem?_getD, hj]
    refine ⟨hi, by rw [← e1 i hi]; simpa using e, fun j hj => ?_⟩
    have := h j hj
    rw [e1 j (by omega)] at this
    simpa using this
  rw [idxI, this]
theorem idxI_all {l : List Int} {x : Int} (h : ∀ j, j < l.length → ¬ l.getD j 0 = x) : idxI l x = -1 := by
  have : l.findIdx? (fun y => decide (y = x)) = none := by
    rw [List.findIdx?_eq_none_iff]
    intro y hy
    obtain ⟨i, hi, e⟩ := List.getElem_of_mem hy
    have := h i hi
    rw [List.getD_eq_getElem?_getD, List.getElem?_eq_getElem hi, Option.getD_some, e] at this
    simpa using this
  rw [idxI, this]
theorem idxI_mem (l : List Int) (x : Int) : decide (0 ≤ idxI l x) = memB l x := by
  by_cases h : ∀ j, j < l.length → ¬ l.getD j 0 = x
  · rw [idxI_all h, memB_not h]; rfl
  · have hm : memB l x = true := by
      cases e : memB l x
      · exfalso
        refine h fun j hj ej => ?_
        rw [memB_at hj ej] at e; cases e
      · rfl
    rw [hm, decide_eq_true_eq]
    unfold idxI
    split
    · omega
    · rename_i hn
      rw [List.findIdx?_eq_none_iff] at hn
      have := hn x (memB_iff.1 hm)
      simp at this
theorem root_names {l : List Nod} {n : Int} (h : TreeP l n) : 1 ≤ l.length ∧ l.length ≤ 64 := ⟨h.chk.len1, h.chk.len2⟩
theorem ids_bound {l : List Nod} {n g : Int} (h : ChkP l n) (hg : g ∈ ids l) : 1 ≤ g ∧ g ≤ 2147483648 := by
  obtain ⟨i, hi, e⟩ := ids_mem.1 hg
  have h1 := h.asc.pos hi
  have h2 := h.lt_next hi
  have h3 := h.nx2
  omega
/-- Candidates that are valid for a tree. -/
def sHasI : DS := ⟨_, two pkInts pkI, fun x => x.1.length ≤ 9223372036854775807, fun x => .bool (memB x.1 x.2.1), nou⟩
def sIdxI : DS := ⟨_, two pkInts pkI, fun x => x.1.length ≤ 9223372036854775807, fun x => .int .i64 (idxI x.1 x.2.1), nou⟩
def sGroup : FSp := ⟨_, Sig.dice (one pkTree) (fun _ => rfl), fun x => DOK x.1 ∧ 1 ≤ x.2.1.1.length ∧ x.2.1.1.length ≤ 64, Int × Int, fun x y => (y.1 ∈ ids x.2.1.1 ∨ (-1 ≤ y.1 ∧ y.1 ≤ 7)) ∧ x.1.2 ≤ y.2 ∧ y.2 ≤ x.1.1.length, fun _ y => .int .i64 y.1, fun x y => [(0, diceO (x.1.1, y.2))], fun x h => ⟨(0, x.1.2), .inr ⟨(by show (-1 : Int) ≤ 0; omega), (by show (0 : Int) ≤ 7; omega)⟩, Int.le_refl _, h.1.hi⟩⟩
def sSome : FSp := ⟨_, Sig.dice Sig.nil (fun _ => rfl), fun x => DOK x.1, List Int × Int, fun x y => (y.1.length ≤ 5 ∧ ∀ z ∈ y.1, -2 ≤ z ∧ z ≤ 9) ∧ x.1.2 ≤ y.2 ∧ y.2 ≤ x.1.1.length, fun _ _ => .own 101 0, fun x y => [(0, diceO (x.1.1, y.2)), (101, .rows 3 0 y.1)], fun x h => ⟨([], x.1.2), ⟨Nat.zero_le _, fun z hz => by cases hz⟩, Int.le_refl _, h.hi⟩⟩
def sTree : FSp := ⟨_, Sig.dice (one pkI) (fun _ => rfl), fun x => DOK x.1 ∧ 0 ≤ x.2.1 ∧ x.2.1 ≤ 20, (List Nod × Int) × Int, fun x y => (TreeP y.1.1 y.1.2 ∧ y.1.1.length ≤ x.2.1 + 1) ∧ x.1.2 ≤ y.2 ∧ y.2 ≤ x.1.1.length, fun _ y => .agg [.own 101 3, .int .i64 y.1.2], fun x y => [(0, diceO (x.1.1, y.2)), (101, .rows 34 3 y.1.1)], fun x h => ⟨(([⟨1, 0, ByteArray.empty, 0, 0, 0⟩], 2), x.1.2), ⟨tree_root, by show ((1 : Nat) : Int) ≤ x.2.1 + 1; have := h.2.1; omega⟩, Int.le_refl _, h.1.hi⟩⟩

def inv64 (l : List Int) (g : Int) : Inv where
  X := Int
  ok := fun i => 0 ≤ i ∧ i ≤ l.length ∧ ∀ j : Nat, (j : Int) < i → ¬ l.getD j 0 = g
  sl := fun i => [(5, .int .i64 i)]
  hp := fun _ => []
  keep := []
  me := fun i => (l.length - i).toNat
set_option maxRecDepth 100000 in
theorem vc64 (l : List Int) (g : Int) (hx : l.length ≤ 9223372036854775807) : sHasI.vc (EV Try.prog [] (invs [(2, inv64 l g)]) noInv) Try.f64 (l, g, ()) := by
  have e : ((∃ (x : Int), (0 ≤ x ∧ x ≤ (↑l.length : Int) ∧ ∀ (j : Nat), (↑j : Int) < x → ¬l.getD j 0 = g) ∧ 0 = x) ∧ ∀ (x : Int), (0 ≤ x ∧ x ≤ (↑l.length : Int) ∧ ∀ (j : Nat), (↑j : Int) < x → ¬l.getD j 0 = g) → (decide (x < (↑l.length : Int)) = true → (0 ≤ x ∧ x < (↑l.length : Int)) ∧ (decide (l.getD x.toNat 0 = g) = true → ∃ (y : Unit), True ∧ true = memB l g) ∧ (decide (l.getD x.toNat 0 = g) = false → i64R (x + 1) ∧ ∃ (x' : Int), (0 ≤ x' ∧ x' ≤ (↑l.length : Int) ∧ ∀ (j : Nat), (↑j : Int) < x' → ¬l.getD j 0 = g) ∧ ((↑l.length : Int) - x').toNat < ((↑l.length : Int) - x).toNat ∧ x + 1 = x')) ∧ (decide (x < (↑l.length : Int)) = false → ∃ (y : Unit), True ∧ false = memB l g)) = sHasI.vc (EV Try.prog [] (invs [(2, inv64 l g)]) noInv) Try.f64 (l, g, ()) := by kernel_rfl
  rw [← e]
  clear e
  simp only [imp_self, true_and, and_true, exists_const, implies_true, gd1, gd2, gd3, gd4, gd5, gd6, NilL_eq ]
  simp only [Prod.forall, Prod.exists, exists_const, implies_true, not_true_eq_false, not_false_eq_true, or_self, or_false, false_or, or_true, true_or, and_false, false_and, forall_const, true_and, and_true, i64R, imp_self, Int.reduceLE, Int.reduceLT, Int.reduceNeg, false_implies, true_implies, decide_eq_true_eq, decide_eq_false_iff_not, Bool.not_eq_true', Bool.not_eq_false', Bool.true_eq_false, Bool.false_eq_true, Bool.and_eq_true, Bool.or_eq_true, NilL_eq, Bool.and_eq_false_iff, Bool.or_eq_false_iff ]
  refine ⟨⟨0, ⟨by omega, by omega, fun j hj => by omega⟩, rfl⟩, fun x hi => ⟨fun hlt => ⟨by omega, fun he => (memB_at (i := x.toNat) (by omega) he).symm, fun hne => ⟨by omega, x + 1, ⟨by omega, by omega, fun j hj => ?_⟩, by omega, rfl⟩⟩, fun hge => (memB_not fun j hj => hi.2.2 j (by omega)).symm⟩⟩
  by_cases e : (j : Int) < x
  · exact hi.2.2 j e
  · have : j = x.toNat := by omega
    rw [this]; exact hne

def inv145 (l : List Int) (g : Int) : Inv where
  X := Int
  ok := fun i => 0 ≤ i ∧ i ≤ l.length ∧ ∀ j : Nat, (j : Int) < i → ¬ l.getD j 0 = g
  sl := fun i => [(8, .int .i64 i)]
  hp := fun _ => []
  keep := []
  me := fun i => (l.length - i).toNat
set_option maxRecDepth 100000 in
theorem vc145 (l : List Int) (g : Int) (hx : l.length ≤ 9223372036854775807) : sIdxI.vc (EV Try.prog [] (invs [(2, inv145 l g)]) noInv) Try.f145 (l, g, ()) := by
  have e : ((∃ (x : Int), (0 ≤ x ∧ x ≤ (↑l.length : Int) ∧ ∀ (j : Nat), (↑j : Int) < x → ¬l.getD j 0 = g) ∧ 0 = x) ∧ ∀ (x : Int), (0 ≤ x ∧ x ≤ (↑l.length : Int) ∧ ∀ (j : Nat), (↑j : Int) < x → ¬l.getD j 0 = g) → (decide (x < (↑l.length : Int)) = true → (0 ≤ x ∧ x < (↑l.length : Int)) ∧ (decide (g = l.getD x.toNat 0) = true → ∃ (y : Unit), True ∧ x = idxI l g) ∧ (decide (g = l.getD x.toNat 0) = false → i64R (x + 1) ∧ ∃ (x' : Int), (0 ≤ x' ∧ x' ≤ (↑l.length : Int) ∧ ∀ (j : Nat), (↑j : Int) < x' → ¬l.getD j 0 = g) ∧ ((↑l.length : Int) - x').toNat < ((↑l.length : Int) - x).toNat ∧ x + 1 = x')) ∧ (decide (x < (↑l.length : Int)) = false → ∃ (y : Unit), True ∧ (-1) = idxI l g)) = sIdxI.vc (EV Try.prog [] (invs [(2, inv145 l g)]) noInv) Try.f145 (l, g, ()) := by kernel_rfl
  rw [← e]
  clear e
  simp only [imp_self, true_and, and_true, exists_const, implies_true, gd1, gd2, gd3, gd4, gd5, gd6, NilL_eq ]
  simp only [Prod.forall, Prod.exists, exists_const, implies_true, not_true_eq_false, not_false_eq_true, or_self, or_false, false_or, or_true, true_or, and_false, false_and, forall_const, true_and, and_true, i64R, imp_self, Int.reduceLE, Int.reduceLT, Int.reduceNeg, false_implies, true_implies, decide_eq_true_eq, decide_eq_false_iff_not, Bool.not_eq_true', Bool.not_eq_false', Bool.true_eq_false, Bool.false_eq_true, Bool.and_eq_true, Bool.or_eq_true, NilL_eq, Bool.and_eq_false_iff, Bool.or_eq_false_iff ]
  refine ⟨⟨0, ⟨by omega, by omega, fun j hj => by omega⟩, rfl⟩, fun x hi => ⟨fun hlt => ⟨by omega, fun he => ?_, fun hne => ⟨by omega, x + 1, ⟨by omega, by omega, fun j hj => ?_⟩, by omega, rfl⟩⟩, fun hge => (idxI_all fun j hj => hi.2.2 j (by omega)).symm⟩⟩
  · rw [idxI_first (i := x.toNat) (fun j hj => hi.2.2 j (by omega)) (by omega) he.symm]; omega
  · by_cases e : (j : Int) < x
    · exact hi.2.2 j e
    · have : j = x.toNat := by omega
      rw [this]; exact fun e => hne e.symm


set_option maxRecDepth 100000 in
theorem vc112 (l : List Int) (g : Int) (hx : l.length ≤ 9223372036854775807) : sHasI.vc (EV Try.prog [(145, sIdxI.spec)] noInv noInv) Try.f112 (l, g, ()) := by
  have e : (l.length ≤ (9223372036854775807 : Nat) ∧ ∃ (y : Unit), True ∧ decide (0 ≤ idxI l g) = memB l g) = sHasI.vc (EV Try.prog [(145, sIdxI.spec)] noInv noInv) Try.f112 (l, g, ()) := by kernel_rfl
  rw [← e]
  clear e
  simp only [imp_self, true_and, and_true, exists_const, implies_true, gd1, gd2, gd3, gd4, gd5, gd6, NilL_eq ]
  exact ⟨hx, idxI_mem l g⟩


set_option maxRecDepth 100000 in
theorem vc41 (L : List Int) (k : Int) (l : List Nod) (n : Int) (hx : DOK (L, k) ∧ 1 ≤ l.length ∧ l.length ≤ 64) : sGroup.vc (EV Try.prog [(23, sNext.spec), (59, sBool.spec)] noInv noInv) Try.f41 ((L, k), (l, n), ()) := by
  have e : ((DOK (L, k) ∧ (1 : Int) ≤ 15 ∧ (15 : Int) ≤ 1000) ∧ (∀ (y : Bool × Int), true = true) ∧ ∀ (y : Bool × Int), k ≤ y.snd ∧ y.snd ≤ (↑L.length : Int) → (y.fst = false → y.fst = false) ∧ (y.fst = false → y.fst = false) ∧ (y.fst = false → y.fst = false) ∧ (y.fst = false → y.fst = false) ∧ ((y.fst || decide ((↑l.length : Int) = 0)) = true → (DOK (L, y.snd) ∧ (9 : Int) ≤ 4611686018427387904) ∧ (∀ (y : Int × Int), true = true) ∧ ∀ (y_1 : Int × Int), ((1 : Int) ≤ 9 → 0 ≤ y_1.fst ∧ y_1.fst < 9) ∧ ((9 : Int) < 1 → y_1.fst = 0) ∧ y.snd ≤ y_1.snd ∧ y_1.snd ≤ (↑L.length : Int) → i64R (y_1.fst - 1) ∧ ∃ (y : Int × Int), ((y.fst ∈ ids l ∨ (-1) ≤ y.fst ∧ y.fst ≤ 7) ∧ k ≤ y.snd ∧ y.snd ≤ (↑L.length : Int)) ∧ y_1.fst - 1 = y.fst ∧ L = L ∧ y_1.snd = y.snd) ∧ ((y.fst || decide ((↑l.length : Int) = 0)) = false → (DOK (L, y.snd) ∧ (↑l.length : Int) ≤ 4611686018427387904) ∧ (∀ (y : Int × Int), true = true) ∧ ∀ (y_1 : Int × Int), (1 ≤ (↑l.length : Int) → 0 ≤ y_1.fst ∧ y_1.fst < (↑l.length : Int)) ∧ ((↑l.length : Int) < 1 → y_1.fst = 0) ∧ y.snd ≤ y_1.snd ∧ y_1.snd ≤ (↑L.length : Int) → (0 ≤ y_1.fst ∧ y_1.fst < (↑l.length : Int)) ∧ ∃ (y : Int × Int), ((y.fst ∈ ids l ∨ (-1) ≤ y.fst ∧ y.fst ≤ 7) ∧ k ≤ y.snd ∧ y.snd ≤ (↑L.length : Int)) ∧ (l.getD y_1.fst.toNat { id := 0, parent := 0, name := ByteArray.empty, control := 0, kind := 0, owner := 0 : Nod }).id = y.fst ∧ L = L ∧ y_1.snd = y.snd)) = sGroup.vc (EV Try.prog [(23, sNext.spec), (59, sBool.spec)] noInv noInv) Try.f41 ((L, k), (l, n), ()) := by kernel_rfl
  rw [← e]
  clear e
  simp only [imp_self, true_and, and_true, exists_const, implies_true, gd1, gd2, gd3, gd4, gd5, gd6, NilL_eq ]
  simp only [Prod.forall, Prod.exists, exists_const, implies_true, not_true_eq_false, not_false_eq_true, or_self, or_false, false_or, or_true, true_or, and_false, false_and, forall_const, true_and, and_true, i64R, imp_self, Int.reduceLE, Int.reduceLT, Int.reduceNeg, false_implies, true_implies, decide_eq_true_eq, decide_eq_false_iff_not, Bool.not_eq_true', Bool.not_eq_false', Bool.true_eq_false, Bool.false_eq_true, Bool.and_eq_true, Bool.or_eq_true, NilL_eq, Bool.and_eq_false_iff, Bool.or_eq_false_iff ]
  simp only [nd_fold]
  obtain ⟨hk, l1, l2⟩ := hx
  have k0 : 0 ≤ k := hk.lo
  have hd : ∀ j : Int, 0 ≤ j → j ≤ L.length → DOK (L, j) := fun j h1 h2 => ⟨h1, h2, hk.len⟩
  refine ⟨hk, fun b j hj => ⟨fun _ => ⟨hd j (by omega) (by omega), fun a j2 h2 => ⟨by omega, _, _, ⟨.inr (by omega), by omega, h2.2.2⟩, rfl, rfl⟩⟩, fun _ => ⟨⟨hd j (by omega) (by omega), by omega⟩, fun a j2 h2 => ?_⟩⟩⟩
  have ha := h2.1 (by omega)
  exact ⟨ha, _, _, ⟨.inl (ids_mem.2 ⟨a.toNat, by omega, rfl⟩), by omega, h2.2.2.2⟩, rfl, rfl⟩

def inv47 (L : List Int) (k : Int) : Inv where
  X := List Int × Int × Int
  ok := fun x => 0 ≤ x.2.1 ∧ x.1.length + x.2.1 ≤ 5 ∧ (∀ z ∈ x.1, -2 ≤ z ∧ z ≤ 9) ∧ DOK (L, x.2.2) ∧ k ≤ x.2.2
  sl := fun x => [(4, .int .i64 x.2.1), (3, .own 101 0)]
  hp := fun x => [(0, diceO (L, x.2.2)), (101, .rows 3 0 x.1)]
  keep := []
  me := fun x => x.2.1.toNat
set_option maxRecDepth 100000 in
theorem vc47 (L : List Int) (k : Int) (hx : DOK (L, k)) : sSome.vc (EV Try.prog [(23, sNext.spec)] (invs [(3, inv47 L k)]) noInv) Try.f47 ((L, k), ()) := by
  have e : ((DOK (L, k) ∧ (6 : Int) ≤ 4611686018427387904) ∧ (∀ (y : Int × Int), true = true) ∧ ∀ (y : Int × Int), ((1 : Int) ≤ 6 → 0 ≤ y.fst ∧ y.fst < 6) ∧ ((6 : Int) < 1 → y.fst = 0) ∧ k ≤ y.snd ∧ y.snd ≤ (↑L.length : Int) → (∃ (x : List Int × Int × Int), (0 ≤ x.snd.fst ∧ (↑x.fst.length : Int) + x.snd.fst ≤ 5 ∧ (∀ (z : Int), z ∈ x.fst → (-2) ≤ z ∧ z ≤ 9) ∧ DOK (L, x.snd.snd) ∧ k ≤ x.snd.snd) ∧ y.fst = x.snd.fst ∧ L = L ∧ y.snd = x.snd.snd ∧ NilL Int = x.fst) ∧ ∀ (x : List Int × Int × Int), 0 ≤ x.snd.fst ∧ (↑x.fst.length : Int) + x.snd.fst ≤ 5 ∧ (∀ (z : Int), z ∈ x.fst → (-2) ≤ z ∧ z ≤ 9) ∧ DOK (L, x.snd.snd) ∧ k ≤ x.snd.snd → (decide (0 < x.snd.fst) = true → (DOK (L, x.snd.snd) ∧ (12 : Int) ≤ 4611686018427387904) ∧ (∀ (y : Int × Int), true = true) ∧ ∀ (y : Int × Int), ((1 : Int) ≤ 12 → 0 ≤ y.fst ∧ y.fst < 12) ∧ ((12 : Int) < 1 → y.fst = 0) ∧ x.snd.snd ≤ y.snd ∧ y.snd ≤ (↑L.length : Int) → i64R (y.fst - 2) ∧ x.fst.length + ((y.fst - 2) :: NilL Int).length ≤ (68719476736 : Nat) ∧ i64R (x.snd.fst - 1) ∧ ∃ (x' : List Int × Int × Int), (0 ≤ x'.snd.fst ∧ (↑x'.fst.length : Int) + x'.snd.fst ≤ 5 ∧ (∀ (z : Int), z ∈ x'.fst → (-2) ≤ z ∧ z ≤ 9) ∧ DOK (L, x'.snd.snd) ∧ k ≤ x'.snd.snd) ∧ x'.snd.fst.toNat < x.snd.fst.toNat ∧ x.snd.fst - 1 = x'.snd.fst ∧ L = L ∧ y.snd = x'.snd.snd ∧ x.fst ++ (y.fst - 2) :: NilL Int = x'.fst) ∧ (decide (0 < x.snd.fst) = false → ∃ (y : List Int × Int), ((y.fst.length ≤ (5 : Nat) ∧ ∀ (z : Int), z ∈ y.fst → (-2) ≤ z ∧ z ≤ 9) ∧ k ≤ y.snd ∧ y.snd ≤ (↑L.length : Int)) ∧ L = L ∧ x.snd.snd = y.snd ∧ x.fst = y.fst)) = sSome.vc (EV Try.prog [(23, sNext.spec)] (invs [(3, inv47 L k)]) noInv) Try.f47 ((L, k), ()) := by kernel_rfl
  rw [← e]
  clear e
  simp only [imp_self, true_and, and_true, exists_const, implies_true, gd1, gd2, gd3, gd4, gd5, gd6, NilL_eq ]
  simp only [Prod.forall, Prod.exists, exists_const, implies_true, not_true_eq_false, not_false_eq_true, or_self, or_false, false_or, or_true, true_or, and_false, false_and, forall_const, true_and, and_true, i64R, imp_self, Int.reduceLE, Int.reduceLT, Int.reduceNeg, false_implies, true_implies, decide_eq_true_eq, decide_eq_false_iff_not, Bool.not_eq_true', Bool.not_eq_false', Bool.true_eq_false, Bool.false_eq_true, Bool.and_eq_true, Bool.or_eq_true, NilL_eq, Bool.and_eq_false_iff, Bool.or_eq_false_iff ]
  have k0 : 0 ≤ k := hx.lo
  have hd : ∀ j : Int, 0 ≤ j → j ≤ L.length → DOK (L, j) := fun j h1 h2 => ⟨h1, h2, hx.len⟩
  refine ⟨hx, fun a j hj => ⟨⟨[], a, j, ⟨by omega, by simp; omega, by simp, hd _ (by omega) (by omega), by omega⟩, rfl, rfl, rfl⟩, fun out i j2 hi => ⟨fun hp => ⟨hi.2.2.2.1, fun b j3 h3 => ⟨by omega, by simp; omega, by omega, _, _, _, ⟨by omega, by simp; omega, fun z hz => ?_, hd _ (by omega) (by omega), by omega⟩, by omega, rfl, rfl, rfl⟩⟩, fun hp => ⟨_, _, ⟨⟨by omega, hi.2.2.1⟩, by omega, hi.2.2.2.1.hi⟩, rfl, rfl⟩⟩⟩⟩
  rcases List.mem_append.1 hz with hz | hz
  · exact hi.2.2.1 z hz
  · simp at hz; subst hz; omega

def inv17 (L : List Int) (n k : Int) : Inv where
  X := List Nod × Int × Int × Int
  ok := fun x => TreeP x.1 x.2.1 ∧ 0 ≤ x.2.2.1 ∧ x.1.length + x.2.2.1 ≤ n + 1 ∧ DOK (L, x.2.2.2) ∧ k ≤ x.2.2.2
  sl := fun x => [(6, .int .i64 x.2.2.1)]
  hp := fun x => [(0, diceO (L, x.2.2.2)), (20010, .cells 29 [.own 101 3, .int .i64 x.2.1]), (101, .rows 34 3 x.1)]
  keep := [10000]
  me := fun x => x.2.2.1.toNat
set_option maxRecDepth 100000 in
theorem vc17 (L : List Int) (k n : Int) (hx : DOK (L, k) ∧ 0 ≤ n ∧ n ≤ 20) : sTree.vc (EV Try.prog [(70, sNew.spec), (23, sNext.spec), (72, sWord.spec), (22, sAdd.spec), (59, sBool.spec), (24, sRem.spec)] (invs [(3, inv17 L n k)]) noInv) Try.f17 ((L, k), n, ()) := by
  have e : (True ∧ i64R (n + 1) ∧ (DOK (L, k) ∧ n + (1 : Int) ≤ 4611686018427387904) ∧ (∀ (y : Int × Int), true = true) ∧ ∀ (y : Int × Int), (1 ≤ n + 1 → 0 ≤ y.fst ∧ y.fst < n + 1) ∧ (n + (1 : Int) < 1 → y.fst = 0) ∧ k ≤ y.snd ∧ y.snd ≤ (↑L.length : Int) → (∃ (x : List Nod × Int × Int × Int), (TreeP x.fst x.snd.fst ∧ 0 ≤ x.snd.snd.fst ∧ (↑x.fst.length : Int) + x.snd.snd.fst ≤ n + 1 ∧ DOK (L, x.snd.snd.snd) ∧ k ≤ x.snd.snd.snd) ∧ y.fst = x.snd.snd.fst ∧ L = L ∧ y.snd = x.snd.snd.snd ∧ 2 = x.snd.fst ∧ { id := 1, parent := 0, name := ByteArray.empty, control := 0, kind := 0, owner := 0 : Nod } :: NilL Nod = x.fst ∧ (0 : Int) = 0) ∧ ∀ (x : List Nod × Int × Int × Int), TreeP x.fst x.snd.fst ∧ 0 ≤ x.snd.snd.fst ∧ (↑x.fst.length : Int) + x.snd.snd.fst ≤ n + 1 ∧ DOK (L, x.snd.snd.snd) ∧ k ≤ x.snd.snd.snd → (decide (0 < x.snd.snd.fst) = true → (DOK (L, x.snd.snd.snd) ∧ (↑x.fst.length : Int) ≤ 4611686018427387904) ∧ (∀ (y : Int × Int), true = true) ∧ ∀ (y : Int × Int), (1 ≤ (↑x.fst.length : Int) → 0 ≤ y.fst ∧ y.fst < (↑x.fst.length : Int)) ∧ ((↑x.fst.length : Int) < 1 → y.fst = 0) ∧ x.snd.snd.snd ≤ y.snd ∧ y.snd ≤ (↑L.length : Int) → (0 ≤ y.fst ∧ y.fst < (↑x.fst.length : Int)) ∧ DOK (L, y.snd) ∧ (∀ (y : ByteArray × Int), true = true) ∧ ∀ (y_1 : ByteArray × Int), y_1.fst ∈ wordsS ∧ y.snd ≤ y_1.snd ∧ y_1.snd ≤ (↑L.length : Int) → True ∧ (decide (addE x.fst x.snd.fst (x.fst.getD y.fst.toNat { id := 0, parent := 0, name := ByteArray.empty, control := 0, kind := 0, owner := 0 : Nod }).id y_1.fst = 0) = true → (DOK (L, y_1.snd) ∧ (1 : Int) ≤ 6 ∧ (6 : Int) ≤ 1000) ∧ (∀ (y : Bool × Int), true = true) ∧ ∀ (y_2 : Bool × Int), y_1.snd ≤ y_2.snd ∧ y_2.snd ≤ (↑L.length : Int) → (y_2.fst = true → (DOK (L, y_2.snd) ∧ (↑(addL x.fst x.snd.fst (x.fst.getD y.fst.toNat { id := 0, parent := 0, name := ByteArray.empty, control := 0, kind := 0, owner := 0 : Nod }).id y_1.fst).length : Int) ≤ 4611686018427387904) ∧ (∀ (y : Int × Int), true = true) ∧ ∀ (y_3 : Int × Int), (1 ≤ (↑(addL x.fst x.snd.fst (x.fst.getD y.fst.toNat { id := 0, parent := 0, name := ByteArray.empty, control := 0, kind := 0, owner := 0 : Nod }).id y_1.fst).length : Int) → 0 ≤ y_3.fst ∧ y_3.fst < (↑(addL x.fst x.snd.fst (x.fst.getD y.fst.toNat { id := 0, parent := 0, name := ByteArray.empty, control := 0, kind := 0, owner := 0 : Nod }).id y_1.fst).length : Int)) ∧ ((↑(addL x.fst x.snd.fst (x.fst.getD y.fst.toNat { id := 0, parent := 0, name := ByteArray.empty, control := 0, kind := 0, owner := 0 : Nod }).id y_1.fst).length : Int) < 1 → y_3.fst = 0) ∧ y_2.snd ≤ y_3.snd ∧ y_3.snd ≤ (↑L.length : Int) → (0 ≤ y_3.fst ∧ y_3.fst < (↑(addL x.fst x.snd.fst (x.fst.getD y.fst.toNat { id := 0, parent := 0, name := ByteArray.empty, control := 0, kind := 0, owner := 0 : Nod }).id y_1.fst).length : Int)) ∧ True ∧ (decide (rmE (addL x.fst x.snd.fst (x.fst.getD y.fst.toNat { id := 0, parent := 0, name := ByteArray.empty, control := 0, kind := 0, owner := 0 : Nod }).id y_1.fst) (addN x.fst x.snd.fst (x.fst.getD y.fst.toNat { id := 0, parent := 0, name := ByteArray.empty, control := 0, kind := 0, owner := 0 : Nod }).id y_1.fst) ((addL x.fst x.snd.fst (x.fst.getD y.fst.toNat { id := 0, parent := 0, name := ByteArray.empty, control := 0, kind := 0, owner := 0 : Nod }).id y_1.fst).getD y_3.fst.toNat { id := 0, parent := 0, name := ByteArray.empty, control := 0, kind := 0, owner := 0 : Nod }).id = 0) = true → i64R (x.snd.snd.fst - 1) ∧ ∃ (x' : List Nod × Int × Int × Int), (TreeP x'.fst x'.snd.fst ∧ 0 ≤ x'.snd.snd.fst ∧ (↑x'.fst.length : Int) + x'.snd.snd.fst ≤ n + 1 ∧ DOK (L, x'.snd.snd.snd) ∧ k ≤ x'.snd.snd.snd) ∧ x'.snd.snd.fst.toNat < x.snd.snd.fst.toNat ∧ x.snd.snd.fst - 1 = x'.snd.snd.fst ∧ L = L ∧ y_3.snd = x'.snd.snd.snd ∧ rmN (addL x.fst x.snd.fst (x.fst.getD y.fst.toNat { id := 0, parent := 0, name := ByteArray.empty, control := 0, kind := 0, owner := 0 : Nod }).id y_1.fst) (addN x.fst x.snd.fst (x.fst.getD y.fst.toNat { id := 0, parent := 0, name := ByteArray.empty, control := 0, kind := 0, owner := 0 : Nod }).id y_1.fst) ((addL x.fst x.snd.fst (x.fst.getD y.fst.toNat { id := 0, parent := 0, name := ByteArray.empty, control := 0, kind := 0, owner := 0 : Nod }).id y_1.fst).getD y_3.fst.toNat { id := 0, parent := 0, name := ByteArray.empty, control := 0, kind := 0, owner := 0 : Nod }).id = x'.snd.fst ∧ rmL (addL x.fst x.snd.fst (x.fst.getD y.fst.toNat { id := 0, parent := 0, name := ByteArray.empty, control := 0, kind := 0, owner := 0 : Nod }).id y_1.fst) (addN x.fst x.snd.fst (x.fst.getD y.fst.toNat { id := 0, parent := 0, name := ByteArray.empty, control := 0, kind := 0, owner := 0 : Nod }).id y_1.fst) ((addL x.fst x.snd.fst (x.fst.getD y.fst.toNat { id := 0, parent := 0, name := ByteArray.empty, control := 0, kind := 0, owner := 0 : Nod }).id y_1.fst).getD y_3.fst.toNat { id := 0, parent := 0, name := ByteArray.empty, control := 0, kind := 0, owner := 0 : Nod }).id = x'.fst ∧ (0 : Int) = 0) ∧ (decide (rmE (addL x.fst x.snd.fst (x.fst.getD y.fst.toNat { id := 0, parent := 0, name := ByteArray.empty, control := 0, kind := 0, owner := 0 : Nod }).id y_1.fst) (addN x.fst x.snd.fst (x.fst.getD y.fst.toNat { id := 0, parent := 0, name := ByteArray.empty, control := 0, kind := 0, owner := 0 : Nod }).id y_1.fst) ((addL x.fst x.snd.fst (x.fst.getD y.fst.toNat { id := 0, parent := 0, name := ByteArray.empty, control := 0, kind := 0, owner := 0 : Nod }).id y_1.fst).getD y_3.fst.toNat { id := 0, parent := 0, name := ByteArray.empty, control := 0, kind := 0, owner := 0 : Nod }).id = 0) = false → i64R (x.snd.snd.fst - 1) ∧ ∃ (x' : List Nod × Int × Int × Int), (TreeP x'.fst x'.snd.fst ∧ 0 ≤ x'.snd.snd.fst ∧ (↑x'.fst.length : Int) + x'.snd.snd.fst ≤ n + 1 ∧ DOK (L, x'.snd.snd.snd) ∧ k ≤ x'.snd.snd.snd) ∧ x'.snd.snd.fst.toNat < x.snd.snd.fst.toNat ∧ x.snd.snd.fst - 1 = x'.snd.snd.fst ∧ L = L ∧ y_3.snd = x'.snd.snd.snd ∧ addN x.fst x.snd.fst (x.fst.getD y.fst.toNat { id := 0, parent := 0, name := ByteArray.empty, control := 0, kind := 0, owner := 0 : Nod }).id y_1.fst = x'.snd.fst ∧ addL x.fst x.snd.fst (x.fst.getD y.fst.toNat { id := 0, parent := 0, name := ByteArray.empty, control := 0, kind := 0, owner := 0 : Nod }).id y_1.fst = x'.fst ∧ (0 : Int) = 0)) ∧ (y_2.fst = false → i64R (x.snd.snd.fst - 1) ∧ ∃ (x' : List Nod × Int × Int × Int), (TreeP x'.fst x'.snd.fst ∧ 0 ≤ x'.snd.snd.fst ∧ (↑x'.fst.length : Int) + x'.snd.snd.fst ≤ n + 1 ∧ DOK (L, x'.snd.snd.snd) ∧ k ≤ x'.snd.snd.snd) ∧ x'.snd.snd.fst.toNat < x.snd.snd.fst.toNat ∧ x.snd.snd.fst - 1 = x'.snd.snd.fst ∧ L = L ∧ y_2.snd = x'.snd.snd.snd ∧ addN x.fst x.snd.fst (x.fst.getD y.fst.toNat { id := 0, parent := 0, name := ByteArray.empty, control := 0, kind := 0, owner := 0 : Nod }).id y_1.fst = x'.snd.fst ∧ addL x.fst x.snd.fst (x.fst.getD y.fst.toNat { id := 0, parent := 0, name := ByteArray.empty, control := 0, kind := 0, owner := 0 : Nod }).id y_1.fst = x'.fst ∧ (0 : Int) = 0)) ∧ (decide (addE x.fst x.snd.fst (x.fst.getD y.fst.toNat { id := 0, parent := 0, name := ByteArray.empty, control := 0, kind := 0, owner := 0 : Nod }).id y_1.fst = 0) = false → (DOK (L, y_1.snd) ∧ (1 : Int) ≤ 6 ∧ (6 : Int) ≤ 1000) ∧ (∀ (y : Bool × Int), true = true) ∧ ∀ (y : Bool × Int), y_1.snd ≤ y.snd ∧ y.snd ≤ (↑L.length : Int) → (y.fst = true → (DOK (L, y.snd) ∧ (↑x.fst.length : Int) ≤ 4611686018427387904) ∧ (∀ (y : Int × Int), true = true) ∧ ∀ (y_2 : Int × Int), (1 ≤ (↑x.fst.length : Int) → 0 ≤ y_2.fst ∧ y_2.fst < (↑x.fst.length : Int)) ∧ ((↑x.fst.length : Int) < 1 → y_2.fst = 0) ∧ y.snd ≤ y_2.snd ∧ y_2.snd ≤ (↑L.length : Int) → (0 ≤ y_2.fst ∧ y_2.fst < (↑x.fst.length : Int)) ∧ True ∧ (decide (rmE x.fst x.snd.fst (x.fst.getD y_2.fst.toNat { id := 0, parent := 0, name := ByteArray.empty, control := 0, kind := 0, owner := 0 : Nod }).id = 0) = true → i64R (x.snd.snd.fst - 1) ∧ ∃ (x' : List Nod × Int × Int × Int), (TreeP x'.fst x'.snd.fst ∧ 0 ≤ x'.snd.snd.fst ∧ (↑x'.fst.length : Int) + x'.snd.snd.fst ≤ n + 1 ∧ DOK (L, x'.snd.snd.snd) ∧ k ≤ x'.snd.snd.snd) ∧ x'.snd.snd.fst.toNat < x.snd.snd.fst.toNat ∧ x.snd.snd.fst - 1 = x'.snd.snd.fst ∧ L = L ∧ y_2.snd = x'.snd.snd.snd ∧ rmN x.fst x.snd.fst (x.fst.getD y_2.fst.toNat { id := 0, parent := 0, name := ByteArray.empty, control := 0, kind := 0, owner := 0 : Nod }).id = x'.snd.fst ∧ rmL x.fst x.snd.fst (x.fst.getD y_2.fst.toNat { id := 0, parent := 0, name := ByteArray.empty, control := 0, kind := 0, owner := 0 : Nod }).id = x'.fst ∧ (0 : Int) = 0) ∧ (decide (rmE x.fst x.snd.fst (x.fst.getD y_2.fst.toNat { id := 0, parent := 0, name := ByteArray.empty, control := 0, kind := 0, owner := 0 : Nod }).id = 0) = false → i64R (x.snd.snd.fst - 1) ∧ ∃ (x' : List Nod × Int × Int × Int), (TreeP x'.fst x'.snd.fst ∧ 0 ≤ x'.snd.snd.fst ∧ (↑x'.fst.length : Int) + x'.snd.snd.fst ≤ n + 1 ∧ DOK (L, x'.snd.snd.snd) ∧ k ≤ x'.snd.snd.snd) ∧ x'.snd.snd.fst.toNat < x.snd.snd.fst.toNat ∧ x.snd.snd.fst - 1 = x'.snd.snd.fst ∧ L = L ∧ y_2.snd = x'.snd.snd.snd ∧ x.snd.fst = x'.snd.fst ∧ x.fst = x'.fst ∧ (0 : Int) = 0)) ∧ (y.fst = false → i64R (x.snd.snd.fst - 1) ∧ ∃ (x' : List Nod × Int × Int × Int), (TreeP x'.fst x'.snd.fst ∧ 0 ≤ x'.snd.snd.fst ∧ (↑x'.fst.length : Int) + x'.snd.snd.fst ≤ n + 1 ∧ DOK (L, x'.snd.snd.snd) ∧ k ≤ x'.snd.snd.snd) ∧ x'.snd.snd.fst.toNat < x.snd.snd.fst.toNat ∧ x.snd.snd.fst - 1 = x'.snd.snd.fst ∧ L = L ∧ y.snd = x'.snd.snd.snd ∧ x.snd.fst = x'.snd.fst ∧ x.fst = x'.fst ∧ (0 : Int) = 0))) ∧ (decide (0 < x.snd.snd.fst) = false → ∃ (y : (List Nod × Int) × Int), ((TreeP y.fst.fst y.fst.snd ∧ (↑y.fst.fst.length : Int) ≤ n + 1) ∧ k ≤ y.snd ∧ y.snd ≤ (↑L.length : Int)) ∧ x.snd.fst = y.fst.snd ∧ L = L ∧ x.snd.snd.snd = y.snd ∧ x.fst = y.fst.fst)) = sTree.vc (EV Try.prog [(70, sNew.spec), (23, sNext.spec), (72, sWord.spec), (22, sAdd.spec), (59, sBool.spec), (24, sRem.spec)] (invs [(3, inv17 L n k)]) noInv) Try.f17 ((L, k), n, ()) := by kernel_rfl
  rw [← e]
  clear e
  simp only [imp_self, true_and, and_true, exists_const, implies_true, gd1, gd2, gd3, gd4, gd5, gd6, NilL_eq ]
  simp only [Prod.forall, Prod.exists, exists_const, implies_true, not_true_eq_false, not_false_eq_true, or_self, or_false, false_or, or_true, true_or, and_false, false_and, forall_const, true_and, and_true, i64R, imp_self, Int.reduceLE, Int.reduceLT, Int.reduceNeg, false_implies, true_implies, decide_eq_true_eq, decide_eq_false_iff_not, Bool.not_eq_true', Bool.not_eq_false', Bool.true_eq_false, Bool.false_eq_true, Bool.and_eq_true, Bool.or_eq_true, NilL_eq, Bool.and_eq_false_iff, Bool.or_eq_false_iff ]
  simp only [nd_fold]
  obtain ⟨hk, n0, n1⟩ := hx
  have k0 : 0 ≤ k := hk.lo
  have hd : ∀ j : Int, 0 ≤ j → j ≤ L.length → DOK (L, j) := fun j h1 h2 => ⟨h1, h2, hk.len⟩
  refine ⟨by omega, ⟨hk, by omega⟩, fun a j hj => ⟨⟨_, _, a, j, ⟨tree_root, by omega, by simp; omega, hd _ (by omega) (by omega), by omega⟩, rfl, rfl, rfl, rfl⟩, fun l m i j1 hi => ⟨fun hp => ?_, fun hp => ⟨_, _, _, ⟨⟨hi.1, by omega⟩, by omega, hi.2.2.2.1.hi⟩, rfl, rfl, rfl⟩⟩⟩⟩
  obtain ⟨ht, i0, i1, hd1, hkj⟩ := hi
  have hl := root_names ht
  refine ⟨⟨hd1, by omega⟩, fun p j2 h2 => ⟨h2.1 (by omega), hd _ (by omega) (by omega), fun s j3 h3 => ?_⟩⟩
  -- behind the adding: a tree that is made, and what comes then
  have rest : ∀ (l2 : List Nod) (m2 : Int), TreeP l2 m2 → (l2.length : Int) ≤ l.length + 1 → ∀ (r : Int) (j5 : Int), 0 ≤ j5 → k ≤ j5 → j5 ≤ L.length → rmE l2 m2 r = 0 → (-9223372036854775808 ≤ i - 1 ∧ i - 1 ≤ 9223372036854775807) ∧ ∃ a b c d, (TreeP a b ∧ 0 ≤ c ∧ a.length + c ≤ n + 1 ∧ DOK (L, d) ∧ k ≤ d) ∧ c.toNat < i.toNat ∧ i - 1 = c ∧ j5 = d ∧ rmN l2 m2 r = b ∧ rmL l2 m2 r = a := fun l2 m2 t2 hl2 r j5 h0 h1 h2 hr => by
    obtain ⟨t3, hl3⟩ := tree_rm t2 hr
    exact ⟨by omega, _, _, _, _, ⟨t3, by omega, by omega, hd _ h0 h2, h1⟩, by omega, rfl, rfl, rfl, rfl⟩
  have stay : ∀ (l2 : List Nod) (m2 : Int), TreeP l2 m2 → (l2.length : Int) ≤ l.length + 1 → ∀ j5 : Int, 0 ≤ j5 → k ≤ j5 → j5 ≤ L.length → (-9223372036854775808 ≤ i - 1 ∧ i - 1 ≤ 9223372036854775807) ∧ ∃ a b c d, (TreeP a b ∧ 0 ≤ c ∧ a.length + c ≤ n + 1 ∧ DOK (L, d) ∧ k ≤ d) ∧ c.toNat < i.toNat ∧ i - 1 = c ∧ j5 = d ∧ m2 = b ∧ l2 = a := fun l2 m2 t2 hl2 j5 h0 h1 h2 =>
    ⟨by omega, _, _, _, _, ⟨t2, by omega, by omega, hd _ h0 h2, h1⟩, by omega, rfl, rfl, rfl, rfl⟩
  refine ⟨fun he => ?_, fun he => ?_⟩
  · obtain ⟨t2, hl2⟩ := tree_add ht h3.1 he
    have hl4 := root_names t2
    refine ⟨hd _ (by omega) (by omega), fun b j4 h4 => ⟨fun _ => ⟨⟨hd _ (by omega) (by omega), by omega⟩, fun q j5 h5 => ⟨h5.1 (by omega), fun hr => rest _ _ t2 (by omega) _ _ (by omega) (by omega) (by omega) hr, fun _ => stay _ _ t2 (by omega) _ (by omega) (by omega) (by omega)⟩⟩, fun _ => stay _ _ t2 (by omega) _ (by omega) (by omega) (by omega)⟩⟩
  · refine ⟨hd _ (by omega) (by omega), fun b j4 h4 => ⟨fun _ => ⟨⟨hd _ (by omega) (by omega), by omega⟩, fun q j5 h5 => ⟨h5.1 (by omega), fun hr => rest _ _ ht (by omega) _ _ (by omega) (by omega) (by omega) hr, fun _ => stay _ _ ht (by omega) _ (by omega) (by omega) (by omega)⟩⟩, fun _ => stay _ _ ht (by omega) _ (by omega) (by omega) (by omega)⟩⟩
end Go.Proofs.Ytemffnpliflkgaa
