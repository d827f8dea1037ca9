/-
  Lemmas and contracts on the way to the laws of this seat; each theorem states its own conditions, and there are no others.
-/
import Derived.Test.YtompifpamldjaaaFX
import Derived.Test.YtompifpamldjaaaPA
import Derived.Test.YtompifpamldjaaaWX
import Derived.Test.YtompifpamldjaaaE29
namespace Go.Proofs.Ytompifpamldjaaa
open Go Go.RowKit
set_option linter.unusedVariables false
set_option linter.unusedSimpArgs false
set_option linter.unusedVariables false
set_option linter.unusedSimpArgs false
set_option linter.unusedVariables false

section
variable {H : Type} {en : TypeId × Value → H} {w : World} {base : Nat} {spare : Nat → Bool} {held : Bool}
theorem open_chg (n : Nat) (cs : List Value) (y : DataW H × List MemPlace) (h : DataW.trod en Try.prog w base spare held n 41 cs = some y) : ∃ d : den 3, (fun _ => True) d ∧ ∀ j, j < ncell 3 → ∃ v, cs[j]? = some v ∧ VRel w (S0 w) μ0 ((enc 3 d).getD j .undef) v := by
  obtain ⟨xs, m, _, _, _, hl, hf⟩ := DataW.trod_struct Try.underlying41 h
  have hl2 : xs.length = 2 := hl
  have nn : ∀ i, i < 2 → xs[i]? ≠ none := fun i hi e => by
    rw [List.getElem?_eq_none_iff] at e; omega
  obtain ⟨a0, e0, _⟩ := leaf_int (nn 0 (by omega)) Try.underlying3 (by kernel_rfl) (hf 0 _ rfl)
  obtain ⟨a1, e1, _⟩ := leaf_int (nn 1 (by omega)) Try.underlying3 (by kernel_rfl) (hf 1 _ rfl)
  refine ⟨(⟨a0, a1⟩ : Chg), trivial, fun j hj => ?_⟩
  have hj2 : j < 2 := hj
  match j, hj2 with
  | 0, _ => exact ⟨_, e0, .int _ _⟩
  | 1, _ => exact ⟨_, e1, .int _ _⟩
theorem open_spt (n : Nat) (cs : List Value) (y : DataW H × List MemPlace) (h : DataW.trod en Try.prog w base spare held n 39 cs = some y) : ∃ d : den 5, (fun _ => True) d ∧ ∀ j, j < ncell 5 → ∃ v, cs[j]? = some v ∧ VRel w (S0 w) μ0 ((enc 5 d).getD j .undef) v := by
  obtain ⟨xs, m, _, _, _, hl, hf⟩ := DataW.trod_struct Try.underlying39 h
  have hl3 : xs.length = 3 := hl
  have nn : ∀ i, i < 3 → xs[i]? ≠ none := fun i hi e => by
    rw [List.getElem?_eq_none_iff] at e; omega
  obtain ⟨a0, e0, _⟩ := leaf_int (nn 0 (by omega)) Try.underlying3 (by kernel_rfl) (hf 0 _ rfl)
  obtain ⟨a1, e1, _⟩ := leaf_int (nn 1 (by omega)) Try.underlying3 (by kernel_rfl) (hf 1 _ rfl)
  obtain ⟨a2, e2, _⟩ := leaf_int (nn 2 (by omega)) Try.underlying3 (by kernel_rfl) (hf 2 _ rfl)
  refine ⟨(⟨a0, a1, a2⟩ : Spt), trivial, fun j hj => ?_⟩
  have hj3 : j < 3 := hj
  match j, hj3 with
  | 0, _ => exact ⟨_, e0, .int _ _⟩
  | 1, _ => exact ⟨_, e1, .int _ _⟩
  | 2, _ => exact ⟨_, e2, .int _ _⟩
theorem open_one (n : Nat) (cs : List Value) (y : DataW H × List MemPlace) (h : DataW.trod en Try.prog w base spare held n 3 cs = some y) : ∃ d : den 0, (fun _ => True) d ∧ ∀ j, j < ncell 0 → ∃ v, cs[j]? = some v ∧ VRel w (S0 w) μ0 ((enc 0 d).getD j .undef) v := by
  obtain ⟨z, h1, _, _⟩ := DataW.trod_int Try.underlying3 h
  refine ⟨z, trivial, fun j hj => ?_⟩
  have hj1 : j < 1 := hj
  match j, hj1 with
  | 0, _ => exact ⟨_, by rw [h1]; rfl, .int _ _⟩
def NstQ (d : NSet) : Prop := d.nodes.length ≤ maxLen
theorem open_nst (n : Nat) (cs : List Value) (y : DataW H × List MemPlace) (h : DataW.trod en Try.prog w base spare held n 43 cs = some y) : ∃ d : den 4, NstQ d ∧ ∀ j, j < ncell 4 → ∃ v, cs[j]? = some v ∧ VRel w (S0 w) μ0 ((enc 4 d).getD j .undef) v := by
  obtain ⟨xs, m, _, _, _, hl, hf⟩ := DataW.trod_struct Try.underlying43 h
  have hl2 : xs.length = 2 := hl
  have nn : ∀ i, i < 2 → xs[i]? ≠ none := fun i hi e => by
    rw [List.getElem?_eq_none_iff] at e; omega
  obtain ⟨a0, e0, _⟩ := leaf_int (nn 0 (by omega)) Try.underlying3 (by kernel_rfl) (hf 0 _ rfl)
  have h1 := hf 1 _ rfl
  rw [List.getElem?_eq_getElem (show 1 < xs.length by omega)] at h1
  obtain ⟨a, cap, l, g1, g2, _, g4⟩ := open_rows (c := 0) (Q := fun _ => True) Try.underlying22 (by kernel_rfl) (by decide) open_one h1
  have e1 : cs[1]? = some (.slice a l.length cap) := by
    have h3 : ((cs.drop 1).take 1)[0]? = some (.slice a l.length cap) := by
      have hc : Try.prog.cellsOf 22 = 1 := by kernel_rfl
      have g5 : ((cs.drop 1).take (Try.prog.cellsOf 22)) = [.slice a l.length cap] := g1
      rw [hc] at g5
      rw [g5]; rfl
    simpa using h3
  refine ⟨(⟨a0, l⟩ : NSet), g2, fun j hj => ?_⟩
  have hj2 : j < 2 := hj
  match j, hj2 with
  | 0, _ => exact ⟨_, e0, .int _ _⟩
  | 1, _ => exact ⟨_, e1, g4⟩
end
end Go.Proofs.Ytompifpamldjaaa

namespace Go.Proofs.Ytompifpamldjaaa
open Go
set_option linter.unusedVariables false

def needF (C : List Chg) (A : List NSet) (S : List Int) (i : Nat) : Int := if ∀ x ∈ nodesAt A i, x ∈ S then ownAt C i else 0
def needN (C : List Chg) (A : List NSet) (S : List Int) (k : Nat) : Int := sumF (needF C A S) k
def capF (cap S : List Int) (j : Nat) : Int := nth cap (nth S j).toNat
def capN (cap S : List Int) (k : Nat) : Int := sumF (capF cap S) k
def RefP (C : List Chg) (A : List NSet) (cap S : List Int) : Prop := VOK C A cap ∧ IsRef C A cap S
open Classical in
noncomputable def refB (C : List Chg) (A : List NSet) (cap S : List Int) : Bool := decide (RefP C A cap S)
theorem refB_t {C : List Chg} {A : List NSet} {cap S : List Int} : refB C A cap S = true ↔ RefP C A cap S := @decide_eq_true_iff _ (Classical.propDecidable _)
theorem refB_f {C : List Chg} {A : List NSet} {cap S : List Int} : refB C A cap S = false ↔ ¬ RefP C A cap S := @decide_eq_false_iff_not _ (Classical.propDecidable _)
open Classical in
noncomputable def posB (C : List Chg) (A : List NSet) (cap : List Int) : Bool := decide (∀ S, ¬ IsRef C A cap S)
theorem posB_t {C : List Chg} {A : List NSet} {cap : List Int} : posB C A cap = true ↔ ∀ S, ¬ IsRef C A cap S := @decide_eq_true_iff _ (Classical.propDecidable _)
theorem posB_f {C : List Chg} {A : List NSet} {cap : List Int} : posB C A cap = false ↔ ¬ ∀ S, ¬ IsRef C A cap S := @decide_eq_false_iff_not _ (Classical.propDecidable _)
theorem cap_sum (cap S : List Int) : (S.map fun x => nth cap x.toNat).sum = capN cap S S.length := by
  rw [sumF_list, List.length_map, capN]
  refine sumF_congr fun i hi => ?_
  unfold capF nth
  rw [List.getD_eq_getElem?_getD, List.getElem?_map, List.getD_eq_getElem?_getD, List.getD_eq_getElem?_getD (l := S), List.getElem?_eq_getElem hi]
  rfl
theorem isRef_iff {C : List Chg} {A : List NSet} {cap S : List Int} (h : Asc S cap.length) : IsRef C A cap S ↔ 0 < needN C A S C.length - capN cap S S.length := by
  have e : need C A S = needN C A S C.length := rfl
  constructor
  · intro h
    have := h.gt
    rw [cap_sum, e] at this; omega
  · intro h1
    exact ⟨h, by rw [cap_sum, e]; omega⟩
theorem VOK.ownB {C : List Chg} {A : List NSet} {cap : List Int} (hv : VOK C A cap) (i : Nat) : 0 ≤ ownAt C i ∧ ownAt C i ≤ 16777216 := by
  by_cases h : i < C.length
  · have := (hv.chg i h).2.2; omega
  · have : ownAt C i = 0 := by unfold ownAt; rw [List.getD_eq_getElem?_getD, List.getElem?_eq_none (by omega)]; rfl
    omega
theorem needF_bnd {C : List Chg} {A : List NSet} {cap : List Int} (hv : VOK C A cap) (S : List Int) (i : Nat) : 0 ≤ needF C A S i ∧ needF C A S i ≤ 16777216 := by
  have := hv.ownB i
  unfold needF; split <;> omega
theorem needN_bnd {C : List Chg} {A : List NSet} {cap : List Int} (hv : VOK C A cap) (S : List Int) {k : Nat} (hk : k ≤ C.length) : 0 ≤ needN C A S k ∧ needN C A S k ≤ 1073741824 := by
  have h1 := sumF_bnd (f := needF C A S) (n := k) (b := 16777216) fun i _ => by have := needF_bnd hv S i; omega
  have h2 := sumF_nonneg (f := needF C A S) (n := k) fun i _ => (needF_bnd hv S i).1
  have := hv.d64
  unfold needN; omega
theorem capN_bnd {C : List Chg} {A : List NSet} {cap : List Int} (hv : VOK C A cap) {S : List Int} (hS : S.length ≤ 8) {k : Nat} (hk : k ≤ S.length) : 0 ≤ capN cap S k ∧ capN cap S k ≤ 134217728 := by
  have h1 := sumF_bnd (f := capF cap S) (n := k) (b := 16777216) fun i _ => by have := hv.capB (nth S i).toNat; unfold capF; omega
  have h2 := sumF_nonneg (f := capF cap S) (n := k) fun i _ => (hv.capB (nth S i).toNat).1
  unfold capN; omega
theorem outI_neg {S l : List Int} : (¬ 0 ≤ outI S l) ↔ ∀ x ∈ l, x ∈ S := by
  rcases fstI_cases (isOut S l) l.length with ⟨e, h⟩ | ⟨i, e, hi, h, _⟩
  · have e2 : outI S l = -1 := e
    rw [e2]
    refine ⟨fun _ x hx => ?_, fun _ => by omega⟩
    obtain ⟨k, hk, ek⟩ := List.getElem_of_mem hx
    have h1 := h k hk
    have e3 : nth l k = x := by rw [nth, List.getD_eq_getElem?_getD, List.getElem?_eq_getElem hk]; exact ek
    unfold isOut at h1
    rw [e3] at h1
    exact Classical.not_not.1 h1
  · have e2 : outI S l = i := e
    rw [e2]
    refine ⟨fun h => absurd (Int.natCast_nonneg i) h, fun h2 => absurd (h2 _ (nth_mem hi)) h⟩
/-- The nodes of a set that is written as a number. -/
def bitsL (s : Nat) : Nat → List Int
  | 0 => []
  | n + 1 => bitsL s n ++ if s / 2 ^ n % 2 = 1 then [(n : Int)] else []
theorem bitsL_asc (s : Nat) : ∀ n : Nat, Asc (bitsL s n) n
  | 0 => Asc.nil _
  | n + 1 => by
    have h := bitsL_asc s n
    rw [bitsL]
    split
    · exact h.snoc (by omega)
    · rw [List.append_nil]; exact h.up (by omega)
theorem bitsL_add (s n k : Nat) : ∀ m : Nat, m ≤ n → bitsL (s + 2 ^ n * k) m = bitsL s m
  | 0, _ => rfl
  | m + 1, h => by
    rw [bitsL, bitsL, bitsL_add s n k m (by omega)]
    have e : 2 ^ n = 2 ^ m * (2 * 2 ^ (n - m - 1)) := by
      rw [← Nat.pow_succ', ← Nat.pow_add]; congr 1; omega
    have e2 : (s + 2 ^ n * k) / 2 ^ m = s / 2 ^ m + 2 * (2 ^ (n - m - 1) * k) := by
      rw [e, show s + 2 ^ m * (2 * 2 ^ (n - m - 1)) * k = s + 2 ^ m * (2 * (2 ^ (n - m - 1) * k)) by rw [Nat.mul_assoc, Nat.mul_assoc], Nat.add_mul_div_left _ _ (Nat.two_pow_pos m)]
    rw [e2, Nat.add_mul_mod_self_left]
theorem bits_all : ∀ {n : Nat} {S : List Int}, Asc S n → ∃ s, s < 2 ^ n ∧ bitsL s n = S
  | 0, S, h => by
    refine ⟨0, by simp, ?_⟩
    cases S with
    | nil => rfl
    | cons a r =>
      have := h 0 (by simp)
      unfold ascO at this
      omega
  | n + 1, S, h => by
    rcases h.cut with ⟨h1, _⟩ | ⟨S', e, h1⟩
    · obtain ⟨s, hs, es⟩ := bits_all h1
      refine ⟨s, by rw [Nat.pow_succ]; omega, ?_⟩
      rw [bitsL, es, Nat.div_eq_of_lt hs, if_neg (by omega), List.append_nil]
    · obtain ⟨s, hs, es⟩ := bits_all h1
      refine ⟨s + 2 ^ n * 1, by rw [Nat.pow_succ]; omega, ?_⟩
      rw [bitsL, bitsL_add s n 1 n (Nat.le_refl _), es, Nat.add_mul_div_left _ _ (Nat.two_pow_pos n), Nat.div_eq_of_lt hs, if_pos (by omega), e]
theorem and_one (m : Nat) (h : m < 9223372036854775808) : bitI .and .i64 (m : Int) 1 = ((m % 2 : Nat) : Int) := by
  have e : (BitVec.ofInt 64 (m : Int) &&& BitVec.ofInt 64 1).toNat = m % 2 := by
    have e1 : (BitVec.ofInt 64 (m : Int)).toNat = m := by
      rw [BitVec.toNat_ofInt]
      omega
    have e2 : (BitVec.ofInt 64 1).toNat = 1 := by decide
    rw [BitVec.toNat_and, e1, e2, Nat.and_one_is_mod]
  show IntKind.wrap .i64 (((BitVec.ofInt 64 (m : Int) &&& BitVec.ofInt 64 1).toNat : Nat) : Int) = _
  rw [e]
  have h2 : m % 2 = 0 ∨ m % 2 = 1 := by omega
  rcases h2 with h2 | h2 <;> rw [h2] <;> rfl
theorem bit_at (m i : Nat) (hm : m < 9223372036854775808) (hi : i ≤ 64) : bitI .and .i64 ((m : Int).fdiv (2 ^ min i IntKind.i64.bits)) 1 = ((m / 2 ^ i % 2 : Nat) : Int) := by
  have e1 : min i IntKind.i64.bits = i := Nat.min_eq_left hi
  have e2 : (2 : Int) ^ i = ((2 ^ i : Nat) : Int) := by simp
  rw [e1, e2, Int.fdiv_eq_ediv_of_nonneg _ (Int.natCast_nonneg _), ← Int.natCast_ediv]
  exact and_one _ (Nat.lt_of_le_of_lt (Nat.div_le_self _ _) hm)
noncomputable def sRef : DS := ⟨_, four (pkL 3) (pkL 4) pkInts pkInts, fun x => Sml x.1 x.2.1 x.2.2.1 ∧ x.2.2.2.1.length ≤ 9223372036854775807, fun x => .bool (refB x.1 x.2.1 x.2.2.1 x.2.2.2.1), nou⟩
noncomputable def sRefV : DS := ⟨_, four (pkL 3) (pkL 4) pkInts pkInts, fun x => VOK x.1 x.2.1 x.2.2.1 ∧ Asc x.2.2.2.1 x.2.2.1.length, fun x => .bool (refB x.1 x.2.1 x.2.2.1 x.2.2.2.1), nou⟩
noncomputable def sPos : DS := ⟨_, three (pkL 3) (pkL 4) pkInts, fun x => VOK x.1 x.2.1 x.2.2.1, fun x => .bool (posB x.1 x.2.1 x.2.2.1), nou⟩

def inv28a (cap : List Int) (s : St) : Inv where
  X := Int
  ok := fun i => 0 ≤ i ∧ i ≤ cap.length ∧ ∀ j : Nat, j < i.toNat → 0 ≤ nth cap j ∧ nth cap j ≤ 16777216
  sl := fun i => [(7, .int .i64 i)]
  hp := fun i => []
  keep := []
  me := fun i => (cap.length - i).toNat
def inv28b (C : List Chg) (A : List NSet) (cap : List Int) (s : St) : Inv where
  X := Int
  ok := fun i => 0 ≤ i ∧ i ≤ C.length ∧ ∀ j : Nat, j < i.toNat → chgO C A cap.length j
  sl := fun i => [(8, .int .i64 i)]
  hp := fun i => []
  keep := []
  me := fun i => (C.length - i).toNat
set_option maxRecDepth 100000 in
theorem vc28 (C : List Chg) (A : List NSet) (cap : List Int) (hx : Sml C A cap) : sValid.vc (EV Try.prog [(47, sAsc3.spec)] (invsS [(4, inv28a cap), (9, inv28b C A cap)]) noInv) Try.f28 (C, A, cap, ()) := by
  have e : ((decide ((↑cap.length : Int) < 1) = false → decide ((↑cap.length : Int) < 1) = false) ∧ (decide ((↑cap.length : Int) < 1) = false → decide ((↑cap.length : Int) < 1) = false) ∧ (decide ((↑cap.length : Int) < 1) = false → decide ((↑cap.length : Int) < 1) = false) ∧ ((decide ((↑cap.length : Int) < 1) || decide (8 < (↑cap.length : Int))) = false → (decide ((↑cap.length : Int) < 1) || decide (8 < (↑cap.length : Int))) = false) ∧ ((decide ((↑cap.length : Int) < 1) || decide (8 < (↑cap.length : Int))) = false → (decide ((↑cap.length : Int) < 1) || decide (8 < (↑cap.length : Int))) = false) ∧ ((decide ((↑cap.length : Int) < 1) || decide (8 < (↑cap.length : Int))) = false → (decide ((↑cap.length : Int) < 1) || decide (8 < (↑cap.length : Int))) = false) ∧ ((decide ((↑cap.length : Int) < 1) || decide (8 < (↑cap.length : Int)) || decide (64 < (↑C.length : Int))) = false → (decide ((↑cap.length : Int) < 1) || decide (8 < (↑cap.length : Int)) || decide (64 < (↑C.length : Int))) = false) ∧ ((decide ((↑cap.length : Int) < 1) || decide (8 < (↑cap.length : Int)) || decide (64 < (↑C.length : Int))) = false → (decide ((↑cap.length : Int) < 1) || decide (8 < (↑cap.length : Int)) || decide (64 < (↑C.length : Int))) = false) ∧ ((decide ((↑cap.length : Int) < 1) || decide (8 < (↑cap.length : Int)) || decide (64 < (↑C.length : Int))) = false → (decide ((↑cap.length : Int) < 1) || decide (8 < (↑cap.length : Int)) || decide (64 < (↑C.length : Int))) = false) ∧ ((decide ((↑cap.length : Int) < 1) || decide (8 < (↑cap.length : Int)) || decide (64 < (↑C.length : Int))) = false → (decide ((↑cap.length : Int) < 1) || decide (8 < (↑cap.length : Int)) || decide (64 < (↑C.length : Int))) = false) ∧ ((decide ((↑cap.length : Int) < 1) || decide (8 < (↑cap.length : Int)) || decide (64 < (↑C.length : Int))) = false → (decide ((↑cap.length : Int) < 1) || decide (8 < (↑cap.length : Int)) || decide (64 < (↑C.length : Int))) = false) ∧ ((decide ((↑cap.length : Int) < 1) || decide (8 < (↑cap.length : Int)) || decide (64 < (↑C.length : Int)) || !decide ((↑A.length : Int) = (↑C.length : Int))) = true → ∃ (y : Unit), True ∧ false = vokB C A cap) ∧ ((decide ((↑cap.length : Int) < 1) || decide (8 < (↑cap.length : Int)) || decide (64 < (↑C.length : Int)) || !decide ((↑A.length : Int) = (↑C.length : Int))) = false → (∃ (x : Int), (0 ≤ x ∧ x ≤ (↑cap.length : Int) ∧ ∀ (j : Nat), j < x.toNat → 0 ≤ nth cap j ∧ nth cap j ≤ 16777216) ∧ 0 = x) ∧ ∀ (x : Int), (0 ≤ x ∧ x ≤ (↑cap.length : Int) ∧ ∀ (j : Nat), j < x.toNat → 0 ≤ nth cap j ∧ nth cap j ≤ 16777216) → (decide (x < (↑cap.length : Int)) = true → (0 ≤ x ∧ x < (↑cap.length : Int)) ∧ (decide (nth cap x.toNat < 0) = false → decide (nth cap x.toNat < 0) = false) ∧ (decide (nth cap x.toNat < 0) = false → decide (nth cap x.toNat < 0) = false) ∧ (decide (nth cap x.toNat < 0) = false → 0 ≤ x ∧ x < (↑cap.length : Int)) ∧ (decide (nth cap x.toNat < 0) = false → decide (nth cap x.toNat < 0) = false) ∧ (decide (nth cap x.toNat < 0) = false → decide (nth cap x.toNat < 0) = false) ∧ (decide (nth cap x.toNat < 0) = false → decide (nth cap x.toNat < 0) = false) ∧ ((decide (nth cap x.toNat < 0) || decide (16777216 < nth cap x.toNat)) = true → ∃ (y : Unit), True ∧ false = vokB C A cap) ∧ ((decide (nth cap x.toNat < 0) || decide (16777216 < nth cap x.toNat)) = false → i64R (x + 1) ∧ ∃ (x' : Int), (0 ≤ x' ∧ x' ≤ (↑cap.length : Int) ∧ ∀ (j : Nat), j < x'.toNat → 0 ≤ nth cap j ∧ nth cap j ≤ 16777216) ∧ ((↑cap.length : Int) - x').toNat < ((↑cap.length : Int) - x).toNat ∧ x + 1 = x')) ∧ (decide (x < (↑cap.length : Int)) = false → (∃ (x : Int), (0 ≤ x ∧ x ≤ (↑C.length : Int) ∧ ∀ (j : Nat), j < x.toNat → chgO C A (↑cap.length : Int) j) ∧ 0 = x) ∧ ∀ (x : Int), (0 ≤ x ∧ x ≤ (↑C.length : Int) ∧ ∀ (j : Nat), j < x.toNat → chgO C A (↑cap.length : Int) j) → (decide (x < (↑C.length : Int)) = true → (0 ≤ x ∧ x < (↑C.length : Int)) ∧ (decide ((C.getD x.toNat { grp := 0, own := 0 : Chg }).grp < 1) = false → decide ((C.getD x.toNat { grp := 0, own := 0 : Chg }).grp < 1) = false) ∧ (decide ((C.getD x.toNat { grp := 0, own := 0 : Chg }).grp < 1) = false → decide ((C.getD x.toNat { grp := 0, own := 0 : Chg }).grp < 1) = false) ∧ ((!decide ((C.getD x.toNat { grp := 0, own := 0 : Chg }).grp < 1) && decide (0 < x)) = true → (!decide ((C.getD x.toNat { grp := 0, own := 0 : Chg }).grp < 1) && decide (0 < x)) = true) ∧ ((!decide ((C.getD x.toNat { grp := 0, own := 0 : Chg }).grp < 1) && decide (0 < x)) = true → (!decide ((C.getD x.toNat { grp := 0, own := 0 : Chg }).grp < 1) && decide (0 < x)) = true) ∧ ((!decide ((C.getD x.toNat { grp := 0, own := 0 : Chg }).grp < 1) && decide (0 < x)) = true → 0 ≤ x ∧ x < (↑C.length : Int)) ∧ ((!decide ((C.getD x.toNat { grp := 0, own := 0 : Chg }).grp < 1) && decide (0 < x)) = true → (!decide ((C.getD x.toNat { grp := 0, own := 0 : Chg }).grp < 1) && decide (0 < x)) = true) ∧ ((!decide ((C.getD x.toNat { grp := 0, own := 0 : Chg }).grp < 1) && decide (0 < x)) = true → (!decide ((C.getD x.toNat { grp := 0, own := 0 : Chg }).grp < 1) && decide (0 < x)) = true) ∧ ((!decide ((C.getD x.toNat { grp := 0, own := 0 : Chg }).grp < 1) && decide (0 < x)) = true → (!decide ((C.getD x.toNat { grp := 0, own := 0 : Chg }).grp < 1) && decide (0 < x)) = true) ∧ ((!decide ((C.getD x.toNat { grp := 0, own := 0 : Chg }).grp < 1) && decide (0 < x)) = true → i64R (x - 1)) ∧ ((!decide ((C.getD x.toNat { grp := 0, own := 0 : Chg }).grp < 1) && decide (0 < x)) = true → (!decide ((C.getD x.toNat { grp := 0, own := 0 : Chg }).grp < 1) && decide (0 < x)) = true) ∧ ((!decide ((C.getD x.toNat { grp := 0, own := 0 : Chg }).grp < 1) && decide (0 < x)) = true → (!decide ((C.getD x.toNat { grp := 0, own := 0 : Chg }).grp < 1) && decide (0 < x)) = true) ∧ ((!decide ((C.getD x.toNat { grp := 0, own := 0 : Chg }).grp < 1) && decide (0 < x)) = true → 0 ≤ x - 1 ∧ x - 1 < (↑C.length : Int)) ∧ ((!decide ((C.getD x.toNat { grp := 0, own := 0 : Chg }).grp < 1) && decide (0 < x)) = true → (!decide ((C.getD x.toNat { grp := 0, own := 0 : Chg }).grp < 1) && decide (0 < x)) = true) ∧ ((!decide ((C.getD x.toNat { grp := 0, own := 0 : Chg }).grp < 1) && decide (0 < x)) = true → (!decide ((C.getD x.toNat { grp := 0, own := 0 : Chg }).grp < 1) && decide (0 < x)) = true) ∧ ((!decide ((C.getD x.toNat { grp := 0, own := 0 : Chg }).grp < 1) && decide (0 < x)) = true → (!decide ((C.getD x.toNat { grp := 0, own := 0 : Chg }).grp < 1) && decide (0 < x)) = true) ∧ ((!decide ((C.getD x.toNat { grp := 0, own := 0 : Chg }).grp < 1) && decide (0 < x)) = true → (!decide ((C.getD x.toNat { grp := 0, own := 0 : Chg }).grp < 1) && decide (0 < x)) = true) ∧ (decide ((C.getD x.toNat { grp := 0, own := 0 : Chg }).grp < 1) = false → decide ((C.getD x.toNat { grp := 0, own := 0 : Chg }).grp < 1) = false) ∧ (decide ((C.getD x.toNat { grp := 0, own := 0 : Chg }).grp < 1) = false → decide (0 < x) = true → (!decide ((C.getD x.toNat { grp := 0, own := 0 : Chg }).grp < 1) && decide (0 < x)) = true) ∧ (decide ((C.getD x.toNat { grp := 0, own := 0 : Chg }).grp < 1) = false → decide ((C.getD x.toNat { grp := 0, own := 0 : Chg }).grp < 1) = false) ∧ ((decide ((C.getD x.toNat { grp := 0, own := 0 : Chg }).grp < 1) || decide (0 < x) && decide ((C.getD x.toNat { grp := 0, own := 0 : Chg }).grp ≤ (C.getD (x - 1).toNat { grp := 0, own := 0 : Chg }).grp)) = false → (decide ((C.getD x.toNat { grp := 0, own := 0 : Chg }).grp < 1) || decide (0 < x) && decide ((C.getD x.toNat { grp := 0, own := 0 : Chg }).grp ≤ (C.getD (x - 1).toNat { grp := 0, own := 0 : Chg }).grp)) = false) ∧ ((decide ((C.getD x.toNat { grp := 0, own := 0 : Chg }).grp < 1) || decide (0 < x) && decide ((C.getD x.toNat { grp := 0, own := 0 : Chg }).grp ≤ (C.getD (x - 1).toNat { grp := 0, own := 0 : Chg }).grp)) = false → (decide ((C.getD x.toNat { grp := 0, own := 0 : Chg }).grp < 1) || decide (0 < x) && decide ((C.getD x.toNat { grp := 0, own := 0 : Chg }).grp ≤ (C.getD (x - 1).toNat { grp := 0, own := 0 : Chg }).grp)) = false) ∧ ((decide ((C.getD x.toNat { grp := 0, own := 0 : Chg }).grp < 1) || decide (0 < x) && decide ((C.getD x.toNat { grp := 0, own := 0 : Chg }).grp ≤ (C.getD (x - 1).toNat { grp := 0, own := 0 : Chg }).grp)) = false → 0 ≤ x ∧ x < (↑C.length : Int)) ∧ ((decide ((C.getD x.toNat { grp := 0, own := 0 : Chg }).grp < 1) || decide (0 < x) && decide ((C.getD x.toNat { grp := 0, own := 0 : Chg }).grp ≤ (C.getD (x - 1).toNat { grp := 0, own := 0 : Chg }).grp)) = false → (decide ((C.getD x.toNat { grp := 0, own := 0 : Chg }).grp < 1) || decide (0 < x) && decide ((C.getD x.toNat { grp := 0, own := 0 : Chg }).grp ≤ (C.getD (x - 1).toNat { grp := 0, own := 0 : Chg }).grp)) = false) ∧ ((decide ((C.getD x.toNat { grp := 0, own := 0 : Chg }).grp < 1) || decide (0 < x) && decide ((C.getD x.toNat { grp := 0, own := 0 : Chg }).grp ≤ (C.getD (x - 1).toNat { grp := 0, own := 0 : Chg }).grp)) = false → (decide ((C.getD x.toNat { grp := 0, own := 0 : Chg }).grp < 1) || decide (0 < x) && decide ((C.getD x.toNat { grp := 0, own := 0 : Chg }).grp ≤ (C.getD (x - 1).toNat { grp := 0, own := 0 : Chg }).grp)) = false) ∧ ((decide ((C.getD x.toNat { grp := 0, own := 0 : Chg }).grp < 1) || decide (0 < x) && decide ((C.getD x.toNat { grp := 0, own := 0 : Chg }).grp ≤ (C.getD (x - 1).toNat { grp := 0, own := 0 : Chg }).grp)) = false → (decide ((C.getD x.toNat { grp := 0, own := 0 : Chg }).grp < 1) || decide (0 < x) && decide ((C.getD x.toNat { grp := 0, own := 0 : Chg }).grp ≤ (C.getD (x - 1).toNat { grp := 0, own := 0 : Chg }).grp)) = false) ∧ ((decide ((C.getD x.toNat { grp := 0, own := 0 : Chg }).grp < 1) || decide (0 < x) && decide ((C.getD x.toNat { grp := 0, own := 0 : Chg }).grp ≤ (C.getD (x - 1).toNat { grp := 0, own := 0 : Chg }).grp)) = false → (decide ((C.getD x.toNat { grp := 0, own := 0 : Chg }).grp < 1) || decide (0 < x) && decide ((C.getD x.toNat { grp := 0, own := 0 : Chg }).grp ≤ (C.getD (x - 1).toNat { grp := 0, own := 0 : Chg }).grp)) = false) ∧ ((decide ((C.getD x.toNat { grp := 0, own := 0 : Chg }).grp < 1) || decide (0 < x) && decide ((C.getD x.toNat { grp := 0, own := 0 : Chg }).grp ≤ (C.getD (x - 1).toNat { grp := 0, own := 0 : Chg }).grp) || decide ((C.getD x.toNat { grp := 0, own := 0 : Chg }).own < 1)) = false → (decide ((C.getD x.toNat { grp := 0, own := 0 : Chg }).grp < 1) || decide (0 < x) && decide ((C.getD x.toNat { grp := 0, own := 0 : Chg }).grp ≤ (C.getD (x - 1).toNat { grp := 0, own := 0 : Chg }).grp) || decide ((C.getD x.toNat { grp := 0, own := 0 : Chg }).own < 1)) = false) ∧ ((decide ((C.getD x.toNat { grp := 0, own := 0 : Chg }).grp < 1) || decide (0 < x) && decide ((C.getD x.toNat { grp := 0, own := 0 : Chg }).grp ≤ (C.getD (x - 1).toNat { grp := 0, own := 0 : Chg }).grp) || decide ((C.getD x.toNat { grp := 0, own := 0 : Chg }).own < 1)) = false → (decide ((C.getD x.toNat { grp := 0, own := 0 : Chg }).grp < 1) || decide (0 < x) && decide ((C.getD x.toNat { grp := 0, own := 0 : Chg }).grp ≤ (C.getD (x - 1).toNat { grp := 0, own := 0 : Chg }).grp) || decide ((C.getD x.toNat { grp := 0, own := 0 : Chg }).own < 1)) = false) ∧ ((decide ((C.getD x.toNat { grp := 0, own := 0 : Chg }).grp < 1) || decide (0 < x) && decide ((C.getD x.toNat { grp := 0, own := 0 : Chg }).grp ≤ (C.getD (x - 1).toNat { grp := 0, own := 0 : Chg }).grp) || decide ((C.getD x.toNat { grp := 0, own := 0 : Chg }).own < 1)) = false → 0 ≤ x ∧ x < (↑C.length : Int)) ∧ ((decide ((C.getD x.toNat { grp := 0, own := 0 : Chg }).grp < 1) || decide (0 < x) && decide ((C.getD x.toNat { grp := 0, own := 0 : Chg }).grp ≤ (C.getD (x - 1).toNat { grp := 0, own := 0 : Chg }).grp) || decide ((C.getD x.toNat { grp := 0, own := 0 : Chg }).own < 1)) = false → (decide ((C.getD x.toNat { grp := 0, own := 0 : Chg }).grp < 1) || decide (0 < x) && decide ((C.getD x.toNat { grp := 0, own := 0 : Chg }).grp ≤ (C.getD (x - 1).toNat { grp := 0, own := 0 : Chg }).grp) || decide ((C.getD x.toNat { grp := 0, own := 0 : Chg }).own < 1)) = false) ∧ ((decide ((C.getD x.toNat { grp := 0, own := 0 : Chg }).grp < 1) || decide (0 < x) && decide ((C.getD x.toNat { grp := 0, own := 0 : Chg }).grp ≤ (C.getD (x - 1).toNat { grp := 0, own := 0 : Chg }).grp) || decide ((C.getD x.toNat { grp := 0, own := 0 : Chg }).own < 1)) = false → (decide ((C.getD x.toNat { grp := 0, own := 0 : Chg }).grp < 1) || decide (0 < x) && decide ((C.getD x.toNat { grp := 0, own := 0 : Chg }).grp ≤ (C.getD (x - 1).toNat { grp := 0, own := 0 : Chg }).grp) || decide ((C.getD x.toNat { grp := 0, own := 0 : Chg }).own < 1)) = false) ∧ ((decide ((C.getD x.toNat { grp := 0, own := 0 : Chg }).grp < 1) || decide (0 < x) && decide ((C.getD x.toNat { grp := 0, own := 0 : Chg }).grp ≤ (C.getD (x - 1).toNat { grp := 0, own := 0 : Chg }).grp) || decide ((C.getD x.toNat { grp := 0, own := 0 : Chg }).own < 1)) = false → (decide ((C.getD x.toNat { grp := 0, own := 0 : Chg }).grp < 1) || decide (0 < x) && decide ((C.getD x.toNat { grp := 0, own := 0 : Chg }).grp ≤ (C.getD (x - 1).toNat { grp := 0, own := 0 : Chg }).grp) || decide ((C.getD x.toNat { grp := 0, own := 0 : Chg }).own < 1)) = false) ∧ ((decide ((C.getD x.toNat { grp := 0, own := 0 : Chg }).grp < 1) || decide (0 < x) && decide ((C.getD x.toNat { grp := 0, own := 0 : Chg }).grp ≤ (C.getD (x - 1).toNat { grp := 0, own := 0 : Chg }).grp) || decide ((C.getD x.toNat { grp := 0, own := 0 : Chg }).own < 1)) = false → (decide ((C.getD x.toNat { grp := 0, own := 0 : Chg }).grp < 1) || decide (0 < x) && decide ((C.getD x.toNat { grp := 0, own := 0 : Chg }).grp ≤ (C.getD (x - 1).toNat { grp := 0, own := 0 : Chg }).grp) || decide ((C.getD x.toNat { grp := 0, own := 0 : Chg }).own < 1)) = false) ∧ ((decide ((C.getD x.toNat { grp := 0, own := 0 : Chg }).grp < 1) || decide (0 < x) && decide ((C.getD x.toNat { grp := 0, own := 0 : Chg }).grp ≤ (C.getD (x - 1).toNat { grp := 0, own := 0 : Chg }).grp) || decide ((C.getD x.toNat { grp := 0, own := 0 : Chg }).own < 1) || decide (16777216 < (C.getD x.toNat { grp := 0, own := 0 : Chg }).own)) = false → (decide ((C.getD x.toNat { grp := 0, own := 0 : Chg }).grp < 1) || decide (0 < x) && decide ((C.getD x.toNat { grp := 0, own := 0 : Chg }).grp ≤ (C.getD (x - 1).toNat { grp := 0, own := 0 : Chg }).grp) || decide ((C.getD x.toNat { grp := 0, own := 0 : Chg }).own < 1) || decide (16777216 < (C.getD x.toNat { grp := 0, own := 0 : Chg }).own)) = false) ∧ ((decide ((C.getD x.toNat { grp := 0, own := 0 : Chg }).grp < 1) || decide (0 < x) && decide ((C.getD x.toNat { grp := 0, own := 0 : Chg }).grp ≤ (C.getD (x - 1).toNat { grp := 0, own := 0 : Chg }).grp) || decide ((C.getD x.toNat { grp := 0, own := 0 : Chg }).own < 1) || decide (16777216 < (C.getD x.toNat { grp := 0, own := 0 : Chg }).own)) = false → (decide ((C.getD x.toNat { grp := 0, own := 0 : Chg }).grp < 1) || decide (0 < x) && decide ((C.getD x.toNat { grp := 0, own := 0 : Chg }).grp ≤ (C.getD (x - 1).toNat { grp := 0, own := 0 : Chg }).grp) || decide ((C.getD x.toNat { grp := 0, own := 0 : Chg }).own < 1) || decide (16777216 < (C.getD x.toNat { grp := 0, own := 0 : Chg }).own)) = false) ∧ ((decide ((C.getD x.toNat { grp := 0, own := 0 : Chg }).grp < 1) || decide (0 < x) && decide ((C.getD x.toNat { grp := 0, own := 0 : Chg }).grp ≤ (C.getD (x - 1).toNat { grp := 0, own := 0 : Chg }).grp) || decide ((C.getD x.toNat { grp := 0, own := 0 : Chg }).own < 1) || decide (16777216 < (C.getD x.toNat { grp := 0, own := 0 : Chg }).own)) = false → 0 ≤ x ∧ x < (↑A.length : Int)) ∧ ((decide ((C.getD x.toNat { grp := 0, own := 0 : Chg }).grp < 1) || decide (0 < x) && decide ((C.getD x.toNat { grp := 0, own := 0 : Chg }).grp ≤ (C.getD (x - 1).toNat { grp := 0, own := 0 : Chg }).grp) || decide ((C.getD x.toNat { grp := 0, own := 0 : Chg }).own < 1) || decide (16777216 < (C.getD x.toNat { grp := 0, own := 0 : Chg }).own)) = false → (decide ((C.getD x.toNat { grp := 0, own := 0 : Chg }).grp < 1) || decide (0 < x) && decide ((C.getD x.toNat { grp := 0, own := 0 : Chg }).grp ≤ (C.getD (x - 1).toNat { grp := 0, own := 0 : Chg }).grp) || decide ((C.getD x.toNat { grp := 0, own := 0 : Chg }).own < 1) || decide (16777216 < (C.getD x.toNat { grp := 0, own := 0 : Chg }).own)) = false) ∧ ((decide ((C.getD x.toNat { grp := 0, own := 0 : Chg }).grp < 1) || decide (0 < x) && decide ((C.getD x.toNat { grp := 0, own := 0 : Chg }).grp ≤ (C.getD (x - 1).toNat { grp := 0, own := 0 : Chg }).grp) || decide ((C.getD x.toNat { grp := 0, own := 0 : Chg }).own < 1) || decide (16777216 < (C.getD x.toNat { grp := 0, own := 0 : Chg }).own)) = false → (decide ((C.getD x.toNat { grp := 0, own := 0 : Chg }).grp < 1) || decide (0 < x) && decide ((C.getD x.toNat { grp := 0, own := 0 : Chg }).grp ≤ (C.getD (x - 1).toNat { grp := 0, own := 0 : Chg }).grp) || decide ((C.getD x.toNat { grp := 0, own := 0 : Chg }).own < 1) || decide (16777216 < (C.getD x.toNat { grp := 0, own := 0 : Chg }).own)) = false) ∧ ((decide ((C.getD x.toNat { grp := 0, own := 0 : Chg }).grp < 1) || decide (0 < x) && decide ((C.getD x.toNat { grp := 0, own := 0 : Chg }).grp ≤ (C.getD (x - 1).toNat { grp := 0, own := 0 : Chg }).grp) || decide ((C.getD x.toNat { grp := 0, own := 0 : Chg }).own < 1) || decide (16777216 < (C.getD x.toNat { grp := 0, own := 0 : Chg }).own)) = false → (decide ((C.getD x.toNat { grp := 0, own := 0 : Chg }).grp < 1) || decide (0 < x) && decide ((C.getD x.toNat { grp := 0, own := 0 : Chg }).grp ≤ (C.getD (x - 1).toNat { grp := 0, own := 0 : Chg }).grp) || decide ((C.getD x.toNat { grp := 0, own := 0 : Chg }).own < 1) || decide (16777216 < (C.getD x.toNat { grp := 0, own := 0 : Chg }).own)) = false) ∧ ((decide ((C.getD x.toNat { grp := 0, own := 0 : Chg }).grp < 1) || decide (0 < x) && decide ((C.getD x.toNat { grp := 0, own := 0 : Chg }).grp ≤ (C.getD (x - 1).toNat { grp := 0, own := 0 : Chg }).grp) || decide ((C.getD x.toNat { grp := 0, own := 0 : Chg }).own < 1) || decide (16777216 < (C.getD x.toNat { grp := 0, own := 0 : Chg }).own)) = false → (decide ((C.getD x.toNat { grp := 0, own := 0 : Chg }).grp < 1) || decide (0 < x) && decide ((C.getD x.toNat { grp := 0, own := 0 : Chg }).grp ≤ (C.getD (x - 1).toNat { grp := 0, own := 0 : Chg }).grp) || decide ((C.getD x.toNat { grp := 0, own := 0 : Chg }).own < 1) || decide (16777216 < (C.getD x.toNat { grp := 0, own := 0 : Chg }).own)) = false) ∧ ((decide ((C.getD x.toNat { grp := 0, own := 0 : Chg }).grp < 1) || decide (0 < x) && decide ((C.getD x.toNat { grp := 0, own := 0 : Chg }).grp ≤ (C.getD (x - 1).toNat { grp := 0, own := 0 : Chg }).grp) || decide ((C.getD x.toNat { grp := 0, own := 0 : Chg }).own < 1) || decide (16777216 < (C.getD x.toNat { grp := 0, own := 0 : Chg }).own)) = false → 0 ≤ x ∧ x < (↑C.length : Int)) ∧ ((decide ((C.getD x.toNat { grp := 0, own := 0 : Chg }).grp < 1) || decide (0 < x) && decide ((C.getD x.toNat { grp := 0, own := 0 : Chg }).grp ≤ (C.getD (x - 1).toNat { grp := 0, own := 0 : Chg }).grp) || decide ((C.getD x.toNat { grp := 0, own := 0 : Chg }).own < 1) || decide (16777216 < (C.getD x.toNat { grp := 0, own := 0 : Chg }).own)) = false → (decide ((C.getD x.toNat { grp := 0, own := 0 : Chg }).grp < 1) || decide (0 < x) && decide ((C.getD x.toNat { grp := 0, own := 0 : Chg }).grp ≤ (C.getD (x - 1).toNat { grp := 0, own := 0 : Chg }).grp) || decide ((C.getD x.toNat { grp := 0, own := 0 : Chg }).own < 1) || decide (16777216 < (C.getD x.toNat { grp := 0, own := 0 : Chg }).own)) = false) ∧ ((decide ((C.getD x.toNat { grp := 0, own := 0 : Chg }).grp < 1) || decide (0 < x) && decide ((C.getD x.toNat { grp := 0, own := 0 : Chg }).grp ≤ (C.getD (x - 1).toNat { grp := 0, own := 0 : Chg }).grp) || decide ((C.getD x.toNat { grp := 0, own := 0 : Chg }).own < 1) || decide (16777216 < (C.getD x.toNat { grp := 0, own := 0 : Chg }).own)) = false → (decide ((C.getD x.toNat { grp := 0, own := 0 : Chg }).grp < 1) || decide (0 < x) && decide ((C.getD x.toNat { grp := 0, own := 0 : Chg }).grp ≤ (C.getD (x - 1).toNat { grp := 0, own := 0 : Chg }).grp) || decide ((C.getD x.toNat { grp := 0, own := 0 : Chg }).own < 1) || decide (16777216 < (C.getD x.toNat { grp := 0, own := 0 : Chg }).own)) = false) ∧ ((decide ((C.getD x.toNat { grp := 0, own := 0 : Chg }).grp < 1) || decide (0 < x) && decide ((C.getD x.toNat { grp := 0, own := 0 : Chg }).grp ≤ (C.getD (x - 1).toNat { grp := 0, own := 0 : Chg }).grp) || decide ((C.getD x.toNat { grp := 0, own := 0 : Chg }).own < 1) || decide (16777216 < (C.getD x.toNat { grp := 0, own := 0 : Chg }).own)) = false → (decide ((C.getD x.toNat { grp := 0, own := 0 : Chg }).grp < 1) || decide (0 < x) && decide ((C.getD x.toNat { grp := 0, own := 0 : Chg }).grp ≤ (C.getD (x - 1).toNat { grp := 0, own := 0 : Chg }).grp) || decide ((C.getD x.toNat { grp := 0, own := 0 : Chg }).own < 1) || decide (16777216 < (C.getD x.toNat { grp := 0, own := 0 : Chg }).own)) = false) ∧ ((decide ((C.getD x.toNat { grp := 0, own := 0 : Chg }).grp < 1) || decide (0 < x) && decide ((C.getD x.toNat { grp := 0, own := 0 : Chg }).grp ≤ (C.getD (x - 1).toNat { grp := 0, own := 0 : Chg }).grp) || decide ((C.getD x.toNat { grp := 0, own := 0 : Chg }).own < 1) || decide (16777216 < (C.getD x.toNat { grp := 0, own := 0 : Chg }).own)) = false → (decide ((C.getD x.toNat { grp := 0, own := 0 : Chg }).grp < 1) || decide (0 < x) && decide ((C.getD x.toNat { grp := 0, own := 0 : Chg }).grp ≤ (C.getD (x - 1).toNat { grp := 0, own := 0 : Chg }).grp) || decide ((C.getD x.toNat { grp := 0, own := 0 : Chg }).own < 1) || decide (16777216 < (C.getD x.toNat { grp := 0, own := 0 : Chg }).own)) = false) ∧ ((decide ((C.getD x.toNat { grp := 0, own := 0 : Chg }).grp < 1) || decide (0 < x) && decide ((C.getD x.toNat { grp := 0, own := 0 : Chg }).grp ≤ (C.getD (x - 1).toNat { grp := 0, own := 0 : Chg }).grp) || decide ((C.getD x.toNat { grp := 0, own := 0 : Chg }).own < 1) || decide (16777216 < (C.getD x.toNat { grp := 0, own := 0 : Chg }).own)) = false → (decide ((C.getD x.toNat { grp := 0, own := 0 : Chg }).grp < 1) || decide (0 < x) && decide ((C.getD x.toNat { grp := 0, own := 0 : Chg }).grp ≤ (C.getD (x - 1).toNat { grp := 0, own := 0 : Chg }).grp) || decide ((C.getD x.toNat { grp := 0, own := 0 : Chg }).own < 1) || decide (16777216 < (C.getD x.toNat { grp := 0, own := 0 : Chg }).own)) = false) ∧ ((decide ((C.getD x.toNat { grp := 0, own := 0 : Chg }).grp < 1) || decide (0 < x) && decide ((C.getD x.toNat { grp := 0, own := 0 : Chg }).grp ≤ (C.getD (x - 1).toNat { grp := 0, own := 0 : Chg }).grp) || decide ((C.getD x.toNat { grp := 0, own := 0 : Chg }).own < 1) || decide (16777216 < (C.getD x.toNat { grp := 0, own := 0 : Chg }).own) || !decide ((A.getD x.toNat { grp := 0, nodes := NilL Int : NSet }).grp = (C.getD x.toNat { grp := 0, own := 0 : Chg }).grp)) = false → (decide ((C.getD x.toNat { grp := 0, own := 0 : Chg }).grp < 1) || decide (0 < x) && decide ((C.getD x.toNat { grp := 0, own := 0 : Chg }).grp ≤ (C.getD (x - 1).toNat { grp := 0, own := 0 : Chg }).grp) || decide ((C.getD x.toNat { grp := 0, own := 0 : Chg }).own < 1) || decide (16777216 < (C.getD x.toNat { grp := 0, own := 0 : Chg }).own) || !decide ((A.getD x.toNat { grp := 0, nodes := NilL Int : NSet }).grp = (C.getD x.toNat { grp := 0, own := 0 : Chg }).grp)) = false) ∧ ((decide ((C.getD x.toNat { grp := 0, own := 0 : Chg }).grp < 1) || decide (0 < x) && decide ((C.getD x.toNat { grp := 0, own := 0 : Chg }).grp ≤ (C.getD (x - 1).toNat { grp := 0, own := 0 : Chg }).grp) || decide ((C.getD x.toNat { grp := 0, own := 0 : Chg }).own < 1) || decide (16777216 < (C.getD x.toNat { grp := 0, own := 0 : Chg }).own) || !decide ((A.getD x.toNat { grp := 0, nodes := NilL Int : NSet }).grp = (C.getD x.toNat { grp := 0, own := 0 : Chg }).grp)) = false → (decide ((C.getD x.toNat { grp := 0, own := 0 : Chg }).grp < 1) || decide (0 < x) && decide ((C.getD x.toNat { grp := 0, own := 0 : Chg }).grp ≤ (C.getD (x - 1).toNat { grp := 0, own := 0 : Chg }).grp) || decide ((C.getD x.toNat { grp := 0, own := 0 : Chg }).own < 1) || decide (16777216 < (C.getD x.toNat { grp := 0, own := 0 : Chg }).own) || !decide ((A.getD x.toNat { grp := 0, nodes := NilL Int : NSet }).grp = (C.getD x.toNat { grp := 0, own := 0 : Chg }).grp)) = false) ∧ ((decide ((C.getD x.toNat { grp := 0, own := 0 : Chg }).grp < 1) || decide (0 < x) && decide ((C.getD x.toNat { grp := 0, own := 0 : Chg }).grp ≤ (C.getD (x - 1).toNat { grp := 0, own := 0 : Chg }).grp) || decide ((C.getD x.toNat { grp := 0, own := 0 : Chg }).own < 1) || decide (16777216 < (C.getD x.toNat { grp := 0, own := 0 : Chg }).own) || !decide ((A.getD x.toNat { grp := 0, nodes := NilL Int : NSet }).grp = (C.getD x.toNat { grp := 0, own := 0 : Chg }).grp)) = false → 0 ≤ x ∧ x < (↑A.length : Int)) ∧ ((decide ((C.getD x.toNat { grp := 0, own := 0 : Chg }).grp < 1) || decide (0 < x) && decide ((C.getD x.toNat { grp := 0, own := 0 : Chg }).grp ≤ (C.getD (x - 1).toNat { grp := 0, own := 0 : Chg }).grp) || decide ((C.getD x.toNat { grp := 0, own := 0 : Chg }).own < 1) || decide (16777216 < (C.getD x.toNat { grp := 0, own := 0 : Chg }).own) || !decide ((A.getD x.toNat { grp := 0, nodes := NilL Int : NSet }).grp = (C.getD x.toNat { grp := 0, own := 0 : Chg }).grp)) = false → (decide ((C.getD x.toNat { grp := 0, own := 0 : Chg }).grp < 1) || decide (0 < x) && decide ((C.getD x.toNat { grp := 0, own := 0 : Chg }).grp ≤ (C.getD (x - 1).toNat { grp := 0, own := 0 : Chg }).grp) || decide ((C.getD x.toNat { grp := 0, own := 0 : Chg }).own < 1) || decide (16777216 < (C.getD x.toNat { grp := 0, own := 0 : Chg }).own) || !decide ((A.getD x.toNat { grp := 0, nodes := NilL Int : NSet }).grp = (C.getD x.toNat { grp := 0, own := 0 : Chg }).grp)) = false) ∧ ((decide ((C.getD x.toNat { grp := 0, own := 0 : Chg }).grp < 1) || decide (0 < x) && decide ((C.getD x.toNat { grp := 0, own := 0 : Chg }).grp ≤ (C.getD (x - 1).toNat { grp := 0, own := 0 : Chg }).grp) || decide ((C.getD x.toNat { grp := 0, own := 0 : Chg }).own < 1) || decide (16777216 < (C.getD x.toNat { grp := 0, own := 0 : Chg }).own) || !decide ((A.getD x.toNat { grp := 0, nodes := NilL Int : NSet }).grp = (C.getD x.toNat { grp := 0, own := 0 : Chg }).grp)) = false → (decide ((C.getD x.toNat { grp := 0, own := 0 : Chg }).grp < 1) || decide (0 < x) && decide ((C.getD x.toNat { grp := 0, own := 0 : Chg }).grp ≤ (C.getD (x - 1).toNat { grp := 0, own := 0 : Chg }).grp) || decide ((C.getD x.toNat { grp := 0, own := 0 : Chg }).own < 1) || decide (16777216 < (C.getD x.toNat { grp := 0, own := 0 : Chg }).own) || !decide ((A.getD x.toNat { grp := 0, nodes := NilL Int : NSet }).grp = (C.getD x.toNat { grp := 0, own := 0 : Chg }).grp)) = false) ∧ ((decide ((C.getD x.toNat { grp := 0, own := 0 : Chg }).grp < 1) || decide (0 < x) && decide ((C.getD x.toNat { grp := 0, own := 0 : Chg }).grp ≤ (C.getD (x - 1).toNat { grp := 0, own := 0 : Chg }).grp) || decide ((C.getD x.toNat { grp := 0, own := 0 : Chg }).own < 1) || decide (16777216 < (C.getD x.toNat { grp := 0, own := 0 : Chg }).own) || !decide ((A.getD x.toNat { grp := 0, nodes := NilL Int : NSet }).grp = (C.getD x.toNat { grp := 0, own := 0 : Chg }).grp)) = false → (decide ((C.getD x.toNat { grp := 0, own := 0 : Chg }).grp < 1) || decide (0 < x) && decide ((C.getD x.toNat { grp := 0, own := 0 : Chg }).grp ≤ (C.getD (x - 1).toNat { grp := 0, own := 0 : Chg }).grp) || decide ((C.getD x.toNat { grp := 0, own := 0 : Chg }).own < 1) || decide (16777216 < (C.getD x.toNat { grp := 0, own := 0 : Chg }).own) || !decide ((A.getD x.toNat { grp := 0, nodes := NilL Int : NSet }).grp = (C.getD x.toNat { grp := 0, own := 0 : Chg }).grp)) = false) ∧ ((decide ((C.getD x.toNat { grp := 0, own := 0 : Chg }).grp < 1) || decide (0 < x) && decide ((C.getD x.toNat { grp := 0, own := 0 : Chg }).grp ≤ (C.getD (x - 1).toNat { grp := 0, own := 0 : Chg }).grp) || decide ((C.getD x.toNat { grp := 0, own := 0 : Chg }).own < 1) || decide (16777216 < (C.getD x.toNat { grp := 0, own := 0 : Chg }).own) || !decide ((A.getD x.toNat { grp := 0, nodes := NilL Int : NSet }).grp = (C.getD x.toNat { grp := 0, own := 0 : Chg }).grp)) = false → (decide ((C.getD x.toNat { grp := 0, own := 0 : Chg }).grp < 1) || decide (0 < x) && decide ((C.getD x.toNat { grp := 0, own := 0 : Chg }).grp ≤ (C.getD (x - 1).toNat { grp := 0, own := 0 : Chg }).grp) || decide ((C.getD x.toNat { grp := 0, own := 0 : Chg }).own < 1) || decide (16777216 < (C.getD x.toNat { grp := 0, own := 0 : Chg }).own) || !decide ((A.getD x.toNat { grp := 0, nodes := NilL Int : NSet }).grp = (C.getD x.toNat { grp := 0, own := 0 : Chg }).grp)) = false) ∧ ((decide ((C.getD x.toNat { grp := 0, own := 0 : Chg }).grp < 1) || decide (0 < x) && decide ((C.getD x.toNat { grp := 0, own := 0 : Chg }).grp ≤ (C.getD (x - 1).toNat { grp := 0, own := 0 : Chg }).grp) || decide ((C.getD x.toNat { grp := 0, own := 0 : Chg }).own < 1) || decide (16777216 < (C.getD x.toNat { grp := 0, own := 0 : Chg }).own) || !decide ((A.getD x.toNat { grp := 0, nodes := NilL Int : NSet }).grp = (C.getD x.toNat { grp := 0, own := 0 : Chg }).grp)) = false → (decide ((C.getD x.toNat { grp := 0, own := 0 : Chg }).grp < 1) || decide (0 < x) && decide ((C.getD x.toNat { grp := 0, own := 0 : Chg }).grp ≤ (C.getD (x - 1).toNat { grp := 0, own := 0 : Chg }).grp) || decide ((C.getD x.toNat { grp := 0, own := 0 : Chg }).own < 1) || decide (16777216 < (C.getD x.toNat { grp := 0, own := 0 : Chg }).own) || !decide ((A.getD x.toNat { grp := 0, nodes := NilL Int : NSet }).grp = (C.getD x.toNat { grp := 0, own := 0 : Chg }).grp)) = false) ∧ ((decide ((C.getD x.toNat { grp := 0, own := 0 : Chg }).grp < 1) || decide (0 < x) && decide ((C.getD x.toNat { grp := 0, own := 0 : Chg }).grp ≤ (C.getD (x - 1).toNat { grp := 0, own := 0 : Chg }).grp) || decide ((C.getD x.toNat { grp := 0, own := 0 : Chg }).own < 1) || decide (16777216 < (C.getD x.toNat { grp := 0, own := 0 : Chg }).own) || !decide ((A.getD x.toNat { grp := 0, nodes := NilL Int : NSet }).grp = (C.getD x.toNat { grp := 0, own := 0 : Chg }).grp) || decide ((↑(A.getD x.toNat { grp := 0, nodes := NilL Int : NSet }).nodes.length : Int) = 0)) = false → (decide ((C.getD x.toNat { grp := 0, own := 0 : Chg }).grp < 1) || decide (0 < x) && decide ((C.getD x.toNat { grp := 0, own := 0 : Chg }).grp ≤ (C.getD (x - 1).toNat { grp := 0, own := 0 : Chg }).grp) || decide ((C.getD x.toNat { grp := 0, own := 0 : Chg }).own < 1) || decide (16777216 < (C.getD x.toNat { grp := 0, own := 0 : Chg }).own) || !decide ((A.getD x.toNat { grp := 0, nodes := NilL Int : NSet }).grp = (C.getD x.toNat { grp := 0, own := 0 : Chg }).grp) || decide ((↑(A.getD x.toNat { grp := 0, nodes := NilL Int : NSet }).nodes.length : Int) = 0)) = false) ∧ ((decide ((C.getD x.toNat { grp := 0, own := 0 : Chg }).grp < 1) || decide (0 < x) && decide ((C.getD x.toNat { grp := 0, own := 0 : Chg }).grp ≤ (C.getD (x - 1).toNat { grp := 0, own := 0 : Chg }).grp) || decide ((C.getD x.toNat { grp := 0, own := 0 : Chg }).own < 1) || decide (16777216 < (C.getD x.toNat { grp := 0, own := 0 : Chg }).own) || !decide ((A.getD x.toNat { grp := 0, nodes := NilL Int : NSet }).grp = (C.getD x.toNat { grp := 0, own := 0 : Chg }).grp) || decide ((↑(A.getD x.toNat { grp := 0, nodes := NilL Int : NSet }).nodes.length : Int) = 0)) = false → (decide ((C.getD x.toNat { grp := 0, own := 0 : Chg }).grp < 1) || decide (0 < x) && decide ((C.getD x.toNat { grp := 0, own := 0 : Chg }).grp ≤ (C.getD (x - 1).toNat { grp := 0, own := 0 : Chg }).grp) || decide ((C.getD x.toNat { grp := 0, own := 0 : Chg }).own < 1) || decide (16777216 < (C.getD x.toNat { grp := 0, own := 0 : Chg }).own) || !decide ((A.getD x.toNat { grp := 0, nodes := NilL Int : NSet }).grp = (C.getD x.toNat { grp := 0, own := 0 : Chg }).grp) || decide ((↑(A.getD x.toNat { grp := 0, nodes := NilL Int : NSet }).nodes.length : Int) = 0)) = false) ∧ ((decide ((C.getD x.toNat { grp := 0, own := 0 : Chg }).grp < 1) || decide (0 < x) && decide ((C.getD x.toNat { grp := 0, own := 0 : Chg }).grp ≤ (C.getD (x - 1).toNat { grp := 0, own := 0 : Chg }).grp) || decide ((C.getD x.toNat { grp := 0, own := 0 : Chg }).own < 1) || decide (16777216 < (C.getD x.toNat { grp := 0, own := 0 : Chg }).own) || !decide ((A.getD x.toNat { grp := 0, nodes := NilL Int : NSet }).grp = (C.getD x.toNat { grp := 0, own := 0 : Chg }).grp) || decide ((↑(A.getD x.toNat { grp := 0, nodes := NilL Int : NSet }).nodes.length : Int) = 0)) = false → 0 ≤ x ∧ x < (↑A.length : Int)) ∧ ((decide ((C.getD x.toNat { grp := 0, own := 0 : Chg }).grp < 1) || decide (0 < x) && decide ((C.getD x.toNat { grp := 0, own := 0 : Chg }).grp ≤ (C.getD (x - 1).toNat { grp := 0, own := 0 : Chg }).grp) || decide ((C.getD x.toNat { grp := 0, own := 0 : Chg }).own < 1) || decide (16777216 < (C.getD x.toNat { grp := 0, own := 0 : Chg }).own) || !decide ((A.getD x.toNat { grp := 0, nodes := NilL Int : NSet }).grp = (C.getD x.toNat { grp := 0, own := 0 : Chg }).grp) || decide ((↑(A.getD x.toNat { grp := 0, nodes := NilL Int : NSet }).nodes.length : Int) = 0)) = false → (decide ((C.getD x.toNat { grp := 0, own := 0 : Chg }).grp < 1) || decide (0 < x) && decide ((C.getD x.toNat { grp := 0, own := 0 : Chg }).grp ≤ (C.getD (x - 1).toNat { grp := 0, own := 0 : Chg }).grp) || decide ((C.getD x.toNat { grp := 0, own := 0 : Chg }).own < 1) || decide (16777216 < (C.getD x.toNat { grp := 0, own := 0 : Chg }).own) || !decide ((A.getD x.toNat { grp := 0, nodes := NilL Int : NSet }).grp = (C.getD x.toNat { grp := 0, own := 0 : Chg }).grp) || decide ((↑(A.getD x.toNat { grp := 0, nodes := NilL Int : NSet }).nodes.length : Int) = 0)) = false) ∧ ((decide ((C.getD x.toNat { grp := 0, own := 0 : Chg }).grp < 1) || decide (0 < x) && decide ((C.getD x.toNat { grp := 0, own := 0 : Chg }).grp ≤ (C.getD (x - 1).toNat { grp := 0, own := 0 : Chg }).grp) || decide ((C.getD x.toNat { grp := 0, own := 0 : Chg }).own < 1) || decide (16777216 < (C.getD x.toNat { grp := 0, own := 0 : Chg }).own) || !decide ((A.getD x.toNat { grp := 0, nodes := NilL Int : NSet }).grp = (C.getD x.toNat { grp := 0, own := 0 : Chg }).grp) || decide ((↑(A.getD x.toNat { grp := 0, nodes := NilL Int : NSet }).nodes.length : Int) = 0)) = false → (decide ((C.getD x.toNat { grp := 0, own := 0 : Chg }).grp < 1) || decide (0 < x) && decide ((C.getD x.toNat { grp := 0, own := 0 : Chg }).grp ≤ (C.getD (x - 1).toNat { grp := 0, own := 0 : Chg }).grp) || decide ((C.getD x.toNat { grp := 0, own := 0 : Chg }).own < 1) || decide (16777216 < (C.getD x.toNat { grp := 0, own := 0 : Chg }).own) || !decide ((A.getD x.toNat { grp := 0, nodes := NilL Int : NSet }).grp = (C.getD x.toNat { grp := 0, own := 0 : Chg }).grp) || decide ((↑(A.getD x.toNat { grp := 0, nodes := NilL Int : NSet }).nodes.length : Int) = 0)) = false) ∧ ((decide ((C.getD x.toNat { grp := 0, own := 0 : Chg }).grp < 1) || decide (0 < x) && decide ((C.getD x.toNat { grp := 0, own := 0 : Chg }).grp ≤ (C.getD (x - 1).toNat { grp := 0, own := 0 : Chg }).grp) || decide ((C.getD x.toNat { grp := 0, own := 0 : Chg }).own < 1) || decide (16777216 < (C.getD x.toNat { grp := 0, own := 0 : Chg }).own) || !decide ((A.getD x.toNat { grp := 0, nodes := NilL Int : NSet }).grp = (C.getD x.toNat { grp := 0, own := 0 : Chg }).grp) || decide ((↑(A.getD x.toNat { grp := 0, nodes := NilL Int : NSet }).nodes.length : Int) = 0)) = false → (decide ((C.getD x.toNat { grp := 0, own := 0 : Chg }).grp < 1) || decide (0 < x) && decide ((C.getD x.toNat { grp := 0, own := 0 : Chg }).grp ≤ (C.getD (x - 1).toNat { grp := 0, own := 0 : Chg }).grp) || decide ((C.getD x.toNat { grp := 0, own := 0 : Chg }).own < 1) || decide (16777216 < (C.getD x.toNat { grp := 0, own := 0 : Chg }).own) || !decide ((A.getD x.toNat { grp := 0, nodes := NilL Int : NSet }).grp = (C.getD x.toNat { grp := 0, own := 0 : Chg }).grp) || decide ((↑(A.getD x.toNat { grp := 0, nodes := NilL Int : NSet }).nodes.length : Int) = 0)) = false) ∧ ((decide ((C.getD x.toNat { grp := 0, own := 0 : Chg }).grp < 1) || decide (0 < x) && decide ((C.getD x.toNat { grp := 0, own := 0 : Chg }).grp ≤ (C.getD (x - 1).toNat { grp := 0, own := 0 : Chg }).grp) || decide ((C.getD x.toNat { grp := 0, own := 0 : Chg }).own < 1) || decide (16777216 < (C.getD x.toNat { grp := 0, own := 0 : Chg }).own) || !decide ((A.getD x.toNat { grp := 0, nodes := NilL Int : NSet }).grp = (C.getD x.toNat { grp := 0, own := 0 : Chg }).grp) || decide ((↑(A.getD x.toNat { grp := 0, nodes := NilL Int : NSet }).nodes.length : Int) = 0)) = false → (decide ((C.getD x.toNat { grp := 0, own := 0 : Chg }).grp < 1) || decide (0 < x) && decide ((C.getD x.toNat { grp := 0, own := 0 : Chg }).grp ≤ (C.getD (x - 1).toNat { grp := 0, own := 0 : Chg }).grp) || decide ((C.getD x.toNat { grp := 0, own := 0 : Chg }).own < 1) || decide (16777216 < (C.getD x.toNat { grp := 0, own := 0 : Chg }).own) || !decide ((A.getD x.toNat { grp := 0, nodes := NilL Int : NSet }).grp = (C.getD x.toNat { grp := 0, own := 0 : Chg }).grp) || decide ((↑(A.getD x.toNat { grp := 0, nodes := NilL Int : NSet }).nodes.length : Int) = 0)) = false) ∧ ((decide ((C.getD x.toNat { grp := 0, own := 0 : Chg }).grp < 1) || decide (0 < x) && decide ((C.getD x.toNat { grp := 0, own := 0 : Chg }).grp ≤ (C.getD (x - 1).toNat { grp := 0, own := 0 : Chg }).grp) || decide ((C.getD x.toNat { grp := 0, own := 0 : Chg }).own < 1) || decide (16777216 < (C.getD x.toNat { grp := 0, own := 0 : Chg }).own) || !decide ((A.getD x.toNat { grp := 0, nodes := NilL Int : NSet }).grp = (C.getD x.toNat { grp := 0, own := 0 : Chg }).grp) || decide ((↑(A.getD x.toNat { grp := 0, nodes := NilL Int : NSet }).nodes.length : Int) = 0)) = false → (decide ((C.getD x.toNat { grp := 0, own := 0 : Chg }).grp < 1) || decide (0 < x) && decide ((C.getD x.toNat { grp := 0, own := 0 : Chg }).grp ≤ (C.getD (x - 1).toNat { grp := 0, own := 0 : Chg }).grp) || decide ((C.getD x.toNat { grp := 0, own := 0 : Chg }).own < 1) || decide (16777216 < (C.getD x.toNat { grp := 0, own := 0 : Chg }).own) || !decide ((A.getD x.toNat { grp := 0, nodes := NilL Int : NSet }).grp = (C.getD x.toNat { grp := 0, own := 0 : Chg }).grp) || decide ((↑(A.getD x.toNat { grp := 0, nodes := NilL Int : NSet }).nodes.length : Int) = 0)) = false) ∧ ((decide ((C.getD x.toNat { grp := 0, own := 0 : Chg }).grp < 1) || decide (0 < x) && decide ((C.getD x.toNat { grp := 0, own := 0 : Chg }).grp ≤ (C.getD (x - 1).toNat { grp := 0, own := 0 : Chg }).grp) || decide ((C.getD x.toNat { grp := 0, own := 0 : Chg }).own < 1) || decide (16777216 < (C.getD x.toNat { grp := 0, own := 0 : Chg }).own) || !decide ((A.getD x.toNat { grp := 0, nodes := NilL Int : NSet }).grp = (C.getD x.toNat { grp := 0, own := 0 : Chg }).grp) || decide ((↑(A.getD x.toNat { grp := 0, nodes := NilL Int : NSet }).nodes.length : Int) = 0)) = false → (A.getD x.toNat { grp := 0, nodes := NilL Int : NSet }).nodes.length ≤ (9223372036854775807 : Nat)) ∧ ((decide ((C.getD x.toNat { grp := 0, own := 0 : Chg }).grp < 1) || decide (0 < x) && decide ((C.getD x.toNat { grp := 0, own := 0 : Chg }).grp ≤ (C.getD (x - 1).toNat { grp := 0, own := 0 : Chg }).grp) || decide ((C.getD x.toNat { grp := 0, own := 0 : Chg }).own < 1) || decide (16777216 < (C.getD x.toNat { grp := 0, own := 0 : Chg }).own) || !decide ((A.getD x.toNat { grp := 0, nodes := NilL Int : NSet }).grp = (C.getD x.toNat { grp := 0, own := 0 : Chg }).grp) || decide ((↑(A.getD x.toNat { grp := 0, nodes := NilL Int : NSet }).nodes.length : Int) = 0)) = false → (decide ((C.getD x.toNat { grp := 0, own := 0 : Chg }).grp < 1) || decide (0 < x) && decide ((C.getD x.toNat { grp := 0, own := 0 : Chg }).grp ≤ (C.getD (x - 1).toNat { grp := 0, own := 0 : Chg }).grp) || decide ((C.getD x.toNat { grp := 0, own := 0 : Chg }).own < 1) || decide (16777216 < (C.getD x.toNat { grp := 0, own := 0 : Chg }).own) || !decide ((A.getD x.toNat { grp := 0, nodes := NilL Int : NSet }).grp = (C.getD x.toNat { grp := 0, own := 0 : Chg }).grp) || decide ((↑(A.getD x.toNat { grp := 0, nodes := NilL Int : NSet }).nodes.length : Int) = 0)) = false) ∧ ((decide ((C.getD x.toNat { grp := 0, own := 0 : Chg }).grp < 1) || decide (0 < x) && decide ((C.getD x.toNat { grp := 0, own := 0 : Chg }).grp ≤ (C.getD (x - 1).toNat { grp := 0, own := 0 : Chg }).grp) || decide ((C.getD x.toNat { grp := 0, own := 0 : Chg }).own < 1) || decide (16777216 < (C.getD x.toNat { grp := 0, own := 0 : Chg }).own) || !decide ((A.getD x.toNat { grp := 0, nodes := NilL Int : NSet }).grp = (C.getD x.toNat { grp := 0, own := 0 : Chg }).grp) || decide ((↑(A.getD x.toNat { grp := 0, nodes := NilL Int : NSet }).nodes.length : Int) = 0)) = false → (decide ((C.getD x.toNat { grp := 0, own := 0 : Chg }).grp < 1) || decide (0 < x) && decide ((C.getD x.toNat { grp := 0, own := 0 : Chg }).grp ≤ (C.getD (x - 1).toNat { grp := 0, own := 0 : Chg }).grp) || decide ((C.getD x.toNat { grp := 0, own := 0 : Chg }).own < 1) || decide (16777216 < (C.getD x.toNat { grp := 0, own := 0 : Chg }).own) || !decide ((A.getD x.toNat { grp := 0, nodes := NilL Int : NSet }).grp = (C.getD x.toNat { grp := 0, own := 0 : Chg }).grp) || decide ((↑(A.getD x.toNat { grp := 0, nodes := NilL Int : NSet }).nodes.length : Int) = 0)) = false) ∧ ((decide ((C.getD x.toNat { grp := 0, own := 0 : Chg }).grp < 1) || decide (0 < x) && decide ((C.getD x.toNat { grp := 0, own := 0 : Chg }).grp ≤ (C.getD (x - 1).toNat { grp := 0, own := 0 : Chg }).grp) || decide ((C.getD x.toNat { grp := 0, own := 0 : Chg }).own < 1) || decide (16777216 < (C.getD x.toNat { grp := 0, own := 0 : Chg }).own) || !decide ((A.getD x.toNat { grp := 0, nodes := NilL Int : NSet }).grp = (C.getD x.toNat { grp := 0, own := 0 : Chg }).grp) || decide ((↑(A.getD x.toNat { grp := 0, nodes := NilL Int : NSet }).nodes.length : Int) = 0) || !ascB (A.getD x.toNat { grp := 0, nodes := NilL Int : NSet }).nodes (↑cap.length : Int)) = true → ∃ (y : Unit), True ∧ false = vokB C A cap) ∧ ((decide ((C.getD x.toNat { grp := 0, own := 0 : Chg }).grp < 1) || decide (0 < x) && decide ((C.getD x.toNat { grp := 0, own := 0 : Chg }).grp ≤ (C.getD (x - 1).toNat { grp := 0, own := 0 : Chg }).grp) || decide ((C.getD x.toNat { grp := 0, own := 0 : Chg }).own < 1) || decide (16777216 < (C.getD x.toNat { grp := 0, own := 0 : Chg }).own) || !decide ((A.getD x.toNat { grp := 0, nodes := NilL Int : NSet }).grp = (C.getD x.toNat { grp := 0, own := 0 : Chg }).grp) || decide ((↑(A.getD x.toNat { grp := 0, nodes := NilL Int : NSet }).nodes.length : Int) = 0) || !ascB (A.getD x.toNat { grp := 0, nodes := NilL Int : NSet }).nodes (↑cap.length : Int)) = false → i64R (x + 1) ∧ ∃ (x' : Int), (0 ≤ x' ∧ x' ≤ (↑C.length : Int) ∧ ∀ (j : Nat), j < x'.toNat → chgO C A (↑cap.length : Int) j) ∧ ((↑C.length : Int) - x').toNat < ((↑C.length : Int) - x).toNat ∧ x + 1 = x')) ∧ (decide (x < (↑C.length : Int)) = false → ∃ (y : Unit), True ∧ true = vokB C A cap)))) = sValid.vc (EV Try.prog [(47, sAsc3.spec)] (invsS [(4, inv28a cap), (9, inv28b C A cap)]) noInv) Try.f28 (C, A, cap, ()) := by kernel_rfl
  rw [← e]
  clear e
  simp only [imp_self, true_and, exists_const, gd1]
  simp only [i64R, Int.reduceNeg, decide_eq_true_eq, decide_eq_false_iff_not, Bool.not_eq_true', Bool.not_eq_false', Bool.and_eq_true, Bool.or_eq_true, Bool.and_eq_false_iff, Bool.or_eq_false_iff ]
  simp only [NilL_eq]
  have hN : ∀ z, (A.getD z { grp := 0, nodes := [] }).nodes = nodesAt A z := fun _ => rfl
  have hS : ∀ z, (A.getD z { grp := 0, nodes := [] }).grp = setAt A z := fun _ => rfl
  have hG : ∀ z, (C.getD z { grp := 0, own := 0 }).grp = grpAt C z := fun _ => rfl
  have hO : ∀ z, (C.getD z { grp := 0, own := 0 }).own = ownAt C z := fun _ => rfl
  simp only [hN, hS, hG, hO]
  have nx : ¬ VOK C A cap → false = vokB C A cap := fun h => (vokB_f.2 h).symm
  have hc := hx.c
  have hk := hx.k
  have hnn := hx.n
  refine ⟨fun h => nx fun hv => by have := hv.c1; have := hv.c8; have := hv.d64; have := hv.la; omega, fun h => ⟨⟨0, ⟨by omega, by omega, fun j hj => by simp at hj⟩, rfl⟩, fun i hi => ?_⟩⟩
  obtain ⟨i0, i1, hj⟩ := hi
  refine ⟨fun hlt => ⟨⟨i0, hlt⟩, fun _ => ⟨i0, hlt⟩, fun h2 => nx fun hv => by have := hv.cp i.toNat (by omega); omega, fun h2 => ⟨by omega, i + 1, ⟨by omega, by omega, fun j hj' => ?_⟩, by omega, rfl⟩⟩, fun hge => ⟨⟨0, ⟨by omega, by omega, fun j hj => by simp at hj⟩, rfl⟩, fun k hk' => ?_⟩⟩
  · by_cases e : j = i.toNat
    · subst e; omega
    · exact hj j (by omega)
  obtain ⟨k0, k1, hj2⟩ := hk'
  have eA : (ascB (nodesAt A k.toNat) cap.length = true ↔ Asc (nodesAt A k.toNat) cap.length) := ascB_t
  have eB : (ascB (nodesAt A k.toNat) cap.length = false ↔ ¬ Asc (nodesAt A k.toNat) cap.length) := ascB_f
  have eN : nodesAt A k.toNat = [] ↔ (((nodesAt A k.toNat).length : Int) = 0) := by
    constructor
    · intro e; rw [e]; rfl
    · intro e; exact List.eq_nil_of_length_eq_zero (by omega)
  have e1 : k.toNat - 1 = (k - 1).toNat := by omega
  refine ⟨fun hlt => ?_, fun hge => ?_⟩
  · simp only [eA, eB]
    refine ⟨⟨k0, hlt⟩, ?_⟩
    repeat (first | refine ⟨fun _ => ⟨by omega, by omega⟩, ?_⟩ | refine ⟨fun _ => hnn _, ?_⟩)
    refine ⟨fun h2 => nx fun hv => ?_, fun h2 => ⟨by omega, k + 1, ⟨by omega, by omega, fun j hj' => ?_⟩, by omega, rfl⟩⟩
    · obtain ⟨c1, c2, c3, c4, c5, c6, c7⟩ := hv.chg k.toNat (by omega)
      rw [e1] at c2
      rcases h2 with (((((h2 | h2) | h2) | h2) | h2) | h2) | h2
      · omega
      · have := c2 (by omega); omega
      · omega
      · omega
      · exact h2 c5
      · exact c6 (eN.2 h2)
      · exact h2 c7
    · by_cases e : j = k.toNat
      · subst e
        obtain ⟨⟨⟨⟨⟨⟨c1, c2⟩, c3⟩, c4⟩, c5⟩, c6⟩, c7⟩ := h2
        refine ⟨by omega, fun h0 => ?_, by omega, by omega, c5, fun e => c6 (eN.1 e), c7⟩
        rw [e1]
        rcases c2 with c2 | c2 <;> omega
      · exact hj2 j (by omega)
  · symm
    exact vokB_t.2 ⟨by omega, by omega, by omega, by omega, fun j hj' => hj j (by omega), fun j hj' => hj2 j (by omega)⟩

def inv29a (C : List Chg) (A : List NSet) (cap S : List Int) (s : St) : Inv where
  X := Int
  ok := fun i => 0 ≤ i ∧ i ≤ C.length
  sl := fun i => [(28, .int .i64 i), (9, .int .i64 (needN C A S i.toNat))]
  hp := fun i => []
  keep := [10000]
  me := fun i => (C.length - i).toNat
def inv29b (C : List Chg) (A : List NSet) (cap S : List Int) (s : St) : Inv where
  X := Int
  ok := fun i => 0 ≤ i ∧ i ≤ S.length
  sl := fun i => [(48, .int .i64 i), (9, .int .i64 (needN C A S C.length - capN cap S i.toNat))]
  hp := fun i => []
  keep := [10000]
  me := fun i => (S.length - i).toNat
set_option maxRecDepth 100000 in
theorem vc29 (C : List Chg) (A : List NSet) (cap S : List Int) (hx : Sml C A cap ∧ S.length ≤ 9223372036854775807) : sRef.vc (EV Try.prog [(18, sValid.spec), (37, sAsc.spec), (44, sConO.spec)] (invsS [(5, inv29a C A cap S), (11, inv29b C A cap S)]) noInv) Try.f29 (C, A, cap, S, ()) := by
  have e : (Sml C A cap ∧ ((!vokB C A cap) = false → (!vokB C A cap) = false) ∧ ((!vokB C A cap) = false → (!vokB C A cap) = false) ∧ ((!vokB C A cap) = false → (!vokB C A cap) = false) ∧ ((!vokB C A cap) = false → S.length ≤ (9223372036854775807 : Nat)) ∧ ((!vokB C A cap) = false → (!vokB C A cap) = false) ∧ ((!vokB C A cap) = false → (!vokB C A cap) = false) ∧ ((!vokB C A cap || !ascB S (↑cap.length : Int)) = true → ∃ (y : Unit), True ∧ false = refB C A cap S) ∧ ((!vokB C A cap || !ascB S (↑cap.length : Int)) = false → (∃ (x : Int), (0 ≤ x ∧ x ≤ (↑C.length : Int)) ∧ 0 = x ∧ 0 = needN C A S x.toNat ∧ S = S) ∧ ∀ (x : Int), 0 ≤ x ∧ x ≤ (↑C.length : Int) → (decide (x < (↑C.length : Int)) = true → (0 ≤ x ∧ x < (↑C.length : Int)) ∧ (0 ≤ x ∧ x < (↑A.length : Int)) ∧ ((A.getD x.toNat { grp := 0, nodes := NilL Int : NSet }).nodes.length ≤ (9223372036854775807 : Nat) ∧ S.length ≤ (9223372036854775807 : Nat)) ∧ ((!decide (0 ≤ outI S (A.getD x.toNat { grp := 0, nodes := NilL Int : NSet }).nodes)) = true → i64R (needN C A S x.toNat + (C.getD x.toNat { grp := 0, own := 0 : Chg }).own) ∧ i64R (x + 1) ∧ ∃ (x' : Int), (0 ≤ x' ∧ x' ≤ (↑C.length : Int)) ∧ ((↑C.length : Int) - x').toNat < ((↑C.length : Int) - x).toNat ∧ x + 1 = x' ∧ needN C A S x.toNat + (C.getD x.toNat { grp := 0, own := 0 : Chg }).own = needN C A S x'.toNat ∧ S = S) ∧ ((!decide (0 ≤ outI S (A.getD x.toNat { grp := 0, nodes := NilL Int : NSet }).nodes)) = false → i64R (x + 1) ∧ ∃ (x' : Int), (0 ≤ x' ∧ x' ≤ (↑C.length : Int)) ∧ ((↑C.length : Int) - x').toNat < ((↑C.length : Int) - x).toNat ∧ x + 1 = x' ∧ needN C A S x.toNat = needN C A S x'.toNat ∧ S = S)) ∧ (decide (x < (↑C.length : Int)) = false → (∃ (x_1 : Int), (0 ≤ x_1 ∧ x_1 ≤ (↑S.length : Int)) ∧ 0 = x_1 ∧ needN C A S x.toNat = needN C A S C.length - capN cap S x_1.toNat ∧ S = S) ∧ ∀ (x : Int), 0 ≤ x ∧ x ≤ (↑S.length : Int) → (decide (x < (↑S.length : Int)) = true → (0 ≤ x ∧ x < (↑S.length : Int)) ∧ (0 ≤ nth S x.toNat ∧ nth S x.toNat < (↑cap.length : Int)) ∧ i64R (needN C A S C.length - capN cap S x.toNat - nth cap (nth S x.toNat).toNat) ∧ i64R (x + 1) ∧ ∃ (x' : Int), (0 ≤ x' ∧ x' ≤ (↑S.length : Int)) ∧ ((↑S.length : Int) - x').toNat < ((↑S.length : Int) - x).toNat ∧ x + 1 = x' ∧ needN C A S C.length - capN cap S x.toNat - nth cap (nth S x.toNat).toNat = needN C A S C.length - capN cap S x'.toNat ∧ S = S) ∧ (decide (x < (↑S.length : Int)) = false → ∃ (y : Unit), True ∧ decide (0 < needN C A S C.length - capN cap S x.toNat) = refB C A cap S)))) = sRef.vc (EV Try.prog [(18, sValid.spec), (37, sAsc.spec), (44, sConO.spec)] (invsS [(5, inv29a C A cap S), (11, inv29b C A cap S)]) noInv) Try.f29 (C, A, cap, S, ()) := by kernel_rfl
  rw [← e]
  clear e
  simp only [imp_self, true_and, and_true, exists_const]
  try simp only [i64R, Int.reduceNeg, decide_eq_true_eq, decide_eq_false_iff_not, Bool.not_eq_true', Bool.not_eq_false', Bool.or_eq_true, Bool.or_eq_false_iff ]
  try simp only [NilL_eq]
  obtain ⟨hs, hSx⟩ := hx
  refine ⟨hs, fun _ => hSx, fun h => (refB_f.2 fun hr => ?_).symm, fun h => ?_⟩
  · rcases h with h | h
    · exact vokB_f.1 h hr.1
    · exact ascB_f.1 h hr.2.asc
  have hv := vokB_t.1 h.1
  have hA := ascB_t.1 h.2
  have la := hv.la
  have d64 := hv.d64
  have c8 := hv.c8
  have hSl := hA.len
  have hN : ∀ z, (A.getD z { grp := 0, nodes := [] }).nodes = nodesAt A z := fun _ => rfl
  have hO : ∀ z, (C.getD z { grp := 0, own := 0 }).own = ownAt C z := fun _ => rfl
  simp only [hN, hO]
  have stN : ∀ i : Int, 0 ≤ i → needN C A S (i + 1).toNat = needN C A S i.toNat + needF C A S i.toNat := fun i h0 => by
    rw [show (i + 1).toNat = i.toNat + 1 by omega]; rfl
  have stC : ∀ i : Int, 0 ≤ i → capN cap S (i + 1).toNat = capN cap S i.toNat + nth cap (nth S i.toNat).toNat := fun i h0 => by
    rw [show (i + 1).toNat = i.toNat + 1 by omega]; rfl
  have bN : ∀ i : Int, 0 ≤ i → i ≤ C.length → 0 ≤ needN C A S i.toNat ∧ needN C A S i.toNat ≤ 1073741824 := fun i h0 h1 => needN_bnd hv S (by omega)
  have bC : ∀ i : Int, 0 ≤ i → i ≤ S.length → 0 ≤ capN cap S i.toNat ∧ capN cap S i.toNat ≤ 134217728 := fun i h0 h1 => capN_bnd hv (by omega) (by omega)
  have bF := bN C.length (by omega) (by omega)
  rw [Int.toNat_natCast] at bF
  have fin : decide (0 < needN C A S C.length - capN cap S S.length) = refB C A cap S := by
    rw [← Bool.coe_iff_coe, decide_eq_true_iff, refB_t]
    exact ⟨fun h => ⟨hv, (isRef_iff hA).2 h⟩, fun h => (isRef_iff hA).1 h.2⟩
  refine ⟨⟨0, by omega, rfl, rfl⟩, fun i hi => ⟨fun hlt => ⟨by omega, by omega, ⟨hs.n _, hSx⟩, fun h => ?_, fun h => ?_⟩, fun hge => ⟨⟨0, by omega, rfl, ?_⟩, fun j hj => ⟨fun hlt => ?_, fun hge2 => ?_⟩⟩⟩⟩
  · have h1 := bN i (by omega) (by omega)
    have h2 := hv.ownB i.toNat
    have h3 := stN i (by omega)
    rw [needF, if_pos (outI_neg.1 h)] at h3
    exact ⟨by omega, by omega, i + 1, by omega, by omega, rfl, h3.symm⟩
  · have h3 := stN i (by omega)
    rw [needF, if_neg fun hh => (outI_neg.2 hh) h] at h3
    exact ⟨by omega, i + 1, by omega, by omega, rfl, by omega⟩
  · rw [show i.toNat = C.length by omega]
    show needN C A S C.length = needN C A S C.length - 0
    omega
  · have h1 := bC j (by omega) (by omega)
    have h2 := hv.capB (nth S j.toNat).toNat
    have h3 := stC j (by omega)
    have h4 := hA j.toNat (by omega)
    exact ⟨by omega, ⟨h4.1, h4.2.1⟩, by omega, by omega, j + 1, by omega, by omega, rfl, by omega⟩
  · rw [show j.toNat = S.length by omega]; exact fin

def inv49a (C : List Chg) (A : List NSet) (cap S : List Int) (s : St) : Inv where
  X := Int
  ok := fun i => 0 ≤ i ∧ i ≤ C.length
  sl := fun i => [(10, .int .i64 i), (9, .int .i64 (needN C A S i.toNat))]
  hp := fun i => []
  keep := []
  me := fun i => (C.length - i).toNat
def inv49b (C : List Chg) (A : List NSet) (cap S : List Int) (s : St) : Inv where
  X := Int
  ok := fun i => 0 ≤ i ∧ i ≤ S.length
  sl := fun i => [(11, .int .i64 i), (9, .int .i64 (needN C A S C.length - capN cap S i.toNat))]
  hp := fun i => []
  keep := []
  me := fun i => (S.length - i).toNat
set_option maxRecDepth 100000 in
theorem vc49 (C : List Chg) (A : List NSet) (cap S : List Int) (hx : VOK C A cap ∧ Asc S cap.length) : sRefV.vc (EV Try.prog [(52, sWithin.spec)] (invsS [(3, inv49a C A cap S), (8, inv49b C A cap S)]) noInv) Try.f49 (C, A, cap, S, ()) := by
  have e : ((∃ (x : Int), (0 ≤ x ∧ x ≤ (↑C.length : Int)) ∧ 0 = x ∧ 0 = needN C A S x.toNat) ∧ ∀ (x : Int), 0 ≤ x ∧ x ≤ (↑C.length : Int) → (decide (x < (↑C.length : Int)) = true → (0 ≤ x ∧ x < (↑A.length : Int)) ∧ ((A.getD x.toNat { grp := 0, nodes := NilL Int : NSet }).nodes.length ≤ (1000 : Nat) ∧ S.length ≤ (1000 : Nat)) ∧ (withB (A.getD x.toNat { grp := 0, nodes := NilL Int : NSet }).nodes S = true → (0 ≤ x ∧ x < (↑C.length : Int)) ∧ i64R (needN C A S x.toNat + (C.getD x.toNat { grp := 0, own := 0 : Chg }).own) ∧ i64R (x + 1) ∧ ∃ (x' : Int), (0 ≤ x' ∧ x' ≤ (↑C.length : Int)) ∧ ((↑C.length : Int) - x').toNat < ((↑C.length : Int) - x).toNat ∧ x + 1 = x' ∧ needN C A S x.toNat + (C.getD x.toNat { grp := 0, own := 0 : Chg }).own = needN C A S x'.toNat) ∧ (withB (A.getD x.toNat { grp := 0, nodes := NilL Int : NSet }).nodes S = false → i64R (x + 1) ∧ ∃ (x' : Int), (0 ≤ x' ∧ x' ≤ (↑C.length : Int)) ∧ ((↑C.length : Int) - x').toNat < ((↑C.length : Int) - x).toNat ∧ x + 1 = x' ∧ needN C A S x.toNat = needN C A S x'.toNat)) ∧ (decide (x < (↑C.length : Int)) = false → (∃ (x_1 : Int), (0 ≤ x_1 ∧ x_1 ≤ (↑S.length : Int)) ∧ 0 = x_1 ∧ needN C A S x.toNat = needN C A S C.length - capN cap S x_1.toNat) ∧ ∀ (x : Int), 0 ≤ x ∧ x ≤ (↑S.length : Int) → (decide (x < (↑S.length : Int)) = true → (0 ≤ x ∧ x < (↑S.length : Int)) ∧ (0 ≤ nth S x.toNat ∧ nth S x.toNat < (↑cap.length : Int)) ∧ i64R (needN C A S C.length - capN cap S x.toNat - nth cap (nth S x.toNat).toNat) ∧ i64R (x + 1) ∧ ∃ (x' : Int), (0 ≤ x' ∧ x' ≤ (↑S.length : Int)) ∧ ((↑S.length : Int) - x').toNat < ((↑S.length : Int) - x).toNat ∧ x + 1 = x' ∧ needN C A S C.length - capN cap S x.toNat - nth cap (nth S x.toNat).toNat = needN C A S C.length - capN cap S x'.toNat) ∧ (decide (x < (↑S.length : Int)) = false → ∃ (y : Unit), True ∧ decide (0 < needN C A S C.length - capN cap S x.toNat) = refB C A cap S))) = sRefV.vc (EV Try.prog [(52, sWithin.spec)] (invsS [(3, inv49a C A cap S), (8, inv49b C A cap S)]) noInv) Try.f49 (C, A, cap, S, ()) := by kernel_rfl
  rw [← e]
  clear e
  simp only [true_and, exists_const]
  try simp only [i64R, Int.reduceNeg, decide_eq_true_eq, decide_eq_false_iff_not]
  try simp only [NilL_eq]
  obtain ⟨hv, hA⟩ := hx
  have la := hv.la
  have d64 := hv.d64
  have c8 := hv.c8
  have hSl := hA.len
  have hN : ∀ z, (A.getD z { grp := 0, nodes := [] }).nodes = nodesAt A z := fun _ => rfl
  have hO : ∀ z, (C.getD z { grp := 0, own := 0 }).own = ownAt C z := fun _ => rfl
  simp only [hN, hO]
  have stN : ∀ i : Int, 0 ≤ i → needN C A S (i + 1).toNat = needN C A S i.toNat + needF C A S i.toNat := fun i h0 => by
    rw [show (i + 1).toNat = i.toNat + 1 by omega]; rfl
  have stC : ∀ i : Int, 0 ≤ i → capN cap S (i + 1).toNat = capN cap S i.toNat + nth cap (nth S i.toNat).toNat := fun i h0 => by
    rw [show (i + 1).toNat = i.toNat + 1 by omega]; rfl
  have bN : ∀ i : Int, 0 ≤ i → i ≤ C.length → 0 ≤ needN C A S i.toNat ∧ needN C A S i.toNat ≤ 1073741824 := fun i h0 h1 => needN_bnd hv S (by omega)
  have bC : ∀ i : Int, 0 ≤ i → i ≤ S.length → 0 ≤ capN cap S i.toNat ∧ capN cap S i.toNat ≤ 134217728 := fun i h0 h1 => capN_bnd hv (by omega) (by omega)
  have bF := bN C.length (by omega) (by omega)
  rw [Int.toNat_natCast] at bF
  have fin : decide (0 < needN C A S C.length - capN cap S S.length) = refB C A cap S := by
    rw [← Bool.coe_iff_coe, decide_eq_true_iff, refB_t]
    exact ⟨fun h => ⟨hv, (isRef_iff hA).2 h⟩, fun h => (isRef_iff hA).1 h.2⟩
  refine ⟨⟨0, by omega, rfl, rfl⟩, fun i hi => ⟨fun hlt => ⟨by omega, ⟨?_, by omega⟩, fun h => ?_, fun h => ?_⟩, fun hge => ⟨⟨0, by omega, rfl, ?_⟩, fun j hj => ⟨fun hlt => ?_, fun hge2 => ?_⟩⟩⟩⟩
  · have := (hv.chg i.toNat (by omega)).2.2.2.2.2.2.len; omega
  · have h1 := bN i (by omega) (by omega)
    have h2 := hv.ownB i.toNat
    have h3 := stN i (by omega)
    rw [needF, if_pos (withB_t.1 h)] at h3
    exact ⟨by omega, by omega, by omega, i + 1, by omega, by omega, rfl, h3.symm⟩
  · have h3 := stN i (by omega)
    rw [needF, if_neg (withB_f.1 h)] at h3
    exact ⟨by omega, i + 1, by omega, by omega, rfl, by omega⟩
  · rw [show i.toNat = C.length by omega]
    show needN C A S C.length = needN C A S C.length - 0
    omega
  · have h1 := bC j (by omega) (by omega)
    have h2 := hv.capB (nth S j.toNat).toNat
    have h3 := stC j (by omega)
    have h4 := hA j.toNat (by omega)
    exact ⟨by omega, ⟨h4.1, h4.2.1⟩, by omega, by omega, j + 1, by omega, by omega, rfl, by omega⟩
  · rw [show j.toNat = S.length by omega]; exact fin


set_option maxRecDepth 100000 in
theorem vc30 (C : List Chg) (A : List NSet) (cap S : List Int) (hx : Sml C A cap ∧ S.length ≤ 9223372036854775807) : sRef.vc (EV Try.prog [(28, sValid.spec), (47, sAsc3.spec), (49, sRefV.spec)] noInv noInv) Try.f30 (C, A, cap, S, ()) := by
  have e : (Sml C A cap ∧ (vokB C A cap = true → vokB C A cap = true) ∧ (vokB C A cap = true → vokB C A cap = true) ∧ (vokB C A cap = true → vokB C A cap = true) ∧ (vokB C A cap = true → S.length ≤ (9223372036854775807 : Nat)) ∧ (vokB C A cap = true → vokB C A cap = true) ∧ ((vokB C A cap && ascB S (↑cap.length : Int)) = true → (vokB C A cap && ascB S (↑cap.length : Int)) = true) ∧ ((vokB C A cap && ascB S (↑cap.length : Int)) = true → (vokB C A cap && ascB S (↑cap.length : Int)) = true) ∧ ((vokB C A cap && ascB S (↑cap.length : Int)) = true → (vokB C A cap && ascB S (↑cap.length : Int)) = true) ∧ ((vokB C A cap && ascB S (↑cap.length : Int)) = true → (vokB C A cap && ascB S (↑cap.length : Int)) = true) ∧ ((vokB C A cap && ascB S (↑cap.length : Int)) = true → VOK C A cap ∧ Asc S (↑cap.length : Int)) ∧ ((vokB C A cap && ascB S (↑cap.length : Int)) = true → (vokB C A cap && ascB S (↑cap.length : Int)) = true) ∧ ∃ (y : Unit), True ∧ (vokB C A cap && ascB S (↑cap.length : Int) && refB C A cap S) = refB C A cap S) = sRef.vc (EV Try.prog [(28, sValid.spec), (47, sAsc3.spec), (49, sRefV.spec)] noInv noInv) Try.f30 (C, A, cap, S, ()) := by kernel_rfl
  rw [← e]
  clear e
  simp only [imp_self, true_and, exists_const]
  try simp only [Bool.and_eq_true]
  try simp only [NilL_eq]
  refine ⟨hx.1, fun _ => hx.2, fun h => ⟨vokB_t.1 h.1, ascB_t.1 h.2⟩, ?_⟩
  rw [← Bool.coe_iff_coe, Bool.and_eq_true, Bool.and_eq_true, vokB_t, ascB_t, refB_t]
  exact ⟨fun h => h.2, fun h => ⟨⟨h.1, h.2.asc⟩, h⟩⟩

noncomputable def inv38a (C : List Chg) (A : List NSet) (cap : List Int) (s : St) : Inv where
  X := Int
  ok := fun i => 0 ≤ i ∧ i ≤ 2 ^ cap.length ∧ ∀ j : Nat, j < i.toNat → refB C A cap (bitsL j cap.length) = false
  sl := fun i => [(7, .int .i64 i)]
  hp := fun i => []
  keep := []
  me := fun i => (2 ^ cap.length - i).toNat
def inv38b (C : List Chg) (A : List NSet) (cap : List Int) (s : St) : Inv where
  X := Int
  ok := fun i => 0 ≤ i ∧ i ≤ cap.length
  sl := fun i => [(9, .int .i64 i), (8, .own 101 0)]
  hp := fun i => [(101, .rows 3 0 (bitsL (slotI s 7).toNat i.toNat))]
  keep := []
  me := fun i => (cap.length - i).toNat
set_option maxRecDepth 100000 in
theorem vc38 (C : List Chg) (A : List NSet) (cap : List Int) (hx : VOK C A cap) : sPos.vc (EV Try.prog [(49, sRefV.spec)] (invsS [(2, inv38a C A cap), (6, inv38b C A cap)]) noInv) Try.f38 (C, A, cap, ()) := by
  have e : ((∃ (x : Int), (0 ≤ x ∧ x ≤ 2 ^ cap.length ∧ ∀ (j : Nat), j < x.toNat → refB C A cap (bitsL j cap.length) = false) ∧ 0 = x) ∧ ∀ (x : Int), (0 ≤ x ∧ x ≤ 2 ^ cap.length ∧ ∀ (j : Nat), j < x.toNat → refB C A cap (bitsL j cap.length) = false) → 0 ≤ (↑cap.length : Int) ∧ i64R ((1 : Int) * 2 ^ Min.min (↑cap.length : Int).toNat Go.IntKind.i64.bits) ∧ (decide (x < (1 : Int) * 2 ^ Min.min (↑cap.length : Int).toNat Go.IntKind.i64.bits) = true → (∃ (x_1 : Int), (0 ≤ x_1 ∧ x_1 ≤ (↑cap.length : Int)) ∧ 0 = x_1 ∧ NilL Int = bitsL x.toNat x_1.toNat) ∧ ∀ (x_1 : Int), 0 ≤ x_1 ∧ x_1 ≤ (↑cap.length : Int) → (decide (x_1 < (↑cap.length : Int)) = true → 0 ≤ x_1 ∧ (decide (bitI Go.BinOp.and Go.IntKind.i64 (x.fdiv (2 ^ Min.min x_1.toNat Go.IntKind.i64.bits)) (1 : Int) = 1) = true → (bitsL x.toNat x_1.toNat).length + (x_1 :: NilL Int).length ≤ (68719476736 : Nat) ∧ i64R (x_1 + 1) ∧ ∃ (x' : Int), (0 ≤ x' ∧ x' ≤ (↑cap.length : Int)) ∧ ((↑cap.length : Int) - x').toNat < ((↑cap.length : Int) - x_1).toNat ∧ x_1 + 1 = x' ∧ bitsL x.toNat x_1.toNat ++ x_1 :: NilL Int = bitsL x.toNat x'.toNat) ∧ (decide (bitI Go.BinOp.and Go.IntKind.i64 (x.fdiv (2 ^ Min.min x_1.toNat Go.IntKind.i64.bits)) (1 : Int) = 1) = false → i64R (x_1 + 1) ∧ ∃ (x' : Int), (0 ≤ x' ∧ x' ≤ (↑cap.length : Int)) ∧ ((↑cap.length : Int) - x').toNat < ((↑cap.length : Int) - x_1).toNat ∧ x_1 + 1 = x' ∧ bitsL x.toNat x_1.toNat = bitsL x.toNat x'.toNat)) ∧ (decide (x_1 < (↑cap.length : Int)) = false → (VOK C A cap ∧ Asc (bitsL x.toNat x_1.toNat) (↑cap.length : Int)) ∧ (refB C A cap (bitsL x.toNat x_1.toNat) = true → ∃ (y : Unit), True ∧ false = posB C A cap) ∧ (refB C A cap (bitsL x.toNat x_1.toNat) = false → i64R (x + 1) ∧ ∃ (x' : Int), (0 ≤ x' ∧ x' ≤ 2 ^ cap.length ∧ ∀ (j : Nat), j < x'.toNat → refB C A cap (bitsL j cap.length) = false) ∧ (2 ^ cap.length - x').toNat < (2 ^ cap.length - x).toNat ∧ x + 1 = x'))) ∧ (decide (x < (1 : Int) * 2 ^ Min.min (↑cap.length : Int).toNat Go.IntKind.i64.bits) = false → ∃ (y : Unit), True ∧ true = posB C A cap)) = sPos.vc (EV Try.prog [(49, sRefV.spec)] (invsS [(2, inv38a C A cap), (6, inv38b C A cap)]) noInv) Try.f38 (C, A, cap, ()) := by kernel_rfl
  rw [← e]
  clear e
  simp only [true_and, exists_const]
  try simp only [i64R, Int.reduceNeg, decide_eq_true_eq, decide_eq_false_iff_not]
  try simp only [NilL_eq]
  have c8 := hx.c8
  have eP : (1 : Int) * 2 ^ min ((cap.length : Nat) : Int).toNat IntKind.i64.bits = 2 ^ cap.length := by
    rw [Int.one_mul, Int.toNat_natCast, show min cap.length IntKind.i64.bits = cap.length from Nat.min_eq_left (by show cap.length ≤ 64; omega)]
  have eN : (2 : Int) ^ cap.length = ((2 ^ cap.length : Nat) : Int) := by simp
  have hP : 1 ≤ 2 ^ cap.length ∧ 2 ^ cap.length ≤ 256 := ⟨Nat.one_le_two_pow, Nat.le_trans (Nat.pow_le_pow_right (Nat.zero_lt_two) c8) (by decide)⟩
  simp only [eP]
  rw [eN]
  generalize hPe : 2 ^ cap.length = P at *
  refine ⟨⟨0, ⟨by omega, by omega, fun j hj => by simp at hj⟩, rfl⟩, fun x hi => ⟨by omega, by omega, fun hlt => ⟨⟨0, by omega, rfl, rfl⟩, fun i hi2 => ⟨fun hlt2 => ?_, fun hge => ?_⟩⟩, fun hge => ?_⟩⟩
  · have hb := bit_at x.toNat i.toNat (by omega) (by omega)
    rw [show ((x.toNat : Nat) : Int) = x by omega] at hb
    rw [hb]
    have hl := (bitsL_asc x.toNat i.toNat).len
    have e1 : (i + 1).toNat = i.toNat + 1 := by omega
    have e2 : ((i.toNat : Nat) : Int) = i := by omega
    refine ⟨by omega, fun h => ⟨by simp only [List.length_cons, List.length_nil]; omega, by omega, i + 1, by omega, by omega, rfl, ?_⟩, fun h => ⟨by omega, i + 1, by omega, by omega, rfl, ?_⟩⟩
    · rw [e1, bitsL, if_pos (by omega), e2]
    · rw [e1, bitsL, if_neg (by omega), List.append_nil]
  · have ei : i.toNat = cap.length := by omega
    rw [ei]
    refine ⟨⟨hx, bitsL_asc _ _⟩, fun h => (posB_f.2 fun hh => hh _ (refB_t.1 h).2).symm, fun h => ⟨by omega, x + 1, ⟨by omega, by omega, fun j hj => ?_⟩, by omega, rfl⟩⟩
    by_cases e : j = x.toNat
    · rw [e]; exact h
    · exact hi.2.2 j (by omega)
  · refine (posB_t.2 fun S hS => ?_).symm
    obtain ⟨s, hs, es⟩ := bits_all hS.asc
    rw [hPe] at hs
    have h1 := hi.2.2 s (by omega)
    rw [es] at h1
    exact refB_f.1 h1 ⟨hx, hS⟩
end Go.Proofs.Ytompifpamldjaaa

namespace Go.Proofs.Ytompifpamldjaaa
open Go
set_option linter.unusedVariables false

def gtF (l : List Spt) (g : Int) (k : Nat) : Int := if (spA l k).grp = g then (spA l k).pages else 0
def gotN (l : List Spt) (g : Int) (k : Nat) : Int := sumF (gtF l g) k
/-- A spot in its place. -/
def spO (C : List Chg) (A : List NSet) (l : List Spt) (i : Nat) : Prop := (∃ k, k < C.length ∧ grpAt C k = (spA l i).grp ∧ (spA l i).node ∈ nodesAt A k) ∧ 1 ≤ (spA l i).pages ∧ (0 < i → (spA l (i - 1)).grp < (spA l i).grp ∨ ((spA l (i - 1)).grp = (spA l i).grp ∧ (spA l (i - 1)).node < (spA l i).node))
structure Chk (C : List Chg) (A : List NSet) (cap : List Int) (l : List Spt) : Prop where
  v : VOK C A cap
  sp : ∀ i, i < l.length → spO C A l i
  ld : ∀ j : Nat, j < cap.length → loadN l j l.length ≤ nth cap j
  gt : ∀ k, k < C.length → gotN l (grpAt C k) l.length = ownAt C k
open Classical in
noncomputable def chkB (C : List Chg) (A : List NSet) (cap : List Int) (l : List Spt) : Bool := decide (Chk C A cap l)
theorem chkB_t {C : List Chg} {A : List NSet} {cap : List Int} {l : List Spt} : chkB C A cap l = true ↔ Chk C A cap l := @decide_eq_true_iff _ (Classical.propDecidable _)
theorem chkB_f {C : List Chg} {A : List NSet} {cap : List Int} {l : List Spt} : chkB C A cap l = false ↔ ¬ Chk C A cap l := @decide_eq_false_iff_not _ (Classical.propDecidable _)
theorem sumF_mono {f : Nat → Int} {n m : Nat} (h : ∀ i, i < m → 0 ≤ f i) (hn : n ≤ m) : sumF f n ≤ sumF f m := by
  induction m with
  | zero => rw [show n = 0 by omega]; exact Int.le_refl _
  | succ m ih =>
    by_cases e : n = m + 1
    · rw [e]; exact Int.le_refl _
    · have := ih (fun i hi => h i (by omega)) (by omega)
      have := h m (by omega)
      rw [sumF]; omega
theorem Chk.gotLe {C : List Chg} {A : List NSet} {cap : List Int} {l : List Spt} (h : Chk C A cap l) {k i : Nat} (hk : k < C.length) (hi : i ≤ l.length) : gotN l (grpAt C k) i ≤ ownAt C k := by
  rw [← h.gt k hk]
  refine sumF_mono (fun j hj => ?_) hi
  have := (h.sp j hj).2.1
  unfold gtF; split <;> omega
theorem Chk.loadLe {C : List Chg} {A : List NSet} {cap : List Int} {l : List Spt} (h : Chk C A cap l) {j i : Nat} (hj : j < cap.length) (hi : i ≤ l.length) : loadN l j i ≤ nth cap j := by
  refine Int.le_trans (sumF_mono (fun j hj => ?_) hi) (h.ld j hj)
  have := (h.sp j hj).2.1
  unfold ldF; split <;> omega
theorem gotN_bnd {l : List Spt} (h : SB l) {n : Int} {k : Nat} (hk : k ≤ 1000) : -2199023255552000 ≤ gotN l n k ∧ gotN l n k ≤ 2199023255552000 := by
  have := sumF_bnd (f := gtF l n) (n := k) (b := 2199023255552) fun i _ => by
    have := h.pg i
    unfold gtF; split <;> omega
  unfold gotN
  have e : (2199023255552 : Int) * k ≤ 2199023255552000 := by omega
  omega
theorem got_step (l : List Spt) (g : Int) (i : Int) (h0 : 0 ≤ i) : gotN l g (i + 1).toNat = gotN l g i.toNat + gtF l g i.toNat := by
  rw [show (i + 1).toNat = i.toNat + 1 by omega]; rfl
theorem load_step (l : List Spt) (g : Int) (i : Int) (h0 : 0 ≤ i) : loadN l g (i + 1).toNat = loadN l g i.toNat + ldF l g i.toNat := by
  rw [show (i + 1).toNat = i.toNat + 1 by omega]; rfl
noncomputable def sChk : DS := ⟨_, four (pkL 3) (pkL 4) pkInts (pkL 5), fun x => Sml x.1 x.2.1 x.2.2.1 ∧ SB x.2.2.2.1, fun x => .bool (chkB x.1 x.2.1 x.2.2.1 x.2.2.2.1), nou⟩
/-- What is left of the demands and of the nodes behind the first i spots. -/
structure RestP (C : List Chg) (A : List NSet) (cap : List Int) (l : List Spt) (i : Nat) (r q : List Int) : Prop where
  lr : r.length = C.length
  lq : q.length = cap.length
  r1 : ∀ k, k < C.length → nth r k = ownAt C k - gotN l (grpAt C k) i ∧ 0 ≤ nth r k
  q1 : ∀ j : Nat, j < cap.length → nth q j = nth cap j - loadN l j i ∧ 0 ≤ nth q j
  sp : ∀ j, j < i → spO C A l j
/-- What lies on the nodes and what the demands have, of the first i spots. -/
structure GotP (C : List Chg) (A : List NSet) (cap : List Int) (l : List Spt) (i : Nat) (r q : List Int) : Prop where
  lr : r.length = C.length
  lq : q.length = cap.length
  r1 : ∀ k, k < C.length → nth r k = gotN l (grpAt C k) i
  q1 : ∀ j : Nat, j < cap.length → nth q j = loadN l j i
  sp : ∀ j, j < i → spO C A l j
theorem RestP.next {C : List Chg} {A : List NSet} {cap : List Int} {l : List Spt} (hv : VOK C A cap) {i k j : Nat} {r q : List Int} (h : RestP C A cap l i r q) (hk : k < C.length) (eg : grpAt C k = (spA l i).grp) (hj : j < cap.length) (en : (spA l i).node = j) (h1 : (spA l i).pages ≤ nth r k) (h2 : (spA l i).pages ≤ nth q j) (hs : spO C A l i) : RestP C A cap l (i + 1) (r.set k (nth r k - (spA l i).pages)) (q.set j (nth q j - (spA l i).pages)) := by
  have lr := h.lr
  have lq := h.lq
  have hp := hs.2.1
  refine ⟨by simpa using lr, by simpa using lq, fun k' hk' => ?_, fun j' hj' => ?_, fun j' hj' => ?_⟩
  · have h3 := h.r1 k' hk'
    have e : gotN l (grpAt C k') (i + 1) = gotN l (grpAt C k') i + gtF l (grpAt C k') i := rfl
    rw [nth_set (by omega), e, gtF]
    by_cases ek : k' = k
    · subst ek
      rw [if_pos rfl, if_pos eg.symm]; omega
    · rw [if_neg ek, if_neg fun hh => ek (hv.inj hk' hk (by rw [eg, hh]))]; omega
  · have h3 := h.q1 j' hj'
    have e : loadN l (j' : Int) (i + 1) = loadN l j' i + ldF l j' i := rfl
    rw [nth_set (by omega), e, ldF, en]
    by_cases ej : j' = j
    · subst ej
      rw [if_pos rfl, if_pos rfl]; omega
    · rw [if_neg ej, if_neg (by omega)]; omega
  · by_cases e : j' = i
    · rw [e]; exact hs
    · exact h.sp j' (by omega)
theorem GotP.next {C : List Chg} {A : List NSet} {cap : List Int} {l : List Spt} (hv : VOK C A cap) {i k j : Nat} {r q : List Int} (h : GotP C A cap l i r q) (hk : k < C.length) (eg : grpAt C k = (spA l i).grp) (hj : j < cap.length) (en : (spA l i).node = j) (hs : spO C A l i) : GotP C A cap l (i + 1) (r.set k (nth r k + (spA l i).pages)) (q.set j (nth q j + (spA l i).pages)) := by
  have lr := h.lr
  have lq := h.lq
  refine ⟨by simpa using lr, by simpa using lq, fun k' hk' => ?_, fun j' hj' => ?_, fun j' hj' => ?_⟩
  · have h3 := h.r1 k' hk'
    have e : gotN l (grpAt C k') (i + 1) = gotN l (grpAt C k') i + gtF l (grpAt C k') i := rfl
    rw [nth_set (by omega), e, gtF]
    by_cases ek : k' = k
    · subst ek
      rw [if_pos rfl, if_pos eg.symm]; omega
    · rw [if_neg ek, if_neg fun hh => ek (hv.inj hk' hk (by rw [eg, hh]))]; omega
  · have h3 := h.q1 j' hj'
    have e : loadN l (j' : Int) (i + 1) = loadN l j' i + ldF l j' i := rfl
    rw [nth_set (by omega), e, ldF, en]
    by_cases ej : j' = j
    · subst ej
      rw [if_pos rfl, if_pos rfl]; omega
    · rw [if_neg ej, if_neg (by omega)]; omega
  · by_cases e : j' = i
    · rw [e]; exact hs
    · exact h.sp j' (by omega)
/-- A spot that is in its place has its demand where the search finds it. -/
theorem spO.at {C : List Chg} {A : List NSet} {cap : List Int} {l : List Spt} (hv : VOK C A cap) {i k : Nat} (h : spO C A l i) (hk : k < C.length) (eg : grpAt C k = (spA l i).grp) : (spA l i).node ∈ nodesAt A k := by
  obtain ⟨k', h1, h2, h3⟩ := h.1
  rw [hv.inj hk h1 (by rw [eg, h2])]
  exact h3
theorem Chk.fits {C : List Chg} {A : List NSet} {cap : List Int} {l : List Spt} (h : Chk C A cap l) {i k j : Nat} (hi : i < l.length) (hk : k < C.length) (eg : grpAt C k = (spA l i).grp) (hj : j < cap.length) (en : (spA l i).node = j) : gotN l (grpAt C k) i + (spA l i).pages ≤ ownAt C k ∧ loadN l j i + (spA l i).pages ≤ nth cap j := by
  have h1 := h.gotLe hk (i := i + 1) (by omega)
  have h2 := h.loadLe hj (i := i + 1) (by omega)
  have e1 : gotN l (grpAt C k) (i + 1) = gotN l (grpAt C k) i + gtF l (grpAt C k) i := rfl
  have e2 : loadN l (j : Int) (i + 1) = loadN l j i + ldF l j i := rfl
  rw [e1, gtF, if_pos eg.symm] at h1
  rw [e2, ldF, if_pos en] at h2
  exact ⟨h1, h2⟩
theorem got_nn {C : List Chg} {A : List NSet} {l : List Spt} {i : Nat} (h : ∀ j, j < i → spO C A l j) (g : Int) : 0 ≤ gotN l g i := sumF_nonneg fun j hj => by
  have := (h j hj).2.1
  show 0 ≤ gtF l g j
  unfold gtF; split <;> omega
theorem load_nn {C : List Chg} {A : List NSet} {l : List Spt} {i : Nat} (h : ∀ j, j < i → spO C A l j) (g : Int) : 0 ≤ loadN l g i := sumF_nonneg fun j hj => by
  have := (h j hj).2.1
  show 0 ≤ ldF l g j
  unfold ldF; split <;> omega
theorem node_at {C : List Chg} {A : List NSet} {cap : List Int} (hv : VOK C A cap) {k : Nat} (hk : k < C.length) {x : Int} (h : x ∈ nodesAt A k) : ∃ j : Nat, x = j ∧ j < cap.length := by
  have := (hv.chg k hk).2.2.2.2.2.2.bnd x h
  exact ⟨x.toNat, by omega, by omega⟩

def inv24a (C : List Chg) (cap : List Int) (s : St) : Inv where
  X := Int × List Int
  ok := fun x => (0 ≤ x.1 ∧ x.1 ≤ C.length) ∧ x.2.length = C.length ∧ ∀ j : Nat, j < x.1.toNat → nth x.2 j = ownAt C j
  sl := fun x => [(28, .int .i64 x.1), (10, .own 101 0), (9, .own 103 0)]
  hp := fun x => [(101, .rows 3 0 x.2), (103, .rows 3 0 cap)]
  keep := []
  me := fun x => (C.length - x.1).toNat
def inv24b (C : List Chg) (A : List NSet) (cap : List Int) (l : List Spt) (s : St) : Inv where
  X := Int × List Int × List Int
  ok := fun x => (0 ≤ x.1 ∧ x.1 ≤ l.length) ∧ RestP C A cap l x.1.toNat x.2.1 x.2.2
  sl := fun x => [(41, .int .i64 x.1), (10, .own 101 0), (9, .own 103 0)]
  hp := fun x => [(101, .rows 3 0 x.2.1), (103, .rows 3 0 x.2.2)]
  keep := []
  me := fun x => (l.length - x.1).toNat
set_option maxRecDepth 100000 in
theorem vc24 (C : List Chg) (A : List NSet) (cap : List Int) (l : List Spt) (hx : Sml C A cap ∧ SB l) : sChk.vc (EV Try.prog [(18, sValid.spec), (31, sClone.spec), (41, sIdxC.spec), (43, sHasI.spec), (44, sConP.spec)] (invsS [(6, inv24a C cap), (11, inv24b C A cap l)]) noInv) Try.f24 (C, A, cap, l, ()) := by
  have e : (Sml C A cap ∧ ((!vokB C A cap) = true → ∃ (y : Unit), True ∧ false = chkB C A cap l) ∧ ((!vokB C A cap) = false → cap.length ≤ (1048576 : Nat) ∧ (0 ≤ (↑C.length : Int) ∧ (↑C.length : Int) ≤ (↑C.length : Int) ∧ (↑(8 : Nat) : Int) * (↑C.length : Int) ≤ 281474976710656 ∧ (↑C.length : Int) ≤ 1099511627776) ∧ (∃ (x : Int × List Int), ((0 ≤ x.1 ∧ x.1 ≤ (↑C.length : Int)) ∧ x.2.length = C.length ∧ ∀ (j : Nat), j < x.1.toNat → nth x.2 j = ownAt C j) ∧ 0 = x.1 ∧ List.replicate (↑C.length : Int).toNat 0 = x.2 ∧ cap = cap) ∧ ∀ (x : Int × List Int), ((0 ≤ x.1 ∧ x.1 ≤ (↑C.length : Int)) ∧ x.2.length = C.length ∧ ∀ (j : Nat), j < x.1.toNat → nth x.2 j = ownAt C j) → (decide (x.1 < (↑C.length : Int)) = true → (0 ≤ x.1 ∧ x.1 < (↑C.length : Int)) ∧ (0 ≤ x.1 ∧ x.1 < (↑x.2.length : Int)) ∧ i64R (x.1 + 1) ∧ ∃ (x' : Int × List Int), ((0 ≤ x'.1 ∧ x'.1 ≤ (↑C.length : Int)) ∧ x'.2.length = C.length ∧ ∀ (j : Nat), j < x'.1.toNat → nth x'.2 j = ownAt C j) ∧ ((↑C.length : Int) - x'.1).toNat < ((↑C.length : Int) - x.1).toNat ∧ x.1 + 1 = x'.1 ∧ x.2.set x.1.toNat (C.getD x.1.toNat { grp := 0, own := 0 : Chg }).own = x'.2 ∧ cap = cap) ∧ (decide (x.1 < (↑C.length : Int)) = false → (∃ (x_1 : Int × List Int × List Int), ((0 ≤ x_1.1 ∧ x_1.1 ≤ (↑l.length : Int)) ∧ RestP C A cap l x_1.1.toNat x_1.2.1 x_1.2.2) ∧ 0 = x_1.1 ∧ x.2 = x_1.2.1 ∧ cap = x_1.2.2) ∧ ∀ (x : Int × List Int × List Int), (0 ≤ x.1 ∧ x.1 ≤ (↑l.length : Int)) ∧ RestP C A cap l x.1.toNat x.2.1 x.2.2 → (decide (x.1 < (↑l.length : Int)) = true → (0 ≤ x.1 ∧ x.1 < (↑l.length : Int)) ∧ C.length ≤ (9223372036854775807 : Nat) ∧ (decide (grI C (spA l x.1.toNat).grp < 0) = false → decide (grI C (spA l x.1.toNat).grp < 0) = false) ∧ (decide (grI C (spA l x.1.toNat).grp < 0) = false → decide (grI C (spA l x.1.toNat).grp < 0) = false) ∧ (decide (grI C (spA l x.1.toNat).grp < 0) = false → 0 ≤ grI C (spA l x.1.toNat).grp ∧ grI C (spA l x.1.toNat).grp < (↑A.length : Int)) ∧ (decide (grI C (spA l x.1.toNat).grp < 0) = false → decide (grI C (spA l x.1.toNat).grp < 0) = false) ∧ (decide (grI C (spA l x.1.toNat).grp < 0) = false → decide (grI C (spA l x.1.toNat).grp < 0) = false) ∧ (decide (grI C (spA l x.1.toNat).grp < 0) = false → decide (grI C (spA l x.1.toNat).grp < 0) = false) ∧ (decide (grI C (spA l x.1.toNat).grp < 0) = false → decide (grI C (spA l x.1.toNat).grp < 0) = false) ∧ (decide (grI C (spA l x.1.toNat).grp < 0) = false → decide (grI C (spA l x.1.toNat).grp < 0) = false) ∧ (decide (grI C (spA l x.1.toNat).grp < 0) = false → (A.getD (grI C (spA l x.1.toNat).grp).toNat { grp := 0, nodes := NilL Int : NSet }).nodes.length ≤ (9223372036854775807 : Nat)) ∧ (decide (grI C (spA l x.1.toNat).grp < 0) = false → decide (grI C (spA l x.1.toNat).grp < 0) = false) ∧ (decide (grI C (spA l x.1.toNat).grp < 0) = false → decide (grI C (spA l x.1.toNat).grp < 0) = false) ∧ ((decide (grI C (spA l x.1.toNat).grp < 0) || !memB (A.getD (grI C (spA l x.1.toNat).grp).toNat { grp := 0, nodes := NilL Int : NSet }).nodes (spA l x.1.toNat).node) = false → (decide (grI C (spA l x.1.toNat).grp < 0) || !memB (A.getD (grI C (spA l x.1.toNat).grp).toNat { grp := 0, nodes := NilL Int : NSet }).nodes (spA l x.1.toNat).node) = false) ∧ ((decide (grI C (spA l x.1.toNat).grp < 0) || !memB (A.getD (grI C (spA l x.1.toNat).grp).toNat { grp := 0, nodes := NilL Int : NSet }).nodes (spA l x.1.toNat).node) = false → (decide (grI C (spA l x.1.toNat).grp < 0) || !memB (A.getD (grI C (spA l x.1.toNat).grp).toNat { grp := 0, nodes := NilL Int : NSet }).nodes (spA l x.1.toNat).node) = false) ∧ ((decide (grI C (spA l x.1.toNat).grp < 0) || !memB (A.getD (grI C (spA l x.1.toNat).grp).toNat { grp := 0, nodes := NilL Int : NSet }).nodes (spA l x.1.toNat).node) = false → (decide (grI C (spA l x.1.toNat).grp < 0) || !memB (A.getD (grI C (spA l x.1.toNat).grp).toNat { grp := 0, nodes := NilL Int : NSet }).nodes (spA l x.1.toNat).node) = false) ∧ ((decide (grI C (spA l x.1.toNat).grp < 0) || !memB (A.getD (grI C (spA l x.1.toNat).grp).toNat { grp := 0, nodes := NilL Int : NSet }).nodes (spA l x.1.toNat).node || decide ((spA l x.1.toNat).pages < 1)) = false → (decide (grI C (spA l x.1.toNat).grp < 0) || !memB (A.getD (grI C (spA l x.1.toNat).grp).toNat { grp := 0, nodes := NilL Int : NSet }).nodes (spA l x.1.toNat).node || decide ((spA l x.1.toNat).pages < 1)) = false) ∧ ((decide (grI C (spA l x.1.toNat).grp < 0) || !memB (A.getD (grI C (spA l x.1.toNat).grp).toNat { grp := 0, nodes := NilL Int : NSet }).nodes (spA l x.1.toNat).node || decide ((spA l x.1.toNat).pages < 1)) = false → (decide (grI C (spA l x.1.toNat).grp < 0) || !memB (A.getD (grI C (spA l x.1.toNat).grp).toNat { grp := 0, nodes := NilL Int : NSet }).nodes (spA l x.1.toNat).node || decide ((spA l x.1.toNat).pages < 1)) = false) ∧ ((decide (grI C (spA l x.1.toNat).grp < 0) || !memB (A.getD (grI C (spA l x.1.toNat).grp).toNat { grp := 0, nodes := NilL Int : NSet }).nodes (spA l x.1.toNat).node || decide ((spA l x.1.toNat).pages < 1)) = false → (decide (grI C (spA l x.1.toNat).grp < 0) || !memB (A.getD (grI C (spA l x.1.toNat).grp).toNat { grp := 0, nodes := NilL Int : NSet }).nodes (spA l x.1.toNat).node || decide ((spA l x.1.toNat).pages < 1)) = false) ∧ ((decide (grI C (spA l x.1.toNat).grp < 0) || !memB (A.getD (grI C (spA l x.1.toNat).grp).toNat { grp := 0, nodes := NilL Int : NSet }).nodes (spA l x.1.toNat).node || decide ((spA l x.1.toNat).pages < 1)) = false → 0 ≤ grI C (spA l x.1.toNat).grp ∧ grI C (spA l x.1.toNat).grp < (↑x.2.1.length : Int)) ∧ ((decide (grI C (spA l x.1.toNat).grp < 0) || !memB (A.getD (grI C (spA l x.1.toNat).grp).toNat { grp := 0, nodes := NilL Int : NSet }).nodes (spA l x.1.toNat).node || decide ((spA l x.1.toNat).pages < 1)) = false → (decide (grI C (spA l x.1.toNat).grp < 0) || !memB (A.getD (grI C (spA l x.1.toNat).grp).toNat { grp := 0, nodes := NilL Int : NSet }).nodes (spA l x.1.toNat).node || decide ((spA l x.1.toNat).pages < 1)) = false) ∧ ((decide (grI C (spA l x.1.toNat).grp < 0) || !memB (A.getD (grI C (spA l x.1.toNat).grp).toNat { grp := 0, nodes := NilL Int : NSet }).nodes (spA l x.1.toNat).node || decide ((spA l x.1.toNat).pages < 1)) = false → (decide (grI C (spA l x.1.toNat).grp < 0) || !memB (A.getD (grI C (spA l x.1.toNat).grp).toNat { grp := 0, nodes := NilL Int : NSet }).nodes (spA l x.1.toNat).node || decide ((spA l x.1.toNat).pages < 1)) = false) ∧ ((decide (grI C (spA l x.1.toNat).grp < 0) || !memB (A.getD (grI C (spA l x.1.toNat).grp).toNat { grp := 0, nodes := NilL Int : NSet }).nodes (spA l x.1.toNat).node || decide ((spA l x.1.toNat).pages < 1)) = false → (decide (grI C (spA l x.1.toNat).grp < 0) || !memB (A.getD (grI C (spA l x.1.toNat).grp).toNat { grp := 0, nodes := NilL Int : NSet }).nodes (spA l x.1.toNat).node || decide ((spA l x.1.toNat).pages < 1)) = false) ∧ ((decide (grI C (spA l x.1.toNat).grp < 0) || !memB (A.getD (grI C (spA l x.1.toNat).grp).toNat { grp := 0, nodes := NilL Int : NSet }).nodes (spA l x.1.toNat).node || decide ((spA l x.1.toNat).pages < 1)) = false → (decide (grI C (spA l x.1.toNat).grp < 0) || !memB (A.getD (grI C (spA l x.1.toNat).grp).toNat { grp := 0, nodes := NilL Int : NSet }).nodes (spA l x.1.toNat).node || decide ((spA l x.1.toNat).pages < 1)) = false) ∧ ((decide (grI C (spA l x.1.toNat).grp < 0) || !memB (A.getD (grI C (spA l x.1.toNat).grp).toNat { grp := 0, nodes := NilL Int : NSet }).nodes (spA l x.1.toNat).node || decide ((spA l x.1.toNat).pages < 1) || decide (nth x.2.1 (grI C (spA l x.1.toNat).grp).toNat < (spA l x.1.toNat).pages)) = false → (decide (grI C (spA l x.1.toNat).grp < 0) || !memB (A.getD (grI C (spA l x.1.toNat).grp).toNat { grp := 0, nodes := NilL Int : NSet }).nodes (spA l x.1.toNat).node || decide ((spA l x.1.toNat).pages < 1) || decide (nth x.2.1 (grI C (spA l x.1.toNat).grp).toNat < (spA l x.1.toNat).pages)) = false) ∧ ((decide (grI C (spA l x.1.toNat).grp < 0) || !memB (A.getD (grI C (spA l x.1.toNat).grp).toNat { grp := 0, nodes := NilL Int : NSet }).nodes (spA l x.1.toNat).node || decide ((spA l x.1.toNat).pages < 1) || decide (nth x.2.1 (grI C (spA l x.1.toNat).grp).toNat < (spA l x.1.toNat).pages)) = false → (decide (grI C (spA l x.1.toNat).grp < 0) || !memB (A.getD (grI C (spA l x.1.toNat).grp).toNat { grp := 0, nodes := NilL Int : NSet }).nodes (spA l x.1.toNat).node || decide ((spA l x.1.toNat).pages < 1) || decide (nth x.2.1 (grI C (spA l x.1.toNat).grp).toNat < (spA l x.1.toNat).pages)) = false) ∧ ((decide (grI C (spA l x.1.toNat).grp < 0) || !memB (A.getD (grI C (spA l x.1.toNat).grp).toNat { grp := 0, nodes := NilL Int : NSet }).nodes (spA l x.1.toNat).node || decide ((spA l x.1.toNat).pages < 1) || decide (nth x.2.1 (grI C (spA l x.1.toNat).grp).toNat < (spA l x.1.toNat).pages)) = false → (decide (grI C (spA l x.1.toNat).grp < 0) || !memB (A.getD (grI C (spA l x.1.toNat).grp).toNat { grp := 0, nodes := NilL Int : NSet }).nodes (spA l x.1.toNat).node || decide ((spA l x.1.toNat).pages < 1) || decide (nth x.2.1 (grI C (spA l x.1.toNat).grp).toNat < (spA l x.1.toNat).pages)) = false) ∧ ((decide (grI C (spA l x.1.toNat).grp < 0) || !memB (A.getD (grI C (spA l x.1.toNat).grp).toNat { grp := 0, nodes := NilL Int : NSet }).nodes (spA l x.1.toNat).node || decide ((spA l x.1.toNat).pages < 1) || decide (nth x.2.1 (grI C (spA l x.1.toNat).grp).toNat < (spA l x.1.toNat).pages)) = false → (decide (grI C (spA l x.1.toNat).grp < 0) || !memB (A.getD (grI C (spA l x.1.toNat).grp).toNat { grp := 0, nodes := NilL Int : NSet }).nodes (spA l x.1.toNat).node || decide ((spA l x.1.toNat).pages < 1) || decide (nth x.2.1 (grI C (spA l x.1.toNat).grp).toNat < (spA l x.1.toNat).pages)) = false) ∧ ((decide (grI C (spA l x.1.toNat).grp < 0) || !memB (A.getD (grI C (spA l x.1.toNat).grp).toNat { grp := 0, nodes := NilL Int : NSet }).nodes (spA l x.1.toNat).node || decide ((spA l x.1.toNat).pages < 1) || decide (nth x.2.1 (grI C (spA l x.1.toNat).grp).toNat < (spA l x.1.toNat).pages)) = false → 0 ≤ (spA l x.1.toNat).node ∧ (spA l x.1.toNat).node < (↑x.2.2.length : Int)) ∧ ((decide (grI C (spA l x.1.toNat).grp < 0) || !memB (A.getD (grI C (spA l x.1.toNat).grp).toNat { grp := 0, nodes := NilL Int : NSet }).nodes (spA l x.1.toNat).node || decide ((spA l x.1.toNat).pages < 1) || decide (nth x.2.1 (grI C (spA l x.1.toNat).grp).toNat < (spA l x.1.toNat).pages)) = false → (decide (grI C (spA l x.1.toNat).grp < 0) || !memB (A.getD (grI C (spA l x.1.toNat).grp).toNat { grp := 0, nodes := NilL Int : NSet }).nodes (spA l x.1.toNat).node || decide ((spA l x.1.toNat).pages < 1) || decide (nth x.2.1 (grI C (spA l x.1.toNat).grp).toNat < (spA l x.1.toNat).pages)) = false) ∧ ((decide (grI C (spA l x.1.toNat).grp < 0) || !memB (A.getD (grI C (spA l x.1.toNat).grp).toNat { grp := 0, nodes := NilL Int : NSet }).nodes (spA l x.1.toNat).node || decide ((spA l x.1.toNat).pages < 1) || decide (nth x.2.1 (grI C (spA l x.1.toNat).grp).toNat < (spA l x.1.toNat).pages)) = false → (decide (grI C (spA l x.1.toNat).grp < 0) || !memB (A.getD (grI C (spA l x.1.toNat).grp).toNat { grp := 0, nodes := NilL Int : NSet }).nodes (spA l x.1.toNat).node || decide ((spA l x.1.toNat).pages < 1) || decide (nth x.2.1 (grI C (spA l x.1.toNat).grp).toNat < (spA l x.1.toNat).pages)) = false) ∧ ((decide (grI C (spA l x.1.toNat).grp < 0) || !memB (A.getD (grI C (spA l x.1.toNat).grp).toNat { grp := 0, nodes := NilL Int : NSet }).nodes (spA l x.1.toNat).node || decide ((spA l x.1.toNat).pages < 1) || decide (nth x.2.1 (grI C (spA l x.1.toNat).grp).toNat < (spA l x.1.toNat).pages)) = false → (decide (grI C (spA l x.1.toNat).grp < 0) || !memB (A.getD (grI C (spA l x.1.toNat).grp).toNat { grp := 0, nodes := NilL Int : NSet }).nodes (spA l x.1.toNat).node || decide ((spA l x.1.toNat).pages < 1) || decide (nth x.2.1 (grI C (spA l x.1.toNat).grp).toNat < (spA l x.1.toNat).pages)) = false) ∧ ((decide (grI C (spA l x.1.toNat).grp < 0) || !memB (A.getD (grI C (spA l x.1.toNat).grp).toNat { grp := 0, nodes := NilL Int : NSet }).nodes (spA l x.1.toNat).node || decide ((spA l x.1.toNat).pages < 1) || decide (nth x.2.1 (grI C (spA l x.1.toNat).grp).toNat < (spA l x.1.toNat).pages)) = false → (decide (grI C (spA l x.1.toNat).grp < 0) || !memB (A.getD (grI C (spA l x.1.toNat).grp).toNat { grp := 0, nodes := NilL Int : NSet }).nodes (spA l x.1.toNat).node || decide ((spA l x.1.toNat).pages < 1) || decide (nth x.2.1 (grI C (spA l x.1.toNat).grp).toNat < (spA l x.1.toNat).pages)) = false) ∧ ((decide (grI C (spA l x.1.toNat).grp < 0) || !memB (A.getD (grI C (spA l x.1.toNat).grp).toNat { grp := 0, nodes := NilL Int : NSet }).nodes (spA l x.1.toNat).node || decide ((spA l x.1.toNat).pages < 1) || decide (nth x.2.1 (grI C (spA l x.1.toNat).grp).toNat < (spA l x.1.toNat).pages) || decide (nth x.2.2 (spA l x.1.toNat).node.toNat < (spA l x.1.toNat).pages)) = true → ∃ (y : Unit), True ∧ false = chkB C A cap l) ∧ ((decide (grI C (spA l x.1.toNat).grp < 0) || !memB (A.getD (grI C (spA l x.1.toNat).grp).toNat { grp := 0, nodes := NilL Int : NSet }).nodes (spA l x.1.toNat).node || decide ((spA l x.1.toNat).pages < 1) || decide (nth x.2.1 (grI C (spA l x.1.toNat).grp).toNat < (spA l x.1.toNat).pages) || decide (nth x.2.2 (spA l x.1.toNat).node.toNat < (spA l x.1.toNat).pages)) = false → (decide (0 < x.1) = true → decide (0 < x.1) = true) ∧ (decide (0 < x.1) = true → decide (0 < x.1) = true) ∧ (decide (0 < x.1) = true → i64R (x.1 - 1)) ∧ (decide (0 < x.1) = true → decide (0 < x.1) = true) ∧ (decide (0 < x.1) = true → decide (0 < x.1) = true) ∧ (decide (0 < x.1) = true → 0 ≤ x.1 - 1 ∧ x.1 - 1 < (↑l.length : Int)) ∧ (decide (0 < x.1) = true → decide (0 < x.1) = true) ∧ (decide (0 < x.1) = true → decide (0 < x.1) = true) ∧ (decide (0 < x.1) = true → decide (0 < x.1) = true) ∧ (decide (0 < x.1) = true → decide (0 < x.1) = true) ∧ (decide (0 < x.1) = true → decide (0 < x.1) = true) ∧ ((decide (0 < x.1) && !decide ((spA l x.1.toNat).grp < (spA l (x.1 - 1).toNat).grp)) = true → (decide (0 < x.1) && !decide ((spA l x.1.toNat).grp < (spA l (x.1 - 1).toNat).grp)) = true) ∧ ((decide (0 < x.1) && !decide ((spA l x.1.toNat).grp < (spA l (x.1 - 1).toNat).grp)) = true → (decide (0 < x.1) && !decide ((spA l x.1.toNat).grp < (spA l (x.1 - 1).toNat).grp)) = true) ∧ ((decide (0 < x.1) && !decide ((spA l x.1.toNat).grp < (spA l (x.1 - 1).toNat).grp)) = true → i64R (x.1 - 1)) ∧ ((decide (0 < x.1) && !decide ((spA l x.1.toNat).grp < (spA l (x.1 - 1).toNat).grp)) = true → (decide (0 < x.1) && !decide ((spA l x.1.toNat).grp < (spA l (x.1 - 1).toNat).grp)) = true) ∧ ((decide (0 < x.1) && !decide ((spA l x.1.toNat).grp < (spA l (x.1 - 1).toNat).grp)) = true → (decide (0 < x.1) && !decide ((spA l x.1.toNat).grp < (spA l (x.1 - 1).toNat).grp)) = true) ∧ ((decide (0 < x.1) && !decide ((spA l x.1.toNat).grp < (spA l (x.1 - 1).toNat).grp)) = true → 0 ≤ x.1 - 1 ∧ x.1 - 1 < (↑l.length : Int)) ∧ ((decide (0 < x.1) && !decide ((spA l x.1.toNat).grp < (spA l (x.1 - 1).toNat).grp)) = true → (decide (0 < x.1) && !decide ((spA l x.1.toNat).grp < (spA l (x.1 - 1).toNat).grp)) = true) ∧ ((decide (0 < x.1) && !decide ((spA l x.1.toNat).grp < (spA l (x.1 - 1).toNat).grp)) = true → (decide (0 < x.1) && !decide ((spA l x.1.toNat).grp < (spA l (x.1 - 1).toNat).grp)) = true) ∧ ((decide (0 < x.1) && !decide ((spA l x.1.toNat).grp < (spA l (x.1 - 1).toNat).grp)) = true → (decide (0 < x.1) && !decide ((spA l x.1.toNat).grp < (spA l (x.1 - 1).toNat).grp)) = true) ∧ ((decide (0 < x.1) && !decide ((spA l x.1.toNat).grp < (spA l (x.1 - 1).toNat).grp)) = true → (decide (0 < x.1) && !decide ((spA l x.1.toNat).grp < (spA l (x.1 - 1).toNat).grp)) = true) ∧ ((decide (0 < x.1) && !decide ((spA l x.1.toNat).grp < (spA l (x.1 - 1).toNat).grp)) = true → (decide (0 < x.1) && !decide ((spA l x.1.toNat).grp < (spA l (x.1 - 1).toNat).grp)) = true) ∧ ((decide (0 < x.1) && !decide ((spA l x.1.toNat).grp < (spA l (x.1 - 1).toNat).grp) && decide ((spA l x.1.toNat).grp = (spA l (x.1 - 1).toNat).grp)) = true → (decide (0 < x.1) && !decide ((spA l x.1.toNat).grp < (spA l (x.1 - 1).toNat).grp) && decide ((spA l x.1.toNat).grp = (spA l (x.1 - 1).toNat).grp)) = true) ∧ ((decide (0 < x.1) && !decide ((spA l x.1.toNat).grp < (spA l (x.1 - 1).toNat).grp) && decide ((spA l x.1.toNat).grp = (spA l (x.1 - 1).toNat).grp)) = true → (decide (0 < x.1) && !decide ((spA l x.1.toNat).grp < (spA l (x.1 - 1).toNat).grp) && decide ((spA l x.1.toNat).grp = (spA l (x.1 - 1).toNat).grp)) = true) ∧ ((decide (0 < x.1) && !decide ((spA l x.1.toNat).grp < (spA l (x.1 - 1).toNat).grp) && decide ((spA l x.1.toNat).grp = (spA l (x.1 - 1).toNat).grp)) = true → i64R (x.1 - 1)) ∧ ((decide (0 < x.1) && !decide ((spA l x.1.toNat).grp < (spA l (x.1 - 1).toNat).grp) && decide ((spA l x.1.toNat).grp = (spA l (x.1 - 1).toNat).grp)) = true → (decide (0 < x.1) && !decide ((spA l x.1.toNat).grp < (spA l (x.1 - 1).toNat).grp) && decide ((spA l x.1.toNat).grp = (spA l (x.1 - 1).toNat).grp)) = true) ∧ ((decide (0 < x.1) && !decide ((spA l x.1.toNat).grp < (spA l (x.1 - 1).toNat).grp) && decide ((spA l x.1.toNat).grp = (spA l (x.1 - 1).toNat).grp)) = true → (decide (0 < x.1) && !decide ((spA l x.1.toNat).grp < (spA l (x.1 - 1).toNat).grp) && decide ((spA l x.1.toNat).grp = (spA l (x.1 - 1).toNat).grp)) = true) ∧ ((decide (0 < x.1) && !decide ((spA l x.1.toNat).grp < (spA l (x.1 - 1).toNat).grp) && decide ((spA l x.1.toNat).grp = (spA l (x.1 - 1).toNat).grp)) = true → 0 ≤ x.1 - 1 ∧ x.1 - 1 < (↑l.length : Int)) ∧ ((decide (0 < x.1) && !decide ((spA l x.1.toNat).grp < (spA l (x.1 - 1).toNat).grp) && decide ((spA l x.1.toNat).grp = (spA l (x.1 - 1).toNat).grp)) = true → (decide (0 < x.1) && !decide ((spA l x.1.toNat).grp < (spA l (x.1 - 1).toNat).grp) && decide ((spA l x.1.toNat).grp = (spA l (x.1 - 1).toNat).grp)) = true) ∧ ((decide (0 < x.1) && !decide ((spA l x.1.toNat).grp < (spA l (x.1 - 1).toNat).grp) && decide ((spA l x.1.toNat).grp = (spA l (x.1 - 1).toNat).grp)) = true → (decide (0 < x.1) && !decide ((spA l x.1.toNat).grp < (spA l (x.1 - 1).toNat).grp) && decide ((spA l x.1.toNat).grp = (spA l (x.1 - 1).toNat).grp)) = true) ∧ ((decide (0 < x.1) && !decide ((spA l x.1.toNat).grp < (spA l (x.1 - 1).toNat).grp) && decide ((spA l x.1.toNat).grp = (spA l (x.1 - 1).toNat).grp)) = true → (decide (0 < x.1) && !decide ((spA l x.1.toNat).grp < (spA l (x.1 - 1).toNat).grp) && decide ((spA l x.1.toNat).grp = (spA l (x.1 - 1).toNat).grp)) = true) ∧ ((decide (0 < x.1) && !decide ((spA l x.1.toNat).grp < (spA l (x.1 - 1).toNat).grp) && decide ((spA l x.1.toNat).grp = (spA l (x.1 - 1).toNat).grp)) = true → (decide (0 < x.1) && !decide ((spA l x.1.toNat).grp < (spA l (x.1 - 1).toNat).grp) && decide ((spA l x.1.toNat).grp = (spA l (x.1 - 1).toNat).grp)) = true) ∧ ((decide (0 < x.1) && !decide ((spA l x.1.toNat).grp < (spA l (x.1 - 1).toNat).grp)) = true → (decide (0 < x.1) && !decide ((spA l x.1.toNat).grp < (spA l (x.1 - 1).toNat).grp)) = true) ∧ ((decide (0 < x.1) && !decide ((spA l x.1.toNat).grp < (spA l (x.1 - 1).toNat).grp)) = true → decide ((spA l x.1.toNat).grp = (spA l (x.1 - 1).toNat).grp) = true → (decide (0 < x.1) && !decide ((spA l x.1.toNat).grp < (spA l (x.1 - 1).toNat).grp) && decide ((spA l x.1.toNat).grp = (spA l (x.1 - 1).toNat).grp)) = true) ∧ (decide (0 < x.1) = true → decide (0 < x.1) = true) ∧ (decide (0 < x.1) = true → decide ((spA l x.1.toNat).grp < (spA l (x.1 - 1).toNat).grp) = false → (decide (0 < x.1) && !decide ((spA l x.1.toNat).grp < (spA l (x.1 - 1).toNat).grp)) = true) ∧ (decide (0 < x.1) = true → decide (0 < x.1) = true) ∧ ((decide (0 < x.1) && (decide ((spA l x.1.toNat).grp < (spA l (x.1 - 1).toNat).grp) || decide ((spA l x.1.toNat).grp = (spA l (x.1 - 1).toNat).grp) && decide ((spA l x.1.toNat).node ≤ (spA l (x.1 - 1).toNat).node))) = true → ∃ (y : Unit), True ∧ false = chkB C A cap l) ∧ ((decide (0 < x.1) && (decide ((spA l x.1.toNat).grp < (spA l (x.1 - 1).toNat).grp) || decide ((spA l x.1.toNat).grp = (spA l (x.1 - 1).toNat).grp) && decide ((spA l x.1.toNat).node ≤ (spA l (x.1 - 1).toNat).node))) = false → (0 ≤ grI C (spA l x.1.toNat).grp ∧ grI C (spA l x.1.toNat).grp < (↑x.2.1.length : Int)) ∧ i64R (nth x.2.1 (grI C (spA l x.1.toNat).grp).toNat - (spA l x.1.toNat).pages) ∧ (0 ≤ grI C (spA l x.1.toNat).grp ∧ grI C (spA l x.1.toNat).grp < (↑x.2.1.length : Int)) ∧ (0 ≤ (spA l x.1.toNat).node ∧ (spA l x.1.toNat).node < (↑x.2.2.length : Int)) ∧ i64R (nth x.2.2 (spA l x.1.toNat).node.toNat - (spA l x.1.toNat).pages) ∧ (0 ≤ (spA l x.1.toNat).node ∧ (spA l x.1.toNat).node < (↑x.2.2.length : Int)) ∧ i64R (x.1 + 1) ∧ ∃ (x' : Int × List Int × List Int), ((0 ≤ x'.1 ∧ x'.1 ≤ (↑l.length : Int)) ∧ RestP C A cap l x'.1.toNat x'.2.1 x'.2.2) ∧ ((↑l.length : Int) - x'.1).toNat < ((↑l.length : Int) - x.1).toNat ∧ x.1 + 1 = x'.1 ∧ x.2.1.set (grI C (spA l x.1.toNat).grp).toNat (nth x.2.1 (grI C (spA l x.1.toNat).grp).toNat - (spA l x.1.toNat).pages) = x'.2.1 ∧ x.2.2.set (spA l x.1.toNat).node.toNat (nth x.2.2 (spA l x.1.toNat).node.toNat - (spA l x.1.toNat).pages) = x'.2.2))) ∧ (decide (x.1 < (↑l.length : Int)) = false → x.2.1.length ≤ (9223372036854775807 : Nat) ∧ ∃ (y : Unit), True ∧ (!decide (0 ≤ posI x.2.1)) = chkB C A cap l)))) = sChk.vc (EV Try.prog [(18, sValid.spec), (31, sClone.spec), (41, sIdxC.spec), (43, sHasI.spec), (44, sConP.spec)] (invsS [(6, inv24a C cap), (11, inv24b C A cap l)]) noInv) Try.f24 (C, A, cap, l, ()) := by kernel_rfl
  rw [← e]
  clear e
  simp only [imp_self, true_and, and_true, exists_const, gd2]
  try simp only [Prod.forall, Prod.exists, i64R, Int.reduceNeg, decide_eq_true_eq, decide_eq_false_iff_not, Bool.not_eq_true', Bool.not_eq_false', Bool.and_eq_true, Bool.or_eq_true, Bool.and_eq_false_iff, Bool.or_eq_false_iff ]
  try simp only [NilL_eq]
  obtain ⟨hs, hsb⟩ := hx
  have hl := hsb.len
  have hN : ∀ z, (A.getD z { grp := 0, nodes := [] }).nodes = nodesAt A z := fun _ => rfl
  have hO : ∀ z, (C.getD z { grp := 0, own := 0 }).own = ownAt C z := fun _ => rfl
  simp only [hN, hO]
  have no : ¬ Chk C A cap l → false = chkB C A cap l := fun h => (chkB_f.2 h).symm
  refine ⟨hs, fun h => no fun hc => vokB_f.1 h hc.v, fun h => ?_⟩
  have hv := vokB_t.1 h
  have d64 := hv.d64
  have c8 := hv.c8
  have la := hv.la
  refine ⟨by omega, by omega, ⟨0, _, ⟨by omega, by simp, fun j hj => by simp at hj⟩, rfl, rfl⟩, fun i r hi => ⟨fun hlt => ⟨by omega, by omega, by omega, i + 1, _, ⟨by omega, by simpa using hi.2.1, fun j hj => ?_⟩, by omega, rfl, rfl⟩, fun hge => ⟨⟨0, _, _, ⟨by omega, ⟨hi.2.1, rfl, fun k hk => ?_, fun j hj => ?_, fun j hj => by simp at hj⟩⟩, rfl, rfl, rfl⟩, fun i r q hi => ⟨fun hlt => ?_, fun hge => ?_⟩⟩⟩⟩
  · rw [nth_set (by omega)]
    split
    · rename_i e; rw [e]
    · exact hi.2.2 j (by omega)
  · have := hv.ownB k
    show nth r k = ownAt C k - 0 ∧ 0 ≤ nth r k
    rw [hi.2.2 k (by omega)]; omega
  · have := hv.capB j
    show nth cap j = nth cap j - 0 ∧ 0 ≤ nth cap j
    omega
  · obtain ⟨hi, hR⟩ := hi
    have lr := hR.lr
    have lq := hR.lq
    have hpg := hsb.pg i.toNat
    have ei : (i - 1).toNat = i.toNat - 1 := by omega
    rw [ei]
    rcases fstI_cases (isGr C (spA l i.toNat).grp) C.length with ⟨e, hno⟩ | ⟨k, e, hk, hg, _⟩
    · have e : grI C (spA l i.toNat).grp = -1 := e
      rw [e]
      refine ⟨by omega, by omega, fun h => by omega, fun h => by omega, fun h => by omega, fun h => by omega, fun _ => no fun hc => ?_, fun h => by omega⟩
      obtain ⟨k, h1, h2, _⟩ := (hc.sp i.toNat (by omega)).1
      exact hno k h1 h2
    · have e : grI C (spA l i.toNat).grp = k := e
      have hg : grpAt C k = (spA l i.toNat).grp := hg
      rw [e, Int.toNat_natCast]
      have hmb : memB (nodesAt A k) (spA l i.toNat).node = true ↔ (spA l i.toNat).node ∈ nodesAt A k := memB_iff
      have hmf : memB (nodesAt A k) (spA l i.toNat).node = false ↔ ¬ (spA l i.toNat).node ∈ nodesAt A k := by rw [← hmb]; simp
      simp only [hmb, hmf]
      have hr1 := hR.r1 k hk
      have hob := hv.ownB k
      refine ⟨by omega, by omega, fun _ => by omega, fun _ => hs.n k, fun _ => by omega, fun h => ?_, fun h => no fun hc => ?_, fun h => ?_⟩
      · obtain ⟨j, ej, hj⟩ := node_at hv hk h.1.1.2
        rw [ej]; omega
      · have h1 := hc.sp i.toNat (by omega)
        have h2 := h1.at hv hk hg
        obtain ⟨j, ej, hj⟩ := node_at hv hk h2
        have h3 := hc.fits (by omega) hk hg hj ej
        have h4 := hR.q1 j hj
        have h5 := h1.2.1
        rw [ej, Int.toNat_natCast] at h
        rcases h with (((h | h) | h) | h) | h
        · omega
        · rw [← ej] at h; exact h h2
        · omega
        · omega
        · omega
      · obtain ⟨j, ej, hj⟩ := node_at hv hk h.1.1.1.2
        rw [ej, Int.toNat_natCast] at h ⊢
        have h4 := hR.q1 j hj
        have h6 := hv.capB j
        refine ⟨fun _ => by omega, fun _ => by omega, fun _ => by omega, fun _ => by omega, fun _ => by omega, fun _ => by omega, fun h1 h2 => ⟨h1, h2⟩, fun h1 => no fun hc => ?_, fun h1 => ?_⟩
        · have h2 := (hc.sp i.toNat (by omega)).2.2 (by omega)
          rw [ej] at h2
          omega
        · have hso : spO C A l i.toNat := ⟨⟨k, hk, hg, by rw [ej]; exact h.1.1.1.2⟩, by omega, fun h0 => by rw [ej]; omega⟩
          have hn := hR.next hv hk hg hj ej (by omega) (by omega) hso
          rw [show i.toNat + 1 = (i + 1).toNat by omega] at hn
          have g0 := got_nn hR.sp (grpAt C k)
          have l0 := load_nn hR.sp (j : Int)
          exact ⟨by omega, by omega, by omega, by omega, by omega, by omega, by omega, i + 1, _, _, ⟨by omega, hn⟩, by omega, rfl, rfl, rfl⟩
  · obtain ⟨hi, hR⟩ := hi
    have lr := hR.lr
    have ei : i.toNat = l.length := by omega
    rw [ei] at hR
    refine ⟨by omega, ?_⟩
    rcases fstI_cases (isPos r) r.length with ⟨e, hno⟩ | ⟨k, e, hk, hp, _⟩
    · have e : posI r = -1 := e
      rw [e]
      have : chkB C A cap l = true := chkB_t.2 ⟨hv, hR.sp, fun j hj => by have := hR.q1 j hj; omega, fun k hk => by
        have h1 := hR.r1 k hk
        have h2 := hno k (by omega)
        unfold isPos at h2
        omega⟩
      rw [this]; rfl
    · have e : posI r = k := e
      rw [e]
      have : chkB C A cap l = false := chkB_f.2 fun hc => by
        have h1 := hR.r1 k (by omega)
        have h2 := hc.gt k (by omega)
        have hp : 0 < nth r k := hp
        omega
      rw [this]
      simp

def inv25a (C : List Chg) (A : List NSet) (cap : List Int) (l : List Spt) (s : St) : Inv where
  X := Int × List Int × List Int
  ok := fun x => (0 ≤ x.1 ∧ x.1 ≤ l.length) ∧ GotP C A cap l x.1.toNat x.2.1 x.2.2
  sl := fun x => [(11, .int .i64 x.1), (10, .own 101 0), (9, .own 103 0)]
  hp := fun x => [(101, .rows 3 0 x.2.1), (103, .rows 3 0 x.2.2)]
  keep := []
  me := fun x => (l.length - x.1).toNat
def inv25b (C : List Chg) (A : List NSet) (cap : List Int) (l : List Spt) (s : St) : Inv where
  X := Int
  ok := fun k => (0 ≤ k ∧ k ≤ C.length) ∧ ∀ j : Nat, j < k.toNat → ¬ grpAt C j = (spA l (slotI s 11).toNat).grp
  sl := fun k => [(13, .int .i64 k), (10, .own 101 0), (9, .own 103 0)]
  hp := fun k => [(101, .rows 3 0 (contI s (s.t 10))), (103, .rows 3 0 (contI s (s.t 9)))]
  keep := [90040]
  me := fun k => (C.length - k).toNat
def inv25c (C : List Chg) (cap : List Int) (s : St) : Inv where
  X := Int
  ok := fun i => (0 ≤ i ∧ i ≤ cap.length) ∧ ∀ j : Nat, j < i.toNat → nth (contI s (s.t 9)) j ≤ nth cap j
  sl := fun i => [(14, .int .i64 i), (10, .own 101 0), (9, .own 103 0)]
  hp := fun i => [(101, .rows 3 0 (contI s (s.t 10))), (103, .rows 3 0 (contI s (s.t 9)))]
  keep := []
  me := fun i => (cap.length - i).toNat
def inv25d (C : List Chg) (s : St) : Inv where
  X := Int
  ok := fun i => (0 ≤ i ∧ i ≤ C.length) ∧ ∀ j : Nat, j < i.toNat → nth (contI s (s.t 10)) j = ownAt C j
  sl := fun i => [(15, .int .i64 i), (10, .own 101 0)]
  hp := fun i => [(101, .rows 3 0 (contI s (s.t 10)))]
  keep := []
  me := fun i => (C.length - i).toNat
set_option maxRecDepth 100000 in
theorem vc25 (C : List Chg) (A : List NSet) (cap : List Int) (l : List Spt) (hx : Sml C A cap ∧ SB l) : sChk.vc (EV Try.prog [(28, sValid.spec), (46, sHasI.spec)] (invsS [(6, inv25a C A cap l), (10, inv25b C A cap l), (17, inv25c C cap), (22, inv25d C)]) noInv) Try.f25 (C, A, cap, l, ()) := by
  have e : (Sml C A cap ∧ ((!vokB C A cap) = true → ∃ (y : Unit), True ∧ false = chkB C A cap l) ∧ ((!vokB C A cap) = false → (0 ≤ (↑cap.length : Int) ∧ (↑cap.length : Int) ≤ (↑cap.length : Int) ∧ (↑(8 : Nat) : Int) * (↑cap.length : Int) ≤ 281474976710656 ∧ (↑cap.length : Int) ≤ 1099511627776) ∧ (0 ≤ (↑C.length : Int) ∧ (↑C.length : Int) ≤ (↑C.length : Int) ∧ (↑(8 : Nat) : Int) * (↑C.length : Int) ≤ 281474976710656 ∧ (↑C.length : Int) ≤ 1099511627776) ∧ (∃ (x : Int × List Int × List Int), ((0 ≤ x.1 ∧ x.1 ≤ (↑l.length : Int)) ∧ GotP C A cap l x.1.toNat x.2.1 x.2.2) ∧ 0 = x.1 ∧ List.replicate (↑C.length : Int).toNat 0 = x.2.1 ∧ List.replicate (↑cap.length : Int).toNat 0 = x.2.2) ∧ ∀ (x : Int × List Int × List Int), (0 ≤ x.1 ∧ x.1 ≤ (↑l.length : Int)) ∧ GotP C A cap l x.1.toNat x.2.1 x.2.2 → (decide (x.1 < (↑l.length : Int)) = true → (0 ≤ x.1 ∧ x.1 < (↑l.length : Int)) ∧ (∃ (x_1 : Int), ((0 ≤ x_1 ∧ x_1 ≤ (↑C.length : Int)) ∧ ∀ (j : Nat), j < x_1.toNat → ¬grpAt C j = (spA l x.1.toNat).grp) ∧ 0 = x_1 ∧ x.2.1 = x.2.1 ∧ x.2.2 = x.2.2 ∧ (spA l x.1.toNat).grp = (spA l x.1.toNat).grp ∧ (spA l x.1.toNat).node = (spA l x.1.toNat).node ∧ (spA l x.1.toNat).pages = (spA l x.1.toNat).pages) ∧ ∀ (x_1 : Int), ((0 ≤ x_1 ∧ x_1 ≤ (↑C.length : Int)) ∧ ∀ (j : Nat), j < x_1.toNat → ¬grpAt C j = (spA l x.1.toNat).grp) → (decide (x_1 < (↑C.length : Int)) = true → decide (x_1 < (↑C.length : Int)) = true) ∧ (decide (x_1 < (↑C.length : Int)) = true → decide (x_1 < (↑C.length : Int)) = true) ∧ (decide (x_1 < (↑C.length : Int)) = true → 0 ≤ x_1 ∧ x_1 < (↑C.length : Int)) ∧ (decide (x_1 < (↑C.length : Int)) = true → decide (x_1 < (↑C.length : Int)) = true) ∧ (decide (x_1 < (↑C.length : Int)) = true → decide (x_1 < (↑C.length : Int)) = true) ∧ (decide (x_1 < (↑C.length : Int)) = true → decide (x_1 < (↑C.length : Int)) = true) ∧ (decide (x_1 < (↑C.length : Int)) = true → decide (x_1 < (↑C.length : Int)) = true) ∧ (decide (x_1 < (↑C.length : Int)) = true → decide (x_1 < (↑C.length : Int)) = true) ∧ (decide (x_1 < (↑C.length : Int)) = true → decide (x_1 < (↑C.length : Int)) = true) ∧ ((decide (x_1 < (↑C.length : Int)) && !decide ((C.getD x_1.toNat { grp := 0, own := 0 : Chg }).grp = (spA l x.1.toNat).grp)) = true → i64R (x_1 + 1) ∧ ∃ (x' : Int), ((0 ≤ x' ∧ x' ≤ (↑C.length : Int)) ∧ ∀ (j : Nat), j < x'.toNat → ¬grpAt C j = (spA l x.1.toNat).grp) ∧ ((↑C.length : Int) - x').toNat < ((↑C.length : Int) - x_1).toNat ∧ x_1 + 1 = x' ∧ x.2.1 = x.2.1 ∧ x.2.2 = x.2.2 ∧ (spA l x.1.toNat).grp = (spA l x.1.toNat).grp ∧ (spA l x.1.toNat).node = (spA l x.1.toNat).node ∧ (spA l x.1.toNat).pages = (spA l x.1.toNat).pages) ∧ ((decide (x_1 < (↑C.length : Int)) && !decide ((C.getD x_1.toNat { grp := 0, own := 0 : Chg }).grp = (spA l x.1.toNat).grp)) = false → (decide (x_1 = (↑C.length : Int)) = false → decide (x_1 = (↑C.length : Int)) = false) ∧ (decide (x_1 = (↑C.length : Int)) = false → decide (x_1 = (↑C.length : Int)) = false) ∧ (decide (x_1 = (↑C.length : Int)) = false → 0 ≤ x_1 ∧ x_1 < (↑A.length : Int)) ∧ (decide (x_1 = (↑C.length : Int)) = false → decide (x_1 = (↑C.length : Int)) = false) ∧ (decide (x_1 = (↑C.length : Int)) = false → decide (x_1 = (↑C.length : Int)) = false) ∧ (decide (x_1 = (↑C.length : Int)) = false → decide (x_1 = (↑C.length : Int)) = false) ∧ (decide (x_1 = (↑C.length : Int)) = false → decide (x_1 = (↑C.length : Int)) = false) ∧ (decide (x_1 = (↑C.length : Int)) = false → decide (x_1 = (↑C.length : Int)) = false) ∧ (decide (x_1 = (↑C.length : Int)) = false → (A.getD x_1.toNat { grp := 0, nodes := NilL Int : NSet }).nodes.length ≤ (9223372036854775807 : Nat)) ∧ (decide (x_1 = (↑C.length : Int)) = false → decide (x_1 = (↑C.length : Int)) = false) ∧ (decide (x_1 = (↑C.length : Int)) = false → decide (x_1 = (↑C.length : Int)) = false) ∧ ((decide (x_1 = (↑C.length : Int)) || !memB (A.getD x_1.toNat { grp := 0, nodes := NilL Int : NSet }).nodes (spA l x.1.toNat).node) = false → (decide (x_1 = (↑C.length : Int)) || !memB (A.getD x_1.toNat { grp := 0, nodes := NilL Int : NSet }).nodes (spA l x.1.toNat).node) = false) ∧ ((decide (x_1 = (↑C.length : Int)) || !memB (A.getD x_1.toNat { grp := 0, nodes := NilL Int : NSet }).nodes (spA l x.1.toNat).node) = false → (decide (x_1 = (↑C.length : Int)) || !memB (A.getD x_1.toNat { grp := 0, nodes := NilL Int : NSet }).nodes (spA l x.1.toNat).node) = false) ∧ ((decide (x_1 = (↑C.length : Int)) || !memB (A.getD x_1.toNat { grp := 0, nodes := NilL Int : NSet }).nodes (spA l x.1.toNat).node) = false → (decide (x_1 = (↑C.length : Int)) || !memB (A.getD x_1.toNat { grp := 0, nodes := NilL Int : NSet }).nodes (spA l x.1.toNat).node) = false) ∧ ((decide (x_1 = (↑C.length : Int)) || !memB (A.getD x_1.toNat { grp := 0, nodes := NilL Int : NSet }).nodes (spA l x.1.toNat).node || decide ((spA l x.1.toNat).pages < 1)) = false → (decide (x_1 = (↑C.length : Int)) || !memB (A.getD x_1.toNat { grp := 0, nodes := NilL Int : NSet }).nodes (spA l x.1.toNat).node || decide ((spA l x.1.toNat).pages < 1)) = false) ∧ ((decide (x_1 = (↑C.length : Int)) || !memB (A.getD x_1.toNat { grp := 0, nodes := NilL Int : NSet }).nodes (spA l x.1.toNat).node || decide ((spA l x.1.toNat).pages < 1)) = false → (decide (x_1 = (↑C.length : Int)) || !memB (A.getD x_1.toNat { grp := 0, nodes := NilL Int : NSet }).nodes (spA l x.1.toNat).node || decide ((spA l x.1.toNat).pages < 1)) = false) ∧ ((decide (x_1 = (↑C.length : Int)) || !memB (A.getD x_1.toNat { grp := 0, nodes := NilL Int : NSet }).nodes (spA l x.1.toNat).node || decide ((spA l x.1.toNat).pages < 1)) = false → (decide (x_1 = (↑C.length : Int)) || !memB (A.getD x_1.toNat { grp := 0, nodes := NilL Int : NSet }).nodes (spA l x.1.toNat).node || decide ((spA l x.1.toNat).pages < 1)) = false) ∧ ((decide (x_1 = (↑C.length : Int)) || !memB (A.getD x_1.toNat { grp := 0, nodes := NilL Int : NSet }).nodes (spA l x.1.toNat).node || decide ((spA l x.1.toNat).pages < 1) || decide (16777216 < (spA l x.1.toNat).pages)) = false → (decide (x_1 = (↑C.length : Int)) || !memB (A.getD x_1.toNat { grp := 0, nodes := NilL Int : NSet }).nodes (spA l x.1.toNat).node || decide ((spA l x.1.toNat).pages < 1) || decide (16777216 < (spA l x.1.toNat).pages)) = false) ∧ ((decide (x_1 = (↑C.length : Int)) || !memB (A.getD x_1.toNat { grp := 0, nodes := NilL Int : NSet }).nodes (spA l x.1.toNat).node || decide ((spA l x.1.toNat).pages < 1) || decide (16777216 < (spA l x.1.toNat).pages)) = false → (decide (x_1 = (↑C.length : Int)) || !memB (A.getD x_1.toNat { grp := 0, nodes := NilL Int : NSet }).nodes (spA l x.1.toNat).node || decide ((spA l x.1.toNat).pages < 1) || decide (16777216 < (spA l x.1.toNat).pages)) = false) ∧ ((!(decide (x_1 = (↑C.length : Int)) || !memB (A.getD x_1.toNat { grp := 0, nodes := NilL Int : NSet }).nodes (spA l x.1.toNat).node || decide ((spA l x.1.toNat).pages < 1) || decide (16777216 < (spA l x.1.toNat).pages)) && decide (0 < x.1)) = true → (!(decide (x_1 = (↑C.length : Int)) || !memB (A.getD x_1.toNat { grp := 0, nodes := NilL Int : NSet }).nodes (spA l x.1.toNat).node || decide ((spA l x.1.toNat).pages < 1) || decide (16777216 < (spA l x.1.toNat).pages)) && decide (0 < x.1)) = true) ∧ ((!(decide (x_1 = (↑C.length : Int)) || !memB (A.getD x_1.toNat { grp := 0, nodes := NilL Int : NSet }).nodes (spA l x.1.toNat).node || decide ((spA l x.1.toNat).pages < 1) || decide (16777216 < (spA l x.1.toNat).pages)) && decide (0 < x.1)) = true → (!(decide (x_1 = (↑C.length : Int)) || !memB (A.getD x_1.toNat { grp := 0, nodes := NilL Int : NSet }).nodes (spA l x.1.toNat).node || decide ((spA l x.1.toNat).pages < 1) || decide (16777216 < (spA l x.1.toNat).pages)) && decide (0 < x.1)) = true) ∧ ((!(decide (x_1 = (↑C.length : Int)) || !memB (A.getD x_1.toNat { grp := 0, nodes := NilL Int : NSet }).nodes (spA l x.1.toNat).node || decide ((spA l x.1.toNat).pages < 1) || decide (16777216 < (spA l x.1.toNat).pages)) && decide (0 < x.1)) = true → i64R (x.1 - 1)) ∧ ((!(decide (x_1 = (↑C.length : Int)) || !memB (A.getD x_1.toNat { grp := 0, nodes := NilL Int : NSet }).nodes (spA l x.1.toNat).node || decide ((spA l x.1.toNat).pages < 1) || decide (16777216 < (spA l x.1.toNat).pages)) && decide (0 < x.1)) = true → (!(decide (x_1 = (↑C.length : Int)) || !memB (A.getD x_1.toNat { grp := 0, nodes := NilL Int : NSet }).nodes (spA l x.1.toNat).node || decide ((spA l x.1.toNat).pages < 1) || decide (16777216 < (spA l x.1.toNat).pages)) && decide (0 < x.1)) = true) ∧ ((!(decide (x_1 = (↑C.length : Int)) || !memB (A.getD x_1.toNat { grp := 0, nodes := NilL Int : NSet }).nodes (spA l x.1.toNat).node || decide ((spA l x.1.toNat).pages < 1) || decide (16777216 < (spA l x.1.toNat).pages)) && decide (0 < x.1)) = true → (!(decide (x_1 = (↑C.length : Int)) || !memB (A.getD x_1.toNat { grp := 0, nodes := NilL Int : NSet }).nodes (spA l x.1.toNat).node || decide ((spA l x.1.toNat).pages < 1) || decide (16777216 < (spA l x.1.toNat).pages)) && decide (0 < x.1)) = true) ∧ ((!(decide (x_1 = (↑C.length : Int)) || !memB (A.getD x_1.toNat { grp := 0, nodes := NilL Int : NSet }).nodes (spA l x.1.toNat).node || decide ((spA l x.1.toNat).pages < 1) || decide (16777216 < (spA l x.1.toNat).pages)) && decide (0 < x.1)) = true → 0 ≤ x.1 - 1 ∧ x.1 - 1 < (↑l.length : Int)) ∧ ((!(decide (x_1 = (↑C.length : Int)) || !memB (A.getD x_1.toNat { grp := 0, nodes := NilL Int : NSet }).nodes (spA l x.1.toNat).node || decide ((spA l x.1.toNat).pages < 1) || decide (16777216 < (spA l x.1.toNat).pages)) && decide (0 < x.1)) = true → (!(decide (x_1 = (↑C.length : Int)) || !memB (A.getD x_1.toNat { grp := 0, nodes := NilL Int : NSet }).nodes (spA l x.1.toNat).node || decide ((spA l x.1.toNat).pages < 1) || decide (16777216 < (spA l x.1.toNat).pages)) && decide (0 < x.1)) = true) ∧ ((!(decide (x_1 = (↑C.length : Int)) || !memB (A.getD x_1.toNat { grp := 0, nodes := NilL Int : NSet }).nodes (spA l x.1.toNat).node || decide ((spA l x.1.toNat).pages < 1) || decide (16777216 < (spA l x.1.toNat).pages)) && decide (0 < x.1)) = true → (!(decide (x_1 = (↑C.length : Int)) || !memB (A.getD x_1.toNat { grp := 0, nodes := NilL Int : NSet }).nodes (spA l x.1.toNat).node || decide ((spA l x.1.toNat).pages < 1) || decide (16777216 < (spA l x.1.toNat).pages)) && decide (0 < x.1)) = true) ∧ ((!(decide (x_1 = (↑C.length : Int)) || !memB (A.getD x_1.toNat { grp := 0, nodes := NilL Int : NSet }).nodes (spA l x.1.toNat).node || decide ((spA l x.1.toNat).pages < 1) || decide (16777216 < (spA l x.1.toNat).pages)) && decide (0 < x.1)) = true → (!(decide (x_1 = (↑C.length : Int)) || !memB (A.getD x_1.toNat { grp := 0, nodes := NilL Int : NSet }).nodes (spA l x.1.toNat).node || decide ((spA l x.1.toNat).pages < 1) || decide (16777216 < (spA l x.1.toNat).pages)) && decide (0 < x.1)) = true) ∧ ((!(decide (x_1 = (↑C.length : Int)) || !memB (A.getD x_1.toNat { grp := 0, nodes := NilL Int : NSet }).nodes (spA l x.1.toNat).node || decide ((spA l x.1.toNat).pages < 1) || decide (16777216 < (spA l x.1.toNat).pages)) && decide (0 < x.1)) = true → (!(decide (x_1 = (↑C.length : Int)) || !memB (A.getD x_1.toNat { grp := 0, nodes := NilL Int : NSet }).nodes (spA l x.1.toNat).node || decide ((spA l x.1.toNat).pages < 1) || decide (16777216 < (spA l x.1.toNat).pages)) && decide (0 < x.1)) = true) ∧ ((!(decide (x_1 = (↑C.length : Int)) || !memB (A.getD x_1.toNat { grp := 0, nodes := NilL Int : NSet }).nodes (spA l x.1.toNat).node || decide ((spA l x.1.toNat).pages < 1) || decide (16777216 < (spA l x.1.toNat).pages)) && decide (0 < x.1)) = true → (!(decide (x_1 = (↑C.length : Int)) || !memB (A.getD x_1.toNat { grp := 0, nodes := NilL Int : NSet }).nodes (spA l x.1.toNat).node || decide ((spA l x.1.toNat).pages < 1) || decide (16777216 < (spA l x.1.toNat).pages)) && decide (0 < x.1)) = true) ∧ ((!(decide (x_1 = (↑C.length : Int)) || !memB (A.getD x_1.toNat { grp := 0, nodes := NilL Int : NSet }).nodes (spA l x.1.toNat).node || decide ((spA l x.1.toNat).pages < 1) || decide (16777216 < (spA l x.1.toNat).pages)) && decide (0 < x.1) && !decide ((spA l x.1.toNat).grp < (spA l (x.1 - 1).toNat).grp)) = true → (!(decide (x_1 = (↑C.length : Int)) || !memB (A.getD x_1.toNat { grp := 0, nodes := NilL Int : NSet }).nodes (spA l x.1.toNat).node || decide ((spA l x.1.toNat).pages < 1) || decide (16777216 < (spA l x.1.toNat).pages)) && decide (0 < x.1) && !decide ((spA l x.1.toNat).grp < (spA l (x.1 - 1).toNat).grp)) = true) ∧ ((!(decide (x_1 = (↑C.length : Int)) || !memB (A.getD x_1.toNat { grp := 0, nodes := NilL Int : NSet }).nodes (spA l x.1.toNat).node || decide ((spA l x.1.toNat).pages < 1) || decide (16777216 < (spA l x.1.toNat).pages)) && decide (0 < x.1) && !decide ((spA l x.1.toNat).grp < (spA l (x.1 - 1).toNat).grp)) = true → (!(decide (x_1 = (↑C.length : Int)) || !memB (A.getD x_1.toNat { grp := 0, nodes := NilL Int : NSet }).nodes (spA l x.1.toNat).node || decide ((spA l x.1.toNat).pages < 1) || decide (16777216 < (spA l x.1.toNat).pages)) && decide (0 < x.1) && !decide ((spA l x.1.toNat).grp < (spA l (x.1 - 1).toNat).grp)) = true) ∧ ((!(decide (x_1 = (↑C.length : Int)) || !memB (A.getD x_1.toNat { grp := 0, nodes := NilL Int : NSet }).nodes (spA l x.1.toNat).node || decide ((spA l x.1.toNat).pages < 1) || decide (16777216 < (spA l x.1.toNat).pages)) && decide (0 < x.1) && !decide ((spA l x.1.toNat).grp < (spA l (x.1 - 1).toNat).grp)) = true → i64R (x.1 - 1)) ∧ ((!(decide (x_1 = (↑C.length : Int)) || !memB (A.getD x_1.toNat { grp := 0, nodes := NilL Int : NSet }).nodes (spA l x.1.toNat).node || decide ((spA l x.1.toNat).pages < 1) || decide (16777216 < (spA l x.1.toNat).pages)) && decide (0 < x.1) && !decide ((spA l x.1.toNat).grp < (spA l (x.1 - 1).toNat).grp)) = true → (!(decide (x_1 = (↑C.length : Int)) || !memB (A.getD x_1.toNat { grp := 0, nodes := NilL Int : NSet }).nodes (spA l x.1.toNat).node || decide ((spA l x.1.toNat).pages < 1) || decide (16777216 < (spA l x.1.toNat).pages)) && decide (0 < x.1) && !decide ((spA l x.1.toNat).grp < (spA l (x.1 - 1).toNat).grp)) = true) ∧ ((!(decide (x_1 = (↑C.length : Int)) || !memB (A.getD x_1.toNat { grp := 0, nodes := NilL Int : NSet }).nodes (spA l x.1.toNat).node || decide ((spA l x.1.toNat).pages < 1) || decide (16777216 < (spA l x.1.toNat).pages)) && decide (0 < x.1) && !decide ((spA l x.1.toNat).grp < (spA l (x.1 - 1).toNat).grp)) = true → (!(decide (x_1 = (↑C.length : Int)) || !memB (A.getD x_1.toNat { grp := 0, nodes := NilL Int : NSet }).nodes (spA l x.1.toNat).node || decide ((spA l x.1.toNat).pages < 1) || decide (16777216 < (spA l x.1.toNat).pages)) && decide (0 < x.1) && !decide ((spA l x.1.toNat).grp < (spA l (x.1 - 1).toNat).grp)) = true) ∧ ((!(decide (x_1 = (↑C.length : Int)) || !memB (A.getD x_1.toNat { grp := 0, nodes := NilL Int : NSet }).nodes (spA l x.1.toNat).node || decide ((spA l x.1.toNat).pages < 1) || decide (16777216 < (spA l x.1.toNat).pages)) && decide (0 < x.1) && !decide ((spA l x.1.toNat).grp < (spA l (x.1 - 1).toNat).grp)) = true → 0 ≤ x.1 - 1 ∧ x.1 - 1 < (↑l.length : Int)) ∧ ((!(decide (x_1 = (↑C.length : Int)) || !memB (A.getD x_1.toNat { grp := 0, nodes := NilL Int : NSet }).nodes (spA l x.1.toNat).node || decide ((spA l x.1.toNat).pages < 1) || decide (16777216 < (spA l x.1.toNat).pages)) && decide (0 < x.1) && !decide ((spA l x.1.toNat).grp < (spA l (x.1 - 1).toNat).grp)) = true → (!(decide (x_1 = (↑C.length : Int)) || !memB (A.getD x_1.toNat { grp := 0, nodes := NilL Int : NSet }).nodes (spA l x.1.toNat).node || decide ((spA l x.1.toNat).pages < 1) || decide (16777216 < (spA l x.1.toNat).pages)) && decide (0 < x.1) && !decide ((spA l x.1.toNat).grp < (spA l (x.1 - 1).toNat).grp)) = true) ∧ ((!(decide (x_1 = (↑C.length : Int)) || !memB (A.getD x_1.toNat { grp := 0, nodes := NilL Int : NSet }).nodes (spA l x.1.toNat).node || decide ((spA l x.1.toNat).pages < 1) || decide (16777216 < (spA l x.1.toNat).pages)) && decide (0 < x.1) && !decide ((spA l x.1.toNat).grp < (spA l (x.1 - 1).toNat).grp)) = true → (!(decide (x_1 = (↑C.length : Int)) || !memB (A.getD x_1.toNat { grp := 0, nodes := NilL Int : NSet }).nodes (spA l x.1.toNat).node || decide ((spA l x.1.toNat).pages < 1) || decide (16777216 < (spA l x.1.toNat).pages)) && decide (0 < x.1) && !decide ((spA l x.1.toNat).grp < (spA l (x.1 - 1).toNat).grp)) = true) ∧ ((!(decide (x_1 = (↑C.length : Int)) || !memB (A.getD x_1.toNat { grp := 0, nodes := NilL Int : NSet }).nodes (spA l x.1.toNat).node || decide ((spA l x.1.toNat).pages < 1) || decide (16777216 < (spA l x.1.toNat).pages)) && decide (0 < x.1) && !decide ((spA l x.1.toNat).grp < (spA l (x.1 - 1).toNat).grp)) = true → (!(decide (x_1 = (↑C.length : Int)) || !memB (A.getD x_1.toNat { grp := 0, nodes := NilL Int : NSet }).nodes (spA l x.1.toNat).node || decide ((spA l x.1.toNat).pages < 1) || decide (16777216 < (spA l x.1.toNat).pages)) && decide (0 < x.1) && !decide ((spA l x.1.toNat).grp < (spA l (x.1 - 1).toNat).grp)) = true) ∧ ((!(decide (x_1 = (↑C.length : Int)) || !memB (A.getD x_1.toNat { grp := 0, nodes := NilL Int : NSet }).nodes (spA l x.1.toNat).node || decide ((spA l x.1.toNat).pages < 1) || decide (16777216 < (spA l x.1.toNat).pages)) && decide (0 < x.1) && !decide ((spA l x.1.toNat).grp < (spA l (x.1 - 1).toNat).grp)) = true → (!(decide (x_1 = (↑C.length : Int)) || !memB (A.getD x_1.toNat { grp := 0, nodes := NilL Int : NSet }).nodes (spA l x.1.toNat).node || decide ((spA l x.1.toNat).pages < 1) || decide (16777216 < (spA l x.1.toNat).pages)) && decide (0 < x.1) && !decide ((spA l x.1.toNat).grp < (spA l (x.1 - 1).toNat).grp)) = true) ∧ ((!(decide (x_1 = (↑C.length : Int)) || !memB (A.getD x_1.toNat { grp := 0, nodes := NilL Int : NSet }).nodes (spA l x.1.toNat).node || decide ((spA l x.1.toNat).pages < 1) || decide (16777216 < (spA l x.1.toNat).pages)) && decide (0 < x.1) && !decide ((spA l x.1.toNat).grp < (spA l (x.1 - 1).toNat).grp)) = true → (!(decide (x_1 = (↑C.length : Int)) || !memB (A.getD x_1.toNat { grp := 0, nodes := NilL Int : NSet }).nodes (spA l x.1.toNat).node || decide ((spA l x.1.toNat).pages < 1) || decide (16777216 < (spA l x.1.toNat).pages)) && decide (0 < x.1) && !decide ((spA l x.1.toNat).grp < (spA l (x.1 - 1).toNat).grp)) = true) ∧ ((!(decide (x_1 = (↑C.length : Int)) || !memB (A.getD x_1.toNat { grp := 0, nodes := NilL Int : NSet }).nodes (spA l x.1.toNat).node || decide ((spA l x.1.toNat).pages < 1) || decide (16777216 < (spA l x.1.toNat).pages)) && decide (0 < x.1) && !decide ((spA l x.1.toNat).grp < (spA l (x.1 - 1).toNat).grp) && decide ((spA l x.1.toNat).grp = (spA l (x.1 - 1).toNat).grp)) = true → (!(decide (x_1 = (↑C.length : Int)) || !memB (A.getD x_1.toNat { grp := 0, nodes := NilL Int : NSet }).nodes (spA l x.1.toNat).node || decide ((spA l x.1.toNat).pages < 1) || decide (16777216 < (spA l x.1.toNat).pages)) && decide (0 < x.1) && !decide ((spA l x.1.toNat).grp < (spA l (x.1 - 1).toNat).grp) && decide ((spA l x.1.toNat).grp = (spA l (x.1 - 1).toNat).grp)) = true) ∧ ((!(decide (x_1 = (↑C.length : Int)) || !memB (A.getD x_1.toNat { grp := 0, nodes := NilL Int : NSet }).nodes (spA l x.1.toNat).node || decide ((spA l x.1.toNat).pages < 1) || decide (16777216 < (spA l x.1.toNat).pages)) && decide (0 < x.1) && !decide ((spA l x.1.toNat).grp < (spA l (x.1 - 1).toNat).grp) && decide ((spA l x.1.toNat).grp = (spA l (x.1 - 1).toNat).grp)) = true → (!(decide (x_1 = (↑C.length : Int)) || !memB (A.getD x_1.toNat { grp := 0, nodes := NilL Int : NSet }).nodes (spA l x.1.toNat).node || decide ((spA l x.1.toNat).pages < 1) || decide (16777216 < (spA l x.1.toNat).pages)) && decide (0 < x.1) && !decide ((spA l x.1.toNat).grp < (spA l (x.1 - 1).toNat).grp) && decide ((spA l x.1.toNat).grp = (spA l (x.1 - 1).toNat).grp)) = true) ∧ ((!(decide (x_1 = (↑C.length : Int)) || !memB (A.getD x_1.toNat { grp := 0, nodes := NilL Int : NSet }).nodes (spA l x.1.toNat).node || decide ((spA l x.1.toNat).pages < 1) || decide (16777216 < (spA l x.1.toNat).pages)) && decide (0 < x.1) && !decide ((spA l x.1.toNat).grp < (spA l (x.1 - 1).toNat).grp) && decide ((spA l x.1.toNat).grp = (spA l (x.1 - 1).toNat).grp)) = true → i64R (x.1 - 1)) ∧ ((!(decide (x_1 = (↑C.length : Int)) || !memB (A.getD x_1.toNat { grp := 0, nodes := NilL Int : NSet }).nodes (spA l x.1.toNat).node || decide ((spA l x.1.toNat).pages < 1) || decide (16777216 < (spA l x.1.toNat).pages)) && decide (0 < x.1) && !decide ((spA l x.1.toNat).grp < (spA l (x.1 - 1).toNat).grp) && decide ((spA l x.1.toNat).grp = (spA l (x.1 - 1).toNat).grp)) = true → (!(decide (x_1 = (↑C.length : Int)) || !memB (A.getD x_1.toNat { grp := 0, nodes := NilL Int : NSet }).nodes (spA l x.1.toNat).node || decide ((spA l x.1.toNat).pages < 1) || decide (16777216 < (spA l x.1.toNat).pages)) && decide (0 < x.1) && !decide ((spA l x.1.toNat).grp < (spA l (x.1 - 1).toNat).grp) && decide ((spA l x.1.toNat).grp = (spA l (x.1 - 1).toNat).grp)) = true) ∧ ((!(decide (x_1 = (↑C.length : Int)) || !memB (A.getD x_1.toNat { grp := 0, nodes := NilL Int : NSet }).nodes (spA l x.1.toNat).node || decide ((spA l x.1.toNat).pages < 1) || decide (16777216 < (spA l x.1.toNat).pages)) && decide (0 < x.1) && !decide ((spA l x.1.toNat).grp < (spA l (x.1 - 1).toNat).grp) && decide ((spA l x.1.toNat).grp = (spA l (x.1 - 1).toNat).grp)) = true → (!(decide (x_1 = (↑C.length : Int)) || !memB (A.getD x_1.toNat { grp := 0, nodes := NilL Int : NSet }).nodes (spA l x.1.toNat).node || decide ((spA l x.1.toNat).pages < 1) || decide (16777216 < (spA l x.1.toNat).pages)) && decide (0 < x.1) && !decide ((spA l x.1.toNat).grp < (spA l (x.1 - 1).toNat).grp) && decide ((spA l x.1.toNat).grp = (spA l (x.1 - 1).toNat).grp)) = true) ∧ ((!(decide (x_1 = (↑C.length : Int)) || !memB (A.getD x_1.toNat { grp := 0, nodes := NilL Int : NSet }).nodes (spA l x.1.toNat).node || decide ((spA l x.1.toNat).pages < 1) || decide (16777216 < (spA l x.1.toNat).pages)) && decide (0 < x.1) && !decide ((spA l x.1.toNat).grp < (spA l (x.1 - 1).toNat).grp) && decide ((spA l x.1.toNat).grp = (spA l (x.1 - 1).toNat).grp)) = true → 0 ≤ x.1 - 1 ∧ x.1 - 1 < (↑l.length : Int)) ∧ ((!(decide (x_1 = (↑C.length : Int)) || !memB (A.getD x_1.toNat { grp := 0, nodes := NilL Int : NSet }).nodes (spA l x.1.toNat).node || decide ((spA l x.1.toNat).pages < 1) || decide (16777216 < (spA l x.1.toNat).pages)) && decide (0 < x.1) && !decide ((spA l x.1.toNat).grp < (spA l (x.1 - 1).toNat).grp) && decide ((spA l x.1.toNat).grp = (spA l (x.1 - 1).toNat).grp)) = true → (!(decide (x_1 = (↑C.length : Int)) || !memB (A.getD x_1.toNat { grp := 0, nodes := NilL Int : NSet }).nodes (spA l x.1.toNat).node || decide ((spA l x.1.toNat).pages < 1) || decide (16777216 < (spA l x.1.toNat).pages)) && decide (0 < x.1) && !decide ((spA l x.1.toNat).grp < (spA l (x.1 - 1).toNat).grp) && decide ((spA l x.1.toNat).grp = (spA l (x.1 - 1).toNat).grp)) = true) ∧ ((!(decide (x_1 = (↑C.length : Int)) || !memB (A.getD x_1.toNat { grp := 0, nodes := NilL Int : NSet }).nodes (spA l x.1.toNat).node || decide ((spA l x.1.toNat).pages < 1) || decide (16777216 < (spA l x.1.toNat).pages)) && decide (0 < x.1) && !decide ((spA l x.1.toNat).grp < (spA l (x.1 - 1).toNat).grp) && decide ((spA l x.1.toNat).grp = (spA l (x.1 - 1).toNat).grp)) = true → (!(decide (x_1 = (↑C.length : Int)) || !memB (A.getD x_1.toNat { grp := 0, nodes := NilL Int : NSet }).nodes (spA l x.1.toNat).node || decide ((spA l x.1.toNat).pages < 1) || decide (16777216 < (spA l x.1.toNat).pages)) && decide (0 < x.1) && !decide ((spA l x.1.toNat).grp < (spA l (x.1 - 1).toNat).grp) && decide ((spA l x.1.toNat).grp = (spA l (x.1 - 1).toNat).grp)) = true) ∧ ((!(decide (x_1 = (↑C.length : Int)) || !memB (A.getD x_1.toNat { grp := 0, nodes := NilL Int : NSet }).nodes (spA l x.1.toNat).node || decide ((spA l x.1.toNat).pages < 1) || decide (16777216 < (spA l x.1.toNat).pages)) && decide (0 < x.1) && !decide ((spA l x.1.toNat).grp < (spA l (x.1 - 1).toNat).grp) && decide ((spA l x.1.toNat).grp = (spA l (x.1 - 1).toNat).grp)) = true → (!(decide (x_1 = (↑C.length : Int)) || !memB (A.getD x_1.toNat { grp := 0, nodes := NilL Int : NSet }).nodes (spA l x.1.toNat).node || decide ((spA l x.1.toNat).pages < 1) || decide (16777216 < (spA l x.1.toNat).pages)) && decide (0 < x.1) && !decide ((spA l x.1.toNat).grp < (spA l (x.1 - 1).toNat).grp) && decide ((spA l x.1.toNat).grp = (spA l (x.1 - 1).toNat).grp)) = true) ∧ ((!(decide (x_1 = (↑C.length : Int)) || !memB (A.getD x_1.toNat { grp := 0, nodes := NilL Int : NSet }).nodes (spA l x.1.toNat).node || decide ((spA l x.1.toNat).pages < 1) || decide (16777216 < (spA l x.1.toNat).pages)) && decide (0 < x.1) && !decide ((spA l x.1.toNat).grp < (spA l (x.1 - 1).toNat).grp) && decide ((spA l x.1.toNat).grp = (spA l (x.1 - 1).toNat).grp)) = true → (!(decide (x_1 = (↑C.length : Int)) || !memB (A.getD x_1.toNat { grp := 0, nodes := NilL Int : NSet }).nodes (spA l x.1.toNat).node || decide ((spA l x.1.toNat).pages < 1) || decide (16777216 < (spA l x.1.toNat).pages)) && decide (0 < x.1) && !decide ((spA l x.1.toNat).grp < (spA l (x.1 - 1).toNat).grp) && decide ((spA l x.1.toNat).grp = (spA l (x.1 - 1).toNat).grp)) = true) ∧ ((!(decide (x_1 = (↑C.length : Int)) || !memB (A.getD x_1.toNat { grp := 0, nodes := NilL Int : NSet }).nodes (spA l x.1.toNat).node || decide ((spA l x.1.toNat).pages < 1) || decide (16777216 < (spA l x.1.toNat).pages)) && decide (0 < x.1) && !decide ((spA l x.1.toNat).grp < (spA l (x.1 - 1).toNat).grp)) = true → (!(decide (x_1 = (↑C.length : Int)) || !memB (A.getD x_1.toNat { grp := 0, nodes := NilL Int : NSet }).nodes (spA l x.1.toNat).node || decide ((spA l x.1.toNat).pages < 1) || decide (16777216 < (spA l x.1.toNat).pages)) && decide (0 < x.1) && !decide ((spA l x.1.toNat).grp < (spA l (x.1 - 1).toNat).grp)) = true) ∧ ((!(decide (x_1 = (↑C.length : Int)) || !memB (A.getD x_1.toNat { grp := 0, nodes := NilL Int : NSet }).nodes (spA l x.1.toNat).node || decide ((spA l x.1.toNat).pages < 1) || decide (16777216 < (spA l x.1.toNat).pages)) && decide (0 < x.1) && !decide ((spA l x.1.toNat).grp < (spA l (x.1 - 1).toNat).grp)) = true → decide ((spA l x.1.toNat).grp = (spA l (x.1 - 1).toNat).grp) = true → (!(decide (x_1 = (↑C.length : Int)) || !memB (A.getD x_1.toNat { grp := 0, nodes := NilL Int : NSet }).nodes (spA l x.1.toNat).node || decide ((spA l x.1.toNat).pages < 1) || decide (16777216 < (spA l x.1.toNat).pages)) && decide (0 < x.1) && !decide ((spA l x.1.toNat).grp < (spA l (x.1 - 1).toNat).grp) && decide ((spA l x.1.toNat).grp = (spA l (x.1 - 1).toNat).grp)) = true) ∧ ((!(decide (x_1 = (↑C.length : Int)) || !memB (A.getD x_1.toNat { grp := 0, nodes := NilL Int : NSet }).nodes (spA l x.1.toNat).node || decide ((spA l x.1.toNat).pages < 1) || decide (16777216 < (spA l x.1.toNat).pages)) && decide (0 < x.1)) = true → (!(decide (x_1 = (↑C.length : Int)) || !memB (A.getD x_1.toNat { grp := 0, nodes := NilL Int : NSet }).nodes (spA l x.1.toNat).node || decide ((spA l x.1.toNat).pages < 1) || decide (16777216 < (spA l x.1.toNat).pages)) && decide (0 < x.1)) = true) ∧ ((!(decide (x_1 = (↑C.length : Int)) || !memB (A.getD x_1.toNat { grp := 0, nodes := NilL Int : NSet }).nodes (spA l x.1.toNat).node || decide ((spA l x.1.toNat).pages < 1) || decide (16777216 < (spA l x.1.toNat).pages)) && decide (0 < x.1)) = true → decide ((spA l x.1.toNat).grp < (spA l (x.1 - 1).toNat).grp) = false → (!(decide (x_1 = (↑C.length : Int)) || !memB (A.getD x_1.toNat { grp := 0, nodes := NilL Int : NSet }).nodes (spA l x.1.toNat).node || decide ((spA l x.1.toNat).pages < 1) || decide (16777216 < (spA l x.1.toNat).pages)) && decide (0 < x.1) && !decide ((spA l x.1.toNat).grp < (spA l (x.1 - 1).toNat).grp)) = true) ∧ ((decide (x_1 = (↑C.length : Int)) || !memB (A.getD x_1.toNat { grp := 0, nodes := NilL Int : NSet }).nodes (spA l x.1.toNat).node || decide ((spA l x.1.toNat).pages < 1) || decide (16777216 < (spA l x.1.toNat).pages)) = false → (decide (x_1 = (↑C.length : Int)) || !memB (A.getD x_1.toNat { grp := 0, nodes := NilL Int : NSet }).nodes (spA l x.1.toNat).node || decide ((spA l x.1.toNat).pages < 1) || decide (16777216 < (spA l x.1.toNat).pages)) = false) ∧ ((decide (x_1 = (↑C.length : Int)) || !memB (A.getD x_1.toNat { grp := 0, nodes := NilL Int : NSet }).nodes (spA l x.1.toNat).node || decide ((spA l x.1.toNat).pages < 1) || decide (16777216 < (spA l x.1.toNat).pages)) = false → decide (0 < x.1) = true → (!(decide (x_1 = (↑C.length : Int)) || !memB (A.getD x_1.toNat { grp := 0, nodes := NilL Int : NSet }).nodes (spA l x.1.toNat).node || decide ((spA l x.1.toNat).pages < 1) || decide (16777216 < (spA l x.1.toNat).pages)) && decide (0 < x.1)) = true) ∧ ((decide (x_1 = (↑C.length : Int)) || !memB (A.getD x_1.toNat { grp := 0, nodes := NilL Int : NSet }).nodes (spA l x.1.toNat).node || decide ((spA l x.1.toNat).pages < 1) || decide (16777216 < (spA l x.1.toNat).pages)) = false → (decide (x_1 = (↑C.length : Int)) || !memB (A.getD x_1.toNat { grp := 0, nodes := NilL Int : NSet }).nodes (spA l x.1.toNat).node || decide ((spA l x.1.toNat).pages < 1) || decide (16777216 < (spA l x.1.toNat).pages)) = false) ∧ ((decide (x_1 = (↑C.length : Int)) || !memB (A.getD x_1.toNat { grp := 0, nodes := NilL Int : NSet }).nodes (spA l x.1.toNat).node || decide ((spA l x.1.toNat).pages < 1) || decide (16777216 < (spA l x.1.toNat).pages) || decide (0 < x.1) && (decide ((spA l x.1.toNat).grp < (spA l (x.1 - 1).toNat).grp) || decide ((spA l x.1.toNat).grp = (spA l (x.1 - 1).toNat).grp) && decide ((spA l x.1.toNat).node ≤ (spA l (x.1 - 1).toNat).node))) = true → ∃ (y : Unit), True ∧ false = chkB C A cap l) ∧ ((decide (x_1 = (↑C.length : Int)) || !memB (A.getD x_1.toNat { grp := 0, nodes := NilL Int : NSet }).nodes (spA l x.1.toNat).node || decide ((spA l x.1.toNat).pages < 1) || decide (16777216 < (spA l x.1.toNat).pages) || decide (0 < x.1) && (decide ((spA l x.1.toNat).grp < (spA l (x.1 - 1).toNat).grp) || decide ((spA l x.1.toNat).grp = (spA l (x.1 - 1).toNat).grp) && decide ((spA l x.1.toNat).node ≤ (spA l (x.1 - 1).toNat).node))) = false → (0 ≤ (spA l x.1.toNat).node ∧ (spA l x.1.toNat).node < (↑x.2.2.length : Int)) ∧ i64R (nth x.2.2 (spA l x.1.toNat).node.toNat + (spA l x.1.toNat).pages) ∧ (0 ≤ (spA l x.1.toNat).node ∧ (spA l x.1.toNat).node < (↑x.2.2.length : Int)) ∧ (0 ≤ x_1 ∧ x_1 < (↑x.2.1.length : Int)) ∧ i64R (nth x.2.1 x_1.toNat + (spA l x.1.toNat).pages) ∧ (0 ≤ x_1 ∧ x_1 < (↑x.2.1.length : Int)) ∧ i64R (x.1 + 1) ∧ ∃ (x' : Int × List Int × List Int), ((0 ≤ x'.1 ∧ x'.1 ≤ (↑l.length : Int)) ∧ GotP C A cap l x'.1.toNat x'.2.1 x'.2.2) ∧ ((↑l.length : Int) - x'.1).toNat < ((↑l.length : Int) - x.1).toNat ∧ x.1 + 1 = x'.1 ∧ x.2.1.set x_1.toNat (nth x.2.1 x_1.toNat + (spA l x.1.toNat).pages) = x'.2.1 ∧ x.2.2.set (spA l x.1.toNat).node.toNat (nth x.2.2 (spA l x.1.toNat).node.toNat + (spA l x.1.toNat).pages) = x'.2.2))) ∧ (decide (x.1 < (↑l.length : Int)) = false → (∃ (x_1 : Int), ((0 ≤ x_1 ∧ x_1 ≤ (↑cap.length : Int)) ∧ ∀ (j : Nat), j < x_1.toNat → nth x.2.2 j ≤ nth cap j) ∧ 0 = x_1 ∧ x.2.1 = x.2.1 ∧ x.2.2 = x.2.2) ∧ ∀ (x_1 : Int), ((0 ≤ x_1 ∧ x_1 ≤ (↑cap.length : Int)) ∧ ∀ (j : Nat), j < x_1.toNat → nth x.2.2 j ≤ nth cap j) → (decide (x_1 < (↑x.2.2.length : Int)) = true → (0 ≤ x_1 ∧ x_1 < (↑x.2.2.length : Int)) ∧ (0 ≤ x_1 ∧ x_1 < (↑cap.length : Int)) ∧ (decide (nth cap x_1.toNat < nth x.2.2 x_1.toNat) = true → ∃ (y : Unit), True ∧ false = chkB C A cap l) ∧ (decide (nth cap x_1.toNat < nth x.2.2 x_1.toNat) = false → i64R (x_1 + 1) ∧ ∃ (x' : Int), ((0 ≤ x' ∧ x' ≤ (↑cap.length : Int)) ∧ ∀ (j : Nat), j < x'.toNat → nth x.2.2 j ≤ nth cap j) ∧ ((↑cap.length : Int) - x').toNat < ((↑cap.length : Int) - x_1).toNat ∧ x_1 + 1 = x' ∧ x.2.1 = x.2.1 ∧ x.2.2 = x.2.2)) ∧ (decide (x_1 < (↑x.2.2.length : Int)) = false → (∃ (x_2 : Int), ((0 ≤ x_2 ∧ x_2 ≤ (↑C.length : Int)) ∧ ∀ (j : Nat), j < x_2.toNat → nth x.2.1 j = ownAt C j) ∧ 0 = x_2 ∧ x.2.1 = x.2.1) ∧ ∀ (x_2 : Int), ((0 ≤ x_2 ∧ x_2 ≤ (↑C.length : Int)) ∧ ∀ (j : Nat), j < x_2.toNat → nth x.2.1 j = ownAt C j) → (decide (x_2 < (↑x.2.1.length : Int)) = true → (0 ≤ x_2 ∧ x_2 < (↑x.2.1.length : Int)) ∧ (0 ≤ x_2 ∧ x_2 < (↑C.length : Int)) ∧ ((!decide (nth x.2.1 x_2.toNat = (C.getD x_2.toNat { grp := 0, own := 0 : Chg }).own)) = true → ∃ (y : Unit), True ∧ false = chkB C A cap l) ∧ ((!decide (nth x.2.1 x_2.toNat = (C.getD x_2.toNat { grp := 0, own := 0 : Chg }).own)) = false → i64R (x_2 + 1) ∧ ∃ (x' : Int), ((0 ≤ x' ∧ x' ≤ (↑C.length : Int)) ∧ ∀ (j : Nat), j < x'.toNat → nth x.2.1 j = ownAt C j) ∧ ((↑C.length : Int) - x').toNat < ((↑C.length : Int) - x_2).toNat ∧ x_2 + 1 = x' ∧ x.2.1 = x.2.1)) ∧ (decide (x_2 < (↑x.2.1.length : Int)) = false → ∃ (y : Unit), True ∧ true = chkB C A cap l))))) = sChk.vc (EV Try.prog [(28, sValid.spec), (46, sHasI.spec)] (invsS [(6, inv25a C A cap l), (10, inv25b C A cap l), (17, inv25c C cap), (22, inv25d C)]) noInv) Try.f25 (C, A, cap, l, ()) := by kernel_rfl
  rw [← e]
  clear e
  simp only [imp_self, true_and, and_true, exists_const, gd1, gd2]
  try simp only [Prod.forall, Prod.exists, i64R, Int.reduceNeg, decide_eq_true_eq, decide_eq_false_iff_not, Bool.not_eq_true', Bool.not_eq_false', Bool.and_eq_true, Bool.or_eq_true, Bool.and_eq_false_iff, Bool.or_eq_false_iff ]
  try simp only [NilL_eq]
  obtain ⟨hs, hsb⟩ := hx
  have hl := hsb.len
  have hN : ∀ z, (A.getD z { grp := 0, nodes := [] }).nodes = nodesAt A z := fun _ => rfl
  have hO : ∀ z, (C.getD z { grp := 0, own := 0 }).own = ownAt C z := fun _ => rfl
  have hG : ∀ z, (C.getD z { grp := 0, own := 0 }).grp = grpAt C z := fun _ => rfl
  simp only [hN, hO, hG]
  have no : ¬ Chk C A cap l → false = chkB C A cap l := fun h => (chkB_f.2 h).symm
  refine ⟨hs, fun h => no fun hc => vokB_f.1 h hc.v, fun h => ?_⟩
  have hv := vokB_t.1 h
  have d64 := hv.d64
  have c8 := hv.c8
  have la := hv.la
  refine ⟨by omega, by omega, ⟨0, _, _, ⟨by omega, ⟨by simp, by simp, fun k hk => ?_, fun j hj => ?_, fun j hj => by simp at hj⟩⟩, rfl, rfl, rfl⟩, fun i r q hi => ⟨fun hlt => ⟨by omega, ⟨0, ⟨by omega, fun j hj => by simp at hj⟩, rfl⟩, fun k hk => ⟨fun _ => by omega, fun h => ⟨by omega, k + 1, ⟨by omega, fun j hj => ?_⟩, by omega, rfl⟩, fun h => ?_⟩⟩, fun hge => ?_⟩⟩
  · rw [nth_repl _ _ _ (by omega)]; rfl
  · rw [nth_repl _ _ _ (by omega)]; rfl
  · by_cases e : j = k.toNat
    · rw [e]; exact h.2
    · exact hk.2 j (by omega)
  · obtain ⟨hi, hR⟩ := hi
    have lr := hR.lr
    have lq := hR.lq
    have hpg := hsb.pg i.toNat
    have ei : (i - 1).toNat = i.toNat - 1 := by omega
    rw [ei]
    have hmb : memB (nodesAt A k.toNat) (spA l i.toNat).node = true ↔ (spA l i.toNat).node ∈ nodesAt A k.toNat := memB_iff
    have hmf : memB (nodesAt A k.toNat) (spA l i.toNat).node = false ↔ ¬ (spA l i.toNat).node ∈ nodesAt A k.toNat := by rw [← hmb]; simp
    simp only [hmb, hmf]
    have hg : ¬ k = C.length → k.toNat < C.length ∧ grpAt C k.toNat = (spA l i.toNat).grp := fun h2 => by
      rcases h with h | h
      · omega
      · exact ⟨by omega, h⟩
    refine ⟨fun _ => by omega, fun _ => hs.n _, fun _ => by omega, fun _ => by omega, fun _ => by omega, fun _ => by omega, fun _ => by omega, fun _ => by omega, fun h1 h2 => ⟨h1, h2⟩, fun h1 => no fun hc => ?_, fun h1 => ?_⟩
    · have h2 := hc.sp i.toNat (by omega)
      obtain ⟨k', a1, a2, a3⟩ := h2.1
      by_cases e : k = C.length
      · exact hk.2 k' (by omega) a2
      · obtain ⟨b1, b2⟩ := hg e
        have h3 := h2.at hv b1 b2
        obtain ⟨j, ej, hj⟩ := node_at hv b1 h3
        have h4 := hc.fits (by omega) b1 b2 hj ej
        have h5 := h2.2
        have g0 := got_nn (C := C) (A := A) (l := l) (i := i.toNat) (fun j hj => hc.sp j (by omega)) (grpAt C k.toNat)
        have h6 := hv.ownB k.toNat
        rcases h1 with (((h1 | h1) | h1) | h1) | ⟨h1, h1'⟩
        · exact e h1
        · exact h1 h3
        · omega
        · omega
        · have := h5.2 (by omega)
          omega
    · obtain ⟨⟨⟨⟨x1, x2⟩, x3⟩, x4⟩, x5⟩ := h1
      obtain ⟨b1, b2⟩ := hg x1
      obtain ⟨j, ej, hj⟩ := node_at hv b1 x2
      have hso : spO C A l i.toNat := ⟨⟨k.toNat, b1, b2, x2⟩, by omega, fun h0 => by omega⟩
      have hn := hR.next hv b1 b2 hj ej hso
      have h6 := hR.r1 k.toNat b1
      have h7 := hR.q1 j hj
      have h8 := gotN_bnd hsb (n := grpAt C k.toNat) (k := i.toNat) (by omega)
      have h9 := loadN_bnd hsb (n := (j : Int)) (k := i.toNat) (by omega)
      rw [show i.toNat + 1 = (i + 1).toNat by omega] at hn
      rw [ej, Int.toNat_natCast]
      exact ⟨by omega, by omega, by omega, by omega, by omega, by omega, by omega, i + 1, _, _, ⟨by omega, hn⟩, by omega, rfl, rfl, rfl⟩
  · obtain ⟨hi, hR⟩ := hi
    have lr := hR.lr
    have lq := hR.lq
    have ei : i.toNat = l.length := by omega
    rw [ei] at hR
    refine ⟨⟨0, ⟨by omega, fun j hj => by simp at hj⟩, rfl⟩, fun x hx => ⟨fun hlt => ⟨by omega, by omega, fun h1 => no fun hc => ?_, fun h1 => ⟨by omega, x + 1, ⟨by omega, fun j hj => ?_⟩, by omega, rfl⟩⟩, fun hge2 => ⟨⟨0, ⟨by omega, fun j hj => by simp at hj⟩, rfl⟩, fun y hy => ⟨fun hlt => ⟨by omega, by omega, fun h1 => no fun hc => ?_, fun h1 => ⟨by omega, y + 1, ⟨by omega, fun j hj => ?_⟩, by omega, rfl⟩⟩, fun hge3 => ?_⟩⟩⟩⟩
    · have h2 := hc.ld x.toNat (by omega)
      have h3 := hR.q1 x.toNat (by omega)
      omega
    · by_cases e : j = x.toNat
      · subst e; omega
      · exact hx.2 j (by omega)
    · have h2 := hc.gt y.toNat (by omega)
      have h3 := hR.r1 y.toNat (by omega)
      omega
    · by_cases e : j = y.toNat
      · subst e; exact h1
      · exact hy.2 j (by omega)
    · symm
      refine chkB_t.2 ⟨hv, hR.sp, fun j hj => ?_, fun k hk => ?_⟩
      · rw [← hR.q1 j hj]; exact hx.2 j (by omega)
      · rw [← hR.r1 k hk]; exact hy.2 k (by omega)
end Go.Proofs.Ytompifpamldjaaa

namespace Go.Proofs.Ytompifpamldjaaa
open Go
set_option linter.unusedVariables false

/-- Spots in their order. -/
def ltS (a b : Spt) : Prop := a.grp < b.grp ∨ (a.grp = b.grp ∧ a.node < b.node)
theorem spotsR_asc {g : Int} {row : List Int} : ∀ {n : Nat}, (spotsR g row n).Pairwise ltS
  | 0 => List.Pairwise.nil
  | n + 1 => by
    rw [spotsR, List.pairwise_append]
    refine ⟨spotsR_asc, by split <;> simp, fun a ha b hb => ?_⟩
    obtain ⟨j, h1, h2, _⟩ := mem_spotsR.1 ha
    split at hb
    · have hb : b = ⟨g, (n : Int), nth row n⟩ := by simpa using hb
      subst h2; subst hb
      exact .inr ⟨rfl, by show (j : Int) < n; omega⟩
    · simp at hb
theorem allS_asc {C : List Chg} {M : List (List Int)} {n : Nat} : ∀ {t : Nat}, (∀ i j, i < j → j < t → grpAt C i < grpAt C j) → (allS C M n t).Pairwise ltS
  | 0, _ => List.Pairwise.nil
  | t + 1, h => by
    rw [allS, List.pairwise_append]
    refine ⟨allS_asc fun i j hij hj => h i j hij (by omega), spotsR_asc, fun a ha b hb => ?_⟩
    obtain ⟨i, j, h1, h2, h3, _⟩ := mem_allS.1 ha
    obtain ⟨j', h4, h5, _⟩ := mem_spotsR.1 hb
    subst h3; subst h5
    exact .inl (h i t h1 (by omega))
theorem IsPl.chk {C : List Chg} {A : List NSet} {cap : List Int} {p : List Spt} (hv : VOK C A cap) (h : IsPl C A cap p) : Chk C A cap p := by
  have hld := h.loads
  have hpos := h.pos
  obtain ⟨M, hM, rfl⟩ := h
  refine ⟨hv, fun i hi => ?_, fun j hj => (hld.1 j hj).2, fun k hk => ?_⟩
  · have hm := spA_mem hi
    have hp := hpos _ hm
    obtain ⟨a, b, h1, h2, h3, h4⟩ := mem_allS.1 hm
    refine ⟨⟨a, h1, by rw [h3], by rw [h3]; exact hM.ms a b h4⟩, hp, fun h0 => ?_⟩
    have hpw := List.pairwise_iff_getElem.1 (allS_asc (C := C) (M := M) (n := cap.length) (t := C.length) hv.asc) (i - 1) i (by omega) hi (by omega)
    have e : ∀ k (hk : k < (allS C M cap.length C.length).length), spA (allS C M cap.length C.length) k = (allS C M cap.length C.length)[k] := fun k hk => by
      rw [spA, List.getD_eq_getElem?_getD, List.getElem?_eq_getElem hk]; rfl
    rw [e i hi, e (i - 1) (by omega)]
    exact hpw
  · have e : gotN (allS C M cap.length C.length) (grpAt C k) (allS C M cap.length C.length).length = ((allS C M cap.length C.length).map fun s => if s.grp = grpAt C k then s.pages else 0).sum := by
      rw [← sum_sp]; rfl
    rw [e, sum_allS, ← hM.row_sum hk]
    have key : ∀ t, t ≤ C.length → sumF (fun i => sumF (fun j => if 0 < cell M i j then (if grpAt C i = grpAt C k then cell M i j else 0) else 0) cap.length) t = if k < t then sumF (cell M k) cap.length else 0 := fun t => by
      induction t with
      | zero => intro _; rfl
      | succ t ih =>
        intro ht
        rw [sumF, ih (by omega)]
        by_cases ek : t = k
        · subst ek
          rw [if_neg (Nat.lt_irrefl t), if_pos (Nat.lt_succ_self t), Int.zero_add]
          refine sumF_congr fun j _ => ?_
          have : 0 ≤ cell M t j := hM.m0 t j
          rw [if_pos rfl]
          split <;> omega
        · have h0 : sumF (fun j => if 0 < cell M t j then (if grpAt C t = grpAt C k then cell M t j else 0) else 0) cap.length = 0 := by
            rw [sumF_congr (g := fun _ => 0) fun j _ => ?_, sumF_zero]
            rw [if_neg fun hh => ek (hv.inj (by omega) hk hh)]
            split <;> rfl
          rw [h0, Int.add_zero]
          by_cases c : k < t
          · rw [if_pos c, if_pos (by omega)]
          · rw [if_neg c, if_neg (by omega)]
    have := key C.length (Nat.le_refl _)
    rw [if_pos hk] at this
    exact this
theorem PlaceR.sb {C : List Chg} {A : List NSet} {cap : List Int} {y : List Spt × List Int × Int} (h : PlaceR C A cap y) : SB y.1 ∧ y.1.length ≤ 512 ∧ (∀ k, (spA y.1 k).pages ≤ 16777216) ∧ y.2.1.length ≤ 8 := by
  have n0 : ∀ k, (spA [] k).pages ≤ 16777216 := fun k => by
    have : spA [] k = ⟨0, 0, 0⟩ := rfl
    rw [this]; decide
  rcases h with h | h | h
  · rw [h.2]
    exact ⟨SB.nil, by simp, n0, by simp⟩
  · obtain ⟨h1, h2, h3⟩ := h.2.1.sb h.1
    rw [h.2.2.1]
    exact ⟨h1, h2, h3, by simp⟩
  · rw [h.2.1]
    have h4 := h.2.2.1.asc.len
    have h5 := h.1.c8
    exact ⟨SB.nil, by simp, n0, by omega⟩
noncomputable def sValidL : DS := ⟨_, three (pkL 3) (pkLP 4) pkInts, fun x => Sml x.1 x.2.1 x.2.2.1, fun _ => .bool true, nou⟩
def sLaw28P : DS := ⟨_, four pkIntsP (pkLP 3) (pkLP 4) pkIntsP, fun x => ∀ i, (nodesAt x.2.2.1 i).length ≤ 9223372036854775807, fun _ => .bool true, nou⟩
theorem MadeD.sml1 {y : List Chg × List NSet × List Int} (h : MadeD y) {a : Nat} (ha : a < y.2.1.length) (c : Chg) (g v z : Int) : Sml (y.1.set a c) (y.2.1.set a ⟨g, nodesAt y.2.1 a ++ [v]⟩) (y.2.2.set 0 z) := by
  have hv := h.vok
  have hnl : ∀ i, (nodesAt y.2.1 i).length ≤ 8 := fun i => by
    by_cases hi : i < y.1.length
    · have := (hv.chg i hi).2.2.2.2.2.2.len
      have := hv.c8
      omega
    · have e : nodesAt y.2.1 i = [] := by
        unfold nodesAt
        rw [List.getD_eq_getElem?_getD, List.getElem?_eq_none (by have := hv.la; omega)]; rfl
      rw [e]; simp
  refine sml_lit (by have := hv.d64; simp; omega) (by have := hv.c8; simp; omega) fun i hi => ?_
  show (((y.2.1.set a (⟨g, nodesAt y.2.1 a ++ [v]⟩ : NSet)).getD i (⟨0, []⟩ : NSet)).nodes).length ≤ 1000
  rw [getD_set' ha]
  split
  · have := hnl a
    simp; omega
  · have := hnl i
    show (nodesAt y.2.1 i).length ≤ 1000
    omega


set_option maxRecDepth 100000 in
theorem vc20 (C : List Chg) (A : List NSet) (cap : List Int) (hx : Sml C A cap) : sValidL.vc (EV Try.prog [(13, sPlace.spec), (28, sValid.spec), (38, sPos.spec), (25, sChk.spec), (30, sRef.spec)] noInv noInv) Try.f20 (C, A, cap, ()) := by
  have e : (Sml C A cap ∧ (∀ (y : List Spt × List Int × Int), true = true) ∧ ∀ (y : List Spt × List Int × Int), PlaceR C A cap y → Sml C A cap ∧ ((!vokB C A cap) = true → (decide (y.2.2 = 1) = true → decide (y.2.2 = 1) = true) ∧ (decide (y.2.2 = 1) = true → decide (y.2.2 = 1) = true) ∧ (decide (y.2.2 = 1) = true → decide (y.2.2 = 1) = true) ∧ ((decide (y.2.2 = 1) && decide ((↑y.1.length : Int) = 0)) = true → (decide (y.2.2 = 1) && decide ((↑y.1.length : Int) = 0)) = true) ∧ ((decide (y.2.2 = 1) && decide ((↑y.1.length : Int) = 0)) = true → (decide (y.2.2 = 1) && decide ((↑y.1.length : Int) = 0)) = true) ∧ ((decide (y.2.2 = 1) && decide ((↑y.1.length : Int) = 0)) = true → (decide (y.2.2 = 1) && decide ((↑y.1.length : Int) = 0)) = true) ∧ ∃ (y_1 : Unit), True ∧ (decide (y.2.2 = 1) && decide ((↑y.1.length : Int) = 0) && decide ((↑y.2.1.length : Int) = 0)) = true) ∧ ((!vokB C A cap) = false → VOK C A cap ∧ (posB C A cap = true → (decide (y.2.2 = 0) = true → decide (y.2.2 = 0) = true) ∧ (decide (y.2.2 = 0) = true → decide (y.2.2 = 0) = true) ∧ (decide (y.2.2 = 0) = true → decide (y.2.2 = 0) = true) ∧ ((decide (y.2.2 = 0) && decide ((↑y.2.1.length : Int) = 0)) = true → (decide (y.2.2 = 0) && decide ((↑y.2.1.length : Int) = 0)) = true) ∧ ((decide (y.2.2 = 0) && decide ((↑y.2.1.length : Int) = 0)) = true → (decide (y.2.2 = 0) && decide ((↑y.2.1.length : Int) = 0)) = true) ∧ ((decide (y.2.2 = 0) && decide ((↑y.2.1.length : Int) = 0)) = true → (decide (y.2.2 = 0) && decide ((↑y.2.1.length : Int) = 0)) = true) ∧ ((decide (y.2.2 = 0) && decide ((↑y.2.1.length : Int) = 0)) = true → (decide (y.2.2 = 0) && decide ((↑y.2.1.length : Int) = 0)) = true) ∧ ((decide (y.2.2 = 0) && decide ((↑y.2.1.length : Int) = 0)) = true → Sml C A cap ∧ SB y.1) ∧ ((decide (y.2.2 = 0) && decide ((↑y.2.1.length : Int) = 0)) = true → (decide (y.2.2 = 0) && decide ((↑y.2.1.length : Int) = 0)) = true) ∧ ∃ (y_1 : Unit), True ∧ (decide (y.2.2 = 0) && decide ((↑y.2.1.length : Int) = 0) && chkB C A cap y.1) = true) ∧ (posB C A cap = false → (decide (y.2.2 = 20) = true → decide (y.2.2 = 20) = true) ∧ (decide (y.2.2 = 20) = true → decide (y.2.2 = 20) = true) ∧ (decide (y.2.2 = 20) = true → decide (y.2.2 = 20) = true) ∧ ((decide (y.2.2 = 20) && decide ((↑y.1.length : Int) = 0)) = true → (decide (y.2.2 = 20) && decide ((↑y.1.length : Int) = 0)) = true) ∧ ((decide (y.2.2 = 20) && decide ((↑y.1.length : Int) = 0)) = true → (decide (y.2.2 = 20) && decide ((↑y.1.length : Int) = 0)) = true) ∧ ((decide (y.2.2 = 20) && decide ((↑y.1.length : Int) = 0)) = true → (decide (y.2.2 = 20) && decide ((↑y.1.length : Int) = 0)) = true) ∧ ((decide (y.2.2 = 20) && decide ((↑y.1.length : Int) = 0)) = true → (decide (y.2.2 = 20) && decide ((↑y.1.length : Int) = 0)) = true) ∧ ((decide (y.2.2 = 20) && decide ((↑y.1.length : Int) = 0)) = true → Sml C A cap ∧ y.2.1.length ≤ (9223372036854775807 : Nat)) ∧ ((decide (y.2.2 = 20) && decide ((↑y.1.length : Int) = 0)) = true → (decide (y.2.2 = 20) && decide ((↑y.1.length : Int) = 0)) = true) ∧ ∃ (y_1 : Unit), True ∧ (decide (y.2.2 = 20) && decide ((↑y.1.length : Int) = 0) && refB C A cap y.2.1) = true))) = sValidL.vc (EV Try.prog [(13, sPlace.spec), (28, sValid.spec), (38, sPos.spec), (25, sChk.spec), (30, sRef.spec)] noInv noInv) Try.f20 (C, A, cap, ()) := by kernel_rfl
  rw [← e]
  clear e
  simp only [imp_self, true_and, exists_const, implies_true]
  try simp only [Prod.forall, decide_eq_true_eq, Bool.not_eq_true', Bool.not_eq_false', Bool.and_eq_true]
  try simp only [NilL_eq]
  refine ⟨hx, fun l n e hp => ⟨hx, fun h => ?_, fun h => ⟨vokB_t.1 h, fun hq => ?_, fun hq => ?_⟩⟩⟩
  · rcases hp with hp | hp | hp
    · have e3 := hp.2
      cases e3
      exact ⟨⟨rfl, rfl⟩, rfl⟩
    · exact absurd hp.1 (vokB_f.1 h)
    · exact absurd hp.1 (vokB_f.1 h)
  · have hv := vokB_t.1 h
    obtain ⟨h1, h2, h3⟩ := hp.ok hv (posB_t.1 hq)
    have h2 : n = [] := h2
    have h3 : e = 0 := h3
    subst h2; subst h3
    exact ⟨fun _ => ⟨hx, (h1.sb hv).1⟩, ⟨rfl, rfl⟩, chkB_t.2 (h1.chk hv)⟩
  · have hv := vokB_t.1 h
    rcases hp.err hv with ⟨h1, h2, h3⟩ | ⟨h1, h2, h3⟩
    · exact absurd (fun S hS => hallI h2 hS) (posB_f.1 hq)
    · have h1 : e = 20 := h1
      have h2 : l = [] := h2
      have h3 : IsRef C A cap n := h3
      have h4 := h3.asc.len
      have h5 := hv.c8
      subst h1; subst h2
      exact ⟨fun _ => ⟨hx, by omega⟩, ⟨rfl, rfl⟩, refB_t.2 ⟨hv, h3⟩⟩

def inv5 (L : List Int) (s : St) : Inv where
  X := Int × Int
  ok := fun x => (0 ≤ x.1 ∧ x.1 ≤ 4) ∧ DOK (L, x.2)
  sl := fun x => [(10, .int .i64 x.1)]
  hp := fun x => [(40010, diceO (L, x.2))]
  keep := []
  me := fun x => (4 - x.1).toNat
set_option maxRecDepth 100000 in
theorem vc5 (L : List Int) (C : List Chg) (A : List NSet) (cap : List Int) (hx : ∀ i, (nodesAt A i).length ≤ 9223372036854775807) : sLaw28P.vc (EV Try.prog [(9, sLight.spec), (10, sSane.spec), (11, sRoll.spec), (12, sDem.spec), (14, sNext.spec), (19, sPick.spec), (20, sValidL.spec)] (invsS [(5, inv5 L)]) noInv) Try.f5 (L, C, A, cap, ()) := by
  have e : (True ∧ ((!decide ((↑L.length : Int) ≤ 600)) = true → True ∧ ∃ (y : Unit), True ∧ true = true) ∧ ((!decide ((↑L.length : Int) ≤ 600)) = false → True ∧ (∃ (x : Int × Int), ((0 ≤ x.1 ∧ x.1 ≤ 4) ∧ DOK (L, x.2)) ∧ 0 = x.1 ∧ L = L ∧ 0 = x.2) ∧ ∀ (x : Int × Int), (0 ≤ x.1 ∧ x.1 ≤ 4) ∧ DOK (L, x.2) → (decide (x.1 < 4) = true → DOK (L, x.2) ∧ (∀ (y : (List Chg × List NSet × List Int) × Int), true = true) ∧ ∀ (y : (List Chg × List NSet × List Int) × Int), MadeD y.1 ∧ x.2 ≤ y.2 ∧ y.2 ≤ (↑L.length : Int) → (decide (x.1 = 3) = true → decide (x.1 = 3) = true) ∧ (decide (x.1 = 3) = true → decide (x.1 = 3) = true) ∧ (decide (x.1 = 3) = true → decide (x.1 = 3) = true) ∧ ((decide (x.1 = 3) && decide (0 < (↑y.1.1.length : Int))) = true → (DOK (L, y.2) ∧ (↑y.1.1.length : Int) ≤ 4611686018427387904) ∧ (∀ (y : Int × Int), true = true) ∧ ∀ (y_1 : Int × Int), (1 ≤ (↑y.1.1.length : Int) → 0 ≤ y_1.1 ∧ y_1.1 < (↑y.1.1.length : Int)) ∧ ((↑y.1.1.length : Int) < 1 → y_1.1 = 0) ∧ y.2 ≤ y_1.2 ∧ y_1.2 ≤ (↑L.length : Int) → (0 ≤ y_1.1 ∧ y_1.1 < (↑y.1.1.length : Int)) ∧ (DOK (L, y_1.2) ∧ (1 : Nat) ≤ ((y.1.1.getD y_1.1.toNat { grp := 0, own := 0 : Chg }).own :: 0 :: 16777216 :: 16777217 :: NilL Int).length ∧ ((y.1.1.getD y_1.1.toNat { grp := 0, own := 0 : Chg }).own :: 0 :: 16777216 :: 16777217 :: NilL Int).length ≤ (1000 : Nat)) ∧ (∀ (y : Int × Int), true = true) ∧ ∀ (y_2 : Int × Int), y_2.1 ∈ (y.1.1.getD y_1.1.toNat { grp := 0, own := 0 : Chg }).own :: 0 :: 16777216 :: 16777217 :: NilL Int ∧ y_1.2 ≤ y_2.2 ∧ y_2.2 ≤ (↑L.length : Int) → (0 ≤ y_1.1 ∧ y_1.1 < (↑y.1.1.length : Int)) ∧ (0 ≤ y_1.1 ∧ y_1.1 < (↑y.1.2.1.length : Int)) ∧ (y.1.2.1.getD y_1.1.toNat { grp := 0, nodes := NilL Int : NSet }).nodes.length ≤ (68719476736 : Nat) ∧ i64R ((↑y.1.2.2.length : Int) - 1) ∧ (DOK (L, y_2.2) ∧ (1 : Nat) ≤ ((↑y.1.2.2.length : Int) :: 0 :: ((↑y.1.2.2.length : Int) - 1) :: NilL Int).length ∧ ((↑y.1.2.2.length : Int) :: 0 :: ((↑y.1.2.2.length : Int) - 1) :: NilL Int).length ≤ (1000 : Nat)) ∧ (∀ (y : Int × Int), true = true) ∧ ∀ (y_3 : Int × Int), y_3.1 ∈ (↑y.1.2.2.length : Int) :: 0 :: ((↑y.1.2.2.length : Int) - 1) :: NilL Int ∧ y_2.2 ≤ y_3.2 ∧ y_3.2 ≤ (↑L.length : Int) → (y.1.2.1.getD y_1.1.toNat { grp := 0, nodes := NilL Int : NSet }).nodes.length + (y_3.1 :: NilL Int).length ≤ (68719476736 : Nat) ∧ (0 ≤ y_1.1 ∧ y_1.1 < (↑y.1.2.1.length : Int)) ∧ (DOK (L, y_3.2) ∧ (1 : Nat) ≤ ((-1) :: 0 :: 16777216 :: 16777217 :: NilL Int).length ∧ ((-1) :: 0 :: 16777216 :: 16777217 :: NilL Int).length ≤ (1000 : Nat)) ∧ (∀ (y : Int × Int), true = true) ∧ ∀ (y_4 : Int × Int), y_4.1 ∈ (-1) :: 0 :: 16777216 :: 16777217 :: NilL Int ∧ y_3.2 ≤ y_4.2 ∧ y_4.2 ≤ (↑L.length : Int) → ((0 : Int) ≤ 0 ∧ 0 < (↑y.1.2.2.length : Int)) ∧ Sml (y.1.1.set y_1.1.toNat { grp := (y.1.1.getD y_1.1.toNat { grp := 0, own := 0 : Chg }).grp, own := y_2.1 : Chg }) (y.1.2.1.set y_1.1.toNat { grp := (y.1.2.1.getD y_1.1.toNat { grp := 0, nodes := NilL Int : NSet }).grp, nodes := (y.1.2.1.getD y_1.1.toNat { grp := 0, nodes := NilL Int : NSet }).nodes ++ y_3.1 :: NilL Int : NSet }) (y.1.2.2.set (Int.toNat 0) y_4.1) ∧ (false = true → ∃ (y : Unit), True ∧ false = true) ∧ (false = false → i64R (x.1 + 1) ∧ ∃ (x' : Int × Int), ((0 ≤ x'.1 ∧ x'.1 ≤ 4) ∧ DOK (L, x'.2)) ∧ (4 - x'.1).toNat < (4 - x.1).toNat ∧ x.1 + 1 = x'.1 ∧ L = L ∧ y_4.2 = x'.2)) ∧ ((decide (x.1 = 3) && decide (0 < (↑y.1.1.length : Int))) = false → Sml y.1.1 y.1.2.1 y.1.2.2 ∧ (false = true → ∃ (y : Unit), True ∧ false = true) ∧ (false = false → i64R (x.1 + 1) ∧ ∃ (x' : Int × Int), ((0 ≤ x'.1 ∧ x'.1 ≤ 4) ∧ DOK (L, x'.2)) ∧ (4 - x'.1).toNat < (4 - x.1).toNat ∧ x.1 + 1 = x'.1 ∧ L = L ∧ y.2 = x'.2))) ∧ (decide (x.1 < 4) = false → (decide (80 < (↑C.length : Int)) = false → decide (80 < (↑C.length : Int)) = false) ∧ (decide (80 < (↑C.length : Int)) = false → decide (80 < (↑C.length : Int)) = false) ∧ (decide (80 < (↑C.length : Int)) = false → decide (80 < (↑C.length : Int)) = false) ∧ ((decide (80 < (↑C.length : Int)) || decide (80 < (↑A.length : Int))) = false → (decide (80 < (↑C.length : Int)) || decide (80 < (↑A.length : Int))) = false) ∧ ((decide (80 < (↑C.length : Int)) || decide (80 < (↑A.length : Int))) = false → (decide (80 < (↑C.length : Int)) || decide (80 < (↑A.length : Int))) = false) ∧ ((decide (80 < (↑C.length : Int)) || decide (80 < (↑A.length : Int))) = false → (decide (80 < (↑C.length : Int)) || decide (80 < (↑A.length : Int))) = false) ∧ ((decide (80 < (↑C.length : Int)) || decide (80 < (↑A.length : Int)) || decide (20 < (↑cap.length : Int))) = false → (decide (80 < (↑C.length : Int)) || decide (80 < (↑A.length : Int)) || decide (20 < (↑cap.length : Int))) = false) ∧ ((decide (80 < (↑C.length : Int)) || decide (80 < (↑A.length : Int)) || decide (20 < (↑cap.length : Int))) = false → (decide (80 < (↑C.length : Int)) || decide (80 < (↑A.length : Int)) || decide (20 < (↑cap.length : Int))) = false) ∧ ((decide (80 < (↑C.length : Int)) || decide (80 < (↑A.length : Int)) || decide (20 < (↑cap.length : Int))) = false → (decide (80 < (↑C.length : Int)) || decide (80 < (↑A.length : Int)) || decide (20 < (↑cap.length : Int))) = false) ∧ ((decide (80 < (↑C.length : Int)) || decide (80 < (↑A.length : Int)) || decide (20 < (↑cap.length : Int))) = false → Sml C A cap) ∧ ((decide (80 < (↑C.length : Int)) || decide (80 < (↑A.length : Int)) || decide (20 < (↑cap.length : Int))) = false → (decide (80 < (↑C.length : Int)) || decide (80 < (↑A.length : Int)) || decide (20 < (↑cap.length : Int))) = false) ∧ ((!(decide (80 < (↑C.length : Int)) || decide (80 < (↑A.length : Int)) || decide (20 < (↑cap.length : Int))) && true) = true → True) ∧ ((decide (80 < (↑C.length : Int)) || decide (80 < (↑A.length : Int)) || decide (20 < (↑cap.length : Int))) = false → (decide (80 < (↑C.length : Int)) || decide (80 < (↑A.length : Int)) || decide (20 < (↑cap.length : Int))) = false) ∧ ((decide (80 < (↑C.length : Int)) || decide (80 < (↑A.length : Int)) || decide (20 < (↑cap.length : Int))) = false → true = true → (!(decide (80 < (↑C.length : Int)) || decide (80 < (↑A.length : Int)) || decide (20 < (↑cap.length : Int))) && true) = true) ∧ ((decide (80 < (↑C.length : Int)) || decide (80 < (↑A.length : Int)) || decide (20 < (↑cap.length : Int))) = false → (decide (80 < (↑C.length : Int)) || decide (80 < (↑A.length : Int)) || decide (20 < (↑cap.length : Int))) = false) ∧ ∃ (y : Unit), True ∧ (decide (80 < (↑C.length : Int)) || decide (80 < (↑A.length : Int)) || decide (20 < (↑cap.length : Int)) || true && true) = true))) = sLaw28P.vc (EV Try.prog [(9, sLight.spec), (10, sSane.spec), (11, sRoll.spec), (12, sDem.spec), (14, sNext.spec), (19, sPick.spec), (20, sValidL.spec)] (invsS [(5, inv5 L)]) noInv) Try.f5 (L, C, A, cap, ()) := by kernel_rfl
  rw [← e]
  clear e
  simp only [imp_self, true_and, and_true, exists_const, implies_true]
  try simp only [Prod.forall, Prod.exists, or_true, forall_const, true_and, and_true, i64R, imp_self, Int.reduceLE, Int.reduceNeg, decide_eq_true_eq, decide_eq_false_iff_not, Bool.not_eq_true', Bool.not_eq_false', Bool.and_eq_true, Bool.or_eq_true, Bool.and_eq_false_iff, Bool.or_eq_false_iff ]
  try simp only [NilL_eq]
  intro hL
  have hd : ∀ j : Int, 0 ≤ j → j ≤ L.length → DOK (L, j) := fun j h1 h2 => ⟨h1, h2, by show L.length ≤ 600; omega⟩
  have l4 : ∀ a b c d : Int, [a, b, c, d].length = 4 := fun _ _ _ _ => rfl
  have l3 : ∀ a b c : Int, [a, b, c].length = 3 := fun _ _ _ => rfl
  have l1 : ∀ a : Int, [a].length = 1 := fun _ => rfl
  refine ⟨⟨0, 0, ⟨by omega, hd _ (by omega) (by omega)⟩, rfl, rfl⟩, fun i k hi => ⟨fun hlt => ⟨hi.2, fun C1 A1 c1 k1 hM => ?_⟩, fun hge => ?_⟩⟩
  · obtain ⟨hM, m0, m1⟩ := hM
    have k0 : 0 ≤ k := hi.2.lo
    have hv : VOK C1 A1 c1 := hM.vok
    have d64 := hv.d64
    have c8 := hv.c8
    have c1' := hv.c1
    have la := hv.la
    refine ⟨fun h => ⟨⟨hd _ (by omega) (by omega), by omega⟩, fun x k2 hx => ?_⟩, fun h => ⟨hv.sml, by omega, i + 1, k1, ⟨by omega, hd _ (by omega) (by omega)⟩, by omega, rfl, rfl⟩⟩
    have hx1 := hx.1 (by omega)
    have hnl : (nodesAt A1 x.toNat).length ≤ 8 := by
      have := (hv.chg x.toNat (by omega)).2.2.2.2.2.2.len
      omega
    refine ⟨hx1, ⟨hd _ (by omega) (by omega), by rw [l4]; omega⟩, fun o k3 h3 => ⟨hx1, by omega, by show (nodesAt A1 x.toNat).length ≤ 68719476736; omega, by omega, ⟨hd _ (by omega) (by omega), by rw [l3]; omega⟩, fun v k4 h4 => ⟨by rw [l1]; show (nodesAt A1 x.toNat).length + 1 ≤ 68719476736; omega, by omega, ⟨hd _ (by omega) (by omega), by rw [l4]; omega⟩, fun z k5 h5 => ⟨by omega, ?_, by omega, i + 1, k5, ⟨by omega, hd _ (by omega) (by omega)⟩, by omega, rfl, rfl⟩⟩⟩⟩
    exact hM.sml1 (a := x.toNat) (by show x.toNat < A1.length; omega) _ _ _ _
  · exact fun h => ⟨by omega, by omega, hx⟩
end Go.Proofs.Ytompifpamldjaaa

namespace Go.Proofs.Ytompifpamldjaaa
open Go
set_option linter.unusedVariables false

theorem SB.set {l : List Spt} (h : SB l) {i : Nat} (hi : i < l.length) {x : Spt} (h1 : -2199023255552 ≤ x.pages ∧ x.pages ≤ 2199023255552) : SB (l.set i x) := ⟨by rw [List.length_set]; exact h.len, fun k => by
  unfold spA
  rw [getD_set' hi]
  split
  · exact h1
  · exact h.pg k⟩
noncomputable def sLaw28C : DS := ⟨_, three pkIntsP (pkLP 5) pkIntsP, fun _ => True, fun _ => .bool true, nou⟩

def inv8a (sp : List Spt) (s : St) : Inv where
  X := Int
  ok := fun i => (0 ≤ i ∧ i ≤ sp.length) ∧ ∀ j : Nat, j < i.toNat → -1099511627776 ≤ (spA sp j).pages ∧ (spA sp j).pages ≤ 1099511627776
  sl := fun i => [(7, .int .i64 i)]
  hp := fun i => []
  keep := []
  me := fun i => (sp.length - i).toNat
def inv8b (L : List Int) (s : St) : Inv where
  X := Int × Int
  ok := fun x => (0 ≤ x.1 ∧ x.1 ≤ 3) ∧ DOK (L, x.2)
  sl := fun x => [(10, .int .i64 x.1)]
  hp := fun x => [(100010, diceO (L, x.2))]
  keep := []
  me := fun x => (3 - x.1).toNat
def inv8c (s : St) : Inv where
  X := Int
  ok := fun i => 0 ≤ i ∧ i ≤ 3
  sl := fun i => [(124, .int .i64 i), (14, .irec true 5 (contP s (s.t 14))), (123, .agg [.irec true 5 (contP s (s.t 14)), .irec true 5 (contP s (s.t 17)), .irec true 5 (contP s (s.t 1))]), (11, .own 101 3), (13, .own 103 0), (15, .own 105 0)]
  hp := fun i => [(101, .rows 41 3 (contC s (s.t 11))), (103, .rows 3 0 (contI s (s.t 13))), (105, .rows 3 0 (contI s (s.t 15)))]
  keep := [100010]
  me := fun i => (3 - i).toNat
def jn8a (L : List Int) (s : St) : Inv where
  X := List Spt × Int
  ok := fun x => SB x.1 ∧ DOK (L, x.2)
  sl := fun x => [(17, .own 101 5), (11, .own 103 3), (13, .own 105 0), (15, .own 107 0), (14, .own 109 5)]
  hp := fun x => [(101, .rows 39 5 x.1), (103, .rows 41 3 (contC s (s.t 11))), (105, .rows 3 0 (contI s (s.t 13))), (107, .rows 3 0 (contI s (s.t 15))), (109, .rows 39 5 (contP s (s.t 14))), (100010, diceO (L, x.2))]
  keep := []
  me := fun x => 0
def jn8b (s : St) : Inv where
  X := List Spt
  ok := fun x => SB x
  sl := fun x => [(20, .irec true 5 x), (11, .own 101 3), (13, .own 103 0), (15, .own 105 0)]
  hp := fun x => [(101, .rows 41 3 (contC s (s.t 11))), (103, .rows 3 0 (contI s (s.t 13))), (105, .rows 3 0 (contI s (s.t 15)))]
  keep := [100010]
  me := fun x => 0
set_option maxRecDepth 100000 in
theorem vc8 (L : List Int) (sp : List Spt) (set : List Int) (hx : True) : sLaw28C.vc (EV Try.prog [(9, sLight.spec), (10, sSane.spec), (11, sRoll.spec), (12, sDem.spec), (13, sPlace.spec), (14, sNext.spec), (19, sPick.spec), (24, sChk.spec), (25, sChk.spec), (23, sLoad.spec), (26, sLoad.spec), (15, sMoves.spec), (27, sMoves.spec), (18, sValid.spec), (28, sValid.spec), (29, sRef.spec), (30, sRef.spec)] (invsS [(4, inv8a sp), (11, inv8b L), (20, inv8c)]) (invsS [(19, jn8a L), (22, jn8b)])) Try.f8 (L, sp, set, ()) := by
  have e : (True ∧ ((!decide ((↑L.length : Int) ≤ 600)) = false → (!decide ((↑L.length : Int) ≤ 600)) = false) ∧ ((!decide ((↑L.length : Int) ≤ 600)) = false → (!decide ((↑L.length : Int) ≤ 600)) = false) ∧ ((!decide ((↑L.length : Int) ≤ 600)) = false → (!decide ((↑L.length : Int) ≤ 600)) = false) ∧ ((!decide ((↑L.length : Int) ≤ 600) || decide (200 < (↑sp.length : Int))) = false → (!decide ((↑L.length : Int) ≤ 600) || decide (200 < (↑sp.length : Int))) = false) ∧ ((!decide ((↑L.length : Int) ≤ 600) || decide (200 < (↑sp.length : Int))) = false → (!decide ((↑L.length : Int) ≤ 600) || decide (200 < (↑sp.length : Int))) = false) ∧ ((!decide ((↑L.length : Int) ≤ 600) || decide (200 < (↑sp.length : Int))) = false → (!decide ((↑L.length : Int) ≤ 600) || decide (200 < (↑sp.length : Int))) = false) ∧ ((!decide ((↑L.length : Int) ≤ 600) || decide (200 < (↑sp.length : Int)) || decide (40 < (↑set.length : Int))) = true → True ∧ ∃ (y : Unit), True ∧ true = true) ∧ ((!decide ((↑L.length : Int) ≤ 600) || decide (200 < (↑sp.length : Int)) || decide (40 < (↑set.length : Int))) = false → (∃ (x : Int), ((0 ≤ x ∧ x ≤ (↑sp.length : Int)) ∧ ∀ (j : Nat), j < x.toNat → (-1099511627776) ≤ (spA sp j).pages ∧ (spA sp j).pages ≤ 1099511627776) ∧ 0 = x) ∧ ∀ (x : Int), ((0 ≤ x ∧ x ≤ (↑sp.length : Int)) ∧ ∀ (j : Nat), j < x.toNat → (-1099511627776) ≤ (spA sp j).pages ∧ (spA sp j).pages ≤ 1099511627776) → (decide (x < (↑sp.length : Int)) = true → (0 ≤ x ∧ x < (↑sp.length : Int)) ∧ (decide ((spA sp x.toNat).pages < (-1099511627776)) = false → decide ((spA sp x.toNat).pages < (-1099511627776)) = false) ∧ (decide ((spA sp x.toNat).pages < (-1099511627776)) = false → decide ((spA sp x.toNat).pages < (-1099511627776)) = false) ∧ ((decide ((spA sp x.toNat).pages < (-1099511627776)) || decide (1099511627776 < (spA sp x.toNat).pages)) = true → True ∧ ∃ (y : Unit), True ∧ true = true) ∧ ((decide ((spA sp x.toNat).pages < (-1099511627776)) || decide (1099511627776 < (spA sp x.toNat).pages)) = false → i64R (x + 1) ∧ ∃ (x' : Int), ((0 ≤ x' ∧ x' ≤ (↑sp.length : Int)) ∧ ∀ (j : Nat), j < x'.toNat → (-1099511627776) ≤ (spA sp j).pages ∧ (spA sp j).pages ≤ 1099511627776) ∧ ((↑sp.length : Int) - x').toNat < ((↑sp.length : Int) - x).toNat ∧ x + 1 = x')) ∧ (decide (x < (↑sp.length : Int)) = false → True ∧ (∃ (x : Int × Int), ((0 ≤ x.1 ∧ x.1 ≤ 3) ∧ DOK (L, x.2)) ∧ 0 = x.1 ∧ L = L ∧ 0 = x.2) ∧ ∀ (x : Int × Int), (0 ≤ x.1 ∧ x.1 ≤ 3) ∧ DOK (L, x.2) → (decide (x.1 < 3) = true → DOK (L, x.2) ∧ (∀ (y : (List Chg × List NSet × List Int) × Int), true = true) ∧ ∀ (y : (List Chg × List NSet × List Int) × Int), MadeD y.1 ∧ x.2 ≤ y.2 ∧ y.2 ≤ (↑L.length : Int) → Sml y.1.1 y.1.2.1 y.1.2.2 ∧ (∀ (y : List Spt × List Int × Int), true = true) ∧ ∀ (y_1 : List Spt × List Int × Int), PlaceR y.1.1 y.1.2.1 y.1.2.2 y_1 → y_1.1.length ≤ (68719476736 : Nat) ∧ ((decide (0 < (↑y_1.1.length : Int)) = true → (DOK (L, y.2) ∧ (↑y_1.1.length : Int) ≤ 4611686018427387904) ∧ (∀ (y : Int × Int), true = true) ∧ ∀ (y_2 : Int × Int), (1 ≤ (↑y_1.1.length : Int) → 0 ≤ y_2.1 ∧ y_2.1 < (↑y_1.1.length : Int)) ∧ ((↑y_1.1.length : Int) < 1 → y_2.1 = 0) ∧ y.2 ≤ y_2.2 ∧ y_2.2 ≤ (↑L.length : Int) → (0 ≤ y_2.1 ∧ y_2.1 < (↑y_1.1.length : Int)) ∧ (DOK (L, y_2.2) ∧ (1 : Nat) ≤ ((spA y_1.1 y_2.1.toNat).grp :: 1 :: 3 :: NilL Int).length ∧ ((spA y_1.1 y_2.1.toNat).grp :: 1 :: 3 :: NilL Int).length ≤ (1000 : Nat)) ∧ (∀ (y : Int × Int), true = true) ∧ ∀ (y_3 : Int × Int), y_3.1 ∈ (spA y_1.1 y_2.1.toNat).grp :: 1 :: 3 :: NilL Int ∧ y_2.2 ≤ y_3.2 ∧ y_3.2 ≤ (↑L.length : Int) → (DOK (L, y_3.2) ∧ (1 : Nat) ≤ ((spA y_1.1 y_2.1.toNat).node :: 0 :: 1 :: 9 :: NilL Int).length ∧ ((spA y_1.1 y_2.1.toNat).node :: 0 :: 1 :: 9 :: NilL Int).length ≤ (1000 : Nat)) ∧ (∀ (y : Int × Int), true = true) ∧ ∀ (y_4 : Int × Int), y_4.1 ∈ (spA y_1.1 y_2.1.toNat).node :: 0 :: 1 :: 9 :: NilL Int ∧ y_3.2 ≤ y_4.2 ∧ y_4.2 ≤ (↑L.length : Int) → i64R ((spA y_1.1 y_2.1.toNat).pages + 1) ∧ (DOK (L, y_4.2) ∧ (1 : Nat) ≤ ((spA y_1.1 y_2.1.toNat).pages :: ((spA y_1.1 y_2.1.toNat).pages + 1) :: 0 :: (-1) :: NilL Int).length ∧ ((spA y_1.1 y_2.1.toNat).pages :: ((spA y_1.1 y_2.1.toNat).pages + 1) :: 0 :: (-1) :: NilL Int).length ≤ (1000 : Nat)) ∧ (∀ (y : Int × Int), true = true) ∧ ∀ (y_5 : Int × Int), y_5.1 ∈ (spA y_1.1 y_2.1.toNat).pages :: ((spA y_1.1 y_2.1.toNat).pages + 1) :: 0 :: (-1) :: NilL Int ∧ y_4.2 ≤ y_5.2 ∧ y_5.2 ≤ (↑L.length : Int) → ∃ (x : List Spt × Int), (SB x.1 ∧ DOK (L, x.2)) ∧ ((y_1.1.set y_2.1.toNat { grp := y_3.1, node := (spA y_1.1 y_2.1.toNat).node, pages := (spA y_1.1 y_2.1.toNat).pages : Spt }).set y_2.1.toNat { grp := (spA (y_1.1.set y_2.1.toNat { grp := y_3.1, node := (spA y_1.1 y_2.1.toNat).node, pages := (spA y_1.1 y_2.1.toNat).pages : Spt }) y_2.1.toNat).grp, node := y_4.1, pages := (spA (y_1.1.set y_2.1.toNat { grp := y_3.1, node := (spA y_1.1 y_2.1.toNat).node, pages := (spA y_1.1 y_2.1.toNat).pages : Spt }) y_2.1.toNat).pages : Spt }).set y_2.1.toNat { grp := (spA ((y_1.1.set y_2.1.toNat { grp := y_3.1, node := (spA y_1.1 y_2.1.toNat).node, pages := (spA y_1.1 y_2.1.toNat).pages : Spt }).set y_2.1.toNat { grp := (spA (y_1.1.set y_2.1.toNat { grp := y_3.1, node := (spA y_1.1 y_2.1.toNat).node, pages := (spA y_1.1 y_2.1.toNat).pages : Spt }) y_2.1.toNat).grp, node := y_4.1, pages := (spA (y_1.1.set y_2.1.toNat { grp := y_3.1, node := (spA y_1.1 y_2.1.toNat).node, pages := (spA y_1.1 y_2.1.toNat).pages : Spt }) y_2.1.toNat).pages : Spt }) y_2.1.toNat).grp, node := (spA ((y_1.1.set y_2.1.toNat { grp := y_3.1, node := (spA y_1.1 y_2.1.toNat).node, pages := (spA y_1.1 y_2.1.toNat).pages : Spt }).set y_2.1.toNat { grp := (spA (y_1.1.set y_2.1.toNat { grp := y_3.1, node := (spA y_1.1 y_2.1.toNat).node, pages := (spA y_1.1 y_2.1.toNat).pages : Spt }) y_2.1.toNat).grp, node := y_4.1, pages := (spA (y_1.1.set y_2.1.toNat { grp := y_3.1, node := (spA y_1.1 y_2.1.toNat).node, pages := (spA y_1.1 y_2.1.toNat).pages : Spt }) y_2.1.toNat).pages : Spt }) y_2.1.toNat).node, pages := y_5.1 : Spt } = x.1 ∧ y.1.1 = y.1.1 ∧ y.1.2.2 = y.1.2.2 ∧ y_1.2.1 = y_1.2.1 ∧ y_1.1 = y_1.1 ∧ L = L ∧ y_5.2 = x.2) ∧ (decide (0 < (↑y_1.1.length : Int)) = false → ∃ (x : List Spt × Int), (SB x.1 ∧ DOK (L, x.2)) ∧ y_1.1 = x.1 ∧ y.1.1 = y.1.1 ∧ y.1.2.2 = y.1.2.2 ∧ y_1.2.1 = y_1.2.1 ∧ y_1.1 = y_1.1 ∧ L = L ∧ y.2 = x.2)) ∧ ∀ (x_1 : List Spt × Int), SB x_1.1 ∧ DOK (L, x_1.2) → (∃ (x : Int), (0 ≤ x ∧ x ≤ 3) ∧ 0 = x ∧ y_1.1 = y_1.1 ∧ y_1.1 = y_1.1 ∧ x_1.1 = x_1.1 ∧ sp = sp ∧ y.1.1 = y.1.1 ∧ y.1.2.2 = y.1.2.2 ∧ y_1.2.1 = y_1.2.1 ∧ L = L ∧ x_1.2 = x_1.2) ∧ ∀ (x_2 : Int), 0 ≤ x_2 ∧ x_2 ≤ 3 → (decide (x_2 < 3) = true → ((0 ≤ x_2 ∧ x_2 < (↑(3 : Nat) : Int)) ∧ ∃ (x : List Spt), SB x ∧ (y_1.1 :: x_1.1 :: sp :: NilL (List Spt)).getD x_2.toNat (NilL Spt) = x ∧ y.1.1 = y.1.1 ∧ y.1.2.2 = y.1.2.2 ∧ y_1.2.1 = y_1.2.1 ∧ L = L ∧ x_1.2 = x_1.2) ∧ ∀ (x_3 : List Spt), SB x_3 → (Sml y.1.1 y.1.2.1 y.1.2.2 ∧ SB x_3) ∧ (Sml y.1.1 y.1.2.1 y.1.2.2 ∧ SB x_3) ∧ ((chkB y.1.1 y.1.2.1 y.1.2.2 x_3 != chkB y.1.1 y.1.2.1 y.1.2.2 x_3) = false → (chkB y.1.1 y.1.2.1 y.1.2.2 x_3 != chkB y.1.1 y.1.2.1 y.1.2.2 x_3) = false) ∧ ((chkB y.1.1 y.1.2.1 y.1.2.2 x_3 != chkB y.1.1 y.1.2.1 y.1.2.2 x_3) = false → (chkB y.1.1 y.1.2.1 y.1.2.2 x_3 != chkB y.1.1 y.1.2.1 y.1.2.2 x_3) = false) ∧ ((chkB y.1.1 y.1.2.1 y.1.2.2 x_3 != chkB y.1.1 y.1.2.1 y.1.2.2 x_3) = false → SB x_3) ∧ ((chkB y.1.1 y.1.2.1 y.1.2.2 x_3 != chkB y.1.1 y.1.2.1 y.1.2.2 x_3) = false → (chkB y.1.1 y.1.2.1 y.1.2.2 x_3 != chkB y.1.1 y.1.2.1 y.1.2.2 x_3) = false) ∧ ((chkB y.1.1 y.1.2.1 y.1.2.2 x_3 != chkB y.1.1 y.1.2.1 y.1.2.2 x_3) = false → (chkB y.1.1 y.1.2.1 y.1.2.2 x_3 != chkB y.1.1 y.1.2.1 y.1.2.2 x_3) = false) ∧ ((chkB y.1.1 y.1.2.1 y.1.2.2 x_3 != chkB y.1.1 y.1.2.1 y.1.2.2 x_3) = false → SB x_3) ∧ ((chkB y.1.1 y.1.2.1 y.1.2.2 x_3 != chkB y.1.1 y.1.2.1 y.1.2.2 x_3) = false → (chkB y.1.1 y.1.2.1 y.1.2.2 x_3 != chkB y.1.1 y.1.2.1 y.1.2.2 x_3) = false) ∧ ((chkB y.1.1 y.1.2.1 y.1.2.2 x_3 != chkB y.1.1 y.1.2.1 y.1.2.2 x_3) = false → (chkB y.1.1 y.1.2.1 y.1.2.2 x_3 != chkB y.1.1 y.1.2.1 y.1.2.2 x_3) = false) ∧ ((chkB y.1.1 y.1.2.1 y.1.2.2 x_3 != chkB y.1.1 y.1.2.1 y.1.2.2 x_3) = false → (chkB y.1.1 y.1.2.1 y.1.2.2 x_3 != chkB y.1.1 y.1.2.1 y.1.2.2 x_3) = false) ∧ ((chkB y.1.1 y.1.2.1 y.1.2.2 x_3 != chkB y.1.1 y.1.2.1 y.1.2.2 x_3 || !decide (loadS x_3 x.1 = loadS x_3 x.1)) = false → (chkB y.1.1 y.1.2.1 y.1.2.2 x_3 != chkB y.1.1 y.1.2.1 y.1.2.2 x_3 || !decide (loadS x_3 x.1 = loadS x_3 x.1)) = false) ∧ ((chkB y.1.1 y.1.2.1 y.1.2.2 x_3 != chkB y.1.1 y.1.2.1 y.1.2.2 x_3 || !decide (loadS x_3 x.1 = loadS x_3 x.1)) = false → (chkB y.1.1 y.1.2.1 y.1.2.2 x_3 != chkB y.1.1 y.1.2.1 y.1.2.2 x_3 || !decide (loadS x_3 x.1 = loadS x_3 x.1)) = false) ∧ ((chkB y.1.1 y.1.2.1 y.1.2.2 x_3 != chkB y.1.1 y.1.2.1 y.1.2.2 x_3 || !decide (loadS x_3 x.1 = loadS x_3 x.1)) = false → SB y_1.1 ∧ SB x_3) ∧ ((chkB y.1.1 y.1.2.1 y.1.2.2 x_3 != chkB y.1.1 y.1.2.1 y.1.2.2 x_3 || !decide (loadS x_3 x.1 = loadS x_3 x.1)) = false → (chkB y.1.1 y.1.2.1 y.1.2.2 x_3 != chkB y.1.1 y.1.2.1 y.1.2.2 x_3 || !decide (loadS x_3 x.1 = loadS x_3 x.1)) = false) ∧ ((chkB y.1.1 y.1.2.1 y.1.2.2 x_3 != chkB y.1.1 y.1.2.1 y.1.2.2 x_3 || !decide (loadS x_3 x.1 = loadS x_3 x.1)) = false → (chkB y.1.1 y.1.2.1 y.1.2.2 x_3 != chkB y.1.1 y.1.2.1 y.1.2.2 x_3 || !decide (loadS x_3 x.1 = loadS x_3 x.1)) = false) ∧ ((chkB y.1.1 y.1.2.1 y.1.2.2 x_3 != chkB y.1.1 y.1.2.1 y.1.2.2 x_3 || !decide (loadS x_3 x.1 = loadS x_3 x.1)) = false → SB y_1.1 ∧ SB x_3) ∧ ((chkB y.1.1 y.1.2.1 y.1.2.2 x_3 != chkB y.1.1 y.1.2.1 y.1.2.2 x_3 || !decide (loadS x_3 x.1 = loadS x_3 x.1)) = false → (chkB y.1.1 y.1.2.1 y.1.2.2 x_3 != chkB y.1.1 y.1.2.1 y.1.2.2 x_3 || !decide (loadS x_3 x.1 = loadS x_3 x.1)) = false) ∧ ((chkB y.1.1 y.1.2.1 y.1.2.2 x_3 != chkB y.1.1 y.1.2.1 y.1.2.2 x_3 || !decide (loadS x_3 x.1 = loadS x_3 x.1)) = false → (chkB y.1.1 y.1.2.1 y.1.2.2 x_3 != chkB y.1.1 y.1.2.1 y.1.2.2 x_3 || !decide (loadS x_3 x.1 = loadS x_3 x.1)) = false) ∧ ((chkB y.1.1 y.1.2.1 y.1.2.2 x_3 != chkB y.1.1 y.1.2.1 y.1.2.2 x_3 || !decide (loadS x_3 x.1 = loadS x_3 x.1)) = false → (chkB y.1.1 y.1.2.1 y.1.2.2 x_3 != chkB y.1.1 y.1.2.1 y.1.2.2 x_3 || !decide (loadS x_3 x.1 = loadS x_3 x.1)) = false) ∧ ((chkB y.1.1 y.1.2.1 y.1.2.2 x_3 != chkB y.1.1 y.1.2.1 y.1.2.2 x_3 || !decide (loadS x_3 x.1 = loadS x_3 x.1) || !decide (moves y_1.1 x_3 = moves y_1.1 x_3)) = false → (chkB y.1.1 y.1.2.1 y.1.2.2 x_3 != chkB y.1.1 y.1.2.1 y.1.2.2 x_3 || !decide (loadS x_3 x.1 = loadS x_3 x.1) || !decide (moves y_1.1 x_3 = moves y_1.1 x_3)) = false) ∧ ((chkB y.1.1 y.1.2.1 y.1.2.2 x_3 != chkB y.1.1 y.1.2.1 y.1.2.2 x_3 || !decide (loadS x_3 x.1 = loadS x_3 x.1) || !decide (moves y_1.1 x_3 = moves y_1.1 x_3)) = false → (chkB y.1.1 y.1.2.1 y.1.2.2 x_3 != chkB y.1.1 y.1.2.1 y.1.2.2 x_3 || !decide (loadS x_3 x.1 = loadS x_3 x.1) || !decide (moves y_1.1 x_3 = moves y_1.1 x_3)) = false) ∧ ((chkB y.1.1 y.1.2.1 y.1.2.2 x_3 != chkB y.1.1 y.1.2.1 y.1.2.2 x_3 || !decide (loadS x_3 x.1 = loadS x_3 x.1) || !decide (moves y_1.1 x_3 = moves y_1.1 x_3)) = false → SB x_3 ∧ SB y_1.1) ∧ ((chkB y.1.1 y.1.2.1 y.1.2.2 x_3 != chkB y.1.1 y.1.2.1 y.1.2.2 x_3 || !decide (loadS x_3 x.1 = loadS x_3 x.1) || !decide (moves y_1.1 x_3 = moves y_1.1 x_3)) = false → (chkB y.1.1 y.1.2.1 y.1.2.2 x_3 != chkB y.1.1 y.1.2.1 y.1.2.2 x_3 || !decide (loadS x_3 x.1 = loadS x_3 x.1) || !decide (moves y_1.1 x_3 = moves y_1.1 x_3)) = false) ∧ ((chkB y.1.1 y.1.2.1 y.1.2.2 x_3 != chkB y.1.1 y.1.2.1 y.1.2.2 x_3 || !decide (loadS x_3 x.1 = loadS x_3 x.1) || !decide (moves y_1.1 x_3 = moves y_1.1 x_3)) = false → (chkB y.1.1 y.1.2.1 y.1.2.2 x_3 != chkB y.1.1 y.1.2.1 y.1.2.2 x_3 || !decide (loadS x_3 x.1 = loadS x_3 x.1) || !decide (moves y_1.1 x_3 = moves y_1.1 x_3)) = false) ∧ ((chkB y.1.1 y.1.2.1 y.1.2.2 x_3 != chkB y.1.1 y.1.2.1 y.1.2.2 x_3 || !decide (loadS x_3 x.1 = loadS x_3 x.1) || !decide (moves y_1.1 x_3 = moves y_1.1 x_3)) = false → SB x_3 ∧ SB y_1.1) ∧ ((chkB y.1.1 y.1.2.1 y.1.2.2 x_3 != chkB y.1.1 y.1.2.1 y.1.2.2 x_3 || !decide (loadS x_3 x.1 = loadS x_3 x.1) || !decide (moves y_1.1 x_3 = moves y_1.1 x_3)) = false → (chkB y.1.1 y.1.2.1 y.1.2.2 x_3 != chkB y.1.1 y.1.2.1 y.1.2.2 x_3 || !decide (loadS x_3 x.1 = loadS x_3 x.1) || !decide (moves y_1.1 x_3 = moves y_1.1 x_3)) = false) ∧ ((chkB y.1.1 y.1.2.1 y.1.2.2 x_3 != chkB y.1.1 y.1.2.1 y.1.2.2 x_3 || !decide (loadS x_3 x.1 = loadS x_3 x.1) || !decide (moves y_1.1 x_3 = moves y_1.1 x_3)) = false → (chkB y.1.1 y.1.2.1 y.1.2.2 x_3 != chkB y.1.1 y.1.2.1 y.1.2.2 x_3 || !decide (loadS x_3 x.1 = loadS x_3 x.1) || !decide (moves y_1.1 x_3 = moves y_1.1 x_3)) = false) ∧ ((chkB y.1.1 y.1.2.1 y.1.2.2 x_3 != chkB y.1.1 y.1.2.1 y.1.2.2 x_3 || !decide (loadS x_3 x.1 = loadS x_3 x.1) || !decide (moves y_1.1 x_3 = moves y_1.1 x_3)) = false → (chkB y.1.1 y.1.2.1 y.1.2.2 x_3 != chkB y.1.1 y.1.2.1 y.1.2.2 x_3 || !decide (loadS x_3 x.1 = loadS x_3 x.1) || !decide (moves y_1.1 x_3 = moves y_1.1 x_3)) = false) ∧ ((chkB y.1.1 y.1.2.1 y.1.2.2 x_3 != chkB y.1.1 y.1.2.1 y.1.2.2 x_3 || !decide (loadS x_3 x.1 = loadS x_3 x.1) || !decide (moves y_1.1 x_3 = moves y_1.1 x_3) || !decide (moves x_3 y_1.1 = moves x_3 y_1.1)) = true → ∃ (y : Unit), True ∧ false = true) ∧ ((chkB y.1.1 y.1.2.1 y.1.2.2 x_3 != chkB y.1.1 y.1.2.1 y.1.2.2 x_3 || !decide (loadS x_3 x.1 = loadS x_3 x.1) || !decide (moves y_1.1 x_3 = moves y_1.1 x_3) || !decide (moves x_3 y_1.1 = moves x_3 y_1.1)) = false → i64R (x_2 + 1) ∧ ∃ (x' : Int), (0 ≤ x' ∧ x' ≤ 3) ∧ (3 - x').toNat < (3 - x_2).toNat ∧ x_2 + 1 = x' ∧ y_1.1 = y_1.1 ∧ y_1.1 = y_1.1 ∧ x_1.1 = x_1.1 ∧ sp = sp ∧ y.1.1 = y.1.1 ∧ y.1.2.2 = y.1.2.2 ∧ y_1.2.1 = y_1.2.1 ∧ L = L ∧ x_1.2 = x_1.2)) ∧ (decide (x_2 < 3) = false → y_1.2.1.length ≤ (68719476736 : Nat) ∧ (DOK (L, x_1.2) ∧ (6 : Int) ≤ 4611686018427387904) ∧ (∀ (y : Int × Int), true = true) ∧ ∀ (y_2 : Int × Int), ((1 : Int) ≤ 6 → 0 ≤ y_2.1 ∧ y_2.1 < 6) ∧ ((6 : Int) < 1 → y_2.1 = 0) ∧ x_1.2 ≤ y_2.2 ∧ y_2.2 ≤ (↑L.length : Int) → i64R (y_2.1 - 1) ∧ y_1.2.1.length + ((y_2.1 - 1) :: NilL Int).length ≤ (68719476736 : Nat) ∧ Sml y.1.1 y.1.2.1 y.1.2.2 ∧ Sml y.1.1 y.1.2.1 y.1.2.2 ∧ ((vokB y.1.1 y.1.2.1 y.1.2.2 != vokB y.1.1 y.1.2.1 y.1.2.2) = false → (vokB y.1.1 y.1.2.1 y.1.2.2 != vokB y.1.1 y.1.2.1 y.1.2.2) = false) ∧ ((vokB y.1.1 y.1.2.1 y.1.2.2 != vokB y.1.1 y.1.2.1 y.1.2.2) = false → (vokB y.1.1 y.1.2.1 y.1.2.2 != vokB y.1.1 y.1.2.1 y.1.2.2) = false) ∧ ((vokB y.1.1 y.1.2.1 y.1.2.2 != vokB y.1.1 y.1.2.1 y.1.2.2) = false → (vokB y.1.1 y.1.2.1 y.1.2.2 != vokB y.1.1 y.1.2.1 y.1.2.2) = false) ∧ ((vokB y.1.1 y.1.2.1 y.1.2.2 != vokB y.1.1 y.1.2.1 y.1.2.2) = false → (vokB y.1.1 y.1.2.1 y.1.2.2 != vokB y.1.1 y.1.2.1 y.1.2.2) = false) ∧ ((vokB y.1.1 y.1.2.1 y.1.2.2 != vokB y.1.1 y.1.2.1 y.1.2.2) = false → Sml y.1.1 y.1.2.1 y.1.2.2 ∧ y_1.2.1.length ≤ (9223372036854775807 : Nat)) ∧ ((vokB y.1.1 y.1.2.1 y.1.2.2 != vokB y.1.1 y.1.2.1 y.1.2.2) = false → (vokB y.1.1 y.1.2.1 y.1.2.2 != vokB y.1.1 y.1.2.1 y.1.2.2) = false) ∧ ((vokB y.1.1 y.1.2.1 y.1.2.2 != vokB y.1.1 y.1.2.1 y.1.2.2) = false → (vokB y.1.1 y.1.2.1 y.1.2.2 != vokB y.1.1 y.1.2.1 y.1.2.2) = false) ∧ ((vokB y.1.1 y.1.2.1 y.1.2.2 != vokB y.1.1 y.1.2.1 y.1.2.2) = false → (vokB y.1.1 y.1.2.1 y.1.2.2 != vokB y.1.1 y.1.2.1 y.1.2.2) = false) ∧ ((vokB y.1.1 y.1.2.1 y.1.2.2 != vokB y.1.1 y.1.2.1 y.1.2.2) = false → (vokB y.1.1 y.1.2.1 y.1.2.2 != vokB y.1.1 y.1.2.1 y.1.2.2) = false) ∧ ((vokB y.1.1 y.1.2.1 y.1.2.2 != vokB y.1.1 y.1.2.1 y.1.2.2) = false → Sml y.1.1 y.1.2.1 y.1.2.2 ∧ y_1.2.1.length ≤ (9223372036854775807 : Nat)) ∧ ((vokB y.1.1 y.1.2.1 y.1.2.2 != vokB y.1.1 y.1.2.1 y.1.2.2) = false → (vokB y.1.1 y.1.2.1 y.1.2.2 != vokB y.1.1 y.1.2.1 y.1.2.2) = false) ∧ ((vokB y.1.1 y.1.2.1 y.1.2.2 != vokB y.1.1 y.1.2.1 y.1.2.2) = false → (vokB y.1.1 y.1.2.1 y.1.2.2 != vokB y.1.1 y.1.2.1 y.1.2.2) = false) ∧ ((vokB y.1.1 y.1.2.1 y.1.2.2 != vokB y.1.1 y.1.2.1 y.1.2.2) = false → (vokB y.1.1 y.1.2.1 y.1.2.2 != vokB y.1.1 y.1.2.1 y.1.2.2) = false) ∧ ((vokB y.1.1 y.1.2.1 y.1.2.2 != vokB y.1.1 y.1.2.1 y.1.2.2 || refB y.1.1 y.1.2.1 y.1.2.2 y_1.2.1 != refB y.1.1 y.1.2.1 y.1.2.2 y_1.2.1) = false → (vokB y.1.1 y.1.2.1 y.1.2.2 != vokB y.1.1 y.1.2.1 y.1.2.2 || refB y.1.1 y.1.2.1 y.1.2.2 y_1.2.1 != refB y.1.1 y.1.2.1 y.1.2.2 y_1.2.1) = false) ∧ ((vokB y.1.1 y.1.2.1 y.1.2.2 != vokB y.1.1 y.1.2.1 y.1.2.2 || refB y.1.1 y.1.2.1 y.1.2.2 y_1.2.1 != refB y.1.1 y.1.2.1 y.1.2.2 y_1.2.1) = false → (vokB y.1.1 y.1.2.1 y.1.2.2 != vokB y.1.1 y.1.2.1 y.1.2.2 || refB y.1.1 y.1.2.1 y.1.2.2 y_1.2.1 != refB y.1.1 y.1.2.1 y.1.2.2 y_1.2.1) = false) ∧ ((vokB y.1.1 y.1.2.1 y.1.2.2 != vokB y.1.1 y.1.2.1 y.1.2.2 || refB y.1.1 y.1.2.1 y.1.2.2 y_1.2.1 != refB y.1.1 y.1.2.1 y.1.2.2 y_1.2.1) = false → (vokB y.1.1 y.1.2.1 y.1.2.2 != vokB y.1.1 y.1.2.1 y.1.2.2 || refB y.1.1 y.1.2.1 y.1.2.2 y_1.2.1 != refB y.1.1 y.1.2.1 y.1.2.2 y_1.2.1) = false) ∧ ((vokB y.1.1 y.1.2.1 y.1.2.2 != vokB y.1.1 y.1.2.1 y.1.2.2 || refB y.1.1 y.1.2.1 y.1.2.2 y_1.2.1 != refB y.1.1 y.1.2.1 y.1.2.2 y_1.2.1) = false → (vokB y.1.1 y.1.2.1 y.1.2.2 != vokB y.1.1 y.1.2.1 y.1.2.2 || refB y.1.1 y.1.2.1 y.1.2.2 y_1.2.1 != refB y.1.1 y.1.2.1 y.1.2.2 y_1.2.1) = false) ∧ ((vokB y.1.1 y.1.2.1 y.1.2.2 != vokB y.1.1 y.1.2.1 y.1.2.2 || refB y.1.1 y.1.2.1 y.1.2.2 y_1.2.1 != refB y.1.1 y.1.2.1 y.1.2.2 y_1.2.1) = false → Sml y.1.1 y.1.2.1 y.1.2.2 ∧ (y_1.2.1 ++ (y_2.1 - 1) :: NilL Int).length ≤ (9223372036854775807 : Nat)) ∧ ((vokB y.1.1 y.1.2.1 y.1.2.2 != vokB y.1.1 y.1.2.1 y.1.2.2 || refB y.1.1 y.1.2.1 y.1.2.2 y_1.2.1 != refB y.1.1 y.1.2.1 y.1.2.2 y_1.2.1) = false → (vokB y.1.1 y.1.2.1 y.1.2.2 != vokB y.1.1 y.1.2.1 y.1.2.2 || refB y.1.1 y.1.2.1 y.1.2.2 y_1.2.1 != refB y.1.1 y.1.2.1 y.1.2.2 y_1.2.1) = false) ∧ ((vokB y.1.1 y.1.2.1 y.1.2.2 != vokB y.1.1 y.1.2.1 y.1.2.2 || refB y.1.1 y.1.2.1 y.1.2.2 y_1.2.1 != refB y.1.1 y.1.2.1 y.1.2.2 y_1.2.1) = false → (vokB y.1.1 y.1.2.1 y.1.2.2 != vokB y.1.1 y.1.2.1 y.1.2.2 || refB y.1.1 y.1.2.1 y.1.2.2 y_1.2.1 != refB y.1.1 y.1.2.1 y.1.2.2 y_1.2.1) = false) ∧ ((vokB y.1.1 y.1.2.1 y.1.2.2 != vokB y.1.1 y.1.2.1 y.1.2.2 || refB y.1.1 y.1.2.1 y.1.2.2 y_1.2.1 != refB y.1.1 y.1.2.1 y.1.2.2 y_1.2.1) = false → (vokB y.1.1 y.1.2.1 y.1.2.2 != vokB y.1.1 y.1.2.1 y.1.2.2 || refB y.1.1 y.1.2.1 y.1.2.2 y_1.2.1 != refB y.1.1 y.1.2.1 y.1.2.2 y_1.2.1) = false) ∧ ((vokB y.1.1 y.1.2.1 y.1.2.2 != vokB y.1.1 y.1.2.1 y.1.2.2 || refB y.1.1 y.1.2.1 y.1.2.2 y_1.2.1 != refB y.1.1 y.1.2.1 y.1.2.2 y_1.2.1) = false → (vokB y.1.1 y.1.2.1 y.1.2.2 != vokB y.1.1 y.1.2.1 y.1.2.2 || refB y.1.1 y.1.2.1 y.1.2.2 y_1.2.1 != refB y.1.1 y.1.2.1 y.1.2.2 y_1.2.1) = false) ∧ ((vokB y.1.1 y.1.2.1 y.1.2.2 != vokB y.1.1 y.1.2.1 y.1.2.2 || refB y.1.1 y.1.2.1 y.1.2.2 y_1.2.1 != refB y.1.1 y.1.2.1 y.1.2.2 y_1.2.1) = false → Sml y.1.1 y.1.2.1 y.1.2.2 ∧ (y_1.2.1 ++ (y_2.1 - 1) :: NilL Int).length ≤ (9223372036854775807 : Nat)) ∧ ((vokB y.1.1 y.1.2.1 y.1.2.2 != vokB y.1.1 y.1.2.1 y.1.2.2 || refB y.1.1 y.1.2.1 y.1.2.2 y_1.2.1 != refB y.1.1 y.1.2.1 y.1.2.2 y_1.2.1) = false → (vokB y.1.1 y.1.2.1 y.1.2.2 != vokB y.1.1 y.1.2.1 y.1.2.2 || refB y.1.1 y.1.2.1 y.1.2.2 y_1.2.1 != refB y.1.1 y.1.2.1 y.1.2.2 y_1.2.1) = false) ∧ ((vokB y.1.1 y.1.2.1 y.1.2.2 != vokB y.1.1 y.1.2.1 y.1.2.2 || refB y.1.1 y.1.2.1 y.1.2.2 y_1.2.1 != refB y.1.1 y.1.2.1 y.1.2.2 y_1.2.1) = false → (vokB y.1.1 y.1.2.1 y.1.2.2 != vokB y.1.1 y.1.2.1 y.1.2.2 || refB y.1.1 y.1.2.1 y.1.2.2 y_1.2.1 != refB y.1.1 y.1.2.1 y.1.2.2 y_1.2.1) = false) ∧ ((vokB y.1.1 y.1.2.1 y.1.2.2 != vokB y.1.1 y.1.2.1 y.1.2.2 || refB y.1.1 y.1.2.1 y.1.2.2 y_1.2.1 != refB y.1.1 y.1.2.1 y.1.2.2 y_1.2.1) = false → (vokB y.1.1 y.1.2.1 y.1.2.2 != vokB y.1.1 y.1.2.1 y.1.2.2 || refB y.1.1 y.1.2.1 y.1.2.2 y_1.2.1 != refB y.1.1 y.1.2.1 y.1.2.2 y_1.2.1) = false) ∧ ((vokB y.1.1 y.1.2.1 y.1.2.2 != vokB y.1.1 y.1.2.1 y.1.2.2 || refB y.1.1 y.1.2.1 y.1.2.2 y_1.2.1 != refB y.1.1 y.1.2.1 y.1.2.2 y_1.2.1 || refB y.1.1 y.1.2.1 y.1.2.2 (y_1.2.1 ++ (y_2.1 - 1) :: NilL Int) != refB y.1.1 y.1.2.1 y.1.2.2 (y_1.2.1 ++ (y_2.1 - 1) :: NilL Int)) = false → (vokB y.1.1 y.1.2.1 y.1.2.2 != vokB y.1.1 y.1.2.1 y.1.2.2 || refB y.1.1 y.1.2.1 y.1.2.2 y_1.2.1 != refB y.1.1 y.1.2.1 y.1.2.2 y_1.2.1 || refB y.1.1 y.1.2.1 y.1.2.2 (y_1.2.1 ++ (y_2.1 - 1) :: NilL Int) != refB y.1.1 y.1.2.1 y.1.2.2 (y_1.2.1 ++ (y_2.1 - 1) :: NilL Int)) = false) ∧ ((vokB y.1.1 y.1.2.1 y.1.2.2 != vokB y.1.1 y.1.2.1 y.1.2.2 || refB y.1.1 y.1.2.1 y.1.2.2 y_1.2.1 != refB y.1.1 y.1.2.1 y.1.2.2 y_1.2.1 || refB y.1.1 y.1.2.1 y.1.2.2 (y_1.2.1 ++ (y_2.1 - 1) :: NilL Int) != refB y.1.1 y.1.2.1 y.1.2.2 (y_1.2.1 ++ (y_2.1 - 1) :: NilL Int)) = false → (vokB y.1.1 y.1.2.1 y.1.2.2 != vokB y.1.1 y.1.2.1 y.1.2.2 || refB y.1.1 y.1.2.1 y.1.2.2 y_1.2.1 != refB y.1.1 y.1.2.1 y.1.2.2 y_1.2.1 || refB y.1.1 y.1.2.1 y.1.2.2 (y_1.2.1 ++ (y_2.1 - 1) :: NilL Int) != refB y.1.1 y.1.2.1 y.1.2.2 (y_1.2.1 ++ (y_2.1 - 1) :: NilL Int)) = false) ∧ ((vokB y.1.1 y.1.2.1 y.1.2.2 != vokB y.1.1 y.1.2.1 y.1.2.2 || refB y.1.1 y.1.2.1 y.1.2.2 y_1.2.1 != refB y.1.1 y.1.2.1 y.1.2.2 y_1.2.1 || refB y.1.1 y.1.2.1 y.1.2.2 (y_1.2.1 ++ (y_2.1 - 1) :: NilL Int) != refB y.1.1 y.1.2.1 y.1.2.2 (y_1.2.1 ++ (y_2.1 - 1) :: NilL Int)) = false → (vokB y.1.1 y.1.2.1 y.1.2.2 != vokB y.1.1 y.1.2.1 y.1.2.2 || refB y.1.1 y.1.2.1 y.1.2.2 y_1.2.1 != refB y.1.1 y.1.2.1 y.1.2.2 y_1.2.1 || refB y.1.1 y.1.2.1 y.1.2.2 (y_1.2.1 ++ (y_2.1 - 1) :: NilL Int) != refB y.1.1 y.1.2.1 y.1.2.2 (y_1.2.1 ++ (y_2.1 - 1) :: NilL Int)) = false) ∧ ((vokB y.1.1 y.1.2.1 y.1.2.2 != vokB y.1.1 y.1.2.1 y.1.2.2 || refB y.1.1 y.1.2.1 y.1.2.2 y_1.2.1 != refB y.1.1 y.1.2.1 y.1.2.2 y_1.2.1 || refB y.1.1 y.1.2.1 y.1.2.2 (y_1.2.1 ++ (y_2.1 - 1) :: NilL Int) != refB y.1.1 y.1.2.1 y.1.2.2 (y_1.2.1 ++ (y_2.1 - 1) :: NilL Int)) = false → (vokB y.1.1 y.1.2.1 y.1.2.2 != vokB y.1.1 y.1.2.1 y.1.2.2 || refB y.1.1 y.1.2.1 y.1.2.2 y_1.2.1 != refB y.1.1 y.1.2.1 y.1.2.2 y_1.2.1 || refB y.1.1 y.1.2.1 y.1.2.2 (y_1.2.1 ++ (y_2.1 - 1) :: NilL Int) != refB y.1.1 y.1.2.1 y.1.2.2 (y_1.2.1 ++ (y_2.1 - 1) :: NilL Int)) = false) ∧ ((vokB y.1.1 y.1.2.1 y.1.2.2 != vokB y.1.1 y.1.2.1 y.1.2.2 || refB y.1.1 y.1.2.1 y.1.2.2 y_1.2.1 != refB y.1.1 y.1.2.1 y.1.2.2 y_1.2.1 || refB y.1.1 y.1.2.1 y.1.2.2 (y_1.2.1 ++ (y_2.1 - 1) :: NilL Int) != refB y.1.1 y.1.2.1 y.1.2.2 (y_1.2.1 ++ (y_2.1 - 1) :: NilL Int)) = false → Sml y.1.1 y.1.2.1 y.1.2.2 ∧ set.length ≤ (9223372036854775807 : Nat)) ∧ ((vokB y.1.1 y.1.2.1 y.1.2.2 != vokB y.1.1 y.1.2.1 y.1.2.2 || refB y.1.1 y.1.2.1 y.1.2.2 y_1.2.1 != refB y.1.1 y.1.2.1 y.1.2.2 y_1.2.1 || refB y.1.1 y.1.2.1 y.1.2.2 (y_1.2.1 ++ (y_2.1 - 1) :: NilL Int) != refB y.1.1 y.1.2.1 y.1.2.2 (y_1.2.1 ++ (y_2.1 - 1) :: NilL Int)) = false → (vokB y.1.1 y.1.2.1 y.1.2.2 != vokB y.1.1 y.1.2.1 y.1.2.2 || refB y.1.1 y.1.2.1 y.1.2.2 y_1.2.1 != refB y.1.1 y.1.2.1 y.1.2.2 y_1.2.1 || refB y.1.1 y.1.2.1 y.1.2.2 (y_1.2.1 ++ (y_2.1 - 1) :: NilL Int) != refB y.1.1 y.1.2.1 y.1.2.2 (y_1.2.1 ++ (y_2.1 - 1) :: NilL Int)) = false) ∧ ((vokB y.1.1 y.1.2.1 y.1.2.2 != vokB y.1.1 y.1.2.1 y.1.2.2 || refB y.1.1 y.1.2.1 y.1.2.2 y_1.2.1 != refB y.1.1 y.1.2.1 y.1.2.2 y_1.2.1 || refB y.1.1 y.1.2.1 y.1.2.2 (y_1.2.1 ++ (y_2.1 - 1) :: NilL Int) != refB y.1.1 y.1.2.1 y.1.2.2 (y_1.2.1 ++ (y_2.1 - 1) :: NilL Int)) = false → (vokB y.1.1 y.1.2.1 y.1.2.2 != vokB y.1.1 y.1.2.1 y.1.2.2 || refB y.1.1 y.1.2.1 y.1.2.2 y_1.2.1 != refB y.1.1 y.1.2.1 y.1.2.2 y_1.2.1 || refB y.1.1 y.1.2.1 y.1.2.2 (y_1.2.1 ++ (y_2.1 - 1) :: NilL Int) != refB y.1.1 y.1.2.1 y.1.2.2 (y_1.2.1 ++ (y_2.1 - 1) :: NilL Int)) = false) ∧ ((vokB y.1.1 y.1.2.1 y.1.2.2 != vokB y.1.1 y.1.2.1 y.1.2.2 || refB y.1.1 y.1.2.1 y.1.2.2 y_1.2.1 != refB y.1.1 y.1.2.1 y.1.2.2 y_1.2.1 || refB y.1.1 y.1.2.1 y.1.2.2 (y_1.2.1 ++ (y_2.1 - 1) :: NilL Int) != refB y.1.1 y.1.2.1 y.1.2.2 (y_1.2.1 ++ (y_2.1 - 1) :: NilL Int)) = false → (vokB y.1.1 y.1.2.1 y.1.2.2 != vokB y.1.1 y.1.2.1 y.1.2.2 || refB y.1.1 y.1.2.1 y.1.2.2 y_1.2.1 != refB y.1.1 y.1.2.1 y.1.2.2 y_1.2.1 || refB y.1.1 y.1.2.1 y.1.2.2 (y_1.2.1 ++ (y_2.1 - 1) :: NilL Int) != refB y.1.1 y.1.2.1 y.1.2.2 (y_1.2.1 ++ (y_2.1 - 1) :: NilL Int)) = false) ∧ ((vokB y.1.1 y.1.2.1 y.1.2.2 != vokB y.1.1 y.1.2.1 y.1.2.2 || refB y.1.1 y.1.2.1 y.1.2.2 y_1.2.1 != refB y.1.1 y.1.2.1 y.1.2.2 y_1.2.1 || refB y.1.1 y.1.2.1 y.1.2.2 (y_1.2.1 ++ (y_2.1 - 1) :: NilL Int) != refB y.1.1 y.1.2.1 y.1.2.2 (y_1.2.1 ++ (y_2.1 - 1) :: NilL Int)) = false → (vokB y.1.1 y.1.2.1 y.1.2.2 != vokB y.1.1 y.1.2.1 y.1.2.2 || refB y.1.1 y.1.2.1 y.1.2.2 y_1.2.1 != refB y.1.1 y.1.2.1 y.1.2.2 y_1.2.1 || refB y.1.1 y.1.2.1 y.1.2.2 (y_1.2.1 ++ (y_2.1 - 1) :: NilL Int) != refB y.1.1 y.1.2.1 y.1.2.2 (y_1.2.1 ++ (y_2.1 - 1) :: NilL Int)) = false) ∧ ((vokB y.1.1 y.1.2.1 y.1.2.2 != vokB y.1.1 y.1.2.1 y.1.2.2 || refB y.1.1 y.1.2.1 y.1.2.2 y_1.2.1 != refB y.1.1 y.1.2.1 y.1.2.2 y_1.2.1 || refB y.1.1 y.1.2.1 y.1.2.2 (y_1.2.1 ++ (y_2.1 - 1) :: NilL Int) != refB y.1.1 y.1.2.1 y.1.2.2 (y_1.2.1 ++ (y_2.1 - 1) :: NilL Int)) = false → Sml y.1.1 y.1.2.1 y.1.2.2 ∧ set.length ≤ (9223372036854775807 : Nat)) ∧ ((vokB y.1.1 y.1.2.1 y.1.2.2 != vokB y.1.1 y.1.2.1 y.1.2.2 || refB y.1.1 y.1.2.1 y.1.2.2 y_1.2.1 != refB y.1.1 y.1.2.1 y.1.2.2 y_1.2.1 || refB y.1.1 y.1.2.1 y.1.2.2 (y_1.2.1 ++ (y_2.1 - 1) :: NilL Int) != refB y.1.1 y.1.2.1 y.1.2.2 (y_1.2.1 ++ (y_2.1 - 1) :: NilL Int)) = false → (vokB y.1.1 y.1.2.1 y.1.2.2 != vokB y.1.1 y.1.2.1 y.1.2.2 || refB y.1.1 y.1.2.1 y.1.2.2 y_1.2.1 != refB y.1.1 y.1.2.1 y.1.2.2 y_1.2.1 || refB y.1.1 y.1.2.1 y.1.2.2 (y_1.2.1 ++ (y_2.1 - 1) :: NilL Int) != refB y.1.1 y.1.2.1 y.1.2.2 (y_1.2.1 ++ (y_2.1 - 1) :: NilL Int)) = false) ∧ ((vokB y.1.1 y.1.2.1 y.1.2.2 != vokB y.1.1 y.1.2.1 y.1.2.2 || refB y.1.1 y.1.2.1 y.1.2.2 y_1.2.1 != refB y.1.1 y.1.2.1 y.1.2.2 y_1.2.1 || refB y.1.1 y.1.2.1 y.1.2.2 (y_1.2.1 ++ (y_2.1 - 1) :: NilL Int) != refB y.1.1 y.1.2.1 y.1.2.2 (y_1.2.1 ++ (y_2.1 - 1) :: NilL Int)) = false → (vokB y.1.1 y.1.2.1 y.1.2.2 != vokB y.1.1 y.1.2.1 y.1.2.2 || refB y.1.1 y.1.2.1 y.1.2.2 y_1.2.1 != refB y.1.1 y.1.2.1 y.1.2.2 y_1.2.1 || refB y.1.1 y.1.2.1 y.1.2.2 (y_1.2.1 ++ (y_2.1 - 1) :: NilL Int) != refB y.1.1 y.1.2.1 y.1.2.2 (y_1.2.1 ++ (y_2.1 - 1) :: NilL Int)) = false) ∧ ((vokB y.1.1 y.1.2.1 y.1.2.2 != vokB y.1.1 y.1.2.1 y.1.2.2 || refB y.1.1 y.1.2.1 y.1.2.2 y_1.2.1 != refB y.1.1 y.1.2.1 y.1.2.2 y_1.2.1 || refB y.1.1 y.1.2.1 y.1.2.2 (y_1.2.1 ++ (y_2.1 - 1) :: NilL Int) != refB y.1.1 y.1.2.1 y.1.2.2 (y_1.2.1 ++ (y_2.1 - 1) :: NilL Int)) = false → (vokB y.1.1 y.1.2.1 y.1.2.2 != vokB y.1.1 y.1.2.1 y.1.2.2 || refB y.1.1 y.1.2.1 y.1.2.2 y_1.2.1 != refB y.1.1 y.1.2.1 y.1.2.2 y_1.2.1 || refB y.1.1 y.1.2.1 y.1.2.2 (y_1.2.1 ++ (y_2.1 - 1) :: NilL Int) != refB y.1.1 y.1.2.1 y.1.2.2 (y_1.2.1 ++ (y_2.1 - 1) :: NilL Int)) = false) ∧ ((vokB y.1.1 y.1.2.1 y.1.2.2 != vokB y.1.1 y.1.2.1 y.1.2.2 || refB y.1.1 y.1.2.1 y.1.2.2 y_1.2.1 != refB y.1.1 y.1.2.1 y.1.2.2 y_1.2.1 || refB y.1.1 y.1.2.1 y.1.2.2 (y_1.2.1 ++ (y_2.1 - 1) :: NilL Int) != refB y.1.1 y.1.2.1 y.1.2.2 (y_1.2.1 ++ (y_2.1 - 1) :: NilL Int) || refB y.1.1 y.1.2.1 y.1.2.2 set != refB y.1.1 y.1.2.1 y.1.2.2 set) = true → ∃ (y : Unit), True ∧ false = true) ∧ ((vokB y.1.1 y.1.2.1 y.1.2.2 != vokB y.1.1 y.1.2.1 y.1.2.2 || refB y.1.1 y.1.2.1 y.1.2.2 y_1.2.1 != refB y.1.1 y.1.2.1 y.1.2.2 y_1.2.1 || refB y.1.1 y.1.2.1 y.1.2.2 (y_1.2.1 ++ (y_2.1 - 1) :: NilL Int) != refB y.1.1 y.1.2.1 y.1.2.2 (y_1.2.1 ++ (y_2.1 - 1) :: NilL Int) || refB y.1.1 y.1.2.1 y.1.2.2 set != refB y.1.1 y.1.2.1 y.1.2.2 set) = false → i64R (x.1 + 1) ∧ ∃ (x' : Int × Int), ((0 ≤ x'.1 ∧ x'.1 ≤ 3) ∧ DOK (L, x'.2)) ∧ (3 - x'.1).toNat < (3 - x.1).toNat ∧ x.1 + 1 = x'.1 ∧ L = L ∧ y_2.2 = x'.2))) ∧ (decide (x.1 < 3) = false → True ∧ ∃ (y : Unit), True ∧ true = true)))) = sLaw28C.vc (EV Try.prog [(9, sLight.spec), (10, sSane.spec), (11, sRoll.spec), (12, sDem.spec), (13, sPlace.spec), (14, sNext.spec), (19, sPick.spec), (24, sChk.spec), (25, sChk.spec), (23, sLoad.spec), (26, sLoad.spec), (15, sMoves.spec), (27, sMoves.spec), (18, sValid.spec), (28, sValid.spec), (29, sRef.spec), (30, sRef.spec)] (invsS [(4, inv8a sp), (11, inv8b L), (20, inv8c)]) (invsS [(19, jn8a L), (22, jn8b)])) Try.f8 (L, sp, set, ()) := by kernel_rfl
  rw [← e]
  clear e
  simp only [imp_self, true_and, and_true, exists_const, implies_true]
  try simp only [Prod.forall, Prod.exists, not_true_eq_false, or_false, forall_const, true_and, and_true, i64R, Int.reduceLE, Int.reduceLT, Int.reduceNeg, false_implies, decide_eq_true_eq, decide_eq_false_iff_not, Bool.not_eq_true', Bool.not_eq_false', Bool.false_eq_true, Bool.or_eq_true, Bool.or_eq_false_iff ]
  try simp only [NilL_eq]
  intro hL
  obtain ⟨⟨hL1, hL2⟩, hL3⟩ := hL
  have hd : ∀ j : Int, 0 ≤ j → j ≤ L.length → DOK (L, j) := fun j h1 h2 => ⟨h1, h2, by show L.length ≤ 600; omega⟩
  refine ⟨⟨0, ⟨by omega, fun j hj => by simp at hj⟩, rfl⟩, fun x hx => ⟨fun hlt => ⟨by omega, fun hp => ⟨by omega, x + 1, ⟨by omega, fun j hj => ?_⟩, by omega, rfl⟩⟩, fun hge => ?_⟩⟩
  · by_cases e : j = x.toNat
    · rw [e]; omega
    · exact hx.2 j (by omega)
  have hsp : SB sp := ⟨by omega, fun k => by
    by_cases c : k < sp.length
    · have := hx.2 k (by omega); omega
    · have e : spA sp k = ⟨0, 0, 0⟩ := by
        unfold spA
        rw [List.getD_eq_getElem?_getD, List.getElem?_eq_none (by omega)]; rfl
      rw [e]; decide⟩
  refine ⟨⟨0, 0, ⟨by omega, hd _ (by omega) (by omega)⟩, rfl, rfl⟩, fun a b hab hlt => ⟨hab.2, fun C A cap k1 hM => ?_⟩⟩
  obtain ⟨hM, m0, m1⟩ := hM
  have k0 : 0 ≤ b := hab.2.lo
  have hv : VOK C A cap := hM.vok
  refine ⟨hv.sml, fun p n e hP => ?_⟩
  obtain ⟨p1, p2, p3, p4⟩ := hP.sb
  have p1 : SB p := p1
  have p2 : p.length ≤ 512 := p2
  have p4 : n.length ≤ 8 := p4
  refine ⟨by omega, ⟨fun hp => ⟨⟨hd _ (by omega) (by omega), by omega⟩, fun i k2 hi => ?_⟩, fun _ => ⟨p, k1, ⟨p1, hd _ (by omega) (by omega)⟩, rfl, rfl⟩⟩, fun q k3 hq => ?_⟩
  · have hi1 := hi.1 (by omega)
    refine ⟨by omega, ⟨hd _ (by omega) (by omega), by simp, by simp⟩, fun g k4 h4 => ⟨⟨hd _ (by omega) (by omega), by simp, by simp⟩, fun nd k5 h5 => ⟨?_, ⟨hd _ (by omega) (by omega), by simp, by simp⟩, fun pg k6 h6 => ⟨_, k6, ⟨?_, hd _ (by omega) (by omega)⟩, rfl, rfl⟩⟩⟩⟩
    · have := p1.pg i.toNat; omega
    · have hm := h6.1
      simp only [List.mem_cons, List.not_mem_nil, or_false] at hm
      have hu : (spA p i.toNat).pages ≤ 16777216 := p3 i.toNat
      have hl := p1.pg i.toNat
      have hi2 : i.toNat < p.length := by omega
      have hpg : -2199023255552 ≤ pg ∧ pg ≤ 2199023255552 := by omega
      have s1 := p1.set hi2 (x := ⟨g, (spA p i.toNat).node, (spA p i.toNat).pages⟩) (p1.pg i.toNat)
      have s2 := s1.set (i := i.toNat) (by rw [List.length_set]; exact hi2) (x := ⟨(spA (p.set i.toNat ⟨g, (spA p i.toNat).node, (spA p i.toNat).pages⟩) i.toNat).grp, nd, (spA (p.set i.toNat ⟨g, (spA p i.toNat).node, (spA p i.toNat).pages⟩) i.toNat).pages⟩) (s1.pg i.toNat)
      exact s2.set (x := ⟨_, _, pg⟩) (by rw [List.length_set, List.length_set]; exact hi2) hpg
  obtain ⟨hq, hk⟩ := hq
  have q0 : 0 ≤ k3 := hk.lo
  refine ⟨⟨0, by omega, rfl⟩, fun c hc => ⟨fun hc3 => ⟨⟨by omega, _, ?_, rfl⟩, fun s hs => ⟨⟨hv.sml, hs⟩, ⟨hv.sml, hs⟩, fun _ => hs, fun _ => hs, fun _ => ⟨p1, hs⟩, fun _ => ⟨p1, hs⟩, fun _ => ⟨hs, p1⟩, fun _ => ⟨hs, p1⟩, fun h => by simp at h, fun _ => ⟨by omega, c + 1, by omega, by omega, rfl⟩⟩⟩, fun hc3 => ⟨by omega, hk, fun v k4 h4 => ⟨by omega, by simp; omega, hv.sml, hv.sml, fun _ => ⟨hv.sml, by omega⟩, fun _ => ⟨hv.sml, by omega⟩, fun _ => ⟨hv.sml, by simp; omega⟩, fun _ => ⟨hv.sml, by simp; omega⟩, fun _ => ⟨hv.sml, by omega⟩, fun _ => ⟨hv.sml, by omega⟩, fun h => by simp at h, fun _ => ⟨by omega, a + 1, k4, ⟨by omega, hd _ (by omega) (by omega)⟩, by omega, rfl, rfl⟩⟩⟩⟩⟩
  have : c.toNat = 0 ∨ c.toNat = 1 ∨ c.toNat = 2 := by omega
  rcases this with e | e | e <;> rw [e]
  · exact p1
  · exact hq
  · exact hsp
end Go.Proofs.Ytompifpamldjaaa
namespace Go.Proofs.Ytompifpamldjaaa
open Go Go.RowKit
set_option linter.unusedVariables false
set_option maxRecDepth 100000 in
theorem ok32 : Callable Try.prog 32 ∧ Valid Try.prog 32 sSearch.spec :=
  AllOK.head (AllOK.fD mixed (AllOK.nil Try.prog) Try.func32 (by kernel_rfl) sSearch [22] (fun x => (invsS [(3, inv32a x.1.a x.1.l), (8, inv32b x.1.a x.1.l), (13, inv32c x.1.a x.1.l x.1.m x.2.1), (17, inv32d x.1.a x.1.l x.1.m x.2.1), (24, inv32e x.1.a x.1.l x.1.m x.2.1)])) (fun x => noInv) fun x h => vc32 x.1.a x.1.l x.1.m x.2.1 h)
set_option maxRecDepth 100000 in
theorem ok33 : Callable Try.prog 33 ∧ Valid Try.prog 33 sPush.spec :=
  AllOK.head (AllOK.fD mixed (AllOK.nil Try.prog) Try.func33 (by kernel_rfl) sPush [22] (fun x => (invsS [(3, inv33a x.1.a x.1.l x.1.m x.2.1.1 x.2.1.2 x.2.2.1 x.2.2.2.1 x.2.2.2.2.1), (9, inv33b x.1.a x.1.l x.1.m x.2.1.1 x.2.1.2 x.2.2.1 x.2.2.2.1)])) (fun x => noInv) fun x h => vc33 x.1.a x.1.l x.1.m x.2.1.1 x.2.1.2 x.2.2.1 x.2.2.2.1 x.2.2.2.2.1 h)
set_option maxRecDepth 100000 in
theorem ok36 : Callable Try.prog 36 ∧ Valid Try.prog 36 sPages.spec :=
  AllOK.head (AllOK.d mixed (AllOK.nil Try.prog) Try.func36 (by kernel_rfl) sPages (fun x => noInv) (fun x => noInv) fun x h => vc36 x.1 h)
set_option maxRecDepth 100000 in
theorem ok37 : Callable Try.prog 37 ∧ Valid Try.prog 37 sAsc.spec :=
  AllOK.head (AllOK.d mixed (AllOK.nil Try.prog) Try.func37 (by kernel_rfl) sAsc (fun x => (invsS [(2, inv37 x.1 x.2.1)])) (fun x => noInv) fun x h => vc37 x.1 x.2.1 h)
set_option maxRecDepth 100000 in
theorem ok31 : Callable Try.prog 31 ∧ Valid Try.prog 31 sClone.spec :=
  AllOK.head (AllOK.d mixed (AllOK.nil Try.prog) Try.func31 (by kernel_rfl) sClone (fun x => noInv) (fun x => noInv) fun x h => vc31 x.1 h)
set_option maxRecDepth 100000 in
theorem ok18 : Callable Try.prog 18 ∧ Valid Try.prog 18 sValid.spec :=
  AllOK.head (AllOK.d mixed (((AllOK.nil Try.prog).and ok37).and ok36) Try.func18 (by kernel_rfl) sValid (fun x => (invsS [(4, inv18a x.2.2.1), (10, inv18b x.1 x.2.1 x.2.2.1)])) (fun x => noInv) fun x h => vc18 x.1 x.2.1 x.2.2.1 h)
set_option maxRecDepth 100000 in
theorem ok13 : Callable Try.prog 13 ∧ Valid Try.prog 13 sPlace.spec :=
  AllOK.head (AllOK.fD mixed (((((AllOK.nil Try.prog).and ok33).and ok32).and ok31).and ok18) Try.func13 (by kernel_rfl) sPlace [22] (fun x => (invsS [(5, inv13a x.1 x.2.1 x.2.2.1), (9, inv13b x.1 x.2.1 x.2.2.1), (12, inv13c x.1 x.2.1 x.2.2.1), (17, inv13d), (27, inv13e x.1 x.2.1 x.2.2.1), (30, inv13f x.1 x.2.1 x.2.2.1)])) (fun x => noInv) fun x h => vc13 x.1 x.2.1 x.2.2.1 h)
set_option maxRecDepth 100000 in
theorem ok14 : Callable Try.prog 14 ∧ Valid Try.prog 14 sNext.spec :=
  AllOK.head (AllOK.f mixed (AllOK.nil Try.prog) Try.func14 (by kernel_rfl) sNext (fun x => noInv) (fun x => noInv) fun x h => vc14 x.1.1 x.1.2 x.2.1 h)
set_option maxRecDepth 100000 in
theorem ok11 : Callable Try.prog 11 ∧ Valid Try.prog 11 sRoll.spec :=
  AllOK.head (AllOK.d mixed (AllOK.nil Try.prog) Try.func11 (by kernel_rfl) sRoll (fun x => noInv) (fun x => noInv) fun x h => vc11 x.1 h)
set_option maxRecDepth 100000 in
theorem ok9 : Callable Try.prog 9 ∧ Valid Try.prog 9 sLight.spec :=
  AllOK.head (AllOK.d mixed (AllOK.nil Try.prog) Try.func9 (by kernel_rfl) sLight (fun x => noInv) (fun x => noInv) fun x h => vc9 x.1 h)
set_option maxRecDepth 100000 in
theorem ok40 : Callable Try.prog 40 ∧ Valid Try.prog 40 sBool.spec :=
  AllOK.head (AllOK.f mixed ((AllOK.nil Try.prog).and ok14) Try.func40 (by kernel_rfl) sBool (fun x => noInv) (fun x => noInv) fun x h => vc40 x.1.1 x.1.2 x.2.1 h)
set_option maxRecDepth 100000 in
theorem ok19 : Callable Try.prog 19 ∧ Valid Try.prog 19 sPick.spec :=
  AllOK.head (AllOK.f mixed ((AllOK.nil Try.prog).and ok14) Try.func19 (by kernel_rfl) sPick (fun x => noInv) (fun x => noInv) fun x h => vc19 x.1.1 x.1.2 x.2.1 h)
set_option maxRecDepth 100000 in
theorem ok46 : Callable Try.prog 46 ∧ Valid Try.prog 46 sHasI.spec :=
  AllOK.head (AllOK.d mixed (AllOK.nil Try.prog) Try.func46 (by kernel_rfl) sHasI (fun x => (invs [(2, inv46 x.1 x.2.1)])) (fun x => noInv) fun x h => vc46 x.1 x.2.1 h)
set_option maxRecDepth 100000 in
theorem ok50 : Callable Try.prog 50 ∧ Valid Try.prog 50 sIdxI.spec :=
  AllOK.head (AllOK.d mixed (AllOK.nil Try.prog) Try.func50 (by kernel_rfl) sIdxI (fun x => (invs [(2, inv50 x.1 x.2.1)])) (fun x => noInv) fun x h => vc50 x.1 x.2.1 h)
set_option maxRecDepth 100000 in
theorem ok43 : Callable Try.prog 43 ∧ Valid Try.prog 43 sHasI.spec :=
  AllOK.head (AllOK.d mixed ((AllOK.nil Try.prog).and ok50) Try.func43 (by kernel_rfl) sHasI (fun x => noInv) (fun x => noInv) fun x h => vc43 x.1 x.2.1 h)
set_option maxRecDepth 100000 in
theorem ok39 : Callable Try.prog 39 ∧ Valid Try.prog 39 sSorted.spec :=
  AllOK.head (AllOK.f mixed (AllOK.nil Try.prog) Try.func39 (by kernel_rfl) sSorted (fun x => (invsS [(3, inv39a x.1), (6, inv39b x.1)])) (fun x => noInv) fun x h => vc39 x.1 h)
set_option maxRecDepth 100000 in
theorem ok22 : Callable Try.prog 22 ∧ Valid Try.prog 22 sSetD.spec :=
  AllOK.head (AllOK.f mixed ((AllOK.nil Try.prog).and ok40) Try.func22 (by kernel_rfl) sSetD (fun x => (invs [(3, inv22 x.1.1 x.1.2 x.2.1)])) (fun x => noInv) fun x h => vc22 x.1.1 x.1.2 x.2.1 h)
set_option maxRecDepth 100000 in
theorem ok47 : Callable Try.prog 47 ∧ Valid Try.prog 47 sAsc3.spec :=
  AllOK.head (AllOK.d mixed (AllOK.nil Try.prog) Try.func47 (by kernel_rfl) sAsc3 (fun x => (invsS [(2, inv47 x.1 x.2.1)])) (fun x => noInv) fun x h => vc47 x.1 x.2.1 h)
set_option maxRecDepth 100000 in
theorem ok53 : Callable Try.prog 53 ∧ Valid Try.prog 53 sMinus.spec :=
  AllOK.head (AllOK.f mixed (((AllOK.nil Try.prog).and ok39).and ok46) Try.func53 (by kernel_rfl) sMinus (fun x => (invsS [(3, inv53 x.1 x.2.1)])) (fun x => noInv) fun x h => vc53 x.1 x.2.1 h)
set_option maxRecDepth 100000 in
theorem ok52 : Callable Try.prog 52 ∧ Valid Try.prog 52 sWithin.spec :=
  AllOK.head (AllOK.d mixed ((AllOK.nil Try.prog).and ok53) Try.func52 (by kernel_rfl) sWithin (fun x => noInv) (fun x => noInv) fun x h => vc52 x.1 x.2.1 h)
set_option maxRecDepth 100000 in
theorem ok21 : Callable Try.prog 21 ∧ Valid Try.prog 21 sUnion.spec :=
  AllOK.head (AllOK.f mixed ((AllOK.nil Try.prog).and ok39) Try.func21 (by kernel_rfl) sUnion (fun x => noInv) (fun x => noInv) fun x h => vc21 x.1 x.2.1 h)
set_option maxRecDepth 100000 in
theorem ok16 : Callable Try.prog 16 ∧ Valid Try.prog 16 sSameS.spec :=
  AllOK.head (AllOK.d mixed (AllOK.nil Try.prog) Try.func16 (by kernel_rfl) sSameS (fun x => (invsS [(4, inv16 x.1 x.2.1)])) (fun x => noInv) fun x h => vc16 x.1 x.2.1 h)
set_option maxRecDepth 100000 in
theorem ok17 : Callable Try.prog 17 ∧ Valid Try.prog 17 sSameI.spec :=
  AllOK.head (AllOK.d mixed (AllOK.nil Try.prog) Try.func17 (by kernel_rfl) sSameI (fun x => (invsS [(4, inv17 x.1 x.2.1)])) (fun x => noInv) fun x h => vc17 x.1 x.2.1 h)
set_option maxRecDepth 100000 in
theorem ok23 : Callable Try.prog 23 ∧ Valid Try.prog 23 sLoad.spec :=
  AllOK.head (AllOK.d mixed (AllOK.nil Try.prog) Try.func23 (by kernel_rfl) sLoad (fun x => (invsS [(3, inv23 x.1 x.2.1)])) (fun x => noInv) fun x h => vc23 x.1 x.2.1 h)
set_option maxRecDepth 100000 in
theorem ok26 : Callable Try.prog 26 ∧ Valid Try.prog 26 sLoad.spec :=
  AllOK.head (AllOK.d mixed (AllOK.nil Try.prog) Try.func26 (by kernel_rfl) sLoad (fun x => (invsS [(3, inv26 x.1 x.2.1)])) (fun x => noInv) fun x h => vc26 x.1 x.2.1 h)
set_option maxRecDepth 100000 in
theorem ok35 : Callable Try.prog 35 ∧ Valid Try.prog 35 sEqS.spec :=
  AllOK.head (AllOK.d mixed (AllOK.nil Try.prog) Try.func35 (by kernel_rfl) sEqS (fun x => noInv) (fun x => noInv) fun x h => vc35 x.1.grp x.1.node x.1.pages x.2.1.grp x.2.1.node x.2.1.pages h)
set_option maxRecDepth 100000 in
theorem ok34 : Callable Try.prog 34 ∧ Valid Try.prog 34 sIdxS.spec :=
  AllOK.head (AllOK.d mixed ((AllOK.nil Try.prog).and ok35) Try.func34 (by kernel_rfl) sIdxS (fun x => (invsS [(2, inv34 x.1 x.2.1.grp x.2.1.node)])) (fun x => noInv) fun x h => vc34 x.1 x.2.1.grp x.2.1.node x.2.1.pages h)
set_option maxRecDepth 100000 in
theorem ok42 : Callable Try.prog 42 ∧ Valid Try.prog 42 sEqC.spec :=
  AllOK.head (AllOK.d mixed (AllOK.nil Try.prog) Try.func42 (by kernel_rfl) sEqC (fun x => noInv) (fun x => noInv) fun x h => vc42 x.1.grp x.1.own x.2.1.grp x.2.1.node x.2.1.pages h)
set_option maxRecDepth 100000 in
theorem ok41 : Callable Try.prog 41 ∧ Valid Try.prog 41 sIdxC.spec :=
  AllOK.head (AllOK.d mixed ((AllOK.nil Try.prog).and ok42) Try.func41 (by kernel_rfl) sIdxC (fun x => (invsS [(2, inv41 x.1 x.2.1.grp)])) (fun x => noInv) fun x h => vc41 x.1 x.2.1.grp x.2.1.node x.2.1.pages h)
set_option maxRecDepth 100000 in
theorem ok45 : Callable Try.prog 45 ∧ Valid Try.prog 45 sPosX.spec :=
  AllOK.head (AllOK.d mixed (AllOK.nil Try.prog) Try.func45 (by kernel_rfl) sPosX (fun x => noInv) (fun x => noInv) fun x h => vc45 x.1 h)
set_option maxRecDepth 100000 in
theorem ok51_sIdxP : Callable Try.prog 51 ∧ Valid Try.prog 51 sIdxP.spec :=
  AllOK.head (AllOK.d mixed ((AllOK.nil Try.prog).and ok45) Try.func51 (by kernel_rfl) sIdxP (fun x => (invsS [(2, inv51p x.1)])) (fun x => noInv) fun x h => vc51p x.1 h)
set_option maxRecDepth 100000 in
theorem ok44_sConP : Callable Try.prog 44 ∧ Valid Try.prog 44 sConP.spec :=
  AllOK.head (AllOK.d mixed ((AllOK.nil Try.prog).and ok51_sIdxP) Try.func44 (by kernel_rfl) sConP (fun x => noInv) (fun x => noInv) fun x h => vc44p x.1 h)
set_option maxRecDepth 100000 in
theorem ok48 : Callable Try.prog 48 ∧ Valid Try.prog 48 sOutX.spec :=
  AllOK.head (AllOK.d mixed ((AllOK.nil Try.prog).and ok43) Try.func48 (by kernel_rfl) sOutX (fun x => noInv) (fun x => noInv) fun x h => vc48 x.1 x.2.1 h)
set_option maxRecDepth 100000 in
theorem ok51_sIdxO : Callable Try.prog 51 ∧ Valid Try.prog 51 sIdxO.spec :=
  AllOK.head (AllOK.d mixed ((AllOK.nil Try.prog).and ok48) Try.func51 (by kernel_rfl) sIdxO (fun x => (invsS [(2, inv51o x.1 x.2.1)])) (fun x => noInv) fun x h => vc51o x.1 x.2.1 h)
set_option maxRecDepth 100000 in
theorem ok44_sConO : Callable Try.prog 44 ∧ Valid Try.prog 44 sConO.spec :=
  AllOK.head (AllOK.d mixed ((AllOK.nil Try.prog).and ok51_sIdxO) Try.func44 (by kernel_rfl) sConO (fun x => noInv) (fun x => noInv) fun x h => vc44o x.1 x.2.1 h)
set_option maxRecDepth 100000 in
theorem ok15 : Callable Try.prog 15 ∧ Valid Try.prog 15 sMoves.spec :=
  AllOK.head (AllOK.d mixed ((AllOK.nil Try.prog).and ok34) Try.func15 (by kernel_rfl) sMoves (fun x => (invsS [(3, inv15 x.1 x.2.1)])) (fun x => noInv) fun x h => vc15 x.1 x.2.1 h)
set_option maxRecDepth 100000 in
theorem ok27 : Callable Try.prog 27 ∧ Valid Try.prog 27 sMoves.spec :=
  AllOK.head (AllOK.d mixed (AllOK.nil Try.prog) Try.func27 (by kernel_rfl) sMoves (fun x => (invsS [(3, inv27a x.1 x.2.1), (7, inv27b x.1 x.2.1)])) (fun x => noInv) fun x h => vc27 x.1 x.2.1 h)
set_option maxRecDepth 100000 in
theorem ok12 : Callable Try.prog 12 ∧ Valid Try.prog 12 sDem.spec :=
  AllOK.head (AllOK.f mixed ((((AllOK.nil Try.prog).and ok22).and ok19).and ok14) Try.func12 (by kernel_rfl) sDem (fun x => (invsS [(3, inv12a x.1.1 x.1.2), (10, inv12b x.1.1 x.1.2)])) (fun x => noInv) fun x h => vc12 x.1.1 x.1.2 h)
set_option maxRecDepth 100000 in
theorem ok10 : Callable Try.prog 10 ∧ Valid Try.prog 10 sSane.spec :=
  AllOK.head (AllOK.d mixed (((((AllOK.nil Try.prog).and ok15).and ok17).and ok16).and ok13) Try.func10 (by kernel_rfl) sSane (fun x => noInv) (fun x => noInv) fun x h => vc10 () h)
set_option maxRecDepth 100000 in
theorem ok28 : Callable Try.prog 28 ∧ Valid Try.prog 28 sValid.spec :=
  AllOK.head (AllOK.d mixed ((AllOK.nil Try.prog).and ok47) Try.func28 (by kernel_rfl) sValid (fun x => (invsS [(4, inv28a x.2.2.1), (9, inv28b x.1 x.2.1 x.2.2.1)])) (fun x => noInv) fun x h => vc28 x.1 x.2.1 x.2.2.1 h)
set_option maxRecDepth 100000 in
theorem ok29 : Callable Try.prog 29 ∧ Valid Try.prog 29 sRef.spec :=
  AllOK.head (AllOK.d mixed ((((AllOK.nil Try.prog).and ok44_sConO).and ok37).and ok18) Try.func29 (by kernel_rfl) sRef (fun x => (invsS [(5, inv29a x.1 x.2.1 x.2.2.1 x.2.2.2.1), (11, inv29b x.1 x.2.1 x.2.2.1 x.2.2.2.1)])) (fun x => noInv) fun x h => vc29 x.1 x.2.1 x.2.2.1 x.2.2.2.1 h)
set_option maxRecDepth 100000 in
theorem ok49 : Callable Try.prog 49 ∧ Valid Try.prog 49 sRefV.spec :=
  AllOK.head (AllOK.d mixed ((AllOK.nil Try.prog).and ok52) Try.func49 (by kernel_rfl) sRefV (fun x => (invsS [(3, inv49a x.1 x.2.1 x.2.2.1 x.2.2.2.1), (8, inv49b x.1 x.2.1 x.2.2.1 x.2.2.2.1)])) (fun x => noInv) fun x h => vc49 x.1 x.2.1 x.2.2.1 x.2.2.2.1 h)
set_option maxRecDepth 100000 in
theorem ok30 : Callable Try.prog 30 ∧ Valid Try.prog 30 sRef.spec :=
  AllOK.head (AllOK.d mixed ((((AllOK.nil Try.prog).and ok49).and ok47).and ok28) Try.func30 (by kernel_rfl) sRef (fun x => noInv) (fun x => noInv) fun x h => vc30 x.1 x.2.1 x.2.2.1 x.2.2.2.1 h)
set_option maxRecDepth 100000 in
theorem ok24 : Callable Try.prog 24 ∧ Valid Try.prog 24 sChk.spec :=
  AllOK.head (AllOK.d mixed ((((((AllOK.nil Try.prog).and ok44_sConP).and ok43).and ok41).and ok31).and ok18) Try.func24 (by kernel_rfl) sChk (fun x => (invsS [(6, inv24a x.1 x.2.2.1), (11, inv24b x.1 x.2.1 x.2.2.1 x.2.2.2.1)])) (fun x => noInv) fun x h => vc24 x.1 x.2.1 x.2.2.1 x.2.2.2.1 h)
set_option maxRecDepth 100000 in
theorem ok25 : Callable Try.prog 25 ∧ Valid Try.prog 25 sChk.spec :=
  AllOK.head (AllOK.d mixed (((AllOK.nil Try.prog).and ok46).and ok28) Try.func25 (by kernel_rfl) sChk (fun x => (invsS [(6, inv25a x.1 x.2.1 x.2.2.1 x.2.2.2.1), (10, inv25b x.1 x.2.1 x.2.2.1 x.2.2.2.1), (17, inv25c x.1 x.2.2.1), (22, inv25d x.1)])) (fun x => noInv) fun x h => vc25 x.1 x.2.1 x.2.2.1 x.2.2.2.1 h)


set_option maxRecDepth 100000 in
theorem walk8 (a0 : Option Addr) (len0 cap0 : Nat) (z0 : List Int) (a1 : Option Addr) (cap1 : Nat) (d : List Spt) (a2 : Option Addr) (len2 cap2 : Nat) (z2 : List Int) (w : World) (w0 : IsRow .i64 w a0 len0 cap0 z0) (hd : d.length ≤ maxLen) (hdr : VRel w (S0 w) μ0 (.irec true 5 d) (.slice a1 d.length cap1)) (w2 : IsRow .i64 w a2 len2 cap2 z2) :
    Calls Try.prog 8 #[.slice a0 len0 cap0, .slice a1 d.length cap1, .slice a2 len2 cap2] w fun e w' => e = .returned (.bool true) ∧ Below w.heap.size w w' :=
  law_ofD (EV Try.prog [(9, sLight.spec), (10, sSane.spec), (11, sRoll.spec), (12, sDem.spec), (13, sPlace.spec), (14, sNext.spec), (19, sPick.spec), (24, sChk.spec), (25, sChk.spec), (23, sLoad.spec), (26, sLoad.spec), (15, sMoves.spec), (27, sMoves.spec), (18, sValid.spec), (28, sValid.spec), (29, sRef.spec), (30, sRef.spec)] (invsS [(4, inv8a d), (11, inv8b (z0.take len0)), (20, inv8c)]) (invsS [(19, jn8a (z0.take len0)), (22, jn8b)])) ((((((((((((((((((AllOK.nil Try.prog).and ok30).and ok29).and ok28).and ok18).and ok27).and ok15).and ok26).and ok23).and ok25).and ok24).and ok19).and ok14).and ok13).and ok12).and ok11).and ok10).and ok9) mixed Try.func8 (avs := [.irec true 0 (z0.take len0), .irec true 5 d, .irec true 0 (z2.take len2)]) (xs := [.slice a0 len0 cap0, .slice a1 d.length cap1, .slice a2 len2 cap2]) (.cons (row_rel w0) (.cons hdr (.cons (row_rel w2) .nil))) (vc8 (z0.take len0) d (z2.take len2) trivial) rfl rfl rfl rfl
end Go.Proofs.Ytompifpamldjaaa
