/-
  Lemmas and contracts on the way to the laws of this seat; each theorem states its own conditions, and there are no others.
-/
import Derived.Test.YtompifpamldjaaaM3
namespace Go.Proofs.Ytompifpamldjaaa
set_option linter.unusedVariables false
set_option linter.unusedSimpArgs false
set_option linter.unusedVariables false

def grpAt (C : List Chg) (i : Nat) : Int := (C.getD i (dfl 3)).grp
def ownAt (C : List Chg) (i : Nat) : Int := (C.getD i (dfl 3)).own
def setAt (A : List NSet) (i : Nat) : Int := (A.getD i (dfl 4)).grp
/-- A number in its place among ascending ones. -/
def ascO (n : Int) (l : List Int) (i : Nat) : Prop := 0 ≤ nth l i ∧ nth l i < n ∧ (0 < i → nth l (i - 1) < nth l i)
def Asc (l : List Int) (n : Int) : Prop := ∀ i, i < l.length → ascO n l i
open Classical in
noncomputable def ascB (l : List Int) (n : Int) : Bool := decide (Asc l n)
theorem ascB_t {l : List Int} {n : Int} : ascB l n = true ↔ Asc l n := @decide_eq_true_iff _ (Classical.propDecidable _)
theorem ascB_f {l : List Int} {n : Int} : ascB l n = false ↔ ¬ Asc l n := @decide_eq_false_iff_not _ (Classical.propDecidable _)
def chgO (C : List Chg) (A : List NSet) (n : Int) (i : Nat) : Prop := 1 ≤ grpAt C i ∧ (0 < i → grpAt C (i - 1) < grpAt C i) ∧ 1 ≤ ownAt C i ∧ ownAt C i ≤ 16777216 ∧ setAt A i = grpAt C i ∧ nodesAt A i ≠ [] ∧ Asc (nodesAt A i) n
/-- Demands, sets and capacities that are valid. -/
structure VOK (C : List Chg) (A : List NSet) (cap : List Int) : Prop where
  c1 : 1 ≤ cap.length
  c8 : cap.length ≤ 8
  d64 : C.length ≤ 64
  la : A.length = C.length
  cp : ∀ j, j < cap.length → 0 ≤ nth cap j ∧ nth cap j ≤ 16777216
  chg : ∀ i, i < C.length → chgO C A cap.length i
open Classical in
noncomputable def vokB (C : List Chg) (A : List NSet) (cap : List Int) : Bool := decide (VOK C A cap)
theorem vokB_t {C : List Chg} {A : List NSet} {cap : List Int} : vokB C A cap = true ↔ VOK C A cap := @decide_eq_true_iff _ (Classical.propDecidable _)
theorem vokB_f {C : List Chg} {A : List NSet} {cap : List Int} : vokB C A cap = false ↔ ¬ VOK C A cap := @decide_eq_false_iff_not _ (Classical.propDecidable _)
theorem Asc.mono {l : List Int} {n : Int} (h : Asc l n) : ∀ i j, i < j → j < l.length → nth l i < nth l j := fun i j hij => by
  induction j with
  | zero => omega
  | succ j ih =>
    intro hj
    have h1 := (h (j + 1) hj).2.2 (by omega)
    rw [Nat.add_sub_cancel] at h1
    by_cases e : i = j
    · rw [e]; exact h1
    · have := ih (by omega) (by omega); omega
theorem Asc.len {l : List Int} {n : Nat} (h : Asc l n) : l.length ≤ n := by
  have key : ∀ i, i < l.length → (i : Int) ≤ nth l i := fun i => by
    induction i with
    | zero => intro hi; exact (h 0 hi).1
    | succ i ih =>
      intro hi
      have := ih (by omega)
      have := h.mono i (i + 1) (by omega) hi
      omega
  rcases Nat.lt_or_ge n l.length with h1 | h1
  · have a := key n h1
    have b := (h n h1).2.1
    omega
  · exact h1
end Go.Proofs.Ytompifpamldjaaa
