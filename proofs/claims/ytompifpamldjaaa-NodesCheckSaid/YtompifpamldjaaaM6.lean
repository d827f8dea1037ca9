/-
  Lemmas and contracts on the way to the laws of this seat; each theorem states its own conditions, and there are no others.
-/
import Derived.Test.YtompifpamldjaaaM5
namespace Go.Proofs.Ytompifpamldjaaa
set_option linter.unusedVariables false
set_option linter.unusedSimpArgs false
set_option linter.unusedVariables false

/-- The spots of a demand, of its first t nodes. -/
def spotsR (g : Int) (row : List Int) : Nat → List Spt
  | 0 => []
  | t + 1 => spotsR g row t ++ if 0 < nth row t then [⟨g, (t : Int), nth row t⟩] else []
/-- The spots of the first i demands. -/
def allS (C : List Chg) (M : List (List Int)) (n : Nat) : Nat → List Spt
  | 0 => []
  | i + 1 => allS C M n i ++ spotsR (grpAt C i) (rowAt M i) n
/-- What lies where, of a placement. -/
structure Plc (C : List Chg) (A : List NSet) (cap : List Int) (M : List (List Int)) : Prop where
  row : ∀ i, i < C.length → (rowAt M i).length = cap.length
  lm : M.length = C.length
  m0 : ∀ i j, 0 ≤ nth (rowAt M i) j
  ms : ∀ i j, 0 < nth (rowAt M i) j → (j : Int) ∈ nodesAt A i
  rs : ∀ i, i < C.length → (rowAt M i).sum = ownAt C i
  cs : ∀ j, colS M j ≤ nth cap j
def IsPl (C : List Chg) (A : List NSet) (cap : List Int) (l : List Spt) : Prop := ∃ M, Plc C A cap M ∧ l = allS C M cap.length C.length
/-- What Place gives. -/
def PlaceR (C : List Chg) (A : List NSet) (cap : List Int) (y : List Spt × List Int × Int) : Prop :=
  (¬ VOK C A cap ∧ y = ([], [], 1)) ∨ (VOK C A cap ∧ IsPl C A cap y.1 ∧ y.2.1 = [] ∧ y.2.2 = 0) ∨ (VOK C A cap ∧ y.1 = [] ∧ IsRef C A cap y.2.1 ∧ y.2.2 = 20)
end Go.Proofs.Ytompifpamldjaaa
