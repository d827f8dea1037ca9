/-
  Lemmas and contracts on the way to the laws of this seat; each theorem states its own conditions, and there are no others.
-/
import Derived.Test.YtaipgdhaoldhjaaE29
import Derived.Test.YtaipgdhaoldhjaaM2
namespace Go.Proofs.Ytaipgdhaoldhjaa
open Go Go.RowKit
set_option linter.unusedVariables false
set_option linter.unusedSimpArgs false

def pkInts : PK (List Int) := pkL 0
def pkIntsP : PK (List Int) := pkLP 0
/-- Dice: the numbers, and the place. -/
def diceO (d : List Int × Int) : OB := .cells 41 [.irec true 0 d.1, .int .i64 d.2]
def getDice : OB → Option (List Int × Int)
  | .cells t [.irec true 0 l, .int .i64 n] => bif Nat.beq t 41 then some (l, n) else none
  | _ => none
theorem getDice_spec (o : OB) (d : List Int × Int) (h : getDice o = some d) : o = diceO d := by
  unfold getDice at h
  split at h
  · rename_i t l n
    by_cases e : Nat.beq t 41 = true
    · rw [e, cond_true] at h
      cases h
      rw [Nat.eq_of_beq_eq_true e]
      rfl
    · simp only [Bool.not_eq_true] at e
      rw [e, cond_false] at h
      cases h
  · cases h
def Sig.dice {X : Type} (s : Sig X) (hs : ∀ x, s.boxes x = []) : Sig ((List Int × Int) × X) := Sig.box getDice diceO getDice_spec s hs
abbrev one {α : Type} (k : PK α) : Sig (α × Unit) := Sig.cons k Sig.nil
abbrev two {α β : Type} (k : PK α) (k' : PK β) : Sig (α × β × Unit) := Sig.cons k (one k')
abbrev three {α β γ : Type} (k : PK α) (k' : PK β) (k'' : PK γ) : Sig (α × β × γ × Unit) := Sig.cons k (two k' k'')
abbrev four {α β γ δ : Type} (k : PK α) (k' : PK β) (k'' : PK γ) (k3 : PK δ) : Sig (α × β × γ × δ × Unit) := Sig.cons k (three k' k'' k3)
abbrev nou {X : Type} : X → List (Nat × OB) := fun _ => []

/-- The test of a range, with its bounds. -/
def getCap : AV → Option (Int × Int)
  | .fn (.func 29) [] [.ipt false [.int .i64 a] 0, .ipt false [.int .i64 b] 0] => some (a, b)
  | _ => none
def pkWithin : PK (Int × Int) where
  get := getCap
  put := fun p => .fn (.func 29) [] [.ipt false [.int .i64 p.1] 0, .ipt false [.int .i64 p.2] 0]
  ok := fun v a h w S μ x _ hx => by
    unfold getCap at h
    split at h
    · cases h; exact hx
    · cases h
/-- A bound that is looked at. -/
def getPeek : AV → Option Int
  | .ipt false [.int .i64 a] 0 => some a
  | _ => none
def pkPeek : PK Int where
  get := getPeek
  put := fun a => .ipt false [.int .i64 a] 0
  ok := fun v a h w S μ x _ hx => by
    unfold getPeek at h
    split at h
    · cases h; exact hx
    · cases h

def contB (s : St) (v : AV) : List Bool := match v with
  | .nsl => []
  | v => match contentA s.h v with
    | some ⟨1, l⟩ => l
    | _ => []
def All (p : Int → Prop) (l : List Int) : Prop := ∀ i, i < l.length → p (nth l i)
abbrev In (a b : Int) (l : List Int) : Prop := All (fun x => a ≤ x ∧ x ≤ b) l
structure InOK (w d : List Int) : Prop where
  len : w.length = d.length
  n : d.length ≤ 64
  w : In 1 10000 w
  d : In 0 65536 d
def lvl (w g : List Int) (i j : Int) : Int := if (nth g i.toNat + 1) * nth w j.toNat < (nth g j.toNat + 1) * nth w i.toNat then -1 else if (nth g i.toNat + 1) * nth w j.toNat > (nth g j.toNat + 1) * nth w i.toNat then 1 else 0
/-- The best one so far. -/
def BestTo (w n x : List Int) (k : Nat) (b : Int) : Prop :=
  (b = -1 ∧ ∀ j, j < k → ¬ nth x j < nth n j) ∨ (0 ≤ b ∧ b < k ∧ nth x b.toNat < nth n b.toNat ∧ ∀ j, j < k → j ≠ b.toNat → nth x j < nth n j → (nth x b.toNat + 1) * nth w j < (nth x j + 1) * nth w b.toNat ∨ ((nth x b.toNat + 1) * nth w j = (nth x j + 1) * nth w b.toNat ∧ b.toNat < j))
/-- Dice that can be thrown. -/
structure DOK (d : List Int × Int) : Prop where
  lo : 0 ≤ d.2
  hi : d.2 ≤ d.1.length
  len : d.1.length ≤ 600
end Go.Proofs.Ytaipgdhaoldhjaa
