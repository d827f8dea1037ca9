/-
  Lemmas and contracts on the way to the laws of this seat; each theorem states its own conditions, and there are no others.
-/
import Derived.Test.YtgaeomkjpcpogaaE29
namespace Go.Proofs.Ytgaeomkjpcpogaa
open Go Go.RowKit
set_option linter.unusedVariables false
set_option linter.unusedSimpArgs false

def pkInts : PK (List Int) := pkL 0
def pkIntsP : PK (List Int) := pkLP 0
/-- Dice: the numbers, and the place. -/
def diceO (d : List Int × Int) : OB := .cells 56 [.irec true 0 d.1, .int .i64 d.2]
def getDice : OB → Option (List Int × Int)
  | .cells t [.irec true 0 l, .int .i64 n] => bif Nat.beq t 56 then some (l, n) else none
  | _ => none
theorem getDice_spec (o : OB) (d : List Int × Int) (h : getDice o = some d) : o = diceO d := by
  unfold getDice at h
  split at h
  · rename_i t l n
    by_cases e : Nat.beq t 56 = true
    · rw [e, cond_true] at h
      cases h
      rw [Nat.eq_of_beq_eq_true e]
      rfl
    · simp only [Bool.not_eq_true] at e
      rw [e, cond_false] at h
      cases h
  · cases h
def Sig.dice {X : Type} (s : Sig X) (hs : ∀ x, s.boxes x = []) : Sig ((List Int × Int) × X) := Sig.box getDice diceO getDice_spec s hs
abbrev one {α : Type} (k : PK α) : Sig (α × Unit) := Sig.cons k Sig.nil
abbrev two {α β : Type} (k : PK α) (k' : PK β) : Sig (α × β × Unit) := Sig.cons k (one k')
abbrev three {α β γ : Type} (k : PK α) (k' : PK β) (k'' : PK γ) : Sig (α × β × γ × Unit) := Sig.cons k (two k' k'')
abbrev four {α β γ δ : Type} (k : PK α) (k' : PK β) (k'' : PK γ) (k3 : PK δ) : Sig (α × β × γ × δ × Unit) := Sig.cons k (three k' k'' k3)
abbrev nou {X : Type} : X → List (Nat × OB) := fun _ => []

/-- A step, a runner. -/
def stpV (s : Stp) : AV := .agg [.int .i64 s.k, .int .i64 s.n, .int .i64 s.a, .int .i64 s.t]
def getStp : AV → Option Stp
  | .agg [.int .i64 k, .int .i64 n, .int .i64 a, .int .i64 t] => some ⟨k, n, a, t⟩
  | _ => none
def pkStp : PK Stp where
  get := getStp
  put := stpV
  ok := fun v a h w S μ x _ hx => by
    unfold getStp at h
    split at h
    · cases h; exact hx
    · cases h
structure Run where
  t : Int
  p : Int
  a : Int
  l : Int
  s : Int
  u : Int
def runV (r : Run) : AV := .agg [.int .i64 r.t, .int .i64 r.p, .int .i64 r.a, .int .i64 r.l, .int .i64 r.s, .int .i64 r.u]
def getRun : AV → Option Run
  | .agg [.int .i64 t, .int .i64 p, .int .i64 a, .int .i64 l, .int .i64 s, .int .i64 u] => some ⟨t, p, a, l, s, u⟩
  | _ => none
def pkRun : PK Run where
  get := getRun
  put := runV
  ok := fun v a h w S μ x _ hx => by
    unfold getRun at h
    split at h
    · cases h; exact hx
    · cases h
abbrev pkProgs : PK (List (List Stp)) := pkL 4

/-- Dice that can be thrown. -/
structure DOK (d : List Int × Int) : Prop where
  lo : 0 ≤ d.2
  hi : d.2 ≤ d.1.length
  len : d.1.length ≤ 600

def inb (n a b : Int) : Bool := decide (a ≤ n) && decide (n ≤ b)
def okTicks (s : Stp) : Bool := inb s.n 1 1048576 && decide (s.a = 0) && decide (s.t = 0)
def okPages (s : Stp) : Bool := inb s.n 1 16777216 && decide (s.a = 0) && decide (s.t = 0)
def okTouch (s : Stp) : Bool := inb s.n 1 16777216 && inb s.a 1 2147483647 && decide (s.t = 0)
def okReq (s : Stp) : Bool := inb s.n 1 4096 && inb s.t 0 (16777216 - s.n) && inb s.a 0 7
def okFork (s : Stp) (n : Int) : Bool := decide (s.n = 0) && inb s.a 0 (n - 1) && decide (s.t = 0)
def okNone (s : Stp) : Bool := decide (s.n = 0) && decide (s.a = 0) && decide (s.t = 0)
def okStp (n : Int) (s : Stp) : Prop := inb s.k 1 12 = true ∧ [false, okTicks s, okPages s, okPages s, okTouch s, okPages s, okReq s, okReq s, okTicks s, okFork s n, okFork s n, okNone s, okNone s].getD s.k.toNat false = true
def pr (p : List (List Stp)) (i : Nat) : List Stp := p.getD i []
def st (l : List Stp) (i : Nat) : Stp := l.getD i ⟨0, 0, 0, 0⟩
def okPrg (n : Int) (l : List Stp) : Prop := 1 ≤ l.length ∧ l.length ≤ 64 ∧ ∀ j, j < l.length → okStp n (st l j)
def ValidP (p : List (List Stp)) : Prop := p.length ≤ 32 ∧ ∀ k, k < p.length → okPrg p.length (pr p k)
noncomputable def validB (p : List (List Stp)) : Bool := @decide (ValidP p) (Classical.propDecidable _)
theorem validB_iff (p : List (List Stp)) : validB p = true ↔ ValidP p := by
  unfold validB; exact @decide_eq_true_iff _ (Classical.propDecidable _)
theorem validB_of {p : List (List Stp)} (h : ValidP p) : validB p = true := (validB_iff p).2 h
theorem validB_not {p : List (List Stp)} (h : ¬ ValidP p) : validB p = false := by
  rw [← Bool.not_eq_true, validB_iff]; exact h
end Go.Proofs.Ytgaeomkjpcpogaa
