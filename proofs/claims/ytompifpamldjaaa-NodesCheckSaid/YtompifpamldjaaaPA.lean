/-
  Lemmas and contracts on the way to the laws of this seat; each theorem states its own conditions, and there are no others.
-/
import Derived.Test.YtompifpamldjaaaE29
import Derived.Test.YtompifpamldjaaaM
namespace Go.Proofs.Ytompifpamldjaaa
open Go Go.RowKit
set_option linter.unusedVariables false
set_option linter.unusedSimpArgs false

def pkInts : PK (List Int) := pkL 0
def pkIntsP : PK (List Int) := pkLP 0
/-- Dice: the numbers, and the place. -/
def diceO (d : List Int × Int) : OB := .cells 59 [.irec true 0 d.1, .int .i64 d.2]
def getDice : OB → Option (List Int × Int)
  | .cells t [.irec true 0 l, .int .i64 n] => bif Nat.beq t 59 then some (l, n) else none
  | _ => none
theorem getDice_spec (o : OB) (d : List Int × Int) (h : getDice o = some d) : o = diceO d := by
  unfold getDice at h
  split at h
  · rename_i t l n
    by_cases e : Nat.beq t 59 = true
    · rw [e, cond_true] at h
      cases h
      rw [Nat.eq_of_beq_eq_true e]
      rfl
    · simp only [Bool.not_eq_true] at e
      rw [e, cond_false] at h
      cases h
  · cases h
def Sig.dice {X : Type} (s : Sig X) (hs : ∀ x, s.boxes x = []) : Sig ((List Int × Int) × X) := Sig.box getDice diceO getDice_spec s hs
abbrev one {α : Type} (k : PK α) : Sig (α × Unit) := Sig.cons k Sig.nil
abbrev two {α β : Type} (k : PK α) (k' : PK β) : Sig (α × β × Unit) := Sig.cons k (one k')
abbrev three {α β γ : Type} (k : PK α) (k' : PK β) (k'' : PK γ) : Sig (α × β × γ × Unit) := Sig.cons k (two k' k'')
abbrev four {α β γ δ : Type} (k : PK α) (k' : PK β) (k'' : PK γ) (k3 : PK δ) : Sig (α × β × γ × δ × Unit) := Sig.cons k (three k' k'' k3)
abbrev nou {X : Type} : X → List (Nat × OB) := fun _ => []

def All (p : Int → Prop) (l : List Int) : Prop := ∀ i, i < l.length → p (nth l i)
abbrev In (a b : Int) (l : List Int) : Prop := All (fun x => a ≤ x ∧ x ≤ b) l
/-- Dice that can be thrown. -/
structure DOK (d : List Int × Int) : Prop where
  lo : 0 ≤ d.2
  hi : d.2 ≤ d.1.length
  len : d.1.length ≤ 600

/-- A box with slices of its own, handed over by its address as the first parameter, with plain ones behind it. -/
def boxInst3 {α X : Type} (g : OB → OB → OB → Option α) (f : List AV → (Nat → Option OB) → Option X) : List AV → (Nat → Option OB) → Option (α × X)
  | .ptr 0 0 :: vs, h => match h 0, h 1, h 2 with
    | some o0, some o1, some o2 => match g o0 o1 o2, f vs h with
      | some a, some x => some (a, x)
      | _, _ => none
    | _, _, _ => none
  | _, _ => none
def Sig.box3 {α X : Type} (g : OB → OB → OB → Option α) (p0 p1 p2 : α → OB) (hg : ∀ o0 o1 o2 a, g o0 o1 o2 = some a → o0 = p0 a ∧ o1 = p1 a ∧ o2 = p2 a) (s : Sig X) (hs : ∀ x, s.boxes x = []) : Sig (α × X) where
  inst := boxInst3 g s.inst
  args := fun x => .ptr 0 0 :: s.args x.2
  boxes := fun x => [p0 x.1, p1 x.1, p2 x.1]
  ok := fun avs h x hx => by
    unfold boxInst3 at hx
    split at hx
    · rename_i vs
      split at hx
      · rename_i o0 o1 o2 h0 h1 h2
        split at hx
        · rename_i a y h3 h4
          cases hx
          obtain ⟨r1, r2⟩ := s.ok _ _ _ h4
          obtain ⟨e0, e1, e2⟩ := hg _ _ _ _ h3
          refine ⟨fun w S μ xs hS hv => ?_, fun i o' hi => ?_⟩
          · cases hv with
            | cons hv t => exact .cons hv (r1 w S μ _ hS t)
          · simp only [numb, heapOf] at hi
            by_cases e : i = 0
            · subst e
              simp only [nbeq_same, cond_true, Option.some.injEq] at hi
              rw [h0, e0, hi]
            · rw [nbeq_ne e, cond_false] at hi
              by_cases e : i = 1
              · subst e
                simp only [nbeq_same, cond_true, Option.some.injEq] at hi
                rw [h1, e1, hi]
              · rw [nbeq_ne e, cond_false] at hi
                by_cases e : i = 2
                · subst e
                  simp only [nbeq_same, cond_true, Option.some.injEq] at hi
                  rw [h2, e2, hi]
                · rw [nbeq_ne e, cond_false] at hi; cases hi
        · cases hx
      · cases hx
    · cases hx

/-- A flow: the sets, what nodes have left, what lies where. -/
structure Flw where
  a : List NSet
  l : List Int
  m : List (List Int)
def flw0 (f : Flw) : OB := .cells 64 [.irec true 4 f.a, .own 1 0, .own 2 6]
def flw1 (f : Flw) : OB := .rows 3 0 f.l
def flw2 (f : Flw) : OB := .deep 22 6 [3] f.m none
def getFlw : OB → OB → OB → Option Flw
  | .cells t [.irec true 4 A, .own 1 0, .own 2 6], .rows 3 0 L, .deep 22 6 [3] M none => bif Nat.beq t 64 then some ⟨A, L, M⟩ else none
  | _, _, _ => none
theorem getFlw_spec (o0 o1 o2 : OB) (f : Flw) (h : getFlw o0 o1 o2 = some f) : o0 = flw0 f ∧ o1 = flw1 f ∧ o2 = flw2 f := by
  unfold getFlw at h
  split at h
  · rename_i t A L M
    by_cases e : Nat.beq t 64 = true
    · rw [e, cond_true] at h
      cases h
      rw [Nat.eq_of_beq_eq_true e]
      exact ⟨rfl, rfl, rfl⟩
    · simp only [Bool.not_eq_true] at e
      rw [e, cond_false] at h
      cases h
  · cases h
def Sig.flw {X : Type} (s : Sig X) (hs : ∀ x, s.boxes x = []) : Sig (Flw × X) := Sig.box3 getFlw flw0 flw1 flw2 getFlw_spec s hs
/-- A path: two slices that are looked at. -/
def getPth : AV → Option (List Int × List Int)
  | .agg [.irec false 0 a, .irec false 0 b] => some (a, b)
  | _ => none
def pkPth : PK (List Int × List Int) where
  get := getPth
  put := fun p => .agg [.irec false 0 p.1, .irec false 0 p.2]
  ok := fun v a h w S μ x _ hx => by
    unfold getPth at h
    split at h
    · cases h; exact hx
    · cases h
end Go.Proofs.Ytompifpamldjaaa
