/-
  Lemmas and contracts on the way to the laws of this seat; each theorem states its own conditions, and there are no others.
-/
import Derived.Test.YtgaeomkjpcpogaaE1
namespace Go.Proofs.Ytgaeomkjpcpogaa
open Go
set_option linter.unusedVariables false
set_option linter.unusedSimpArgs false

/-- A row's cells. -/
def enc : (c : Nat) → den c → List AV
  | 0, x => [.int .i64 x]
  | 1, x => [.bool x]
  | 2, x => [.str x]
  | 3, x => [.int .i64 x.k, .int .i64 x.n, .int .i64 x.a, .int .i64 x.t]
  | 4, x => [.irec true 3 x]
  | 5, x => [.int .u8 x]
  | _ + 6, _ => []
def castL {c : Nat} (l : List (den c)) (d : Nat) : Option (List (den d)) :=
  if h : c = d then some (h ▸ l) else none
def decI : AV → Option Int
  | .int .i64 x => some x
  | _ => none
def decY : AV → Option Int
  | .int .u8 x => some x
  | _ => none
def decS : AV → Option ByteArray
  | .str s => some s
  | _ => none
def decL (c : Nat) : AV → Option (List (den c))
  | .irec true c' l => castL l c
  | .nsl => some []
  | _ => none
def dec : (c : Nat) → List AV → Option (den c)
  | 0, [v] => decI v
  | 1, [v] => AV.asB v
  | 2, [v] => decS v
  | 3, [v0, v1, v2, v3] => (decI v0).bind fun x0 => (decI v1).bind fun x1 => (decI v2).bind fun x2 => (decI v3).bind fun x3 => some ⟨x0, x1, x2, x3⟩
  | 4, [v] => decL 3 v
  | 5, [v] => decY v
  | _, _ => none
/-- How many cells a row has. -/
def ncell : Nat → Nat
  | 0 => 1
  | 1 => 1
  | 2 => 1
  | 3 => 4
  | 4 => 1
  | 5 => 1
  | _ => 0
/-- The code of a slice's elements, by their type. -/
def codeOf : TypeId → Option Nat
  | 3 => some 0
  | 4 => some 1
  | 9 => some 2
  | 28 => some 3
  | 31 => some 4
  | 5 => some 5
  | _ => none
theorem enc_len : ∀ (c : Nat) (x : den c), (enc c x).length = ncell c
  | 0, _ => rfl
  | 1, _ => rfl
  | 2, _ => rfl
  | 3, _ => rfl
  | 4, _ => rfl
  | 5, _ => rfl
  | _ + 6, _ => rfl
/-- Bytes as a row. -/
def u8c : Nat := 5
def u8mk (l : List Int) : List (den u8c) := l
end Go.Proofs.Ytgaeomkjpcpogaa
