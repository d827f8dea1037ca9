/-
  Lemmas and contracts on the way to the laws of this seat; each theorem states its own conditions, and there are no others.
-/
import Derived.Test.YtaipgdhaoldhjaaE1
namespace Go.Proofs.Ytaipgdhaoldhjaa
open Go
set_option linter.unusedVariables false
set_option linter.unusedSimpArgs false

/-- A row's cells. -/
def enc : (c : Nat) → den c → List AV
  | 0, x => [.int .i64 x]
  | 1, x => [.bool x]
  | 2, x => [.str x]
  | 3, x => [.irec true 0 x]
  | 4, x => [.int .u8 x]
  | _ + 5, _ => []
def castL {c : Nat} (l : List (den c)) (d : Nat) : Option (List (den d)) :=
  if h : c = d then some (h ▸ l) else none
def decI : AV → Option Int
  | .int .i64 x => some x
  | _ => none
def decY : AV → Option Int
  | .int .u8 x => some x
  | _ => none
def decS : AV → Option ByteArray
  | .str s => some s
  | _ => none
def decL (c : Nat) : AV → Option (List (den c))
  | .irec true c' l => castL l c
  | .nsl => some []
  | _ => none
def dec : (c : Nat) → List AV → Option (den c)
  | 0, [v] => decI v
  | 1, [v] => AV.asB v
  | 2, [v] => decS v
  | 3, [v] => decL 0 v
  | 4, [v] => decY v
  | _, _ => none
/-- How many cells a row has. -/
def ncell : Nat → Nat
  | 0 => 1
  | 1 => 1
  | 2 => 1
  | 3 => 1
  | 4 => 1
  | _ => 0
/-- The code of a slice's elements, by their type. -/
def codeOf : TypeId → Option Nat
  | 3 => some 0
  | 4 => some 1
  | 9 => some 2
  | 22 => some 3
  | 5 => some 4
  | _ => none
theorem enc_len : ∀ (c : Nat) (x : den c), (enc c x).length = ncell c
  | 0, _ => rfl
  | 1, _ => rfl
  | 2, _ => rfl
  | 3, _ => rfl
  | 4, _ => rfl
  | _ + 5, _ => rfl
/-- Bytes as a row. -/
def u8c : Nat := 4
def u8mk (l : List Int) : List (den u8c) := l
end Go.Proofs.Ytaipgdhaoldhjaa
