/-
  Lemmas and contracts on the way to the laws of this seat; each theorem states its own conditions, and there are no others.
-/
import Derived.Test.YtompifpamldjaaaE1
namespace Go.Proofs.Ytompifpamldjaaa
open Go
set_option linter.unusedVariables false
set_option linter.unusedSimpArgs false

/-- A row's cells. -/
def enc : (c : Nat) → den c → List AV
  | 0, x => [.int .i64 x]
  | 1, x => [.bool x]
  | 2, x => [.str x]
  | 3, x => [.int .i64 x.grp, .int .i64 x.own]
  | 4, x => [.int .i64 x.grp, .irec true 0 x.nodes]
  | 5, x => [.int .i64 x.grp, .int .i64 x.node, .int .i64 x.pages]
  | 6, x => [.irec true 0 x]
  | 7, x => [.irec true 5 x]
  | 8, x => [.int .u8 x]
  | _ + 9, _ => []
def castL {c : Nat} (l : List (den c)) (d : Nat) : Option (List (den d)) :=
  if h : c = d then some (h ▸ l) else none
def decI : AV → Option Int
  | .int .i64 x => some x
  | _ => none
def decY : AV → Option Int
  | .int .u8 x => some x
  | _ => none
def decS : AV → Option ByteArray
  | .str s => some s
  | _ => none
def decL (c : Nat) : AV → Option (List (den c))
  | .irec true c' l => castL l c
  | .nsl => some []
  | _ => none
def dec : (c : Nat) → List AV → Option (den c)
  | 0, [v] => decI v
  | 1, [v] => AV.asB v
  | 2, [v] => decS v
  | 3, [v0, v1] => (decI v0).bind fun x0 => (decI v1).bind fun x1 => some ⟨x0, x1⟩
  | 4, [v0, v1] => (decI v0).bind fun x0 => (decL 0 v1).bind fun x1 => some ⟨x0, x1⟩
  | 5, [v0, v1, v2] => (decI v0).bind fun x0 => (decI v1).bind fun x1 => (decI v2).bind fun x2 => some ⟨x0, x1, x2⟩
  | 6, [v] => decL 0 v
  | 7, [v] => decL 5 v
  | 8, [v] => decY v
  | _, _ => none
/-- How many cells a row has. -/
def ncell : Nat → Nat
  | 0 => 1
  | 1 => 1
  | 2 => 1
  | 3 => 2
  | 4 => 2
  | 5 => 3
  | 6 => 1
  | 7 => 1
  | 8 => 1
  | _ => 0
/-- The code of a slice's elements, by their type. -/
def codeOf : TypeId → Option Nat
  | 3 => some 0
  | 4 => some 1
  | 9 => some 2
  | 41 => some 3
  | 43 => some 4
  | 39 => some 5
  | 22 => some 6
  | 31 => some 7
  | 5 => some 8
  | _ => none
theorem enc_len : ∀ (c : Nat) (x : den c), (enc c x).length = ncell c
  | 0, _ => rfl
  | 1, _ => rfl
  | 2, _ => rfl
  | 3, _ => rfl
  | 4, _ => rfl
  | 5, _ => rfl
  | 6, _ => rfl
  | 7, _ => rfl
  | 8, _ => rfl
  | _ + 9, _ => rfl
/-- Bytes as a row. -/
def u8c : Nat := 8
def u8mk (l : List Int) : List (den u8c) := l
end Go.Proofs.Ytompifpamldjaaa
