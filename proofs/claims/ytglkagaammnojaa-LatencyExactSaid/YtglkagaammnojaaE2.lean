/-
  Lemmas and contracts on the way to the laws of this seat; each theorem states its own conditions, and there are no others.
-/
import Derived.Test.YtglkagaammnojaaE1
namespace Go.Proofs.Ytglkagaammnojaa
open Go
set_option linter.unusedVariables false
set_option linter.unusedSimpArgs false

/-- A row's cells. -/
def enc : (c : Nat) → den c → List AV
  | 0, x => [.int .i64 x]
  | 1, x => [.bool x]
  | 2, x => [.str x]
  | 3, x => [.int .i64 x.id, .int .i64 x.parent, .str x.name, .int .i64 x.control, .int .i64 x.kind, .int .i64 x.owner]
  | 4, x => [.int .i64 x.proc, .int .i64 x.group, .int .i64 x.pages, .int .i64 x.adj]
  | 5, x => [.int .i64 x.group, .int .i64 x.target, .int .i64 x.depth]
  | 6, x => [.int .i64 x.group, .int .i64 x.lat]
  | 7, x => [.int .i64 x.group, .int .i64 x.own]
  | 8, x => [.int .i64 x.a, .int .i64 x.b]
  | 9, x => [.int .u8 x]
  | _ + 10, _ => []
def castL {c : Nat} (l : List (den c)) (d : Nat) : Option (List (den d)) :=
  if h : c = d then some (h ▸ l) else none
def decI : AV → Option Int
  | .int .i64 x => some x
  | _ => none
def decY : AV → Option Int
  | .int .u8 x => some x
  | _ => none
def decS : AV → Option ByteArray
  | .str s => some s
  | _ => none
def decL (c : Nat) : AV → Option (List (den c))
  | .irec true c' l => castL l c
  | .nsl => some []
  | _ => none
def dec : (c : Nat) → List AV → Option (den c)
  | 0, [v] => decI v
  | 1, [v] => AV.asB v
  | 2, [v] => decS v
  | 3, [v0, v1, v2, v3, v4, v5] => (decI v0).bind fun x0 => (decI v1).bind fun x1 => (decS v2).bind fun x2 => (decI v3).bind fun x3 => (decI v4).bind fun x4 => (decI v5).bind fun x5 => some ⟨x0, x1, x2, x3, x4, x5⟩
  | 4, [v0, v1, v2, v3] => (decI v0).bind fun x0 => (decI v1).bind fun x1 => (decI v2).bind fun x2 => (decI v3).bind fun x3 => some ⟨x0, x1, x2, x3⟩
  | 5, [v0, v1, v2] => (decI v0).bind fun x0 => (decI v1).bind fun x1 => (decI v2).bind fun x2 => some ⟨x0, x1, x2⟩
  | 6, [v0, v1] => (decI v0).bind fun x0 => (decI v1).bind fun x1 => some ⟨x0, x1⟩
  | 7, [v0, v1] => (decI v0).bind fun x0 => (decI v1).bind fun x1 => some ⟨x0, x1⟩
  | 8, [v0, v1] => (decI v0).bind fun x0 => (decI v1).bind fun x1 => some ⟨x0, x1⟩
  | 9, [v] => decY v
  | _, _ => none
/-- How many cells a row has. -/
def ncell : Nat → Nat
  | 0 => 1
  | 1 => 1
  | 2 => 1
  | 3 => 6
  | 4 => 4
  | 5 => 3
  | 6 => 2
  | 7 => 2
  | 8 => 2
  | 9 => 1
  | _ => 0
/-- The code of a slice's elements, by their type. -/
def codeOf : TypeId → Option Nat
  | 3 => some 0
  | 4 => some 1
  | 9 => some 2
  | 34 => some 3
  | 40 => some 4
  | 57 => some 5
  | 61 => some 6
  | 71 => some 7
  | 114 => some 8
  | 5 => some 9
  | _ => none
theorem enc_len : ∀ (c : Nat) (x : den c), (enc c x).length = ncell c
  | 0, _ => rfl
  | 1, _ => rfl
  | 2, _ => rfl
  | 3, _ => rfl
  | 4, _ => rfl
  | 5, _ => rfl
  | 6, _ => rfl
  | 7, _ => rfl
  | 8, _ => rfl
  | 9, _ => rfl
  | _ + 10, _ => rfl
/-- Bytes as a row. -/
def u8c : Nat := 9
def u8mk (l : List Int) : List (den u8c) := l
end Go.Proofs.Ytglkagaammnojaa
