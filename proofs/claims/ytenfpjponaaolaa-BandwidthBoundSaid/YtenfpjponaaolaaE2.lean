/-
  Lemmas and contracts on the way to the laws of this seat; each theorem states its own conditions, and there are no others.
-/
import Derived.Test.YtenfpjponaaolaaE1
namespace Go.Proofs.Ytenfpjponaaolaa
open Go
set_option linter.unusedVariables false
set_option linter.unusedSimpArgs false

/-- A row's cells. -/
def enc : (c : Nat) → den c → List AV
  | 0, x => [.int .i64 x]
  | 1, x => [.bool x]
  | 2, x => [.str x]
  | 3, x => [.int .i64 x.g, .int .i64 x.q, .int .i64 x.bu, .int .i64 x.s, .int .i64 x.le, .irec true 0 x.l, .int .i64 x.sp, .int .i64 x.pe, .int .i64 x.th, .bool x.em]
  | 4, x => [.int .u8 x]
  | _ + 5, _ => []
def castL {c : Nat} (l : List (den c)) (d : Nat) : Option (List (den d)) :=
  if h : c = d then some (h ▸ l) else none
def decI : AV → Option Int
  | .int .i64 x => some x
  | _ => none
def decY : AV → Option Int
  | .int .u8 x => some x
  | _ => none
def decS : AV → Option ByteArray
  | .str s => some s
  | _ => none
def decL (c : Nat) : AV → Option (List (den c))
  | .irec true c' l => castL l c
  | .nsl => some []
  | _ => none
def dec : (c : Nat) → List AV → Option (den c)
  | 0, [v] => decI v
  | 1, [v] => AV.asB v
  | 2, [v] => decS v
  | 3, [v0, v1, v2, v3, v4, v5, v6, v7, v8, v9] => (decI v0).bind fun x0 => (decI v1).bind fun x1 => (decI v2).bind fun x2 => (decI v3).bind fun x3 => (decI v4).bind fun x4 => (decL 0 v5).bind fun x5 => (decI v6).bind fun x6 => (decI v7).bind fun x7 => (decI v8).bind fun x8 => (AV.asB v9).bind fun x9 => some ⟨x0, x1, x2, x3, x4, x5, x6, x7, x8, x9⟩
  | 4, [v] => decY v
  | _, _ => none
/-- How many cells a row has. -/
def ncell : Nat → Nat
  | 0 => 1
  | 1 => 1
  | 2 => 1
  | 3 => 10
  | 4 => 1
  | _ => 0
/-- The code of a slice's elements, by their type. -/
def codeOf : TypeId → Option Nat
  | 3 => some 0
  | 4 => some 1
  | 9 => some 2
  | 26 => some 3
  | 5 => some 4
  | _ => none
theorem enc_len : ∀ (c : Nat) (x : den c), (enc c x).length = ncell c
  | 0, _ => rfl
  | 1, _ => rfl
  | 2, _ => rfl
  | 3, _ => rfl
  | 4, _ => rfl
  | _ + 5, _ => rfl
/-- Bytes as a row. -/
def u8c : Nat := 4
def u8mk (l : List Int) : List (den u8c) := l
end Go.Proofs.Ytenfpjponaaolaa
