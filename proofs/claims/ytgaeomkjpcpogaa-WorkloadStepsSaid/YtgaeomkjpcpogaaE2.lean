/-
  Lemmas and contracts on the way to the laws of this seat; each theorem states its own conditions, and there are no others.
-/
import Derived.Test.YtgaeomkjpcpogaaE1
namespace Go.Proofs.Ytgaeomkjpcpogaa
open Go
set_option linter.unusedVariables false
set_option linter.unusedSimpArgs false

/-- A row's cells. -/
def enc : (c : Nat) → den c → List AV
  | 0, x => [.int .i64 x]
  | 1, b => [.bool b]
  | 2, s => [.str s]
  | 3, s => [.int .i64 s.k, .int .i64 s.n, .int .i64 s.a, .int .i64 s.t]
  | 4, l => [.irec true 3 l]
  | _ + 5, _ => []
def dec : (c : Nat) → List AV → Option (den c)
  | 0, [.int .i64 x] => some x
  | 1, [.bool b] => some b
  | 1, [.tt] => some true
  | 1, [.ff] => some false
  | 2, [.str s] => some s
  | 3, [.int .i64 k, .int .i64 n, .int .i64 a, .int .i64 t] => some ⟨k, n, a, t⟩
  | 4, [.irec true 3 l] => some l
  | 4, [.nsl] => some []
  | _, _ => none
/-- How many cells a row has. -/
def ncell : Nat → Nat
  | 0 => 1
  | 1 => 1
  | 2 => 1
  | 3 => 4
  | 4 => 1
  | _ => 0
/-- The code of a slice's elements, by their type. -/
def codeOf : TypeId → Option Nat
  | 3 => some 0
  | 4 => some 1
  | 9 => some 2
  | 28 => some 3
  | 31 => some 4
  | _ => none
theorem enc_len : ∀ (c : Nat) (x : den c), (enc c x).length = ncell c
  | 0, _ => rfl
  | 1, _ => rfl
  | 2, _ => rfl
  | 3, _ => rfl
  | 4, _ => rfl
  | _ + 5, _ => rfl
end Go.Proofs.Ytgaeomkjpcpogaa
