/-
  Lemmas and contracts on the way to the laws of this seat; each theorem states its own conditions, and there are no others.
-/
import Derived.Test.YtenfpjponaaolaaE1
namespace Go.Proofs.Ytenfpjponaaolaa
open Go

/-- A row's cells. -/
def enc : (c : Nat) → den c → List AV
  | 0, x => [.int .i64 x]
  | 1, b => [.bool b]
  | 2, s => [.str s]
  | _ + 3, _ => []
def dec : (c : Nat) → List AV → Option (den c)
  | 0, [.int .i64 x] => some x
  | 1, [.bool b] => some b
  | 1, [.tt] => some true
  | 1, [.ff] => some false
  | 2, [.str s] => some s
  | _, _ => none
/-- How many cells a row has. -/
def ncell : Nat → Nat
  | 0 => 1
  | 1 => 1
  | 2 => 1
  | _ => 0
/-- The code of a slice's elements, by their type. -/
def codeOf : TypeId → Option Nat
  | 3 => some 0
  | 4 => some 1
  | 9 => some 2
  | _ => none
theorem enc_len : ∀ (c : Nat) (x : den c), (enc c x).length = ncell c
  | 0, _ => rfl
  | 1, _ => rfl
  | 2, _ => rfl
  | _ + 3, _ => rfl
end Go.Proofs.Ytenfpjponaaolaa
