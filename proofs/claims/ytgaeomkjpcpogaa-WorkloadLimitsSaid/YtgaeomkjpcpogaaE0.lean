/-
  Lemmas and contracts on the way to the laws of this seat; each theorem states its own conditions, and there are no others.
-/
import Derived.Test.YtgaeomkjpcpogaaChecked
import Derived.WalkKit
import Derived.Below
namespace Go.Proofs.Ytgaeomkjpcpogaa
open Go
set_option linter.unusedVariables false
set_option linter.unusedSimpArgs false

structure Stp where
  k : Int
  n : Int
  a : Int
  t : Int
  deriving Inhabited, DecidableEq
/-- The types of data that rows are made of. -/
@[reducible] def den : Nat → Type
  | 0 => Int
  | 1 => Bool
  | 2 => ByteArray
  | 3 => Stp
  | 4 => List Stp
  | 5 => Int
  | _ => Unit
def dfl : (c : Nat) → den c
  | 0 => (0 : Int)
  | 1 => (false : Bool)
  | 2 => (ByteArray.empty : ByteArray)
  | 3 => (⟨0, 0, 0, 0⟩ : Stp)
  | 4 => ([] : List Stp)
  | 5 => (0 : Int)
  | _ + 6 => ()
end Go.Proofs.Ytgaeomkjpcpogaa
