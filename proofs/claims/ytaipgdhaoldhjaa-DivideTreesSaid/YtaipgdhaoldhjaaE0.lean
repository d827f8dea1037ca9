/-
  Lemmas and contracts on the way to the laws of this seat; each theorem states its own conditions, and there are no others.
-/
import Derived.Test.YtaipgdhaoldhjaaChecked
import Derived.WalkKit
import Derived.Below
namespace Go.Proofs.Ytaipgdhaoldhjaa
open Go
set_option linter.unusedVariables false
set_option linter.unusedSimpArgs false

/-- The types of data that rows are made of. -/
@[reducible] def den : Nat → Type
  | 0 => Int
  | 1 => Bool
  | 2 => ByteArray
  | 3 => List Int
  | 4 => Int
  | _ => Unit
def dfl : (c : Nat) → den c
  | 0 => (0 : Int)
  | 1 => (false : Bool)
  | 2 => (ByteArray.empty : ByteArray)
  | 3 => ([] : List Int)
  | 4 => (0 : Int)
  | _ + 5 => ()
end Go.Proofs.Ytaipgdhaoldhjaa
