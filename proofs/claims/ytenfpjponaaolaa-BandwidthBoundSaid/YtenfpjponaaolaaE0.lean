/-
  Lemmas and contracts on the way to the laws of this seat; each theorem states its own conditions, and there are no others.
-/
import Derived.Test.YtenfpjponaaolaaChecked
import Derived.WalkKit
import Derived.Below
namespace Go.Proofs.Ytenfpjponaaolaa
open Go
set_option linter.unusedVariables false
set_option linter.unusedSimpArgs false

structure Pool where
  g : Int
  q : Int
  bu : Int
  s : Int
  le : Int
  l : List Int
  sp : Int
  pe : Int
  th : Int
  em : Bool
  deriving Inhabited, DecidableEq
/-- The types of data that rows are made of. -/
@[reducible] def den : Nat → Type
  | 0 => Int
  | 1 => Bool
  | 2 => ByteArray
  | 3 => Pool
  | 4 => Int
  | _ => Unit
def dfl : (c : Nat) → den c
  | 0 => (0 : Int)
  | 1 => (false : Bool)
  | 2 => (ByteArray.empty : ByteArray)
  | 3 => (⟨0, 0, 0, 0, 0, [], 0, 0, 0, false⟩ : Pool)
  | 4 => (0 : Int)
  | _ + 5 => ()
end Go.Proofs.Ytenfpjponaaolaa
