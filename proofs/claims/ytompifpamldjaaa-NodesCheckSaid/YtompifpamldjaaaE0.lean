/-
  Lemmas and contracts on the way to the laws of this seat; each theorem states its own conditions, and there are no others.
-/
import Derived.Test.YtompifpamldjaaaChecked
import Derived.WalkKit
import Derived.Below
namespace Go.Proofs.Ytompifpamldjaaa
open Go
set_option linter.unusedVariables false
set_option linter.unusedSimpArgs false

structure Chg where
  grp : Int
  own : Int
  deriving Inhabited, DecidableEq
structure NSet where
  grp : Int
  nodes : List Int
  deriving Inhabited, DecidableEq
structure Spt where
  grp : Int
  node : Int
  pages : Int
  deriving Inhabited, DecidableEq
/-- The types of data that rows are made of. -/
@[reducible] def den : Nat → Type
  | 0 => Int
  | 1 => Bool
  | 2 => ByteArray
  | 3 => Chg
  | 4 => NSet
  | 5 => Spt
  | 6 => List Int
  | 7 => List Spt
  | 8 => Int
  | _ => Unit
def dfl : (c : Nat) → den c
  | 0 => (0 : Int)
  | 1 => (false : Bool)
  | 2 => (ByteArray.empty : ByteArray)
  | 3 => (⟨0, 0⟩ : Chg)
  | 4 => (⟨0, []⟩ : NSet)
  | 5 => (⟨0, 0, 0⟩ : Spt)
  | 6 => ([] : List Int)
  | 7 => ([] : List Spt)
  | 8 => (0 : Int)
  | _ + 9 => ()
end Go.Proofs.Ytompifpamldjaaa
