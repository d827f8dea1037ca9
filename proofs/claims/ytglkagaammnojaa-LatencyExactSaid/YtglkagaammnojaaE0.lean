/-
  Lemmas and contracts on the way to the laws of this seat; each theorem states its own conditions, and there are no others.
-/
import Derived.Test.YtglkagaammnojaaChecked
import Derived.WalkKit
import Derived.Below
namespace Go.Proofs.Ytglkagaammnojaa
open Go
set_option linter.unusedVariables false
set_option linter.unusedSimpArgs false

structure Nod where
  id : Int
  parent : Int
  name : ByteArray
  control : Int
  kind : Int
  owner : Int
  deriving Inhabited, DecidableEq
structure Cnd where
  proc : Int
  group : Int
  pages : Int
  adj : Int
  deriving Inhabited, DecidableEq
structure Dep where
  group : Int
  target : Int
  depth : Int
  deriving Inhabited, DecidableEq
structure Smp where
  group : Int
  lat : Int
  deriving Inhabited, DecidableEq
structure Chg where
  group : Int
  own : Int
  deriving Inhabited, DecidableEq
structure Two where
  a : Int
  b : Int
  deriving Inhabited, DecidableEq
/-- The types of data that rows are made of. -/
@[reducible] def den : Nat → Type
  | 0 => Int
  | 1 => Bool
  | 2 => ByteArray
  | 3 => Nod
  | 4 => Cnd
  | 5 => Dep
  | 6 => Smp
  | 7 => Chg
  | 8 => Two
  | 9 => Int
  | _ => Unit
def dfl : (c : Nat) → den c
  | 0 => (0 : Int)
  | 1 => (false : Bool)
  | 2 => (ByteArray.empty : ByteArray)
  | 3 => (⟨0, 0, ByteArray.empty, 0, 0, 0⟩ : Nod)
  | 4 => (⟨0, 0, 0, 0⟩ : Cnd)
  | 5 => (⟨0, 0, 0⟩ : Dep)
  | 6 => (⟨0, 0⟩ : Smp)
  | 7 => (⟨0, 0⟩ : Chg)
  | 8 => (⟨0, 0⟩ : Two)
  | 9 => (0 : Int)
  | _ + 10 => ()
end Go.Proofs.Ytglkagaammnojaa
