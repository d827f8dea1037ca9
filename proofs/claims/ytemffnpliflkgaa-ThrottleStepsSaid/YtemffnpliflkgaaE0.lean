/-
  Lemmas and contracts on the way to the laws of this seat; each theorem states its own conditions, and there are no others.
-/
import Derived.Test.YtemffnpliflkgaaChecked
import Derived.WalkKit
import Derived.Below
namespace Go.Proofs.Ytemffnpliflkgaa
open Go
set_option linter.unusedVariables false
set_option linter.unusedSimpArgs false

structure Nod where
  id : Int
  parent : Int
  name : ByteArray
  control : Int
  kind : Int
  owner : Int
  deriving Inhabited, DecidableEq
structure Pool where
  g : Int
  q : Int
  bu : Int
  s : Int
  le : Int
  l : List Int
  sp : Int
  pe : Int
  th : Int
  em : Bool
  deriving Inhabited, DecidableEq
structure Dev where
  dev : Int
  weight : Int
  rp : Int
  wp : Int
  ro : Int
  wo : Int
  tgt : Int
  deriving Inhabited, DecidableEq
structure Cfg where
  grp : Int
  pids : Int
  weight : Int
  quota : Int
  period : Int
  burst : Int
  cmin : Int
  cmax : Int
  cpus : List Int
  mems : List Int
  part : Int
  mmin : Int
  mlow : Int
  mhigh : Int
  mmax : Int
  mswap : Int
  mtog : Bool
  devs : List Dev
  deriving Inhabited, DecidableEq
structure Stg where
  pids : Int
  weight : Int
  quota : Int
  period : Int
  burst : Int
  cmin : Int
  cmax : Int
  cpus : List Int
  mems : List Int
  part : Int
  mmin : Int
  mlow : Int
  mhigh : Int
  mmax : Int
  mswap : Int
  mtog : Bool
  devs : List Dev
  deriving Inhabited, DecidableEq
structure TreeR where
  nodes : List Nod
  next : Int
  deriving Inhabited, DecidableEq
/-- The types of data that rows are made of. -/
@[reducible] def den : Nat → Type
  | 0 => Int
  | 1 => Bool
  | 2 => ByteArray
  | 3 => Nod
  | 4 => Pool
  | 5 => Dev
  | 6 => Cfg
  | 7 => Stg
  | 8 => List Pool
  | 9 => TreeR
  | 10 => Int
  | _ => Unit
def dfl : (c : Nat) → den c
  | 0 => (0 : Int)
  | 1 => (false : Bool)
  | 2 => (ByteArray.empty : ByteArray)
  | 3 => (⟨0, 0, ByteArray.empty, 0, 0, 0⟩ : Nod)
  | 4 => (⟨0, 0, 0, 0, 0, [], 0, 0, 0, false⟩ : Pool)
  | 5 => (⟨0, 0, 0, 0, 0, 0, 0⟩ : Dev)
  | 6 => (⟨0, 0, 0, 0, 0, 0, 0, 0, [], [], 0, 0, 0, 0, 0, 0, false, []⟩ : Cfg)
  | 7 => (⟨0, 0, 0, 0, 0, 0, 0, [], [], 0, 0, 0, 0, 0, 0, false, []⟩ : Stg)
  | 8 => ([] : List Pool)
  | 9 => (⟨[], 0⟩ : TreeR)
  | 10 => (0 : Int)
  | _ + 11 => ()
end Go.Proofs.Ytemffnpliflkgaa
