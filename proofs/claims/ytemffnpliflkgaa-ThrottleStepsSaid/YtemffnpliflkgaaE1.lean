/-
  Lemmas and contracts on the way to the laws of this seat; each theorem states its own conditions, and there are no others.
-/
import Derived.Test.YtemffnpliflkgaaE0
namespace Go.Proofs.Ytemffnpliflkgaa
open Go
set_option linter.unusedVariables false
set_option linter.unusedSimpArgs false

/-- Values as the engine sees them. -/
inductive AV where
  | undef
  | int (k : IntKind) (n : Int)
  | tt
  | ff
  | bool (b : Bool)
  | str (s : ByteArray)
  | nilp
  | ptr (id off : Nat)
  | ept (id c row fld : Nat)
  | ipt (p : Bool) (cells : List AV) (off : Nat)
  | pix (id : Nat) (i : Int) (n : Nat)
  | sel (i : Int) (fs : List (Option Nat))
  | nfn
  | nsl
  | zsl
  | own (id c : Nat)
  | sub (id c lo n : Nat)
  | irec (p : Bool) (c : Nat) (l : List (den c))
  | mp (id : Nat)
  | imp (p g : Bool) (c : Nat) (f : Int → den c)
  | agg (l : List AV)
  | tup (l : List AV)
  | fn (f : Fn) (first captured : List AV)
  | opt (g b : Bool) (v : AV)
  deriving Inhabited

/-- Blocks as the engine sees them. -/
inductive OB where
  | cells (et : TypeId) (cs : List AV)
  | rows (et : TypeId) (c : Nat) (l : List (den c))
  | imap (g : Bool) (c : Nat) (f : Int → den c)
  | deep (et c : Nat) (ts : List Nat) (l : List (den c)) (out : Option (Nat × Nat × Nat))

structure St where
  t : Nat → AV
  h : Nat → Option OB
  nx : Nat

def St.put (s : St) (d : Option Nat) (v : AV) : St :=
  match d with
  | none => s
  | some d => { s with t := fun n => bif Nat.beq n d then v else s.t n }
def St.seth (s : St) (id : Nat) (o : Option OB) : St := { s with h := fun n => bif Nat.beq n id then o else s.h n }
def St.upds (s : St) : List (Nat × Option OB) → St
  | [] => s
  | (id, o) :: r => (s.seth id o).upds r
def St.puts (s : St) : List (Nat × AV) → St
  | [] => s
  | (d, v) :: r => (s.put (some d) v).puts r

def av1 : Value → AV
  | .bool true => .tt
  | .bool false => .ff
  | .int k n => .int k n
  | .string s => .str s
  | .pointer none => .nilp
  | .slice none 0 0 => .nsl
  | .nilFunc => .nfn
  | _ => .undef
def avOf : Value → AV
  | .agg cs => .agg (cs.toList.map av1)
  | v => av1 v

def evalA (t : Nat → AV) : Operand → AV
  | .tmp i => t i
  | .const v => avOf v
  | .global _ => .undef
  | .func f => .fn (.func f) [] []

def AV.flat : AV → List AV
  | .agg l => l
  | v => [v]
def AV.asB : AV → Option Bool
  | .tt => some true
  | .ff => some false
  | .bool b => some b
  | _ => none
end Go.Proofs.Ytemffnpliflkgaa
