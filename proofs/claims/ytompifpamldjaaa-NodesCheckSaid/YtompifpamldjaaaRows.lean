/-
  No cell of these rows narrows 'for every input' (looked for: loops, veiled, ifaces, maps, wideKeys, modest, calm, conditions, laid).
  DERIVED. THE GIVEN ROWS OF THIS SEAT. 6 by the template 'for every input the law returns true; each argument reads behind the call as it read before'; 0 by the template 'total and deterministic' (their statements: YtompifpamldjaaaTotals.lean).
  GIVEN WITH THE SEED: the statements are not yours to turn. If you find one false, say at which input.
  Laid BY PROGRAM, IN A SANDBOX (cutbox-rows.mjs): the forced cells as the released guide's own fill.sh prints them over the translation 5b31c506fe586ac4… (all of the seat's roots in one cut). By AI agents, Wed Nov 11 2026. No macro, syntax, notation, axiom, sorry.
-/
import Derived.Test.YtompifpamldjaaaChecked
import GoSem.Claim
import GoSem.ClaimJoined
import GoSem.ClaimMapViews
import Derived.JoinedTies
import Derived.KernelRfl
namespace Go.Proofs.Ytompifpamldjaaa
/- THE CELL 'sum', in the pinned program and in every row, IS THE sha256 OF THE DUMP (.gsa) THAT YtompifpamldjaaaProg.lean LOADS. Nothing in Lean hashes anything: it is a label: what it is worth is what the hold of that sum in a sandbox is worth. -/
noncomputable def Try.pinned : Pinned := { name := "ytompifpamldjaaa", sum := "5b31c506fe586ac4fbb55ec2d1362d857004e081c6f5aea84b02e3bf637ff9e8", checked := Try.checked }
namespace Rows
def none {H : Type} : Left H := { results := [], args := [] }

/-- 'groupcontrollaw28.NodesMoves': WHATEVER THE INPUT: true; the input reads as it did. -/
def nodesMovesSpec : ChangeSpec := { name := "nodesMoves", fn := fun _ => fun
  | [d] => { results := [.lit (.bool true)], args := [d] }
  | _ => none }
def nodesMovesRow : OpenClaim := { program := "ytompifpamldjaaa", sum := "5b31c506fe586ac4fbb55ec2d1362d857004e081c6f5aea84b02e3bf637ff9e8", func := "groupcontrol/groupcontrollaw28.NodesMoves", spec := "nodesMoves", unfollowed := true, recurses := true, apart := false }
def NodesMovesSaid : Prop := nodesMovesRow.holds Try.pinned (OpenSpec.ofChange nodesMovesSpec)

/-- ITS FALSE NEIGHBOUR: 'it returns false'. Refute it at one input. -/
def nodesMovesWrong : ChangeSpec := { name := "nodesMoves", fn := fun _ => fun
  | [d] => { results := [.lit (.bool false)], args := [d] }
  | _ => none }
def NodesMovesWrongFalsely : Prop := nodesMovesRow.holds Try.pinned (OpenSpec.ofChange nodesMovesWrong)

/-- 'groupcontrollaw28.NodesLimits': WHATEVER THE INPUT: true; the input reads as it did. -/
def nodesLimitsSpec : ChangeSpec := { name := "nodesLimits", fn := fun _ => fun
  | [d1, d2] => { results := [.lit (.bool true)], args := [d1, d2] }
  | _ => none }
def nodesLimitsRow : OpenClaim := { program := "ytompifpamldjaaa", sum := "5b31c506fe586ac4fbb55ec2d1362d857004e081c6f5aea84b02e3bf637ff9e8", func := "groupcontrol/groupcontrollaw28.NodesLimits", spec := "nodesLimits", unfollowed := true, recurses := true, apart := false }
def NodesLimitsSaid : Prop := nodesLimitsRow.holds Try.pinned (OpenSpec.ofChange nodesLimitsSpec)

/-- ITS FALSE NEIGHBOUR: 'it returns false'. Refute it at one input. -/
def nodesLimitsWrong : ChangeSpec := { name := "nodesLimits", fn := fun _ => fun
  | [d1, d2] => { results := [.lit (.bool false)], args := [d1, d2] }
  | _ => none }
def NodesLimitsWrongFalsely : Prop := nodesLimitsRow.holds Try.pinned (OpenSpec.ofChange nodesLimitsWrong)

/-- 'groupcontrollaw28.NodesPlace': WHATEVER THE INPUT: true; the input reads as it did. -/
def nodesPlaceSpec : ChangeSpec := { name := "nodesPlace", fn := fun _ => fun
  | [d1, d2, d3, d4] => { results := [.lit (.bool true)], args := [d1, d2, d3, d4] }
  | _ => none }
def nodesPlaceRow : OpenClaim := { program := "ytompifpamldjaaa", sum := "5b31c506fe586ac4fbb55ec2d1362d857004e081c6f5aea84b02e3bf637ff9e8", func := "groupcontrol/groupcontrollaw28.NodesPlace", spec := "nodesPlace", unfollowed := true, recurses := true, apart := false }
def NodesPlaceSaid : Prop := nodesPlaceRow.holds Try.pinned (OpenSpec.ofChange nodesPlaceSpec)

/-- ITS FALSE NEIGHBOUR: 'it returns false'. Refute it at one input. -/
def nodesPlaceWrong : ChangeSpec := { name := "nodesPlace", fn := fun _ => fun
  | [d1, d2, d3, d4] => { results := [.lit (.bool false)], args := [d1, d2, d3, d4] }
  | _ => none }
def NodesPlaceWrongFalsely : Prop := nodesPlaceRow.holds Try.pinned (OpenSpec.ofChange nodesPlaceWrong)

/-- 'groupcontrollaw28.NodesMore': WHATEVER THE INPUT: true; the input reads as it did. -/
def nodesMoreSpec : ChangeSpec := { name := "nodesMore", fn := fun _ => fun
  | [d1, d2] => { results := [.lit (.bool true)], args := [d1, d2] }
  | _ => none }
def nodesMoreRow : OpenClaim := { program := "ytompifpamldjaaa", sum := "5b31c506fe586ac4fbb55ec2d1362d857004e081c6f5aea84b02e3bf637ff9e8", func := "groupcontrol/groupcontrollaw28.NodesMore", spec := "nodesMore", unfollowed := true, recurses := true, apart := false }
def NodesMoreSaid : Prop := nodesMoreRow.holds Try.pinned (OpenSpec.ofChange nodesMoreSpec)

/-- ITS FALSE NEIGHBOUR: 'it returns false'. Refute it at one input. -/
def nodesMoreWrong : ChangeSpec := { name := "nodesMore", fn := fun _ => fun
  | [d1, d2] => { results := [.lit (.bool false)], args := [d1, d2] }
  | _ => none }
def NodesMoreWrongFalsely : Prop := nodesMoreRow.holds Try.pinned (OpenSpec.ofChange nodesMoreWrong)

/-- 'groupcontrollaw28.NodesLoads': WHATEVER THE INPUT: true; the input reads as it did. -/
def nodesLoadsSpec : ChangeSpec := { name := "nodesLoads", fn := fun _ => fun
  | [d] => { results := [.lit (.bool true)], args := [d] }
  | _ => none }
def nodesLoadsRow : OpenClaim := { program := "ytompifpamldjaaa", sum := "5b31c506fe586ac4fbb55ec2d1362d857004e081c6f5aea84b02e3bf637ff9e8", func := "groupcontrol/groupcontrollaw28.NodesLoads", spec := "nodesLoads", unfollowed := true, recurses := true, apart := false }
def NodesLoadsSaid : Prop := nodesLoadsRow.holds Try.pinned (OpenSpec.ofChange nodesLoadsSpec)

/-- ITS FALSE NEIGHBOUR: 'it returns false'. Refute it at one input. -/
def nodesLoadsWrong : ChangeSpec := { name := "nodesLoads", fn := fun _ => fun
  | [d] => { results := [.lit (.bool false)], args := [d] }
  | _ => none }
def NodesLoadsWrongFalsely : Prop := nodesLoadsRow.holds Try.pinned (OpenSpec.ofChange nodesLoadsWrong)

/-- 'groupcontrollaw28.NodesCheck': WHATEVER THE INPUT: true; the input reads as it did. -/
def nodesCheckSpec : ChangeSpec := { name := "nodesCheck", fn := fun _ => fun
  | [d1, d2, d3] => { results := [.lit (.bool true)], args := [d1, d2, d3] }
  | _ => none }
def nodesCheckRow : OpenClaim := { program := "ytompifpamldjaaa", sum := "5b31c506fe586ac4fbb55ec2d1362d857004e081c6f5aea84b02e3bf637ff9e8", func := "groupcontrol/groupcontrollaw28.NodesCheck", spec := "nodesCheck", unfollowed := true, recurses := true, apart := false }
def NodesCheckSaid : Prop := nodesCheckRow.holds Try.pinned (OpenSpec.ofChange nodesCheckSpec)

/-- ITS FALSE NEIGHBOUR: 'it returns false'. Refute it at one input. -/
def nodesCheckWrong : ChangeSpec := { name := "nodesCheck", fn := fun _ => fun
  | [d1, d2, d3] => { results := [.lit (.bool false)], args := [d1, d2, d3] }
  | _ => none }
def NodesCheckWrongFalsely : Prop := nodesCheckRow.holds Try.pinned (OpenSpec.ofChange nodesCheckWrong)

/- THE SECOND FORM. 'bulk': how many values and letters a reading holds, each counted each time it is reached (what is shared counts as often as it is met; a slice's spare places count too). A statement '..UptoSaid' is the law's where the arguments, and the package variables that the reading takes, are together of bulk at most 1048576: NARROWER than '..Said'. Prove '..Said' where nothing that the law and all that it calls make is longer than what came in: it says more and counts as full. Else prove '..UptoSaid'. A law counts once. -/
mutual
def uptoBulk {H : Type} : DataW H → Nat
  | .lit (.string bytes) => bytes.length + 1
  | .lit _ => 1
  | .nil => 1
  | .ptr d => uptoBulk d + 1
  | .slice elems spare => uptoBulkAll elems + uptoBulkAll spare + 1
  | .agg parts => uptoBulkAll parts + 1
  | .iface _ d => uptoBulk d + 1
  | .map entries => uptoBulkEntries entries + 1
  | .held _ => 1
def uptoBulkAll {H : Type} : List (DataW H) → Nat
  | [] => 0
  | d :: r => uptoBulk d + uptoBulkAll r
def uptoBulkEntries {H : Type} : List (Lit × DataW H) → Nat
  | [] => 0
  | x :: r => uptoBulkEntry x + uptoBulkEntries r
def uptoBulkEntry {H : Type} : Lit × DataW H → Nat
  | (.string bytes, d) => bytes.length + uptoBulk d + 1
  | (_, d) => uptoBulk d + 1
 end
def uptoSmall : (H : Type) → List (DataW H) → Bool := fun _ ds => decide (uptoBulkAll ds ≤ 1048576)
def OpenSpec.upto (s : _root_.Go.ChangeSpec) : _root_.Go.OpenSpec := { _root_.Go.OpenSpec.ofChange s with cond := some uptoSmall }

/-- 'groupcontrollaw28.NodesMoves', WHERE WHAT IT READS IS OF BULK AT MOST 1048576: true; the input reads as it did. -/
def nodesMovesUptoRow : OpenClaim := { program := "ytompifpamldjaaa", sum := "5b31c506fe586ac4fbb55ec2d1362d857004e081c6f5aea84b02e3bf637ff9e8", func := "groupcontrol/groupcontrollaw28.NodesMoves", spec := "nodesMoves", unfollowed := true, recurses := true, apart := false, narrowed := true }
def NodesMovesUptoSaid : Prop := nodesMovesUptoRow.holds Try.pinned (OpenSpec.upto nodesMovesSpec)

/-- 'groupcontrollaw28.NodesLimits', WHERE WHAT IT READS IS OF BULK AT MOST 1048576: true; the input reads as it did. -/
def nodesLimitsUptoRow : OpenClaim := { program := "ytompifpamldjaaa", sum := "5b31c506fe586ac4fbb55ec2d1362d857004e081c6f5aea84b02e3bf637ff9e8", func := "groupcontrol/groupcontrollaw28.NodesLimits", spec := "nodesLimits", unfollowed := true, recurses := true, apart := false, narrowed := true }
def NodesLimitsUptoSaid : Prop := nodesLimitsUptoRow.holds Try.pinned (OpenSpec.upto nodesLimitsSpec)

/-- 'groupcontrollaw28.NodesPlace', WHERE WHAT IT READS IS OF BULK AT MOST 1048576: true; the input reads as it did. -/
def nodesPlaceUptoRow : OpenClaim := { program := "ytompifpamldjaaa", sum := "5b31c506fe586ac4fbb55ec2d1362d857004e081c6f5aea84b02e3bf637ff9e8", func := "groupcontrol/groupcontrollaw28.NodesPlace", spec := "nodesPlace", unfollowed := true, recurses := true, apart := false, narrowed := true }
def NodesPlaceUptoSaid : Prop := nodesPlaceUptoRow.holds Try.pinned (OpenSpec.upto nodesPlaceSpec)

/-- 'groupcontrollaw28.NodesMore', WHERE WHAT IT READS IS OF BULK AT MOST 1048576: true; the input reads as it did. -/
def nodesMoreUptoRow : OpenClaim := { program := "ytompifpamldjaaa", sum := "5b31c506fe586ac4fbb55ec2d1362d857004e081c6f5aea84b02e3bf637ff9e8", func := "groupcontrol/groupcontrollaw28.NodesMore", spec := "nodesMore", unfollowed := true, recurses := true, apart := false, narrowed := true }
def NodesMoreUptoSaid : Prop := nodesMoreUptoRow.holds Try.pinned (OpenSpec.upto nodesMoreSpec)

/-- 'groupcontrollaw28.NodesLoads', WHERE WHAT IT READS IS OF BULK AT MOST 1048576: true; the input reads as it did. -/
def nodesLoadsUptoRow : OpenClaim := { program := "ytompifpamldjaaa", sum := "5b31c506fe586ac4fbb55ec2d1362d857004e081c6f5aea84b02e3bf637ff9e8", func := "groupcontrol/groupcontrollaw28.NodesLoads", spec := "nodesLoads", unfollowed := true, recurses := true, apart := false, narrowed := true }
def NodesLoadsUptoSaid : Prop := nodesLoadsUptoRow.holds Try.pinned (OpenSpec.upto nodesLoadsSpec)

/-- 'groupcontrollaw28.NodesCheck', WHERE WHAT IT READS IS OF BULK AT MOST 1048576: true; the input reads as it did. -/
def nodesCheckUptoRow : OpenClaim := { program := "ytompifpamldjaaa", sum := "5b31c506fe586ac4fbb55ec2d1362d857004e081c6f5aea84b02e3bf637ff9e8", func := "groupcontrol/groupcontrollaw28.NodesCheck", spec := "nodesCheck", unfollowed := true, recurses := true, apart := false, narrowed := true }
def NodesCheckUptoSaid : Prop := nodesCheckUptoRow.holds Try.pinned (OpenSpec.upto nodesCheckSpec)

end Rows
end Go.Proofs.Ytompifpamldjaaa
