/-
  No cell of these rows narrows 'for every input' (looked for: loops, veiled, ifaces, maps, wideKeys, modest, calm, conditions, laid).
  DERIVED. THE GIVEN ROWS OF THIS SEAT. 5 by the template 'for every input the law returns true; each argument reads behind the call as it read before'; 0 by the template 'total and deterministic' (their statements: YtaipgdhaoldhjaaTotals.lean).
  GIVEN WITH THE SEED: the statements are not yours to turn. If you find one false, say at which input.
  Laid BY PROGRAM, IN A SANDBOX (cutbox-rows.mjs): the forced cells as the released guide's own fill.sh prints them over the translation e25f531ac3fcae4c… (all of the seat's roots in one cut). By AI agents, Wed Nov 11 2026. No macro, syntax, notation, axiom, sorry.
-/
import Derived.Test.YtaipgdhaoldhjaaChecked
import GoSem.Claim
import GoSem.ClaimJoined
import GoSem.ClaimMapViews
import Derived.JoinedTies
import Derived.KernelRfl
namespace Go.Proofs.Ytaipgdhaoldhjaa
/- THE CELL 'sum', in the pinned program and in every row, IS THE sha256 OF THE DUMP (.gsa) THAT YtaipgdhaoldhjaaProg.lean LOADS. Nothing in Lean hashes anything: it is a label: what it is worth is what the hold of that sum in a sandbox is worth. -/
noncomputable def Try.pinned : Pinned := { name := "ytaipgdhaoldhjaa", sum := "e25f531ac3fcae4c9c61e777202f7396db62fcf40de4fd7fa3d1d6a816668817", checked := Try.checked }
namespace Rows
def none {H : Type} : Left H := { results := [], args := [] }

/-- 'groupcontrollaw14.DivideScales': WHATEVER THE INPUT: true; the input reads as it did. -/
def divideScalesSpec : ChangeSpec := { name := "divideScales", fn := fun _ => fun
  | [d1, d2, d3] => { results := [.lit (.bool true)], args := [d1, d2, d3] }
  | _ => none }
def divideScalesRow : OpenClaim := { program := "ytaipgdhaoldhjaa", sum := "e25f531ac3fcae4c9c61e777202f7396db62fcf40de4fd7fa3d1d6a816668817", func := "groupcontrol/groupcontrollaw14.DivideScales", spec := "divideScales", unfollowed := true, recurses := true, apart := false }
def DivideScalesSaid : Prop := divideScalesRow.holds Try.pinned (OpenSpec.ofChange divideScalesSpec)

/-- ITS FALSE NEIGHBOUR: 'it returns false'. Refute it at one input. -/
def divideScalesWrong : ChangeSpec := { name := "divideScales", fn := fun _ => fun
  | [d1, d2, d3] => { results := [.lit (.bool false)], args := [d1, d2, d3] }
  | _ => none }
def DivideScalesWrongFalsely : Prop := divideScalesRow.holds Try.pinned (OpenSpec.ofChange divideScalesWrong)

/-- 'groupcontrollaw14.DivideShares': WHATEVER THE INPUT: true; the input reads as it did. -/
def divideSharesSpec : ChangeSpec := { name := "divideShares", fn := fun _ => fun
  | [d1, d2] => { results := [.lit (.bool true)], args := [d1, d2] }
  | _ => none }
def divideSharesRow : OpenClaim := { program := "ytaipgdhaoldhjaa", sum := "e25f531ac3fcae4c9c61e777202f7396db62fcf40de4fd7fa3d1d6a816668817", func := "groupcontrol/groupcontrollaw14.DivideShares", spec := "divideShares", unfollowed := true, recurses := true, apart := false }
def DivideSharesSaid : Prop := divideSharesRow.holds Try.pinned (OpenSpec.ofChange divideSharesSpec)

/-- ITS FALSE NEIGHBOUR: 'it returns false'. Refute it at one input. -/
def divideSharesWrong : ChangeSpec := { name := "divideShares", fn := fun _ => fun
  | [d1, d2] => { results := [.lit (.bool false)], args := [d1, d2] }
  | _ => none }
def DivideSharesWrongFalsely : Prop := divideSharesRow.holds Try.pinned (OpenSpec.ofChange divideSharesWrong)

/-- 'groupcontrollaw14.DivideGrows': WHATEVER THE INPUT: true; the input reads as it did. -/
def divideGrowsSpec : ChangeSpec := { name := "divideGrows", fn := fun _ => fun
  | [d1, d2] => { results := [.lit (.bool true)], args := [d1, d2] }
  | _ => none }
def divideGrowsRow : OpenClaim := { program := "ytaipgdhaoldhjaa", sum := "e25f531ac3fcae4c9c61e777202f7396db62fcf40de4fd7fa3d1d6a816668817", func := "groupcontrol/groupcontrollaw14.DivideGrows", spec := "divideGrows", unfollowed := true, recurses := true, apart := false }
def DivideGrowsSaid : Prop := divideGrowsRow.holds Try.pinned (OpenSpec.ofChange divideGrowsSpec)

/-- ITS FALSE NEIGHBOUR: 'it returns false'. Refute it at one input. -/
def divideGrowsWrong : ChangeSpec := { name := "divideGrows", fn := fun _ => fun
  | [d1, d2] => { results := [.lit (.bool false)], args := [d1, d2] }
  | _ => none }
def DivideGrowsWrongFalsely : Prop := divideGrowsRow.holds Try.pinned (OpenSpec.ofChange divideGrowsWrong)

/-- 'groupcontrollaw14.DivideSteps': WHATEVER THE INPUT: true; the input reads as it did. -/
def divideStepsSpec : ChangeSpec := { name := "divideSteps", fn := fun _ => fun
  | [d1, d2] => { results := [.lit (.bool true)], args := [d1, d2] }
  | _ => none }
def divideStepsRow : OpenClaim := { program := "ytaipgdhaoldhjaa", sum := "e25f531ac3fcae4c9c61e777202f7396db62fcf40de4fd7fa3d1d6a816668817", func := "groupcontrol/groupcontrollaw14.DivideSteps", spec := "divideSteps", unfollowed := true, recurses := true, apart := false }
def DivideStepsSaid : Prop := divideStepsRow.holds Try.pinned (OpenSpec.ofChange divideStepsSpec)

/-- ITS FALSE NEIGHBOUR: 'it returns false'. Refute it at one input. -/
def divideStepsWrong : ChangeSpec := { name := "divideSteps", fn := fun _ => fun
  | [d1, d2] => { results := [.lit (.bool false)], args := [d1, d2] }
  | _ => none }
def DivideStepsWrongFalsely : Prop := divideStepsRow.holds Try.pinned (OpenSpec.ofChange divideStepsWrong)

/-- 'groupcontrollaw14.DivideTrees': WHATEVER THE INPUT: true; the input reads as it did. -/
def divideTreesSpec : ChangeSpec := { name := "divideTrees", fn := fun _ => fun
  | [d1, d2] => { results := [.lit (.bool true)], args := [d1, d2] }
  | _ => none }
def divideTreesRow : OpenClaim := { program := "ytaipgdhaoldhjaa", sum := "e25f531ac3fcae4c9c61e777202f7396db62fcf40de4fd7fa3d1d6a816668817", func := "groupcontrol/groupcontrollaw14.DivideTrees", spec := "divideTrees", unfollowed := true, recurses := true, apart := false }
def DivideTreesSaid : Prop := divideTreesRow.holds Try.pinned (OpenSpec.ofChange divideTreesSpec)

/-- ITS FALSE NEIGHBOUR: 'it returns false'. Refute it at one input. -/
def divideTreesWrong : ChangeSpec := { name := "divideTrees", fn := fun _ => fun
  | [d1, d2] => { results := [.lit (.bool false)], args := [d1, d2] }
  | _ => none }
def DivideTreesWrongFalsely : Prop := divideTreesRow.holds Try.pinned (OpenSpec.ofChange divideTreesWrong)

/- THE SECOND FORM. 'bulk': how many values and letters a reading holds, each counted each time it is reached (what is shared counts as often as it is met; a slice's spare places count too). A statement '..UptoSaid' is the law's where the arguments, and the package variables that the reading takes, are together of bulk at most 1048576: NARROWER than '..Said'. Prove '..Said' where nothing that the law and all that it calls make is longer than what came in: it says more and counts as full. Else prove '..UptoSaid'. A law counts once. -/
mutual
def uptoBulk {H : Type} : DataW H → Nat
  | .lit (.string bytes) => bytes.length + 1
  | .lit _ => 1
  | .nil => 1
  | .ptr d => uptoBulk d + 1
  | .slice elems spare => uptoBulkAll elems + uptoBulkAll spare + 1
  | .agg parts => uptoBulkAll parts + 1
  | .iface _ d => uptoBulk d + 1
  | .map entries => uptoBulkEntries entries + 1
  | .held _ => 1
def uptoBulkAll {H : Type} : List (DataW H) → Nat
  | [] => 0
  | d :: r => uptoBulk d + uptoBulkAll r
def uptoBulkEntries {H : Type} : List (Lit × DataW H) → Nat
  | [] => 0
  | x :: r => uptoBulkEntry x + uptoBulkEntries r
def uptoBulkEntry {H : Type} : Lit × DataW H → Nat
  | (.string bytes, d) => bytes.length + uptoBulk d + 1
  | (_, d) => uptoBulk d + 1
 end
def uptoSmall : (H : Type) → List (DataW H) → Bool := fun _ ds => decide (uptoBulkAll ds ≤ 1048576)
def OpenSpec.upto (s : _root_.Go.ChangeSpec) : _root_.Go.OpenSpec := { _root_.Go.OpenSpec.ofChange s with cond := some uptoSmall }

/-- 'groupcontrollaw14.DivideScales', WHERE WHAT IT READS IS OF BULK AT MOST 1048576: true; the input reads as it did. -/
def divideScalesUptoRow : OpenClaim := { program := "ytaipgdhaoldhjaa", sum := "e25f531ac3fcae4c9c61e777202f7396db62fcf40de4fd7fa3d1d6a816668817", func := "groupcontrol/groupcontrollaw14.DivideScales", spec := "divideScales", unfollowed := true, recurses := true, apart := false, narrowed := true }
def DivideScalesUptoSaid : Prop := divideScalesUptoRow.holds Try.pinned (OpenSpec.upto divideScalesSpec)

/-- 'groupcontrollaw14.DivideShares', WHERE WHAT IT READS IS OF BULK AT MOST 1048576: true; the input reads as it did. -/
def divideSharesUptoRow : OpenClaim := { program := "ytaipgdhaoldhjaa", sum := "e25f531ac3fcae4c9c61e777202f7396db62fcf40de4fd7fa3d1d6a816668817", func := "groupcontrol/groupcontrollaw14.DivideShares", spec := "divideShares", unfollowed := true, recurses := true, apart := false, narrowed := true }
def DivideSharesUptoSaid : Prop := divideSharesUptoRow.holds Try.pinned (OpenSpec.upto divideSharesSpec)

/-- 'groupcontrollaw14.DivideGrows', WHERE WHAT IT READS IS OF BULK AT MOST 1048576: true; the input reads as it did. -/
def divideGrowsUptoRow : OpenClaim := { program := "ytaipgdhaoldhjaa", sum := "e25f531ac3fcae4c9c61e777202f7396db62fcf40de4fd7fa3d1d6a816668817", func := "groupcontrol/groupcontrollaw14.DivideGrows", spec := "divideGrows", unfollowed := true, recurses := true, apart := false, narrowed := true }
def DivideGrowsUptoSaid : Prop := divideGrowsUptoRow.holds Try.pinned (OpenSpec.upto divideGrowsSpec)

/-- 'groupcontrollaw14.DivideSteps', WHERE WHAT IT READS IS OF BULK AT MOST 1048576: true; the input reads as it did. -/
def divideStepsUptoRow : OpenClaim := { program := "ytaipgdhaoldhjaa", sum := "e25f531ac3fcae4c9c61e777202f7396db62fcf40de4fd7fa3d1d6a816668817", func := "groupcontrol/groupcontrollaw14.DivideSteps", spec := "divideSteps", unfollowed := true, recurses := true, apart := false, narrowed := true }
def DivideStepsUptoSaid : Prop := divideStepsUptoRow.holds Try.pinned (OpenSpec.upto divideStepsSpec)

/-- 'groupcontrollaw14.DivideTrees', WHERE WHAT IT READS IS OF BULK AT MOST 1048576: true; the input reads as it did. -/
def divideTreesUptoRow : OpenClaim := { program := "ytaipgdhaoldhjaa", sum := "e25f531ac3fcae4c9c61e777202f7396db62fcf40de4fd7fa3d1d6a816668817", func := "groupcontrol/groupcontrollaw14.DivideTrees", spec := "divideTrees", unfollowed := true, recurses := true, apart := false, narrowed := true }
def DivideTreesUptoSaid : Prop := divideTreesUptoRow.holds Try.pinned (OpenSpec.upto divideTreesSpec)

end Rows
end Go.Proofs.Ytaipgdhaoldhjaa
