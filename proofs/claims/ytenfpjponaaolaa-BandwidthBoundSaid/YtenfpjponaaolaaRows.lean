/-
  No cell of these rows narrows 'for every input' (looked for: loops, veiled, ifaces, maps, wideKeys, modest, calm, conditions, laid).
  DERIVED. THE GIVEN ROWS OF THIS SEAT. 5 by the template 'for every input the law returns true; each argument reads behind the call as it read before'; 0 by the template 'total and deterministic' (their statements: YtenfpjponaaolaaTotals.lean).
  GIVEN WITH THE SEED: the statements are not yours to turn. If you find one false, say at which input.
  Laid BY PROGRAM, IN A SANDBOX (cutbox-rows.mjs): the forced cells as the released guide's own fill.sh prints them over the translation 810c0c433e9f34d2… (all of the seat's roots in one cut). By AI agents, Wed Nov 11 2026. No macro, syntax, notation, axiom, sorry.
-/
import Derived.Test.YtenfpjponaaolaaChecked
import GoSem.Claim
import GoSem.ClaimJoined
import GoSem.ClaimMapViews
import Derived.JoinedTies
import Derived.KernelRfl
namespace Go.Proofs.Ytenfpjponaaolaa
/- THE CELL 'sum', in the pinned program and in every row, IS THE sha256 OF THE DUMP (.gsa) THAT YtenfpjponaaolaaProg.lean LOADS. Nothing in Lean hashes anything: it is a label: what it is worth is what the hold of that sum in a sandbox is worth. -/
noncomputable def Try.pinned : Pinned := { name := "ytenfpjponaaolaa", sum := "810c0c433e9f34d2edc08832b2154d551915ba2ac3cea43136f6f06b28b80321", checked := Try.checked }
namespace Rows
def none {H : Type} : Left H := { results := [], args := [] }

/-- 'groupcontrollaw17.BandwidthSaves': WHATEVER THE INPUT: true; the input reads as it did. -/
def bandwidthSavesSpec : ChangeSpec := { name := "bandwidthSaves", fn := fun _ => fun
  | [d1, d2] => { results := [.lit (.bool true)], args := [d1, d2] }
  | _ => none }
def bandwidthSavesRow : OpenClaim := { program := "ytenfpjponaaolaa", sum := "810c0c433e9f34d2edc08832b2154d551915ba2ac3cea43136f6f06b28b80321", func := "groupcontrol/groupcontrollaw17.BandwidthSaves", spec := "bandwidthSaves", apart := false }
def BandwidthSavesSaid : Prop := bandwidthSavesRow.holds Try.pinned (OpenSpec.ofChange bandwidthSavesSpec)

/-- ITS FALSE NEIGHBOUR: 'it returns false'. Refute it at one input. -/
def bandwidthSavesWrong : ChangeSpec := { name := "bandwidthSaves", fn := fun _ => fun
  | [d1, d2] => { results := [.lit (.bool false)], args := [d1, d2] }
  | _ => none }
def BandwidthSavesWrongFalsely : Prop := bandwidthSavesRow.holds Try.pinned (OpenSpec.ofChange bandwidthSavesWrong)

/-- 'groupcontrollaw17.BandwidthChanges': WHATEVER THE INPUT: true; the input reads as it did. -/
def bandwidthChangesSpec : ChangeSpec := { name := "bandwidthChanges", fn := fun _ => fun
  | [d] => { results := [.lit (.bool true)], args := [d] }
  | _ => none }
def bandwidthChangesRow : OpenClaim := { program := "ytenfpjponaaolaa", sum := "810c0c433e9f34d2edc08832b2154d551915ba2ac3cea43136f6f06b28b80321", func := "groupcontrol/groupcontrollaw17.BandwidthChanges", spec := "bandwidthChanges", apart := false }
def BandwidthChangesSaid : Prop := bandwidthChangesRow.holds Try.pinned (OpenSpec.ofChange bandwidthChangesSpec)

/-- ITS FALSE NEIGHBOUR: 'it returns false'. Refute it at one input. -/
def bandwidthChangesWrong : ChangeSpec := { name := "bandwidthChanges", fn := fun _ => fun
  | [d] => { results := [.lit (.bool false)], args := [d] }
  | _ => none }
def BandwidthChangesWrongFalsely : Prop := bandwidthChangesRow.holds Try.pinned (OpenSpec.ofChange bandwidthChangesWrong)

/-- 'groupcontrollaw17.BandwidthBound': WHATEVER THE INPUT: true; the input reads as it did. -/
def bandwidthBoundSpec : ChangeSpec := { name := "bandwidthBound", fn := fun _ => fun
  | [d] => { results := [.lit (.bool true)], args := [d] }
  | _ => none }
def bandwidthBoundRow : OpenClaim := { program := "ytenfpjponaaolaa", sum := "810c0c433e9f34d2edc08832b2154d551915ba2ac3cea43136f6f06b28b80321", func := "groupcontrol/groupcontrollaw17.BandwidthBound", spec := "bandwidthBound", apart := false }
def BandwidthBoundSaid : Prop := bandwidthBoundRow.holds Try.pinned (OpenSpec.ofChange bandwidthBoundSpec)

/-- ITS FALSE NEIGHBOUR: 'it returns false'. Refute it at one input. -/
def bandwidthBoundWrong : ChangeSpec := { name := "bandwidthBound", fn := fun _ => fun
  | [d] => { results := [.lit (.bool false)], args := [d] }
  | _ => none }
def BandwidthBoundWrongFalsely : Prop := bandwidthBoundRow.holds Try.pinned (OpenSpec.ofChange bandwidthBoundWrong)

/-- 'groupcontrollaw17.BandwidthDrains': WHATEVER THE INPUT: true; the input reads as it did. -/
def bandwidthDrainsSpec : ChangeSpec := { name := "bandwidthDrains", fn := fun _ => fun
  | [d] => { results := [.lit (.bool true)], args := [d] }
  | _ => none }
def bandwidthDrainsRow : OpenClaim := { program := "ytenfpjponaaolaa", sum := "810c0c433e9f34d2edc08832b2154d551915ba2ac3cea43136f6f06b28b80321", func := "groupcontrol/groupcontrollaw17.BandwidthDrains", spec := "bandwidthDrains", apart := false }
def BandwidthDrainsSaid : Prop := bandwidthDrainsRow.holds Try.pinned (OpenSpec.ofChange bandwidthDrainsSpec)

/-- ITS FALSE NEIGHBOUR: 'it returns false'. Refute it at one input. -/
def bandwidthDrainsWrong : ChangeSpec := { name := "bandwidthDrains", fn := fun _ => fun
  | [d] => { results := [.lit (.bool false)], args := [d] }
  | _ => none }
def BandwidthDrainsWrongFalsely : Prop := bandwidthDrainsRow.holds Try.pinned (OpenSpec.ofChange bandwidthDrainsWrong)

/-- 'groupcontrollaw17.BandwidthTokens': WHATEVER THE INPUT: true; the input reads as it did. -/
def bandwidthTokensSpec : ChangeSpec := { name := "bandwidthTokens", fn := fun _ => fun
  | [d] => { results := [.lit (.bool true)], args := [d] }
  | _ => none }
def bandwidthTokensRow : OpenClaim := { program := "ytenfpjponaaolaa", sum := "810c0c433e9f34d2edc08832b2154d551915ba2ac3cea43136f6f06b28b80321", func := "groupcontrol/groupcontrollaw17.BandwidthTokens", spec := "bandwidthTokens", apart := false }
def BandwidthTokensSaid : Prop := bandwidthTokensRow.holds Try.pinned (OpenSpec.ofChange bandwidthTokensSpec)

/-- ITS FALSE NEIGHBOUR: 'it returns false'. Refute it at one input. -/
def bandwidthTokensWrong : ChangeSpec := { name := "bandwidthTokens", fn := fun _ => fun
  | [d] => { results := [.lit (.bool false)], args := [d] }
  | _ => none }
def BandwidthTokensWrongFalsely : Prop := bandwidthTokensRow.holds Try.pinned (OpenSpec.ofChange bandwidthTokensWrong)

/- THE SECOND FORM. 'bulk': how many values and letters a reading holds, each counted each time it is reached (what is shared counts as often as it is met; a slice's spare places count too). A statement '..UptoSaid' is the law's where the arguments, and the package variables that the reading takes, are together of bulk at most 1048576: NARROWER than '..Said'. Prove '..Said' where nothing that the law and all that it calls make is longer than what came in: it says more and counts as full. Else prove '..UptoSaid'. A law counts once. -/
mutual
def uptoBulk {H : Type} : DataW H → Nat
  | .lit (.string bytes) => bytes.length + 1
  | .lit _ => 1
  | .nil => 1
  | .ptr d => uptoBulk d + 1
  | .slice elems spare => uptoBulkAll elems + uptoBulkAll spare + 1
  | .agg parts => uptoBulkAll parts + 1
  | .iface _ d => uptoBulk d + 1
  | .map entries => uptoBulkEntries entries + 1
  | .held _ => 1
def uptoBulkAll {H : Type} : List (DataW H) → Nat
  | [] => 0
  | d :: r => uptoBulk d + uptoBulkAll r
def uptoBulkEntries {H : Type} : List (Lit × DataW H) → Nat
  | [] => 0
  | x :: r => uptoBulkEntry x + uptoBulkEntries r
def uptoBulkEntry {H : Type} : Lit × DataW H → Nat
  | (.string bytes, d) => bytes.length + uptoBulk d + 1
  | (_, d) => uptoBulk d + 1
 end
def uptoSmall : (H : Type) → List (DataW H) → Bool := fun _ ds => decide (uptoBulkAll ds ≤ 1048576)
def OpenSpec.upto (s : _root_.Go.ChangeSpec) : _root_.Go.OpenSpec := { _root_.Go.OpenSpec.ofChange s with cond := some uptoSmall }

/-- 'groupcontrollaw17.BandwidthSaves', WHERE WHAT IT READS IS OF BULK AT MOST 1048576: true; the input reads as it did. -/
def bandwidthSavesUptoRow : OpenClaim := { program := "ytenfpjponaaolaa", sum := "810c0c433e9f34d2edc08832b2154d551915ba2ac3cea43136f6f06b28b80321", func := "groupcontrol/groupcontrollaw17.BandwidthSaves", spec := "bandwidthSaves", apart := false, narrowed := true }
def BandwidthSavesUptoSaid : Prop := bandwidthSavesUptoRow.holds Try.pinned (OpenSpec.upto bandwidthSavesSpec)

/-- 'groupcontrollaw17.BandwidthChanges', WHERE WHAT IT READS IS OF BULK AT MOST 1048576: true; the input reads as it did. -/
def bandwidthChangesUptoRow : OpenClaim := { program := "ytenfpjponaaolaa", sum := "810c0c433e9f34d2edc08832b2154d551915ba2ac3cea43136f6f06b28b80321", func := "groupcontrol/groupcontrollaw17.BandwidthChanges", spec := "bandwidthChanges", apart := false, narrowed := true }
def BandwidthChangesUptoSaid : Prop := bandwidthChangesUptoRow.holds Try.pinned (OpenSpec.upto bandwidthChangesSpec)

/-- 'groupcontrollaw17.BandwidthBound', WHERE WHAT IT READS IS OF BULK AT MOST 1048576: true; the input reads as it did. -/
def bandwidthBoundUptoRow : OpenClaim := { program := "ytenfpjponaaolaa", sum := "810c0c433e9f34d2edc08832b2154d551915ba2ac3cea43136f6f06b28b80321", func := "groupcontrol/groupcontrollaw17.BandwidthBound", spec := "bandwidthBound", apart := false, narrowed := true }
def BandwidthBoundUptoSaid : Prop := bandwidthBoundUptoRow.holds Try.pinned (OpenSpec.upto bandwidthBoundSpec)

/-- 'groupcontrollaw17.BandwidthDrains', WHERE WHAT IT READS IS OF BULK AT MOST 1048576: true; the input reads as it did. -/
def bandwidthDrainsUptoRow : OpenClaim := { program := "ytenfpjponaaolaa", sum := "810c0c433e9f34d2edc08832b2154d551915ba2ac3cea43136f6f06b28b80321", func := "groupcontrol/groupcontrollaw17.BandwidthDrains", spec := "bandwidthDrains", apart := false, narrowed := true }
def BandwidthDrainsUptoSaid : Prop := bandwidthDrainsUptoRow.holds Try.pinned (OpenSpec.upto bandwidthDrainsSpec)

/-- 'groupcontrollaw17.BandwidthTokens', WHERE WHAT IT READS IS OF BULK AT MOST 1048576: true; the input reads as it did. -/
def bandwidthTokensUptoRow : OpenClaim := { program := "ytenfpjponaaolaa", sum := "810c0c433e9f34d2edc08832b2154d551915ba2ac3cea43136f6f06b28b80321", func := "groupcontrol/groupcontrollaw17.BandwidthTokens", spec := "bandwidthTokens", apart := false, narrowed := true }
def BandwidthTokensUptoSaid : Prop := bandwidthTokensUptoRow.holds Try.pinned (OpenSpec.upto bandwidthTokensSpec)

end Rows
end Go.Proofs.Ytenfpjponaaolaa
