/-
  No cell of these rows narrows 'for every input' (looked for: loops, veiled, ifaces, maps, wideKeys, modest, calm, conditions, laid).
  DERIVED. THE GIVEN ROWS OF THIS SEAT. 5 by the template 'for every input the law returns true; each argument reads behind the call as it read before'; 0 by the template 'total and deterministic' (their statements: YtgaeomkjpcpogaaTotals.lean).
  GIVEN WITH THE SEED: the statements are not yours to turn. If you find one false, say at which input.
  Laid BY PROGRAM, IN A SANDBOX (cutbox-rows.mjs): the forced cells as the released guide's own fill.sh prints them over the translation 0d4fcce548edd908… (all of the seat's roots in one cut). By AI agents, Wed Nov 11 2026. No macro, syntax, notation, axiom, sorry.
-/
import Derived.Test.YtgaeomkjpcpogaaChecked
import GoSem.Claim
import GoSem.ClaimJoined
import GoSem.ClaimMapViews
import Derived.JoinedTies
import Derived.KernelRfl
namespace Go.Proofs.Ytgaeomkjpcpogaa
/- THE CELL 'sum', in the pinned program and in every row, IS THE sha256 OF THE DUMP (.gsa) THAT YtgaeomkjpcpogaaProg.lean LOADS. Nothing in Lean hashes anything: it is a label: what it is worth is what the hold of that sum in a sandbox is worth. -/
noncomputable def Try.pinned : Pinned := { name := "ytgaeomkjpcpogaa", sum := "0d4fcce548edd9080f6005247b3c58391c9c2a3659da1eca6a1a57b3ee37136e", checked := Try.checked }
namespace Rows
def none {H : Type} : Left H := { results := [], args := [] }

/-- 'groupcontrollaw41.WorkloadLimits': WHATEVER THE INPUT: true; the input reads as it did. -/
def workloadLimitsSpec : ChangeSpec := { name := "workloadLimits", fn := fun _ => fun
  | [d1, d2] => { results := [.lit (.bool true)], args := [d1, d2] }
  | _ => none }
def workloadLimitsRow : OpenClaim := { program := "ytgaeomkjpcpogaa", sum := "0d4fcce548edd9080f6005247b3c58391c9c2a3659da1eca6a1a57b3ee37136e", func := "groupcontrol/groupcontrollaw41.WorkloadLimits", spec := "workloadLimits", unfollowed := true, recurses := true, apart := false }
def WorkloadLimitsSaid : Prop := workloadLimitsRow.holds Try.pinned (OpenSpec.ofChange workloadLimitsSpec)

/-- ITS FALSE NEIGHBOUR: 'it returns false'. Refute it at one input. -/
def workloadLimitsWrong : ChangeSpec := { name := "workloadLimits", fn := fun _ => fun
  | [d1, d2] => { results := [.lit (.bool false)], args := [d1, d2] }
  | _ => none }
def WorkloadLimitsWrongFalsely : Prop := workloadLimitsRow.holds Try.pinned (OpenSpec.ofChange workloadLimitsWrong)

/-- 'groupcontrollaw41.WorkloadKeeps': WHATEVER THE INPUT: true; the input reads as it did. -/
def workloadKeepsSpec : ChangeSpec := { name := "workloadKeeps", fn := fun _ => fun
  | [d] => { results := [.lit (.bool true)], args := [d] }
  | _ => none }
def workloadKeepsRow : OpenClaim := { program := "ytgaeomkjpcpogaa", sum := "0d4fcce548edd9080f6005247b3c58391c9c2a3659da1eca6a1a57b3ee37136e", func := "groupcontrol/groupcontrollaw41.WorkloadKeeps", spec := "workloadKeeps", unfollowed := true, recurses := true, apart := false }
def WorkloadKeepsSaid : Prop := workloadKeepsRow.holds Try.pinned (OpenSpec.ofChange workloadKeepsSpec)

/-- ITS FALSE NEIGHBOUR: 'it returns false'. Refute it at one input. -/
def workloadKeepsWrong : ChangeSpec := { name := "workloadKeeps", fn := fun _ => fun
  | [d] => { results := [.lit (.bool false)], args := [d] }
  | _ => none }
def WorkloadKeepsWrongFalsely : Prop := workloadKeepsRow.holds Try.pinned (OpenSpec.ofChange workloadKeepsWrong)

/-- 'groupcontrollaw41.WorkloadSleeps': WHATEVER THE INPUT: true; the input reads as it did. -/
def workloadSleepsSpec : ChangeSpec := { name := "workloadSleeps", fn := fun _ => fun
  | [d1, d2, d3] => { results := [.lit (.bool true)], args := [d1, d2, d3] }
  | _ => none }
def workloadSleepsRow : OpenClaim := { program := "ytgaeomkjpcpogaa", sum := "0d4fcce548edd9080f6005247b3c58391c9c2a3659da1eca6a1a57b3ee37136e", func := "groupcontrol/groupcontrollaw41.WorkloadSleeps", spec := "workloadSleeps", unfollowed := true, recurses := true, apart := false }
def WorkloadSleepsSaid : Prop := workloadSleepsRow.holds Try.pinned (OpenSpec.ofChange workloadSleepsSpec)

/-- ITS FALSE NEIGHBOUR: 'it returns false'. Refute it at one input. -/
def workloadSleepsWrong : ChangeSpec := { name := "workloadSleeps", fn := fun _ => fun
  | [d1, d2, d3] => { results := [.lit (.bool false)], args := [d1, d2, d3] }
  | _ => none }
def WorkloadSleepsWrongFalsely : Prop := workloadSleepsRow.holds Try.pinned (OpenSpec.ofChange workloadSleepsWrong)

/-- 'groupcontrollaw41.WorkloadExact': WHATEVER THE INPUT: true; the input reads as it did. -/
def workloadExactSpec : ChangeSpec := { name := "workloadExact", fn := fun _ => fun
  | [d1, d2, d3, d4, d5, d6, d7] => { results := [.lit (.bool true)], args := [d1, d2, d3, d4, d5, d6, d7] }
  | _ => none }
def workloadExactRow : OpenClaim := { program := "ytgaeomkjpcpogaa", sum := "0d4fcce548edd9080f6005247b3c58391c9c2a3659da1eca6a1a57b3ee37136e", func := "groupcontrol/groupcontrollaw41.WorkloadExact", spec := "workloadExact", unfollowed := true, recurses := true, apart := false }
def WorkloadExactSaid : Prop := workloadExactRow.holds Try.pinned (OpenSpec.ofChange workloadExactSpec)

/-- ITS FALSE NEIGHBOUR: 'it returns false'. Refute it at one input. -/
def workloadExactWrong : ChangeSpec := { name := "workloadExact", fn := fun _ => fun
  | [d1, d2, d3, d4, d5, d6, d7] => { results := [.lit (.bool false)], args := [d1, d2, d3, d4, d5, d6, d7] }
  | _ => none }
def WorkloadExactWrongFalsely : Prop := workloadExactRow.holds Try.pinned (OpenSpec.ofChange workloadExactWrong)

/-- 'groupcontrollaw41.WorkloadSteps': WHATEVER THE INPUT: true; the input reads as it did. -/
def workloadStepsSpec : ChangeSpec := { name := "workloadSteps", fn := fun _ => fun
  | [d] => { results := [.lit (.bool true)], args := [d] }
  | _ => none }
def workloadStepsRow : OpenClaim := { program := "ytgaeomkjpcpogaa", sum := "0d4fcce548edd9080f6005247b3c58391c9c2a3659da1eca6a1a57b3ee37136e", func := "groupcontrol/groupcontrollaw41.WorkloadSteps", spec := "workloadSteps", unfollowed := true, recurses := true, apart := false }
def WorkloadStepsSaid : Prop := workloadStepsRow.holds Try.pinned (OpenSpec.ofChange workloadStepsSpec)

/-- ITS FALSE NEIGHBOUR: 'it returns false'. Refute it at one input. -/
def workloadStepsWrong : ChangeSpec := { name := "workloadSteps", fn := fun _ => fun
  | [d] => { results := [.lit (.bool false)], args := [d] }
  | _ => none }
def WorkloadStepsWrongFalsely : Prop := workloadStepsRow.holds Try.pinned (OpenSpec.ofChange workloadStepsWrong)

/- THE SECOND FORM. 'bulk': how many values and letters a reading holds, each counted each time it is reached (what is shared counts as often as it is met; a slice's spare places count too). A statement '..UptoSaid' is the law's where the arguments, and the package variables that the reading takes, are together of bulk at most 1048576: NARROWER than '..Said'. Prove '..Said' where nothing that the law and all that it calls make is longer than what came in: it says more and counts as full. Else prove '..UptoSaid'. A law counts once. -/
mutual
def uptoBulk {H : Type} : DataW H → Nat
  | .lit (.string bytes) => bytes.length + 1
  | .lit _ => 1
  | .nil => 1
  | .ptr d => uptoBulk d + 1
  | .slice elems spare => uptoBulkAll elems + uptoBulkAll spare + 1
  | .agg parts => uptoBulkAll parts + 1
  | .iface _ d => uptoBulk d + 1
  | .map entries => uptoBulkEntries entries + 1
  | .held _ => 1
def uptoBulkAll {H : Type} : List (DataW H) → Nat
  | [] => 0
  | d :: r => uptoBulk d + uptoBulkAll r
def uptoBulkEntries {H : Type} : List (Lit × DataW H) → Nat
  | [] => 0
  | x :: r => uptoBulkEntry x + uptoBulkEntries r
def uptoBulkEntry {H : Type} : Lit × DataW H → Nat
  | (.string bytes, d) => bytes.length + uptoBulk d + 1
  | (_, d) => uptoBulk d + 1
 end
def uptoSmall : (H : Type) → List (DataW H) → Bool := fun _ ds => decide (uptoBulkAll ds ≤ 1048576)
def OpenSpec.upto (s : _root_.Go.ChangeSpec) : _root_.Go.OpenSpec := { _root_.Go.OpenSpec.ofChange s with cond := some uptoSmall }

/-- 'groupcontrollaw41.WorkloadLimits', WHERE WHAT IT READS IS OF BULK AT MOST 1048576: true; the input reads as it did. -/
def workloadLimitsUptoRow : OpenClaim := { program := "ytgaeomkjpcpogaa", sum := "0d4fcce548edd9080f6005247b3c58391c9c2a3659da1eca6a1a57b3ee37136e", func := "groupcontrol/groupcontrollaw41.WorkloadLimits", spec := "workloadLimits", unfollowed := true, recurses := true, apart := false, narrowed := true }
def WorkloadLimitsUptoSaid : Prop := workloadLimitsUptoRow.holds Try.pinned (OpenSpec.upto workloadLimitsSpec)

/-- 'groupcontrollaw41.WorkloadKeeps', WHERE WHAT IT READS IS OF BULK AT MOST 1048576: true; the input reads as it did. -/
def workloadKeepsUptoRow : OpenClaim := { program := "ytgaeomkjpcpogaa", sum := "0d4fcce548edd9080f6005247b3c58391c9c2a3659da1eca6a1a57b3ee37136e", func := "groupcontrol/groupcontrollaw41.WorkloadKeeps", spec := "workloadKeeps", unfollowed := true, recurses := true, apart := false, narrowed := true }
def WorkloadKeepsUptoSaid : Prop := workloadKeepsUptoRow.holds Try.pinned (OpenSpec.upto workloadKeepsSpec)

/-- 'groupcontrollaw41.WorkloadSleeps', WHERE WHAT IT READS IS OF BULK AT MOST 1048576: true; the input reads as it did. -/
def workloadSleepsUptoRow : OpenClaim := { program := "ytgaeomkjpcpogaa", sum := "0d4fcce548edd9080f6005247b3c58391c9c2a3659da1eca6a1a57b3ee37136e", func := "groupcontrol/groupcontrollaw41.WorkloadSleeps", spec := "workloadSleeps", unfollowed := true, recurses := true, apart := false, narrowed := true }
def WorkloadSleepsUptoSaid : Prop := workloadSleepsUptoRow.holds Try.pinned (OpenSpec.upto workloadSleepsSpec)

/-- 'groupcontrollaw41.WorkloadExact', WHERE WHAT IT READS IS OF BULK AT MOST 1048576: true; the input reads as it did. -/
def workloadExactUptoRow : OpenClaim := { program := "ytgaeomkjpcpogaa", sum := "0d4fcce548edd9080f6005247b3c58391c9c2a3659da1eca6a1a57b3ee37136e", func := "groupcontrol/groupcontrollaw41.WorkloadExact", spec := "workloadExact", unfollowed := true, recurses := true, apart := false, narrowed := true }
def WorkloadExactUptoSaid : Prop := workloadExactUptoRow.holds Try.pinned (OpenSpec.upto workloadExactSpec)

/-- 'groupcontrollaw41.WorkloadSteps', WHERE WHAT IT READS IS OF BULK AT MOST 1048576: true; the input reads as it did. -/
def workloadStepsUptoRow : OpenClaim := { program := "ytgaeomkjpcpogaa", sum := "0d4fcce548edd9080f6005247b3c58391c9c2a3659da1eca6a1a57b3ee37136e", func := "groupcontrol/groupcontrollaw41.WorkloadSteps", spec := "workloadSteps", unfollowed := true, recurses := true, apart := false, narrowed := true }
def WorkloadStepsUptoSaid : Prop := workloadStepsUptoRow.holds Try.pinned (OpenSpec.upto workloadStepsSpec)

end Rows
end Go.Proofs.Ytgaeomkjpcpogaa
