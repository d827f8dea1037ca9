/-
  No cell of these rows narrows 'for every input' (looked for: loops, veiled, ifaces, maps, wideKeys, modest, calm, conditions, laid).
  DERIVED. THE GIVEN ROWS OF THIS SEAT. 11 by the template 'for every input the law returns true; each argument reads behind the call as it read before'; 0 by the template 'total and deterministic' (their statements: YtemffnpliflkgaaTotals.lean).
  GIVEN WITH THE SEED: the statements are not yours to turn. If you find one false, say at which input.
  Laid BY PROGRAM, IN A SANDBOX (cutbox-rows.mjs): the forced cells as the released guide's own fill.sh prints them over the translation 25196354849f0495… (all of the seat's roots in one cut). By AI agents, Wed Nov 11 2026. No macro, syntax, notation, axiom, sorry.
-/
import Derived.Test.YtemffnpliflkgaaChecked
import GoSem.Claim
import GoSem.ClaimJoined
import GoSem.ClaimMapViews
import Derived.JoinedTies
import Derived.KernelRfl
namespace Go.Proofs.Ytemffnpliflkgaa
/- THE CELL 'sum', in the pinned program and in every row, IS THE sha256 OF THE DUMP (.gsa) THAT YtemffnpliflkgaaProg.lean LOADS. Nothing in Lean hashes anything: it is a label: what it is worth is what the hold of that sum in a sandbox is worth. -/
noncomputable def Try.pinned : Pinned := { name := "ytemffnpliflkgaa", sum := "25196354849f0495113accc10ef1016703d03fcd617e1a7c1bd7857515b649e1", checked := Try.checked }
namespace Rows
def none {H : Type} : Left H := { results := [], args := [] }

/-- 'groupcontrollaw11.SettingsLowest': WHATEVER THE INPUT: true; the input reads as it did. -/
def settingsLowestSpec : ChangeSpec := { name := "settingsLowest", fn := fun _ => fun
  | [d] => { results := [.lit (.bool true)], args := [d] }
  | _ => none }
def settingsLowestRow : OpenClaim := { program := "ytemffnpliflkgaa", sum := "25196354849f0495113accc10ef1016703d03fcd617e1a7c1bd7857515b649e1", func := "groupcontrol/groupcontrollaw11.SettingsLowest", spec := "settingsLowest", unfollowed := true, recurses := true, apart := false }
def SettingsLowestSaid : Prop := settingsLowestRow.holds Try.pinned (OpenSpec.ofChange settingsLowestSpec)

/-- ITS FALSE NEIGHBOUR: 'it returns false'. Refute it at one input. -/
def settingsLowestWrong : ChangeSpec := { name := "settingsLowest", fn := fun _ => fun
  | [d] => { results := [.lit (.bool false)], args := [d] }
  | _ => none }
def SettingsLowestWrongFalsely : Prop := settingsLowestRow.holds Try.pinned (OpenSpec.ofChange settingsLowestWrong)

/-- 'groupcontrollaw11.SettingsAdjusts': WHATEVER THE INPUT: true; the input reads as it did. -/
def settingsAdjustsSpec : ChangeSpec := { name := "settingsAdjusts", fn := fun _ => fun
  | [d] => { results := [.lit (.bool true)], args := [d] }
  | _ => none }
def settingsAdjustsRow : OpenClaim := { program := "ytemffnpliflkgaa", sum := "25196354849f0495113accc10ef1016703d03fcd617e1a7c1bd7857515b649e1", func := "groupcontrol/groupcontrollaw11.SettingsAdjusts", spec := "settingsAdjusts", unfollowed := true, recurses := true, apart := false }
def SettingsAdjustsSaid : Prop := settingsAdjustsRow.holds Try.pinned (OpenSpec.ofChange settingsAdjustsSpec)

/-- ITS FALSE NEIGHBOUR: 'it returns false'. Refute it at one input. -/
def settingsAdjustsWrong : ChangeSpec := { name := "settingsAdjusts", fn := fun _ => fun
  | [d] => { results := [.lit (.bool false)], args := [d] }
  | _ => none }
def SettingsAdjustsWrongFalsely : Prop := settingsAdjustsRow.holds Try.pinned (OpenSpec.ofChange settingsAdjustsWrong)

/-- 'groupcontrollaw11.SettingsApart': WHATEVER THE INPUT: true; the input reads as it did. -/
def settingsApartSpec : ChangeSpec := { name := "settingsApart", fn := fun _ => fun
  | [d] => { results := [.lit (.bool true)], args := [d] }
  | _ => none }
def settingsApartRow : OpenClaim := { program := "ytemffnpliflkgaa", sum := "25196354849f0495113accc10ef1016703d03fcd617e1a7c1bd7857515b649e1", func := "groupcontrol/groupcontrollaw11.SettingsApart", spec := "settingsApart", unfollowed := true, recurses := true, apart := false }
def SettingsApartSaid : Prop := settingsApartRow.holds Try.pinned (OpenSpec.ofChange settingsApartSpec)

/-- ITS FALSE NEIGHBOUR: 'it returns false'. Refute it at one input. -/
def settingsApartWrong : ChangeSpec := { name := "settingsApart", fn := fun _ => fun
  | [d] => { results := [.lit (.bool false)], args := [d] }
  | _ => none }
def SettingsApartWrongFalsely : Prop := settingsApartRow.holds Try.pinned (OpenSpec.ofChange settingsApartWrong)

/-- 'groupcontrollaw11.SettingsSets': WHATEVER THE INPUT: true; the input reads as it did. -/
def settingsSetsSpec : ChangeSpec := { name := "settingsSets", fn := fun _ => fun
  | [d] => { results := [.lit (.bool true)], args := [d] }
  | _ => none }
def settingsSetsRow : OpenClaim := { program := "ytemffnpliflkgaa", sum := "25196354849f0495113accc10ef1016703d03fcd617e1a7c1bd7857515b649e1", func := "groupcontrol/groupcontrollaw11.SettingsSets", spec := "settingsSets", unfollowed := true, recurses := true, apart := false }
def SettingsSetsSaid : Prop := settingsSetsRow.holds Try.pinned (OpenSpec.ofChange settingsSetsSpec)

/-- ITS FALSE NEIGHBOUR: 'it returns false'. Refute it at one input. -/
def settingsSetsWrong : ChangeSpec := { name := "settingsSets", fn := fun _ => fun
  | [d] => { results := [.lit (.bool false)], args := [d] }
  | _ => none }
def SettingsSetsWrongFalsely : Prop := settingsSetsRow.holds Try.pinned (OpenSpec.ofChange settingsSetsWrong)

/-- 'groupcontrollaw11.SettingsChecks': WHATEVER THE INPUT: true; the input reads as it did. -/
def settingsChecksSpec : ChangeSpec := { name := "settingsChecks", fn := fun _ => fun
  | [d1, d2] => { results := [.lit (.bool true)], args := [d1, d2] }
  | _ => none }
def settingsChecksRow : OpenClaim := { program := "ytemffnpliflkgaa", sum := "25196354849f0495113accc10ef1016703d03fcd617e1a7c1bd7857515b649e1", func := "groupcontrol/groupcontrollaw11.SettingsChecks", spec := "settingsChecks", unfollowed := true, recurses := true, apart := false }
def SettingsChecksSaid : Prop := settingsChecksRow.holds Try.pinned (OpenSpec.ofChange settingsChecksSpec)

/-- ITS FALSE NEIGHBOUR: 'it returns false'. Refute it at one input. -/
def settingsChecksWrong : ChangeSpec := { name := "settingsChecks", fn := fun _ => fun
  | [d1, d2] => { results := [.lit (.bool false)], args := [d1, d2] }
  | _ => none }
def SettingsChecksWrongFalsely : Prop := settingsChecksRow.holds Try.pinned (OpenSpec.ofChange settingsChecksWrong)

/-- 'groupcontrollaw18.ThrottleSteps': WHATEVER THE INPUT: true; the input reads as it did. -/
def throttleStepsSpec : ChangeSpec := { name := "throttleSteps", fn := fun _ => fun
  | [d1, d2, d3] => { results := [.lit (.bool true)], args := [d1, d2, d3] }
  | _ => none }
def throttleStepsRow : OpenClaim := { program := "ytemffnpliflkgaa", sum := "25196354849f0495113accc10ef1016703d03fcd617e1a7c1bd7857515b649e1", func := "groupcontrol/groupcontrollaw18.ThrottleSteps", spec := "throttleSteps", unfollowed := true, recurses := true, apart := false }
def ThrottleStepsSaid : Prop := throttleStepsRow.holds Try.pinned (OpenSpec.ofChange throttleStepsSpec)

/-- ITS FALSE NEIGHBOUR: 'it returns false'. Refute it at one input. -/
def throttleStepsWrong : ChangeSpec := { name := "throttleSteps", fn := fun _ => fun
  | [d1, d2, d3] => { results := [.lit (.bool false)], args := [d1, d2, d3] }
  | _ => none }
def ThrottleStepsWrongFalsely : Prop := throttleStepsRow.holds Try.pinned (OpenSpec.ofChange throttleStepsWrong)

/-- 'groupcontrollaw18.ThrottleLimits': WHATEVER THE INPUT: true; the input reads as it did. -/
def throttleLimitsSpec : ChangeSpec := { name := "throttleLimits", fn := fun _ => fun
  | [d] => { results := [.lit (.bool true)], args := [d] }
  | _ => none }
def throttleLimitsRow : OpenClaim := { program := "ytemffnpliflkgaa", sum := "25196354849f0495113accc10ef1016703d03fcd617e1a7c1bd7857515b649e1", func := "groupcontrol/groupcontrollaw18.ThrottleLimits", spec := "throttleLimits", unfollowed := true, recurses := true, apart := false }
def ThrottleLimitsSaid : Prop := throttleLimitsRow.holds Try.pinned (OpenSpec.ofChange throttleLimitsSpec)

/-- ITS FALSE NEIGHBOUR: 'it returns false'. Refute it at one input. -/
def throttleLimitsWrong : ChangeSpec := { name := "throttleLimits", fn := fun _ => fun
  | [d] => { results := [.lit (.bool false)], args := [d] }
  | _ => none }
def ThrottleLimitsWrongFalsely : Prop := throttleLimitsRow.holds Try.pinned (OpenSpec.ofChange throttleLimitsWrong)

/-- 'groupcontrollaw18.ThrottleSyncs': WHATEVER THE INPUT: true; the input reads as it did. -/
def throttleSyncsSpec : ChangeSpec := { name := "throttleSyncs", fn := fun _ => fun
  | [d] => { results := [.lit (.bool true)], args := [d] }
  | _ => none }
def throttleSyncsRow : OpenClaim := { program := "ytemffnpliflkgaa", sum := "25196354849f0495113accc10ef1016703d03fcd617e1a7c1bd7857515b649e1", func := "groupcontrol/groupcontrollaw18.ThrottleSyncs", spec := "throttleSyncs", unfollowed := true, recurses := true, apart := false }
def ThrottleSyncsSaid : Prop := throttleSyncsRow.holds Try.pinned (OpenSpec.ofChange throttleSyncsSpec)

/-- ITS FALSE NEIGHBOUR: 'it returns false'. Refute it at one input. -/
def throttleSyncsWrong : ChangeSpec := { name := "throttleSyncs", fn := fun _ => fun
  | [d] => { results := [.lit (.bool false)], args := [d] }
  | _ => none }
def ThrottleSyncsWrongFalsely : Prop := throttleSyncsRow.holds Try.pinned (OpenSpec.ofChange throttleSyncsWrong)

/-- 'groupcontrollaw18.ThrottleAllOrNone': WHATEVER THE INPUT: true; the input reads as it did. -/
def throttleAllOrNoneSpec : ChangeSpec := { name := "throttleAllOrNone", fn := fun _ => fun
  | [d] => { results := [.lit (.bool true)], args := [d] }
  | _ => none }
def throttleAllOrNoneRow : OpenClaim := { program := "ytemffnpliflkgaa", sum := "25196354849f0495113accc10ef1016703d03fcd617e1a7c1bd7857515b649e1", func := "groupcontrol/groupcontrollaw18.ThrottleAllOrNone", spec := "throttleAllOrNone", unfollowed := true, recurses := true, apart := false }
def ThrottleAllOrNoneSaid : Prop := throttleAllOrNoneRow.holds Try.pinned (OpenSpec.ofChange throttleAllOrNoneSpec)

/-- ITS FALSE NEIGHBOUR: 'it returns false'. Refute it at one input. -/
def throttleAllOrNoneWrong : ChangeSpec := { name := "throttleAllOrNone", fn := fun _ => fun
  | [d] => { results := [.lit (.bool false)], args := [d] }
  | _ => none }
def ThrottleAllOrNoneWrongFalsely : Prop := throttleAllOrNoneRow.holds Try.pinned (OpenSpec.ofChange throttleAllOrNoneWrong)

/-- 'groupcontrollaw18.ThrottleReads': WHATEVER THE INPUT: true; the input reads as it did. -/
def throttleReadsSpec : ChangeSpec := { name := "throttleReads", fn := fun _ => fun
  | [d1, d2, d3] => { results := [.lit (.bool true)], args := [d1, d2, d3] }
  | _ => none }
def throttleReadsRow : OpenClaim := { program := "ytemffnpliflkgaa", sum := "25196354849f0495113accc10ef1016703d03fcd617e1a7c1bd7857515b649e1", func := "groupcontrol/groupcontrollaw18.ThrottleReads", spec := "throttleReads", unfollowed := true, recurses := true, apart := false }
def ThrottleReadsSaid : Prop := throttleReadsRow.holds Try.pinned (OpenSpec.ofChange throttleReadsSpec)

/-- ITS FALSE NEIGHBOUR: 'it returns false'. Refute it at one input. -/
def throttleReadsWrong : ChangeSpec := { name := "throttleReads", fn := fun _ => fun
  | [d1, d2, d3] => { results := [.lit (.bool false)], args := [d1, d2, d3] }
  | _ => none }
def ThrottleReadsWrongFalsely : Prop := throttleReadsRow.holds Try.pinned (OpenSpec.ofChange throttleReadsWrong)

/-- 'groupcontrollaw18.ThrottleApart': WHATEVER THE INPUT: true; the input reads as it did. -/
def throttleApartSpec : ChangeSpec := { name := "throttleApart", fn := fun _ => fun
  | [d] => { results := [.lit (.bool true)], args := [d] }
  | _ => none }
def throttleApartRow : OpenClaim := { program := "ytemffnpliflkgaa", sum := "25196354849f0495113accc10ef1016703d03fcd617e1a7c1bd7857515b649e1", func := "groupcontrol/groupcontrollaw18.ThrottleApart", spec := "throttleApart", unfollowed := true, recurses := true, apart := false }
def ThrottleApartSaid : Prop := throttleApartRow.holds Try.pinned (OpenSpec.ofChange throttleApartSpec)

/-- ITS FALSE NEIGHBOUR: 'it returns false'. Refute it at one input. -/
def throttleApartWrong : ChangeSpec := { name := "throttleApart", fn := fun _ => fun
  | [d] => { results := [.lit (.bool false)], args := [d] }
  | _ => none }
def ThrottleApartWrongFalsely : Prop := throttleApartRow.holds Try.pinned (OpenSpec.ofChange throttleApartWrong)

/- THE SECOND FORM. 'bulk': how many values and letters a reading holds, each counted each time it is reached (what is shared counts as often as it is met; a slice's spare places count too). A statement '..UptoSaid' is the law's where the arguments, and the package variables that the reading takes, are together of bulk at most 1048576: NARROWER than '..Said'. Prove '..Said' where nothing that the law and all that it calls make is longer than what came in: it says more and counts as full. Else prove '..UptoSaid'. A law counts once. -/
mutual
def uptoBulk {H : Type} : DataW H → Nat
  | .lit (.string bytes) => bytes.length + 1
  | .lit _ => 1
  | .nil => 1
  | .ptr d => uptoBulk d + 1
  | .slice elems spare => uptoBulkAll elems + uptoBulkAll spare + 1
  | .agg parts => uptoBulkAll parts + 1
  | .iface _ d => uptoBulk d + 1
  | .map entries => uptoBulkEntries entries + 1
  | .held _ => 1
def uptoBulkAll {H : Type} : List (DataW H) → Nat
  | [] => 0
  | d :: r => uptoBulk d + uptoBulkAll r
def uptoBulkEntries {H : Type} : List (Lit × DataW H) → Nat
  | [] => 0
  | x :: r => uptoBulkEntry x + uptoBulkEntries r
def uptoBulkEntry {H : Type} : Lit × DataW H → Nat
  | (.string bytes, d) => bytes.length + uptoBulk d + 1
  | (_, d) => uptoBulk d + 1
 end
def uptoSmall : (H : Type) → List (DataW H) → Bool := fun _ ds => decide (uptoBulkAll ds ≤ 1048576)
def OpenSpec.upto (s : _root_.Go.ChangeSpec) : _root_.Go.OpenSpec := { _root_.Go.OpenSpec.ofChange s with cond := some uptoSmall }

/-- 'groupcontrollaw11.SettingsLowest', WHERE WHAT IT READS IS OF BULK AT MOST 1048576: true; the input reads as it did. -/
def settingsLowestUptoRow : OpenClaim := { program := "ytemffnpliflkgaa", sum := "25196354849f0495113accc10ef1016703d03fcd617e1a7c1bd7857515b649e1", func := "groupcontrol/groupcontrollaw11.SettingsLowest", spec := "settingsLowest", unfollowed := true, recurses := true, apart := false, narrowed := true }
def SettingsLowestUptoSaid : Prop := settingsLowestUptoRow.holds Try.pinned (OpenSpec.upto settingsLowestSpec)

/-- 'groupcontrollaw11.SettingsAdjusts', WHERE WHAT IT READS IS OF BULK AT MOST 1048576: true; the input reads as it did. -/
def settingsAdjustsUptoRow : OpenClaim := { program := "ytemffnpliflkgaa", sum := "25196354849f0495113accc10ef1016703d03fcd617e1a7c1bd7857515b649e1", func := "groupcontrol/groupcontrollaw11.SettingsAdjusts", spec := "settingsAdjusts", unfollowed := true, recurses := true, apart := false, narrowed := true }
def SettingsAdjustsUptoSaid : Prop := settingsAdjustsUptoRow.holds Try.pinned (OpenSpec.upto settingsAdjustsSpec)

/-- 'groupcontrollaw11.SettingsApart', WHERE WHAT IT READS IS OF BULK AT MOST 1048576: true; the input reads as it did. -/
def settingsApartUptoRow : OpenClaim := { program := "ytemffnpliflkgaa", sum := "25196354849f0495113accc10ef1016703d03fcd617e1a7c1bd7857515b649e1", func := "groupcontrol/groupcontrollaw11.SettingsApart", spec := "settingsApart", unfollowed := true, recurses := true, apart := false, narrowed := true }
def SettingsApartUptoSaid : Prop := settingsApartUptoRow.holds Try.pinned (OpenSpec.upto settingsApartSpec)

/-- 'groupcontrollaw11.SettingsSets', WHERE WHAT IT READS IS OF BULK AT MOST 1048576: true; the input reads as it did. -/
def settingsSetsUptoRow : OpenClaim := { program := "ytemffnpliflkgaa", sum := "25196354849f0495113accc10ef1016703d03fcd617e1a7c1bd7857515b649e1", func := "groupcontrol/groupcontrollaw11.SettingsSets", spec := "settingsSets", unfollowed := true, recurses := true, apart := false, narrowed := true }
def SettingsSetsUptoSaid : Prop := settingsSetsUptoRow.holds Try.pinned (OpenSpec.upto settingsSetsSpec)

/-- 'groupcontrollaw11.SettingsChecks', WHERE WHAT IT READS IS OF BULK AT MOST 1048576: true; the input reads as it did. -/
def settingsChecksUptoRow : OpenClaim := { program := "ytemffnpliflkgaa", sum := "25196354849f0495113accc10ef1016703d03fcd617e1a7c1bd7857515b649e1", func := "groupcontrol/groupcontrollaw11.SettingsChecks", spec := "settingsChecks", unfollowed := true, recurses := true, apart := false, narrowed := true }
def SettingsChecksUptoSaid : Prop := settingsChecksUptoRow.holds Try.pinned (OpenSpec.upto settingsChecksSpec)

/-- 'groupcontrollaw18.ThrottleSteps', WHERE WHAT IT READS IS OF BULK AT MOST 1048576: true; the input reads as it did. -/
def throttleStepsUptoRow : OpenClaim := { program := "ytemffnpliflkgaa", sum := "25196354849f0495113accc10ef1016703d03fcd617e1a7c1bd7857515b649e1", func := "groupcontrol/groupcontrollaw18.ThrottleSteps", spec := "throttleSteps", unfollowed := true, recurses := true, apart := false, narrowed := true }
def ThrottleStepsUptoSaid : Prop := throttleStepsUptoRow.holds Try.pinned (OpenSpec.upto throttleStepsSpec)

/-- 'groupcontrollaw18.ThrottleLimits', WHERE WHAT IT READS IS OF BULK AT MOST 1048576: true; the input reads as it did. -/
def throttleLimitsUptoRow : OpenClaim := { program := "ytemffnpliflkgaa", sum := "25196354849f0495113accc10ef1016703d03fcd617e1a7c1bd7857515b649e1", func := "groupcontrol/groupcontrollaw18.ThrottleLimits", spec := "throttleLimits", unfollowed := true, recurses := true, apart := false, narrowed := true }
def ThrottleLimitsUptoSaid : Prop := throttleLimitsUptoRow.holds Try.pinned (OpenSpec.upto throttleLimitsSpec)

/-- 'groupcontrollaw18.ThrottleSyncs', WHERE WHAT IT READS IS OF BULK AT MOST 1048576: true; the input reads as it did. -/
def throttleSyncsUptoRow : OpenClaim := { program := "ytemffnpliflkgaa", sum := "25196354849f0495113accc10ef1016703d03fcd617e1a7c1bd7857515b649e1", func := "groupcontrol/groupcontrollaw18.ThrottleSyncs", spec := "throttleSyncs", unfollowed := true, recurses := true, apart := false, narrowed := true }
def ThrottleSyncsUptoSaid : Prop := throttleSyncsUptoRow.holds Try.pinned (OpenSpec.upto throttleSyncsSpec)

/-- 'groupcontrollaw18.ThrottleAllOrNone', WHERE WHAT IT READS IS OF BULK AT MOST 1048576: true; the input reads as it did. -/
def throttleAllOrNoneUptoRow : OpenClaim := { program := "ytemffnpliflkgaa", sum := "25196354849f0495113accc10ef1016703d03fcd617e1a7c1bd7857515b649e1", func := "groupcontrol/groupcontrollaw18.ThrottleAllOrNone", spec := "throttleAllOrNone", unfollowed := true, recurses := true, apart := false, narrowed := true }
def ThrottleAllOrNoneUptoSaid : Prop := throttleAllOrNoneUptoRow.holds Try.pinned (OpenSpec.upto throttleAllOrNoneSpec)

/-- 'groupcontrollaw18.ThrottleReads', WHERE WHAT IT READS IS OF BULK AT MOST 1048576: true; the input reads as it did. -/
def throttleReadsUptoRow : OpenClaim := { program := "ytemffnpliflkgaa", sum := "25196354849f0495113accc10ef1016703d03fcd617e1a7c1bd7857515b649e1", func := "groupcontrol/groupcontrollaw18.ThrottleReads", spec := "throttleReads", unfollowed := true, recurses := true, apart := false, narrowed := true }
def ThrottleReadsUptoSaid : Prop := throttleReadsUptoRow.holds Try.pinned (OpenSpec.upto throttleReadsSpec)

/-- 'groupcontrollaw18.ThrottleApart', WHERE WHAT IT READS IS OF BULK AT MOST 1048576: true; the input reads as it did. -/
def throttleApartUptoRow : OpenClaim := { program := "ytemffnpliflkgaa", sum := "25196354849f0495113accc10ef1016703d03fcd617e1a7c1bd7857515b649e1", func := "groupcontrol/groupcontrollaw18.ThrottleApart", spec := "throttleApart", unfollowed := true, recurses := true, apart := false, narrowed := true }
def ThrottleApartUptoSaid : Prop := throttleApartUptoRow.holds Try.pinned (OpenSpec.upto throttleApartSpec)

end Rows
end Go.Proofs.Ytemffnpliflkgaa
