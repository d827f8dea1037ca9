/-
  No cell of these rows narrows 'for every input' (looked for: loops, veiled, ifaces, maps, wideKeys, modest, calm, conditions, laid).
  DERIVED. THE GIVEN ROWS OF THIS SEAT. 10 by the template 'for every input the law returns true; each argument reads behind the call as it read before'; 0 by the template 'total and deterministic' (their statements: YtglkagaammnojaaTotals.lean).
  GIVEN WITH THE SEED: the statements are not yours to turn. If you find one false, say at which input.
  Laid BY PROGRAM, IN A SANDBOX (cutbox-rows.mjs): the forced cells as the released guide's own fill.sh prints them over the translation 84c02aa502965a37… (all of the seat's roots in one cut). By AI agents, Wed Nov 11 2026. No macro, syntax, notation, axiom, sorry.
-/
import Derived.Test.YtglkagaammnojaaChecked
import GoSem.Claim
import GoSem.ClaimJoined
import GoSem.ClaimMapViews
import Derived.JoinedTies
import Derived.KernelRfl
namespace Go.Proofs.Ytglkagaammnojaa
/- THE CELL 'sum', in the pinned program and in every row, IS THE sha256 OF THE DUMP (.gsa) THAT YtglkagaammnojaaProg.lean LOADS. Nothing in Lean hashes anything: it is a label: what it is worth is what the hold of that sum in a sandbox is worth. -/
noncomputable def Try.pinned : Pinned := { name := "ytglkagaammnojaa", sum := "84c02aa502965a37d673135da044fa03d72983fb28f9deec96ca7c67899ff17e", checked := Try.checked }
namespace Rows
def none {H : Type} : Left H := { results := [], args := [] }

/-- 'groupcontrollaw29.KillChooses': WHATEVER THE INPUT: true; the input reads as it did. -/
def killChoosesSpec : ChangeSpec := { name := "killChooses", fn := fun _ => fun
  | [d1, d2] => { results := [.lit (.bool true)], args := [d1, d2] }
  | _ => none }
def killChoosesRow : OpenClaim := { program := "ytglkagaammnojaa", sum := "84c02aa502965a37d673135da044fa03d72983fb28f9deec96ca7c67899ff17e", func := "groupcontrol/groupcontrollaw29.KillChooses", spec := "killChooses", unfollowed := true, recurses := true, apart := false }
def KillChoosesSaid : Prop := killChoosesRow.holds Try.pinned (OpenSpec.ofChange killChoosesSpec)

/-- ITS FALSE NEIGHBOUR: 'it returns false'. Refute it at one input. -/
def killChoosesWrong : ChangeSpec := { name := "killChooses", fn := fun _ => fun
  | [d1, d2] => { results := [.lit (.bool false)], args := [d1, d2] }
  | _ => none }
def KillChoosesWrongFalsely : Prop := killChoosesRow.holds Try.pinned (OpenSpec.ofChange killChoosesWrong)

/-- 'groupcontrollaw29.KillExact': WHATEVER THE INPUT: true; the input reads as it did. -/
def killExactSpec : ChangeSpec := { name := "killExact", fn := fun _ => fun
  | [d1, d2, d3, d4, d5, d6] => { results := [.lit (.bool true)], args := [d1, d2, d3, d4, d5, d6] }
  | _ => none }
def killExactRow : OpenClaim := { program := "ytglkagaammnojaa", sum := "84c02aa502965a37d673135da044fa03d72983fb28f9deec96ca7c67899ff17e", func := "groupcontrol/groupcontrollaw29.KillExact", spec := "killExact", unfollowed := true, recurses := true, apart := false }
def KillExactSaid : Prop := killExactRow.holds Try.pinned (OpenSpec.ofChange killExactSpec)

/-- ITS FALSE NEIGHBOUR: 'it returns false'. Refute it at one input. -/
def killExactWrong : ChangeSpec := { name := "killExact", fn := fun _ => fun
  | [d1, d2, d3, d4, d5, d6] => { results := [.lit (.bool false)], args := [d1, d2, d3, d4, d5, d6] }
  | _ => none }
def KillExactWrongFalsely : Prop := killExactRow.holds Try.pinned (OpenSpec.ofChange killExactWrong)

/-- 'groupcontrollaw29.KillTogether': WHATEVER THE INPUT: true; the input reads as it did. -/
def killTogetherSpec : ChangeSpec := { name := "killTogether", fn := fun _ => fun
  | [d] => { results := [.lit (.bool true)], args := [d] }
  | _ => none }
def killTogetherRow : OpenClaim := { program := "ytglkagaammnojaa", sum := "84c02aa502965a37d673135da044fa03d72983fb28f9deec96ca7c67899ff17e", func := "groupcontrol/groupcontrollaw29.KillTogether", spec := "killTogether", unfollowed := true, recurses := true, apart := false }
def KillTogetherSaid : Prop := killTogetherRow.holds Try.pinned (OpenSpec.ofChange killTogetherSpec)

/-- ITS FALSE NEIGHBOUR: 'it returns false'. Refute it at one input. -/
def killTogetherWrong : ChangeSpec := { name := "killTogether", fn := fun _ => fun
  | [d] => { results := [.lit (.bool false)], args := [d] }
  | _ => none }
def KillTogetherWrongFalsely : Prop := killTogetherRow.holds Try.pinned (OpenSpec.ofChange killTogetherWrong)

/-- 'groupcontrollaw29.KillStays': WHATEVER THE INPUT: true; the input reads as it did. -/
def killStaysSpec : ChangeSpec := { name := "killStays", fn := fun _ => fun
  | [d1, d2] => { results := [.lit (.bool true)], args := [d1, d2] }
  | _ => none }
def killStaysRow : OpenClaim := { program := "ytglkagaammnojaa", sum := "84c02aa502965a37d673135da044fa03d72983fb28f9deec96ca7c67899ff17e", func := "groupcontrol/groupcontrollaw29.KillStays", spec := "killStays", unfollowed := true, recurses := true, apart := false }
def KillStaysSaid : Prop := killStaysRow.holds Try.pinned (OpenSpec.ofChange killStaysSpec)

/-- ITS FALSE NEIGHBOUR: 'it returns false'. Refute it at one input. -/
def killStaysWrong : ChangeSpec := { name := "killStays", fn := fun _ => fun
  | [d1, d2] => { results := [.lit (.bool false)], args := [d1, d2] }
  | _ => none }
def KillStaysWrongFalsely : Prop := killStaysRow.holds Try.pinned (OpenSpec.ofChange killStaysWrong)

/-- 'groupcontrollaw33.LatencyEighth': WHATEVER THE INPUT: true; the input reads as it did. -/
def latencyEighthSpec : ChangeSpec := { name := "latencyEighth", fn := fun _ => fun
  | [d1, d2] => { results := [.lit (.bool true)], args := [d1, d2] }
  | _ => none }
def latencyEighthRow : OpenClaim := { program := "ytglkagaammnojaa", sum := "84c02aa502965a37d673135da044fa03d72983fb28f9deec96ca7c67899ff17e", func := "groupcontrol/groupcontrollaw33.LatencyEighth", spec := "latencyEighth", unfollowed := true, recurses := true, apart := false }
def LatencyEighthSaid : Prop := latencyEighthRow.holds Try.pinned (OpenSpec.ofChange latencyEighthSpec)

/-- ITS FALSE NEIGHBOUR: 'it returns false'. Refute it at one input. -/
def latencyEighthWrong : ChangeSpec := { name := "latencyEighth", fn := fun _ => fun
  | [d1, d2] => { results := [.lit (.bool false)], args := [d1, d2] }
  | _ => none }
def LatencyEighthWrongFalsely : Prop := latencyEighthRow.holds Try.pinned (OpenSpec.ofChange latencyEighthWrong)

/-- 'groupcontrollaw33.LatencyExact': WHATEVER THE INPUT: true; the input reads as it did. -/
def latencyExactSpec : ChangeSpec := { name := "latencyExact", fn := fun _ => fun
  | [d1, d2, d3, d4, d5, d6] => { results := [.lit (.bool true)], args := [d1, d2, d3, d4, d5, d6] }
  | _ => none }
def latencyExactRow : OpenClaim := { program := "ytglkagaammnojaa", sum := "84c02aa502965a37d673135da044fa03d72983fb28f9deec96ca7c67899ff17e", func := "groupcontrol/groupcontrollaw33.LatencyExact", spec := "latencyExact", unfollowed := true, recurses := true, apart := false }
def LatencyExactSaid : Prop := latencyExactRow.holds Try.pinned (OpenSpec.ofChange latencyExactSpec)

/-- ITS FALSE NEIGHBOUR: 'it returns false'. Refute it at one input. -/
def latencyExactWrong : ChangeSpec := { name := "latencyExact", fn := fun _ => fun
  | [d1, d2, d3, d4, d5, d6] => { results := [.lit (.bool false)], args := [d1, d2, d3, d4, d5, d6] }
  | _ => none }
def LatencyExactWrongFalsely : Prop := latencyExactRow.holds Try.pinned (OpenSpec.ofChange latencyExactWrong)

/-- 'groupcontrollaw33.LatencyKeeps': WHATEVER THE INPUT: true; the input reads as it did. -/
def latencyKeepsSpec : ChangeSpec := { name := "latencyKeeps", fn := fun _ => fun
  | [d] => { results := [.lit (.bool true)], args := [d] }
  | _ => none }
def latencyKeepsRow : OpenClaim := { program := "ytglkagaammnojaa", sum := "84c02aa502965a37d673135da044fa03d72983fb28f9deec96ca7c67899ff17e", func := "groupcontrol/groupcontrollaw33.LatencyKeeps", spec := "latencyKeeps", unfollowed := true, recurses := true, apart := false }
def LatencyKeepsSaid : Prop := latencyKeepsRow.holds Try.pinned (OpenSpec.ofChange latencyKeepsSpec)

/-- ITS FALSE NEIGHBOUR: 'it returns false'. Refute it at one input. -/
def latencyKeepsWrong : ChangeSpec := { name := "latencyKeeps", fn := fun _ => fun
  | [d] => { results := [.lit (.bool false)], args := [d] }
  | _ => none }
def LatencyKeepsWrongFalsely : Prop := latencyKeepsRow.holds Try.pinned (OpenSpec.ofChange latencyKeepsWrong)

/-- 'groupcontrollaw33.LatencyRecovers': WHATEVER THE INPUT: true; the input reads as it did. -/
def latencyRecoversSpec : ChangeSpec := { name := "latencyRecovers", fn := fun _ => fun
  | [d] => { results := [.lit (.bool true)], args := [d] }
  | _ => none }
def latencyRecoversRow : OpenClaim := { program := "ytglkagaammnojaa", sum := "84c02aa502965a37d673135da044fa03d72983fb28f9deec96ca7c67899ff17e", func := "groupcontrol/groupcontrollaw33.LatencyRecovers", spec := "latencyRecovers", unfollowed := true, recurses := true, apart := false }
def LatencyRecoversSaid : Prop := latencyRecoversRow.holds Try.pinned (OpenSpec.ofChange latencyRecoversSpec)

/-- ITS FALSE NEIGHBOUR: 'it returns false'. Refute it at one input. -/
def latencyRecoversWrong : ChangeSpec := { name := "latencyRecovers", fn := fun _ => fun
  | [d] => { results := [.lit (.bool false)], args := [d] }
  | _ => none }
def LatencyRecoversWrongFalsely : Prop := latencyRecoversRow.holds Try.pinned (OpenSpec.ofChange latencyRecoversWrong)

/-- 'groupcontrollaw33.LatencyOrder': WHATEVER THE INPUT: true; the input reads as it did. -/
def latencyOrderSpec : ChangeSpec := { name := "latencyOrder", fn := fun _ => fun
  | [d1, d2] => { results := [.lit (.bool true)], args := [d1, d2] }
  | _ => none }
def latencyOrderRow : OpenClaim := { program := "ytglkagaammnojaa", sum := "84c02aa502965a37d673135da044fa03d72983fb28f9deec96ca7c67899ff17e", func := "groupcontrol/groupcontrollaw33.LatencyOrder", spec := "latencyOrder", unfollowed := true, recurses := true, apart := false }
def LatencyOrderSaid : Prop := latencyOrderRow.holds Try.pinned (OpenSpec.ofChange latencyOrderSpec)

/-- ITS FALSE NEIGHBOUR: 'it returns false'. Refute it at one input. -/
def latencyOrderWrong : ChangeSpec := { name := "latencyOrder", fn := fun _ => fun
  | [d1, d2] => { results := [.lit (.bool false)], args := [d1, d2] }
  | _ => none }
def LatencyOrderWrongFalsely : Prop := latencyOrderRow.holds Try.pinned (OpenSpec.ofChange latencyOrderWrong)

/-- 'groupcontrollaw33.LatencyAllows': WHATEVER THE INPUT: true; the input reads as it did. -/
def latencyAllowsSpec : ChangeSpec := { name := "latencyAllows", fn := fun _ => fun
  | [d] => { results := [.lit (.bool true)], args := [d] }
  | _ => none }
def latencyAllowsRow : OpenClaim := { program := "ytglkagaammnojaa", sum := "84c02aa502965a37d673135da044fa03d72983fb28f9deec96ca7c67899ff17e", func := "groupcontrol/groupcontrollaw33.LatencyAllows", spec := "latencyAllows", unfollowed := true, recurses := true, apart := false }
def LatencyAllowsSaid : Prop := latencyAllowsRow.holds Try.pinned (OpenSpec.ofChange latencyAllowsSpec)

/-- ITS FALSE NEIGHBOUR: 'it returns false'. Refute it at one input. -/
def latencyAllowsWrong : ChangeSpec := { name := "latencyAllows", fn := fun _ => fun
  | [d] => { results := [.lit (.bool false)], args := [d] }
  | _ => none }
def LatencyAllowsWrongFalsely : Prop := latencyAllowsRow.holds Try.pinned (OpenSpec.ofChange latencyAllowsWrong)

/- THE SECOND FORM. 'bulk': how many values and letters a reading holds, each counted each time it is reached (what is shared counts as often as it is met; a slice's spare places count too). A statement '..UptoSaid' is the law's where the arguments, and the package variables that the reading takes, are together of bulk at most 1048576: NARROWER than '..Said'. Prove '..Said' where nothing that the law and all that it calls make is longer than what came in: it says more and counts as full. Else prove '..UptoSaid'. A law counts once. -/
mutual
def uptoBulk {H : Type} : DataW H → Nat
  | .lit (.string bytes) => bytes.length + 1
  | .lit _ => 1
  | .nil => 1
  | .ptr d => uptoBulk d + 1
  | .slice elems spare => uptoBulkAll elems + uptoBulkAll spare + 1
  | .agg parts => uptoBulkAll parts + 1
  | .iface _ d => uptoBulk d + 1
  | .map entries => uptoBulkEntries entries + 1
  | .held _ => 1
def uptoBulkAll {H : Type} : List (DataW H) → Nat
  | [] => 0
  | d :: r => uptoBulk d + uptoBulkAll r
def uptoBulkEntries {H : Type} : List (Lit × DataW H) → Nat
  | [] => 0
  | x :: r => uptoBulkEntry x + uptoBulkEntries r
def uptoBulkEntry {H : Type} : Lit × DataW H → Nat
  | (.string bytes, d) => bytes.length + uptoBulk d + 1
  | (_, d) => uptoBulk d + 1
 end
def uptoSmall : (H : Type) → List (DataW H) → Bool := fun _ ds => decide (uptoBulkAll ds ≤ 1048576)
def OpenSpec.upto (s : _root_.Go.ChangeSpec) : _root_.Go.OpenSpec := { _root_.Go.OpenSpec.ofChange s with cond := some uptoSmall }

/-- 'groupcontrollaw29.KillChooses', WHERE WHAT IT READS IS OF BULK AT MOST 1048576: true; the input reads as it did. -/
def killChoosesUptoRow : OpenClaim := { program := "ytglkagaammnojaa", sum := "84c02aa502965a37d673135da044fa03d72983fb28f9deec96ca7c67899ff17e", func := "groupcontrol/groupcontrollaw29.KillChooses", spec := "killChooses", unfollowed := true, recurses := true, apart := false, narrowed := true }
def KillChoosesUptoSaid : Prop := killChoosesUptoRow.holds Try.pinned (OpenSpec.upto killChoosesSpec)

/-- 'groupcontrollaw29.KillExact', WHERE WHAT IT READS IS OF BULK AT MOST 1048576: true; the input reads as it did. -/
def killExactUptoRow : OpenClaim := { program := "ytglkagaammnojaa", sum := "84c02aa502965a37d673135da044fa03d72983fb28f9deec96ca7c67899ff17e", func := "groupcontrol/groupcontrollaw29.KillExact", spec := "killExact", unfollowed := true, recurses := true, apart := false, narrowed := true }
def KillExactUptoSaid : Prop := killExactUptoRow.holds Try.pinned (OpenSpec.upto killExactSpec)

/-- 'groupcontrollaw29.KillTogether', WHERE WHAT IT READS IS OF BULK AT MOST 1048576: true; the input reads as it did. -/
def killTogetherUptoRow : OpenClaim := { program := "ytglkagaammnojaa", sum := "84c02aa502965a37d673135da044fa03d72983fb28f9deec96ca7c67899ff17e", func := "groupcontrol/groupcontrollaw29.KillTogether", spec := "killTogether", unfollowed := true, recurses := true, apart := false, narrowed := true }
def KillTogetherUptoSaid : Prop := killTogetherUptoRow.holds Try.pinned (OpenSpec.upto killTogetherSpec)

/-- 'groupcontrollaw29.KillStays', WHERE WHAT IT READS IS OF BULK AT MOST 1048576: true; the input reads as it did. -/
def killStaysUptoRow : OpenClaim := { program := "ytglkagaammnojaa", sum := "84c02aa502965a37d673135da044fa03d72983fb28f9deec96ca7c67899ff17e", func := "groupcontrol/groupcontrollaw29.KillStays", spec := "killStays", unfollowed := true, recurses := true, apart := false, narrowed := true }
def KillStaysUptoSaid : Prop := killStaysUptoRow.holds Try.pinned (OpenSpec.upto killStaysSpec)

/-- 'groupcontrollaw33.LatencyEighth', WHERE WHAT IT READS IS OF BULK AT MOST 1048576: true; the input reads as it did. -/
def latencyEighthUptoRow : OpenClaim := { program := "ytglkagaammnojaa", sum := "84c02aa502965a37d673135da044fa03d72983fb28f9deec96ca7c67899ff17e", func := "groupcontrol/groupcontrollaw33.LatencyEighth", spec := "latencyEighth", unfollowed := true, recurses := true, apart := false, narrowed := true }
def LatencyEighthUptoSaid : Prop := latencyEighthUptoRow.holds Try.pinned (OpenSpec.upto latencyEighthSpec)

/-- 'groupcontrollaw33.LatencyExact', WHERE WHAT IT READS IS OF BULK AT MOST 1048576: true; the input reads as it did. -/
def latencyExactUptoRow : OpenClaim := { program := "ytglkagaammnojaa", sum := "84c02aa502965a37d673135da044fa03d72983fb28f9deec96ca7c67899ff17e", func := "groupcontrol/groupcontrollaw33.LatencyExact", spec := "latencyExact", unfollowed := true, recurses := true, apart := false, narrowed := true }
def LatencyExactUptoSaid : Prop := latencyExactUptoRow.holds Try.pinned (OpenSpec.upto latencyExactSpec)

/-- 'groupcontrollaw33.LatencyKeeps', WHERE WHAT IT READS IS OF BULK AT MOST 1048576: true; the input reads as it did. -/
def latencyKeepsUptoRow : OpenClaim := { program := "ytglkagaammnojaa", sum := "84c02aa502965a37d673135da044fa03d72983fb28f9deec96ca7c67899ff17e", func := "groupcontrol/groupcontrollaw33.LatencyKeeps", spec := "latencyKeeps", unfollowed := true, recurses := true, apart := false, narrowed := true }
def LatencyKeepsUptoSaid : Prop := latencyKeepsUptoRow.holds Try.pinned (OpenSpec.upto latencyKeepsSpec)

/-- 'groupcontrollaw33.LatencyRecovers', WHERE WHAT IT READS IS OF BULK AT MOST 1048576: true; the input reads as it did. -/
def latencyRecoversUptoRow : OpenClaim := { program := "ytglkagaammnojaa", sum := "84c02aa502965a37d673135da044fa03d72983fb28f9deec96ca7c67899ff17e", func := "groupcontrol/groupcontrollaw33.LatencyRecovers", spec := "latencyRecovers", unfollowed := true, recurses := true, apart := false, narrowed := true }
def LatencyRecoversUptoSaid : Prop := latencyRecoversUptoRow.holds Try.pinned (OpenSpec.upto latencyRecoversSpec)

/-- 'groupcontrollaw33.LatencyOrder', WHERE WHAT IT READS IS OF BULK AT MOST 1048576: true; the input reads as it did. -/
def latencyOrderUptoRow : OpenClaim := { program := "ytglkagaammnojaa", sum := "84c02aa502965a37d673135da044fa03d72983fb28f9deec96ca7c67899ff17e", func := "groupcontrol/groupcontrollaw33.LatencyOrder", spec := "latencyOrder", unfollowed := true, recurses := true, apart := false, narrowed := true }
def LatencyOrderUptoSaid : Prop := latencyOrderUptoRow.holds Try.pinned (OpenSpec.upto latencyOrderSpec)

/-- 'groupcontrollaw33.LatencyAllows', WHERE WHAT IT READS IS OF BULK AT MOST 1048576: true; the input reads as it did. -/
def latencyAllowsUptoRow : OpenClaim := { program := "ytglkagaammnojaa", sum := "84c02aa502965a37d673135da044fa03d72983fb28f9deec96ca7c67899ff17e", func := "groupcontrol/groupcontrollaw33.LatencyAllows", spec := "latencyAllows", unfollowed := true, recurses := true, apart := false, narrowed := true }
def LatencyAllowsUptoSaid : Prop := latencyAllowsUptoRow.holds Try.pinned (OpenSpec.upto latencyAllowsSpec)

end Rows
end Go.Proofs.Ytglkagaammnojaa
