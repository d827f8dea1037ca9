/-
  Lemmas and contracts on the way to the laws of this seat; each theorem states its own conditions, and there are no others.
-/
import Derived.Test.YtglkagaammnojaaVW
import Derived.Test.YtglkagaammnojaaVG
namespace Go.Proofs.Ytglkagaammnojaa
open Go Go.RowKit
set_option linter.unusedVariables false
set_option linter.unusedSimpArgs false
set_option linter.unusedVariables false
set_option maxRecDepth 100000 in
theorem walk5 (a0 : Option Addr) (len0 cap0 : Nat) (z0 : List Int) (w : World) (w0 : IsRow .i64 w a0 len0 cap0 z0) : Calls Try.prog 5 #[.slice a0 len0 cap0] w fun e w' => e = .returned (.bool true) ∧ Below w.heap.size w w' :=
  law_ofD (EV Try.prog [(13, sLight.spec), (14, sSane29.spec), (15, sRoll.spec), (16, sTree.spec), (17, sCnds.spec), (18, sNext.spec), (24, sSome.spec), (27, sDec.spec), (28, sHasI.spec), (20, sBelow.spec), (26, sFreed.spec)] (invsS [(13, inv5a), (18, inv5b), (26, inv5c)]) noInv) ((((((((((((AllOK.nil Try.prog).and ok26).and ok20).and ok28).and ok27).and ok24).and ok18).and ok17).and ok16).and ok15).and ok14).and ok13) mixed Try.func5 (avs := [.irec true 0 (z0.take len0)]) (xs := [.slice a0 len0 cap0]) (.cons (row_rel w0) .nil) (vc5 (z0.take len0) trivial) rfl rfl rfl rfl
end Go.Proofs.Ytglkagaammnojaa
