/-
  Lemmas and contracts on the way to the laws of this seat; each theorem states its own conditions, and there are no others.
-/
import Derived.Test.YtglkagaammnojaaE29
import Derived.Test.YtglkagaammnojaaFY
import Derived.Test.YtglkagaammnojaaXL
namespace Go.Proofs.Ytglkagaammnojaa
open Go Go.RowKit
set_option linter.unusedVariables false
set_option linter.unusedSimpArgs false
set_option linter.unusedVariables false
set_option maxRecDepth 100000 in
theorem ok18 : Callable Try.prog 18 ∧ Valid Try.prog 18 sNext.spec :=
  AllOK.head (AllOK.f mixed (AllOK.nil Try.prog) Try.func18 (by kernel_rfl) sNext (fun x => noInv) (fun x => noInv) fun x h => vc18 x.1.1 x.1.2 x.2.1 h)
set_option maxRecDepth 100000 in
theorem ok15 : Callable Try.prog 15 ∧ Valid Try.prog 15 sRoll.spec :=
  AllOK.head (AllOK.d mixed (AllOK.nil Try.prog) Try.func15 (by kernel_rfl) sRoll (fun x => noInv) (fun x => noInv) fun x h => vc15 x.1 h)
set_option maxRecDepth 100000 in
theorem ok13 : Callable Try.prog 13 ∧ Valid Try.prog 13 sLight.spec :=
  AllOK.head (AllOK.d mixed (AllOK.nil Try.prog) Try.func13 (by kernel_rfl) sLight (fun x => noInv) (fun x => noInv) fun x h => vc13 x.1 h)
set_option maxRecDepth 100000 in
theorem ok46 : Callable Try.prog 46 ∧ Valid Try.prog 46 sBool.spec :=
  AllOK.head (AllOK.f mixed ((AllOK.nil Try.prog).and ok18) Try.func46 (by kernel_rfl) sBool (fun x => noInv) (fun x => noInv) fun x h => vc46 x.1.1 x.1.2 x.2.1 h)
set_option maxRecDepth 100000 in
theorem ok22 : Callable Try.prog 22 ∧ Valid Try.prog 22 sPick.spec :=
  AllOK.head (AllOK.f mixed ((AllOK.nil Try.prog).and ok18) Try.func22 (by kernel_rfl) sPick (fun x => noInv) (fun x => noInv) fun x h => vc22 x.1.1 x.1.2 x.2.1 h)
set_option maxRecDepth 100000 in
theorem ok45 : Callable Try.prog 45 ∧ Valid Try.prog 45 sWord.spec :=
  AllOK.head (AllOK.f mixed ((AllOK.nil Try.prog).and ok18) Try.func45 (by kernel_rfl) sWord (fun x => noInv) (fun x => noInv) fun x h => vc45 x.1.1 x.1.2 h)
set_option maxRecDepth 100000 in
theorem ok98 : Callable Try.prog 98 ∧ Valid Try.prog 98 sInner.spec :=
  AllOK.head (AllOK.d mixed (AllOK.nil Try.prog) Try.func98 (by kernel_rfl) sInner (fun x => noInv) (fun x => noInv) fun x h => vc98 x.1 h)
set_option maxRecDepth 100000 in
theorem ok77 : Callable Try.prog 77 ∧ Valid Try.prog 77 sNameR.spec :=
  AllOK.head (AllOK.d mixed (AllOK.nil Try.prog) Try.func77 (by kernel_rfl) sNameR (fun x => (invs [(4, inv77 x.1)])) (fun x => noInv) fun x h => vc77 x.1 h)
set_option maxRecDepth 100000 in
theorem ok95 : Callable Try.prog 95 ∧ Valid Try.prog 95 sNameP.spec :=
  AllOK.head (AllOK.d mixed ((AllOK.nil Try.prog).and ok98) Try.func95 (by kernel_rfl) sNameP (fun x => (invs [(2, inv95 x.1)])) (fun x => noInv) fun x h => vc95 x.1 h)
set_option maxRecDepth 100000 in
theorem ok43 : Callable Try.prog 43 ∧ Valid Try.prog 43 sNew.spec :=
  AllOK.head (AllOK.d mixed (AllOK.nil Try.prog) Try.func43 (by kernel_rfl) sNew (fun x => noInv) (fun x => noInv) fun x h => vc43 () h)
set_option maxRecDepth 100000 in
theorem ok92 : Callable Try.prog 92 ∧ Valid Try.prog 92 sNodeB.spec :=
  AllOK.head (AllOK.d mixed ((AllOK.nil Try.prog).and ok77) Try.func92 (by kernel_rfl) sNodeB (fun x => (invs [(10, inv92 x.1.1 x.2.1)])) (fun x => noInv) fun x h => vc92 x.1.1 x.1.2 x.2.1 h)
set_option maxRecDepth 100000 in
theorem ok75 : Callable Try.prog 75 ∧ Valid Try.prog 75 sUp.spec :=
  AllOK.head (AllOK.d mixed (AllOK.nil Try.prog) Try.func75 (by kernel_rfl) sUp (fun x => (invs [(3, inv75 x.1.1 x.2.1)])) (fun x => noInv) fun x h => vc75 x.1.1 x.1.2 x.2.1 h)
set_option maxRecDepth 100000 in
theorem ok76 : Callable Try.prog 76 ∧ Valid Try.prog 76 sChk.spec :=
  AllOK.head (AllOK.d mixed (((AllOK.nil Try.prog).and ok75).and ok92) Try.func76 (by kernel_rfl) sChk (fun x => (invs [(5, inv76a x.1.1), (10, inv76b x.1.1)])) (fun x => noInv) fun x h => vc76 x.1.1 x.1.2 h)
set_option maxRecDepth 100000 in
theorem ok91 : Callable Try.prog 91 ∧ Valid Try.prog 91 sFindR.spec :=
  AllOK.head (AllOK.d mixed ((AllOK.nil Try.prog).and ok76) Try.func91 (by kernel_rfl) sFindR (fun x => (invs [(4, inv91 x.1.1 x.2.1)])) (fun x => noInv) fun x h => vc91 x.1.1 x.1.2 x.2.1 h)
set_option maxRecDepth 100000 in
theorem ok73 : Callable Try.prog 73 ∧ Valid Try.prog 73 sHas.spec :=
  AllOK.head (AllOK.d mixed ((AllOK.nil Try.prog).and ok91) Try.func73 (by kernel_rfl) sHas (fun x => noInv) (fun x => noInv) fun x h => vc73 x.1.1 x.1.2 x.2.1 h)
set_option maxRecDepth 100000 in
theorem ok41 : Callable Try.prog 41 ∧ Valid Try.prog 41 sAnc.spec :=
  AllOK.head (AllOK.d mixed (((AllOK.nil Try.prog).and ok75).and ok73) Try.func41 (by kernel_rfl) sAnc (fun x => noInv) (fun x => noInv) fun x h => vc41 x.1.1 x.1.2 x.2.1 h)
set_option maxRecDepth 100000 in
theorem ok38 : Callable Try.prog 38 ∧ Valid Try.prog 38 sChn.spec :=
  AllOK.head (AllOK.d mixed ((AllOK.nil Try.prog).and ok73) Try.func38 (by kernel_rfl) sChn (fun x => (invs [(5, inv38 x.1.1 x.2.1)])) (fun x => noInv) fun x h => vc38 x.1.1 x.1.2 x.2.1 h)
set_option maxRecDepth 100000 in
theorem ok78 : Callable Try.prog 78 ∧ Valid Try.prog 78 sDepth.spec :=
  AllOK.head (AllOK.d mixed ((AllOK.nil Try.prog).and ok41) Try.func78 (by kernel_rfl) sDepth (fun x => noInv) (fun x => noInv) fun x h => vc78 x.1.1 x.1.2 x.2.1 h)
set_option maxRecDepth 100000 in
theorem ok79 : Callable Try.prog 79 ∧ Valid Try.prog 79 sCopyT.spec :=
  AllOK.head (AllOK.d mixed (AllOK.nil Try.prog) Try.func79 (by kernel_rfl) sCopyT (fun x => noInv) (fun x => noInv) fun x h => vc79 x.1.1 x.1.2 h)
set_option maxRecDepth 100000 in
theorem ok44 : Callable Try.prog 44 ∧ Valid Try.prog 44 sAdd.spec :=
  AllOK.head (AllOK.d mixed ((((((AllOK.nil Try.prog).and ok79).and ok78).and ok73).and ok77).and ok76) Try.func44 (by kernel_rfl) sAdd (fun x => (invs [(6, inv44 x.1.1 x.2.1 x.2.2.1)])) (fun x => noInv) fun x h => vc44 x.1.1 x.1.2 x.2.1 x.2.2.1 h)
set_option maxRecDepth 100000 in
theorem ok47 : Callable Try.prog 47 ∧ Valid Try.prog 47 sRem.spec :=
  AllOK.head (AllOK.d mixed ((((AllOK.nil Try.prog).and ok38).and ok73).and ok76) Try.func47 (by kernel_rfl) sRem (fun x => (invs [(11, inv47 x.1.1 x.1.2 x.2.1)])) (fun x => noInv) fun x h => vc47 x.1.1 x.1.2 x.2.1 h)
set_option maxRecDepth 100000 in
theorem ok88 : Callable Try.prog 88 ∧ Valid Try.prog 88 sRootB.spec :=
  AllOK.head (AllOK.d mixed (AllOK.nil Try.prog) Try.func88 (by kernel_rfl) sRootB (fun x => noInv) (fun x => noInv) fun x h => vc88 x.1 h)
set_option maxRecDepth 100000 in
theorem ok89 : Callable Try.prog 89 ∧ Valid Try.prog 89 sFine.spec :=
  AllOK.head (AllOK.d mixed ((AllOK.nil Try.prog).and ok95) Try.func89 (by kernel_rfl) sFine (fun x => (invs [(5, inv89 x.1 x.2.1)])) (fun x => noInv) fun x h => vc89 x.1 x.2.1 h)
set_option maxRecDepth 100000 in
theorem ok71 : Callable Try.prog 71 ∧ Valid Try.prog 71 sChkP.spec :=
  AllOK.head (AllOK.d mixed (((AllOK.nil Try.prog).and ok89).and ok88) Try.func71 (by kernel_rfl) sChkP (fun x => (invs [(5, inv71 x.1.1)])) (fun x => noInv) fun x h => vc71 x.1.1 x.1.2 h)
set_option maxRecDepth 100000 in
theorem ok97 : Callable Try.prog 97 ∧ Valid Try.prog 97 sAt1.spec :=
  AllOK.head (AllOK.d mixed (AllOK.nil Try.prog) Try.func97 (by kernel_rfl) sAt1 (fun x => noInv) (fun x => noInv) fun x h => vc97 x.1 x.2.1 h)
set_option maxRecDepth 100000 in
theorem ok96 : Callable Try.prog 96 ∧ Valid Try.prog 96 sIdxN.spec :=
  AllOK.head (AllOK.d mixed ((AllOK.nil Try.prog).and ok97) Try.func96 (by kernel_rfl) sIdxN (fun x => (invs [(2, inv96 x.1 x.2.1)])) (fun x => noInv) fun x h => vc96 x.1 x.2.1 h)
set_option maxRecDepth 100000 in
theorem ok90 : Callable Try.prog 90 ∧ Valid Try.prog 90 sAt.spec :=
  AllOK.head (AllOK.d mixed ((AllOK.nil Try.prog).and ok96) Try.func90 (by kernel_rfl) sAt (fun x => noInv) (fun x => noInv) fun x h => vc90 x.1.1 x.1.2 x.2.1 h)
set_option maxRecDepth 100000 in
theorem ok72 : Callable Try.prog 72 ∧ Valid Try.prog 72 sFFind.spec :=
  AllOK.head (AllOK.d mixed ((AllOK.nil Try.prog).and ok90) Try.func72 (by kernel_rfl) sFFind (fun x => noInv) (fun x => noInv) fun x h => vc72 x.1.1 x.1.2 x.2.1 h)
set_option maxRecDepth 100000 in
theorem ok62 : Callable Try.prog 62 ∧ Valid Try.prog 62 sFChn.spec :=
  AllOK.head (AllOK.d mixed (AllOK.nil Try.prog) Try.func62 (by kernel_rfl) sFChn (fun x => (invs [(3, inv62 x.1.1 x.2.1)])) (fun x => noInv) fun x h => vc62 x.1.1 x.1.2 x.2.1 h)
set_option maxRecDepth 100000 in
theorem ok58 : Callable Try.prog 58 ∧ Valid Try.prog 58 sFAnc.spec :=
  AllOK.head (AllOK.d mixed ((AllOK.nil Try.prog).and ok72) Try.func58 (by kernel_rfl) sFAnc (fun x => (invs [(3, inv58 x.1.1 x.2.1)])) (fun x => noInv) fun x h => vc58 x.1.1 x.1.2 x.2.1 h)
set_option maxRecDepth 100000 in
theorem ok74 : Callable Try.prog 74 ∧ Valid Try.prog 74 sFSub.spec :=
  AllOK.head (AllOK.f mixed (((AllOK.nil Try.prog).and ok62).and ok90) Try.func74 (by kernel_rfl) sFSub (fun x => (invs [(5, inv74 x.1.1 x.2.1)])) (fun x => noInv) fun x h => vc74 x.1.1 x.1.2 x.2.1 h)
set_option maxRecDepth 100000 in
theorem ok28 : Callable Try.prog 28 ∧ Valid Try.prog 28 sHasI.spec :=
  AllOK.head (AllOK.d mixed (AllOK.nil Try.prog) Try.func28 (by kernel_rfl) sHasI (fun x => (invs [(2, inv28 x.1 x.2.1)])) (fun x => noInv) fun x h => vc28 x.1 x.2.1 h)
set_option maxRecDepth 100000 in
theorem ok85 : Callable Try.prog 85 ∧ Valid Try.prog 85 sIdxI.spec :=
  AllOK.head (AllOK.d mixed (AllOK.nil Try.prog) Try.func85 (by kernel_rfl) sIdxI (fun x => (invs [(2, inv85 x.1 x.2.1)])) (fun x => noInv) fun x h => vc85 x.1 x.2.1 h)
set_option maxRecDepth 100000 in
theorem ok57 : Callable Try.prog 57 ∧ Valid Try.prog 57 sHasI.spec :=
  AllOK.head (AllOK.d mixed ((AllOK.nil Try.prog).and ok85) Try.func57 (by kernel_rfl) sHasI (fun x => noInv) (fun x => noInv) fun x h => vc57 x.1 x.2.1 h)
set_option maxRecDepth 100000 in
theorem ok25 : Callable Try.prog 25 ∧ Valid Try.prog 25 sGroup.spec :=
  AllOK.head (AllOK.f mixed (((AllOK.nil Try.prog).and ok46).and ok18) Try.func25 (by kernel_rfl) sGroup (fun x => noInv) (fun x => noInv) fun x h => vc25 x.1.1 x.1.2 x.2.1.1 x.2.1.2 h)
set_option maxRecDepth 100000 in
theorem ok24 : Callable Try.prog 24 ∧ Valid Try.prog 24 sSome.spec :=
  AllOK.head (AllOK.f mixed ((AllOK.nil Try.prog).and ok18) Try.func24 (by kernel_rfl) sSome (fun x => (invs [(3, inv24 x.1.1 x.1.2)])) (fun x => noInv) fun x h => vc24 x.1.1 x.1.2 h)
set_option maxRecDepth 100000 in
theorem ok16 : Callable Try.prog 16 ∧ Valid Try.prog 16 sTree.spec :=
  AllOK.head (AllOK.f mixed (((((((AllOK.nil Try.prog).and ok47).and ok46).and ok44).and ok45).and ok18).and ok43) Try.func16 (by kernel_rfl) sTree (fun x => (invs [(3, inv16 x.1.1 x.2.1 x.1.2)])) (fun x => noInv) fun x h => vc16 x.1.1 x.1.2 x.2.1 h)
set_option maxRecDepth 100000 in
theorem ok17 : Callable Try.prog 17 ∧ Valid Try.prog 17 sCnds.spec :=
  AllOK.head (AllOK.f mixed (((AllOK.nil Try.prog).and ok22).and ok18) Try.func17 (by kernel_rfl) sCnds (fun x => (invs [(4, inv17 x.1.1 x.2.1.1 x.1.2)])) (fun x => noInv) fun x h => vc17 x.1.1 x.1.2 x.2.1.1 x.2.1.2 h)
set_option maxRecDepth 100000 in
theorem ok34 : Callable Try.prog 34 ∧ Valid Try.prog 34 sDeps.spec :=
  AllOK.head (AllOK.f mixed (((AllOK.nil Try.prog).and ok22).and ok46) Try.func34 (by kernel_rfl) sDeps (fun x => (invs [(3, inv34 x.1.1 x.2.1.1 x.1.2)])) (fun x => noInv) fun x h => vc34 x.1.1 x.1.2 x.2.1.1 x.2.1.2 h)
set_option maxRecDepth 100000 in
theorem ok35 : Callable Try.prog 35 ∧ Valid Try.prog 35 sSmps.spec :=
  AllOK.head (AllOK.f mixed ((((AllOK.nil Try.prog).and ok22).and ok25).and ok18) Try.func35 (by kernel_rfl) sSmps (fun x => (invs [(3, inv35 x.1.1 x.1.2)])) (fun x => noInv) fun x h => vc35 x.1.1 x.1.2 x.2.1.1 x.2.1.2 h)
set_option maxRecDepth 100000 in
theorem ok49 : Callable Try.prog 49 ∧ Valid Try.prog 49 sSound.spec :=
  AllOK.head (AllOK.d mixed (AllOK.nil Try.prog) Try.func49 (by kernel_rfl) sSound (fun x => noInv) (fun x => noInv) fun x h => vc49 x.1 h)
set_option maxRecDepth 100000 in
theorem ok50 : Callable Try.prog 50 ∧ Valid Try.prog 50 sScoreI.spec :=
  AllOK.head (AllOK.d mixed (AllOK.nil Try.prog) Try.func50 (by kernel_rfl) sScoreI (fun x => noInv) (fun x => noInv) fun x h => vc50 x.1 x.2.1 h)
set_option maxRecDepth 100000 in
theorem ok21 : Callable Try.prog 21 ∧ Valid Try.prog 21 sScore.spec :=
  AllOK.head (AllOK.d mixed (((AllOK.nil Try.prog).and ok50).and ok49) Try.func21 (by kernel_rfl) sScore (fun x => noInv) (fun x => noInv) fun x h => vc21 x.1 x.2.1 h)
set_option maxRecDepth 100000 in
theorem ok54 : Callable Try.prog 54 ∧ Valid Try.prog 54 sCv.spec :=
  AllOK.head (AllOK.d mixed ((((AllOK.nil Try.prog).and ok49).and ok72).and ok71) Try.func54 (by kernel_rfl) sCv (fun x => (invs [(4, inv54 x.1.1 x.2.1)])) (fun x => noInv) fun x h => vc54 x.1.1 x.1.2 x.2.1 h)
set_option maxRecDepth 100000 in
theorem ok59 : Callable Try.prog 59 ∧ Valid Try.prog 59 sWith.spec :=
  AllOK.head (AllOK.d mixed (((AllOK.nil Try.prog).and ok57).and ok74) Try.func59 (by kernel_rfl) sWith (fun x => (invsS [(4, inv59 x.1.1 x.2.1 x.2.2.1)])) (fun x => noInv) fun x h => vc59 x.1.1 x.1.2 x.2.1 x.2.2.1 h)
set_option maxRecDepth 100000 in
theorem ok81 : Callable Try.prog 81 ∧ Valid Try.prog 81 sDiff.spec :=
  AllOK.head (AllOK.d mixed ((AllOK.nil Try.prog).and ok50) Try.func81 (by kernel_rfl) sDiff (fun x => noInv) (fun x => noInv) fun x h => vc81 x.1 x.2.1 x.2.2.1 h)
set_option maxRecDepth 100000 in
theorem ok80 : Callable Try.prog 80 ∧ Valid Try.prog 80 sMaxC.spec :=
  AllOK.head (AllOK.d mixed ((AllOK.nil Try.prog).and ok81) Try.func80 (by kernel_rfl) sMaxC (fun x => (invs [(5, inv80 x.1 x.2.1)])) (fun x => noInv) fun x h => vc80 x.1 x.2.1 h)
set_option maxRecDepth 100000 in
theorem ok48 : Callable Try.prog 48 ∧ Valid Try.prog 48 sVic.spec :=
  AllOK.head (AllOK.d mixed (((((AllOK.nil Try.prog).and ok80).and ok59).and ok72).and ok54) Try.func48 (by kernel_rfl) sVic (fun x => noInv) (fun x => noInv) fun x h => vc48 x.1.1 x.1.2 x.2.1 x.2.2.1 x.2.2.2.1 h)
set_option maxRecDepth 100000 in
theorem ok19 : Callable Try.prog 19 ∧ Valid Try.prog 19 sVicP.spec :=
  AllOK.head (AllOK.d mixed ((AllOK.nil Try.prog).and ok48) Try.func19 (by kernel_rfl) sVicP (fun x => noInv) (fun x => noInv) fun x h => vc19 x.1.1 x.1.2 x.2.1 x.2.2.1 x.2.2.2.1 h)
set_option maxRecDepth 100000 in
theorem ok27 : Callable Try.prog 27 ∧ Valid Try.prog 27 sDec.spec :=
  AllOK.head (AllOK.d mixed (((((AllOK.nil Try.prog).and ok59).and ok57).and ok58).and ok48) Try.func27 (by kernel_rfl) sDec (fun x => (invs [(6, inv27a x.1.1 x.1.2 x.2.1 x.2.2.1 x.2.2.2.1 x.2.2.2.2.1), (16, inv27b x.1.1 x.1.2 x.2.1 x.2.2.1 x.2.2.2.1 x.2.2.2.2.1)])) (fun x => (invs [(12, inv27j x.1.1 x.1.2 x.2.1 x.2.2.1 x.2.2.2.1 x.2.2.2.2.1)])) fun x h => vc27 x.1.1 x.1.2 x.2.1 x.2.2.1 x.2.2.2.1 x.2.2.2.2.1 h)
set_option maxRecDepth 100000 in
theorem ok26 : Callable Try.prog 26 ∧ Valid Try.prog 26 sFreed.spec :=
  AllOK.head (AllOK.d mixed ((AllOK.nil Try.prog).and ok57) Try.func26 (by kernel_rfl) sFreed (fun x => (invs [(3, inv26 x.1 x.2.1)])) (fun x => noInv) fun x h => vc26 x.1 x.2.1 h)
set_option maxRecDepth 100000 in
theorem ok20 : Callable Try.prog 20 ∧ Valid Try.prog 20 sBelow.spec :=
  AllOK.head (AllOK.d mixed (((AllOK.nil Try.prog).and ok28).and ok41) Try.func20 (by kernel_rfl) sBelow (fun x => noInv) (fun x => noInv) fun x h => vc20 x.1.1 x.1.2 x.2.1 x.2.2.1 h)
set_option maxRecDepth 100000 in
theorem ok42 : Callable Try.prog 42 ∧ Valid Try.prog 42 sSameI.spec :=
  AllOK.head (AllOK.d mixed (AllOK.nil Try.prog) Try.func42 (by kernel_rfl) sSameI (fun x => (invs [(4, inv42 x.1 x.2.1)])) (fun x => noInv) fun x h => vc42 x.1 x.2.1 h)
set_option maxRecDepth 100000 in
theorem ok14 : Callable Try.prog 14 ∧ Valid Try.prog 14 sSane29.spec :=
  AllOK.head (AllOK.d mixed (((((AllOK.nil Try.prog).and ok42).and ok19).and ok27).and ok21) Try.func14 (by kernel_rfl) sSane29 (fun x => noInv) (fun x => noInv) fun x h => vc14 () h)
set_option maxRecDepth 100000 in
theorem ok84 : Callable Try.prog 84 ∧ Valid Try.prog 84 sSound.spec :=
  AllOK.head (AllOK.d mixed (AllOK.nil Try.prog) Try.func84 (by kernel_rfl) sSound (fun x => noInv) (fun x => noInv) fun x h => vc84 x.1 h)
set_option maxRecDepth 100000 in
theorem ok83 : Callable Try.prog 83 ∧ Valid Try.prog 83 sScoreI.spec :=
  AllOK.head (AllOK.d mixed (AllOK.nil Try.prog) Try.func83 (by kernel_rfl) sScoreI (fun x => noInv) (fun x => noInv) fun x h => vc83 x.1 x.2.1 h)
set_option maxRecDepth 100000 in
theorem ok53 : Callable Try.prog 53 ∧ Valid Try.prog 53 sScore.spec :=
  AllOK.head (AllOK.d mixed (((AllOK.nil Try.prog).and ok83).and ok84) Try.func53 (by kernel_rfl) sScore (fun x => noInv) (fun x => noInv) fun x h => vc53 x.1 x.2.1 h)
set_option maxRecDepth 100000 in
theorem ok82 : Callable Try.prog 82 ∧ Valid Try.prog 82 sMayR.spec :=
  AllOK.head (AllOK.d mixed ((AllOK.nil Try.prog).and ok20) Try.func82 (by kernel_rfl) sMayR (fun x => noInv) (fun x => noInv) fun x h => vc82 x.1.1 x.1.2 x.2.1 x.2.2.1 h)
set_option maxRecDepth 100000 in
theorem ok55 : Callable Try.prog 55 ∧ Valid Try.prog 55 sCv.spec :=
  AllOK.head (AllOK.d mixed ((((AllOK.nil Try.prog).and ok84).and ok73).and ok76) Try.func55 (by kernel_rfl) sCv (fun x => (invs [(4, inv55 x.1.1 x.2.1)])) (fun x => noInv) fun x h => vc55 x.1.1 x.1.2 x.2.1 h)
set_option maxRecDepth 100000 in
theorem ok51 : Callable Try.prog 51 ∧ Valid Try.prog 51 sVicP.spec :=
  AllOK.head (AllOK.d mixed (((((AllOK.nil Try.prog).and ok83).and ok82).and ok73).and ok55) Try.func51 (by kernel_rfl) sVicP (fun x => (invs [(9, inv51 x.1.1 x.2.1 x.2.2.1 x.2.2.2.1)])) (fun x => noInv) fun x h => vc51 x.1.1 x.1.2 x.2.1 x.2.2.1 x.2.2.2.1 h)
set_option maxRecDepth 100000 in
theorem ok56 : Callable Try.prog 56 ∧ Valid Try.prog 56 sSameK.spec :=
  AllOK.head (AllOK.d mixed ((AllOK.nil Try.prog).and ok42) Try.func56 (by kernel_rfl) sSameK (fun x => noInv) (fun x => noInv) fun x h => vc56 x.1.1 x.1.2.1 x.1.2.2 x.2.1.1 x.2.1.2.1 x.2.1.2.2 h)
set_option maxRecDepth 100000 in
theorem ok52 : Callable Try.prog 52 ∧ Valid Try.prog 52 sDec.spec :=
  AllOK.head (AllOK.d mixed ((((((AllOK.nil Try.prog).and ok82).and ok20).and ok28).and ok41).and ok51) Try.func52 (by kernel_rfl) sDec (fun x => (invsS [(6, fun _ => inv52a x.1.1 x.1.2 x.2.1 x.2.2.1 x.2.2.2.1 x.2.2.2.2.1), (11, inv52b x.1.1 x.1.2 x.2.2.1 x.2.2.2.1), (16, fun _ => inv52c x.1.1 x.1.2 x.2.1 x.2.2.1 x.2.2.2.1 x.2.2.2.2.1)])) (fun x => noInv) fun x h => vc52 x.1.1 x.1.2 x.2.1 x.2.2.1 x.2.2.2.1 x.2.2.2.2.1 h)
set_option maxRecDepth 100000 in
theorem ok23 : Callable Try.prog 23 ∧ Valid Try.prog 23 sExK.spec :=
  AllOK.head (AllOK.d mixed ((((((((((AllOK.nil Try.prog).and ok56).and ok55).and ok54).and ok53).and ok21).and ok52).and ok27).and ok51).and ok19) Try.func23 (by kernel_rfl) sExK (fun x => (invs [(6, inv23 x.1.1 x.1.2 x.2.1 x.2.2.1 x.2.2.2.1 x.2.2.2.2.1)])) (fun x => noInv) fun x h => vc23 x.1.1 x.1.2 x.2.1 x.2.2.1 x.2.2.2.1 x.2.2.2.2.1 h)
set_option maxRecDepth 100000 in
theorem walk4 (a0 : Option Addr) (len0 cap0 : Nat) (z0 : List Int) (ta : Option Addr) (tcap : Nat) (l : List Nod) (n : Int) (ca : Option Addr) (ccap : Nat) (cs : List Cnd) (a3 : Option Addr) (len3 cap3 : Nat) (z3 : List Int) (g t : Int) (w : World) (w0 : IsRow .i64 w a0 len0 cap0 z0) (hw : WfN l) (ht : VRel w (S0 w) μ0 (.agg [.irec true 3 l, .int .i64 n]) (.agg #[.slice ta l.length tcap, .int .i64 n])) (hc : cs.length ≤ maxLen) (hr : VRel w (S0 w) μ0 (.irec true 4 cs) (.slice ca cs.length ccap)) (w3 : IsRow .i64 w a3 len3 cap3 z3) :
    Calls Try.prog 4 #[.slice a0 len0 cap0, .agg #[.slice ta l.length tcap, .int .i64 n], .slice ca cs.length ccap, .slice a3 len3 cap3, .int .i64 g, .int .i64 t] w fun e w' => e = .returned (.bool true) ∧ Below w.heap.size w w' := by
  have h3 : (z3.take len3).length ≤ 9223372036854775807 := by
    rw [List.length_take]
    rcases w3 with ⟨_, e, _, _⟩ | ⟨x, _, h1, h2, _⟩
    · omega
    · unfold maxLen at h2; omega
  have hc2 : cs.length ≤ 9223372036854775807 := by unfold maxLen at hc; omega
  exact law_ofD (EV Try.prog [(13, sLight.spec), (14, sSane29.spec), (15, sRoll.spec), (16, sTree.spec), (17, sCnds.spec), (18, sNext.spec), (22, sPick.spec), (23, sExK.spec), (24, sSome.spec), (25, sGroup.spec), (26, sFreed.spec)] (invs [(5, inv4 (z0.take len0))]) noInv) ((((((((((((AllOK.nil Try.prog).and ok26).and ok25).and ok24).and ok23).and ok22).and ok18).and ok17).and ok16).and ok15).and ok14).and ok13) mixed Try.func4 (avs := [.irec true 0 (z0.take len0), .agg [.irec true 3 l, .int .i64 n], .irec true 4 cs, .irec true 0 (z3.take len3), .int .i64 g, .int .i64 t]) (xs := [.slice a0 len0 cap0, .agg #[.slice ta l.length tcap, .int .i64 n], .slice ca cs.length ccap, .slice a3 len3 cap3, .int .i64 g, .int .i64 t]) (.cons (row_rel w0) (.cons ht (.cons hr (.cons (row_rel w3) (.cons (.int _ _) (.cons (.int _ _) .nil)))))) (vc4 (z0.take len0) l n cs (z3.take len3) g t ⟨⟨hw, h3⟩, hc2⟩) rfl rfl rfl rfl
end Go.Proofs.Ytglkagaammnojaa
