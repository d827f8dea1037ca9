/-
  Lemmas and contracts on the way to the laws of this seat; each theorem states its own conditions, and there are no others.
-/
import Derived.Test.YtglkagaammnojaaE29
import Derived.Test.YtglkagaammnojaaFY
import Derived.Test.YtglkagaammnojaaXQ
namespace Go.Proofs.Ytglkagaammnojaa
open Go Go.RowKit
set_option linter.unusedVariables false
set_option linter.unusedSimpArgs false
set_option linter.unusedVariables false
set_option maxRecDepth 100000 in
theorem ok18 : Callable Try.prog 18 ∧ Valid Try.prog 18 sNext.spec :=
  AllOK.head (AllOK.f mixed (AllOK.nil Try.prog) Try.func18 (by kernel_rfl) sNext (fun x => noInv) (fun x => noInv) fun x h => vc18 x.1.1 x.1.2 x.2.1 h)
set_option maxRecDepth 100000 in
theorem ok15 : Callable Try.prog 15 ∧ Valid Try.prog 15 sRoll.spec :=
  AllOK.head (AllOK.d mixed (AllOK.nil Try.prog) Try.func15 (by kernel_rfl) sRoll (fun x => noInv) (fun x => noInv) fun x h => vc15 x.1 h)
set_option maxRecDepth 100000 in
theorem ok13 : Callable Try.prog 13 ∧ Valid Try.prog 13 sLight.spec :=
  AllOK.head (AllOK.d mixed (AllOK.nil Try.prog) Try.func13 (by kernel_rfl) sLight (fun x => noInv) (fun x => noInv) fun x h => vc13 x.1 h)
set_option maxRecDepth 100000 in
theorem ok46 : Callable Try.prog 46 ∧ Valid Try.prog 46 sBool.spec :=
  AllOK.head (AllOK.f mixed ((AllOK.nil Try.prog).and ok18) Try.func46 (by kernel_rfl) sBool (fun x => noInv) (fun x => noInv) fun x h => vc46 x.1.1 x.1.2 x.2.1 h)
set_option maxRecDepth 100000 in
theorem ok22 : Callable Try.prog 22 ∧ Valid Try.prog 22 sPick.spec :=
  AllOK.head (AllOK.f mixed ((AllOK.nil Try.prog).and ok18) Try.func22 (by kernel_rfl) sPick (fun x => noInv) (fun x => noInv) fun x h => vc22 x.1.1 x.1.2 x.2.1 h)
set_option maxRecDepth 100000 in
theorem ok45 : Callable Try.prog 45 ∧ Valid Try.prog 45 sWord.spec :=
  AllOK.head (AllOK.f mixed ((AllOK.nil Try.prog).and ok18) Try.func45 (by kernel_rfl) sWord (fun x => noInv) (fun x => noInv) fun x h => vc45 x.1.1 x.1.2 h)
set_option maxRecDepth 100000 in
theorem ok98 : Callable Try.prog 98 ∧ Valid Try.prog 98 sInner.spec :=
  AllOK.head (AllOK.d mixed (AllOK.nil Try.prog) Try.func98 (by kernel_rfl) sInner (fun x => noInv) (fun x => noInv) fun x h => vc98 x.1 h)
set_option maxRecDepth 100000 in
theorem ok77 : Callable Try.prog 77 ∧ Valid Try.prog 77 sNameR.spec :=
  AllOK.head (AllOK.d mixed (AllOK.nil Try.prog) Try.func77 (by kernel_rfl) sNameR (fun x => (invs [(4, inv77 x.1)])) (fun x => noInv) fun x h => vc77 x.1 h)
set_option maxRecDepth 100000 in
theorem ok95 : Callable Try.prog 95 ∧ Valid Try.prog 95 sNameP.spec :=
  AllOK.head (AllOK.d mixed ((AllOK.nil Try.prog).and ok98) Try.func95 (by kernel_rfl) sNameP (fun x => (invs [(2, inv95 x.1)])) (fun x => noInv) fun x h => vc95 x.1 h)
set_option maxRecDepth 100000 in
theorem ok43 : Callable Try.prog 43 ∧ Valid Try.prog 43 sNew.spec :=
  AllOK.head (AllOK.d mixed (AllOK.nil Try.prog) Try.func43 (by kernel_rfl) sNew (fun x => noInv) (fun x => noInv) fun x h => vc43 () h)
set_option maxRecDepth 100000 in
theorem ok92 : Callable Try.prog 92 ∧ Valid Try.prog 92 sNodeB.spec :=
  AllOK.head (AllOK.d mixed ((AllOK.nil Try.prog).and ok77) Try.func92 (by kernel_rfl) sNodeB (fun x => (invs [(10, inv92 x.1.1 x.2.1)])) (fun x => noInv) fun x h => vc92 x.1.1 x.1.2 x.2.1 h)
set_option maxRecDepth 100000 in
theorem ok75 : Callable Try.prog 75 ∧ Valid Try.prog 75 sUp.spec :=
  AllOK.head (AllOK.d mixed (AllOK.nil Try.prog) Try.func75 (by kernel_rfl) sUp (fun x => (invs [(3, inv75 x.1.1 x.2.1)])) (fun x => noInv) fun x h => vc75 x.1.1 x.1.2 x.2.1 h)
set_option maxRecDepth 100000 in
theorem ok76 : Callable Try.prog 76 ∧ Valid Try.prog 76 sChk.spec :=
  AllOK.head (AllOK.d mixed (((AllOK.nil Try.prog).and ok75).and ok92) Try.func76 (by kernel_rfl) sChk (fun x => (invs [(5, inv76a x.1.1), (10, inv76b x.1.1)])) (fun x => noInv) fun x h => vc76 x.1.1 x.1.2 h)
set_option maxRecDepth 100000 in
theorem ok91 : Callable Try.prog 91 ∧ Valid Try.prog 91 sFindR.spec :=
  AllOK.head (AllOK.d mixed ((AllOK.nil Try.prog).and ok76) Try.func91 (by kernel_rfl) sFindR (fun x => (invs [(4, inv91 x.1.1 x.2.1)])) (fun x => noInv) fun x h => vc91 x.1.1 x.1.2 x.2.1 h)
set_option maxRecDepth 100000 in
theorem ok73 : Callable Try.prog 73 ∧ Valid Try.prog 73 sHas.spec :=
  AllOK.head (AllOK.d mixed ((AllOK.nil Try.prog).and ok91) Try.func73 (by kernel_rfl) sHas (fun x => noInv) (fun x => noInv) fun x h => vc73 x.1.1 x.1.2 x.2.1 h)
set_option maxRecDepth 100000 in
theorem ok41 : Callable Try.prog 41 ∧ Valid Try.prog 41 sAnc.spec :=
  AllOK.head (AllOK.d mixed (((AllOK.nil Try.prog).and ok75).and ok73) Try.func41 (by kernel_rfl) sAnc (fun x => noInv) (fun x => noInv) fun x h => vc41 x.1.1 x.1.2 x.2.1 h)
set_option maxRecDepth 100000 in
theorem ok38 : Callable Try.prog 38 ∧ Valid Try.prog 38 sChn.spec :=
  AllOK.head (AllOK.d mixed ((AllOK.nil Try.prog).and ok73) Try.func38 (by kernel_rfl) sChn (fun x => (invs [(5, inv38 x.1.1 x.2.1)])) (fun x => noInv) fun x h => vc38 x.1.1 x.1.2 x.2.1 h)
set_option maxRecDepth 100000 in
theorem ok78 : Callable Try.prog 78 ∧ Valid Try.prog 78 sDepth.spec :=
  AllOK.head (AllOK.d mixed ((AllOK.nil Try.prog).and ok41) Try.func78 (by kernel_rfl) sDepth (fun x => noInv) (fun x => noInv) fun x h => vc78 x.1.1 x.1.2 x.2.1 h)
set_option maxRecDepth 100000 in
theorem ok79 : Callable Try.prog 79 ∧ Valid Try.prog 79 sCopyT.spec :=
  AllOK.head (AllOK.d mixed (AllOK.nil Try.prog) Try.func79 (by kernel_rfl) sCopyT (fun x => noInv) (fun x => noInv) fun x h => vc79 x.1.1 x.1.2 h)
set_option maxRecDepth 100000 in
theorem ok44 : Callable Try.prog 44 ∧ Valid Try.prog 44 sAdd.spec :=
  AllOK.head (AllOK.d mixed ((((((AllOK.nil Try.prog).and ok79).and ok78).and ok73).and ok77).and ok76) Try.func44 (by kernel_rfl) sAdd (fun x => (invs [(6, inv44 x.1.1 x.2.1 x.2.2.1)])) (fun x => noInv) fun x h => vc44 x.1.1 x.1.2 x.2.1 x.2.2.1 h)
set_option maxRecDepth 100000 in
theorem ok47 : Callable Try.prog 47 ∧ Valid Try.prog 47 sRem.spec :=
  AllOK.head (AllOK.d mixed ((((AllOK.nil Try.prog).and ok38).and ok73).and ok76) Try.func47 (by kernel_rfl) sRem (fun x => (invs [(11, inv47 x.1.1 x.1.2 x.2.1)])) (fun x => noInv) fun x h => vc47 x.1.1 x.1.2 x.2.1 h)
set_option maxRecDepth 100000 in
theorem ok88 : Callable Try.prog 88 ∧ Valid Try.prog 88 sRootB.spec :=
  AllOK.head (AllOK.d mixed (AllOK.nil Try.prog) Try.func88 (by kernel_rfl) sRootB (fun x => noInv) (fun x => noInv) fun x h => vc88 x.1 h)
set_option maxRecDepth 100000 in
theorem ok89 : Callable Try.prog 89 ∧ Valid Try.prog 89 sFine.spec :=
  AllOK.head (AllOK.d mixed ((AllOK.nil Try.prog).and ok95) Try.func89 (by kernel_rfl) sFine (fun x => (invs [(5, inv89 x.1 x.2.1)])) (fun x => noInv) fun x h => vc89 x.1 x.2.1 h)
set_option maxRecDepth 100000 in
theorem ok71 : Callable Try.prog 71 ∧ Valid Try.prog 71 sChkP.spec :=
  AllOK.head (AllOK.d mixed (((AllOK.nil Try.prog).and ok89).and ok88) Try.func71 (by kernel_rfl) sChkP (fun x => (invs [(5, inv71 x.1.1)])) (fun x => noInv) fun x h => vc71 x.1.1 x.1.2 h)
set_option maxRecDepth 100000 in
theorem ok97 : Callable Try.prog 97 ∧ Valid Try.prog 97 sAt1.spec :=
  AllOK.head (AllOK.d mixed (AllOK.nil Try.prog) Try.func97 (by kernel_rfl) sAt1 (fun x => noInv) (fun x => noInv) fun x h => vc97 x.1 x.2.1 h)
set_option maxRecDepth 100000 in
theorem ok96 : Callable Try.prog 96 ∧ Valid Try.prog 96 sIdxN.spec :=
  AllOK.head (AllOK.d mixed ((AllOK.nil Try.prog).and ok97) Try.func96 (by kernel_rfl) sIdxN (fun x => (invs [(2, inv96 x.1 x.2.1)])) (fun x => noInv) fun x h => vc96 x.1 x.2.1 h)
set_option maxRecDepth 100000 in
theorem ok90 : Callable Try.prog 90 ∧ Valid Try.prog 90 sAt.spec :=
  AllOK.head (AllOK.d mixed ((AllOK.nil Try.prog).and ok96) Try.func90 (by kernel_rfl) sAt (fun x => noInv) (fun x => noInv) fun x h => vc90 x.1.1 x.1.2 x.2.1 h)
set_option maxRecDepth 100000 in
theorem ok72 : Callable Try.prog 72 ∧ Valid Try.prog 72 sFFind.spec :=
  AllOK.head (AllOK.d mixed ((AllOK.nil Try.prog).and ok90) Try.func72 (by kernel_rfl) sFFind (fun x => noInv) (fun x => noInv) fun x h => vc72 x.1.1 x.1.2 x.2.1 h)
set_option maxRecDepth 100000 in
theorem ok62 : Callable Try.prog 62 ∧ Valid Try.prog 62 sFChn.spec :=
  AllOK.head (AllOK.d mixed (AllOK.nil Try.prog) Try.func62 (by kernel_rfl) sFChn (fun x => (invs [(3, inv62 x.1.1 x.2.1)])) (fun x => noInv) fun x h => vc62 x.1.1 x.1.2 x.2.1 h)
set_option maxRecDepth 100000 in
theorem ok58 : Callable Try.prog 58 ∧ Valid Try.prog 58 sFAnc.spec :=
  AllOK.head (AllOK.d mixed ((AllOK.nil Try.prog).and ok72) Try.func58 (by kernel_rfl) sFAnc (fun x => (invs [(3, inv58 x.1.1 x.2.1)])) (fun x => noInv) fun x h => vc58 x.1.1 x.1.2 x.2.1 h)
set_option maxRecDepth 100000 in
theorem ok74 : Callable Try.prog 74 ∧ Valid Try.prog 74 sFSub.spec :=
  AllOK.head (AllOK.f mixed (((AllOK.nil Try.prog).and ok62).and ok90) Try.func74 (by kernel_rfl) sFSub (fun x => (invs [(5, inv74 x.1.1 x.2.1)])) (fun x => noInv) fun x h => vc74 x.1.1 x.1.2 x.2.1 h)
set_option maxRecDepth 100000 in
theorem ok28 : Callable Try.prog 28 ∧ Valid Try.prog 28 sHasI.spec :=
  AllOK.head (AllOK.d mixed (AllOK.nil Try.prog) Try.func28 (by kernel_rfl) sHasI (fun x => (invs [(2, inv28 x.1 x.2.1)])) (fun x => noInv) fun x h => vc28 x.1 x.2.1 h)
set_option maxRecDepth 100000 in
theorem ok85 : Callable Try.prog 85 ∧ Valid Try.prog 85 sIdxI.spec :=
  AllOK.head (AllOK.d mixed (AllOK.nil Try.prog) Try.func85 (by kernel_rfl) sIdxI (fun x => (invs [(2, inv85 x.1 x.2.1)])) (fun x => noInv) fun x h => vc85 x.1 x.2.1 h)
set_option maxRecDepth 100000 in
theorem ok57 : Callable Try.prog 57 ∧ Valid Try.prog 57 sHasI.spec :=
  AllOK.head (AllOK.d mixed ((AllOK.nil Try.prog).and ok85) Try.func57 (by kernel_rfl) sHasI (fun x => noInv) (fun x => noInv) fun x h => vc57 x.1 x.2.1 h)
set_option maxRecDepth 100000 in
theorem ok25 : Callable Try.prog 25 ∧ Valid Try.prog 25 sGroup.spec :=
  AllOK.head (AllOK.f mixed (((AllOK.nil Try.prog).and ok46).and ok18) Try.func25 (by kernel_rfl) sGroup (fun x => noInv) (fun x => noInv) fun x h => vc25 x.1.1 x.1.2 x.2.1.1 x.2.1.2 h)
set_option maxRecDepth 100000 in
theorem ok24 : Callable Try.prog 24 ∧ Valid Try.prog 24 sSome.spec :=
  AllOK.head (AllOK.f mixed ((AllOK.nil Try.prog).and ok18) Try.func24 (by kernel_rfl) sSome (fun x => (invs [(3, inv24 x.1.1 x.1.2)])) (fun x => noInv) fun x h => vc24 x.1.1 x.1.2 h)
set_option maxRecDepth 100000 in
theorem ok16 : Callable Try.prog 16 ∧ Valid Try.prog 16 sTree.spec :=
  AllOK.head (AllOK.f mixed (((((((AllOK.nil Try.prog).and ok47).and ok46).and ok44).and ok45).and ok18).and ok43) Try.func16 (by kernel_rfl) sTree (fun x => (invs [(3, inv16 x.1.1 x.2.1 x.1.2)])) (fun x => noInv) fun x h => vc16 x.1.1 x.1.2 x.2.1 h)
set_option maxRecDepth 100000 in
theorem ok34 : Callable Try.prog 34 ∧ Valid Try.prog 34 sDeps.spec :=
  AllOK.head (AllOK.f mixed (((AllOK.nil Try.prog).and ok22).and ok46) Try.func34 (by kernel_rfl) sDeps (fun x => (invs [(3, inv34 x.1.1 x.2.1.1 x.1.2)])) (fun x => noInv) fun x h => vc34 x.1.1 x.1.2 x.2.1.1 x.2.1.2 h)
set_option maxRecDepth 100000 in
theorem ok35 : Callable Try.prog 35 ∧ Valid Try.prog 35 sSmps.spec :=
  AllOK.head (AllOK.f mixed ((((AllOK.nil Try.prog).and ok22).and ok25).and ok18) Try.func35 (by kernel_rfl) sSmps (fun x => (invs [(3, inv35 x.1.1 x.1.2)])) (fun x => noInv) fun x h => vc35 x.1.1 x.1.2 x.2.1.1 x.2.1.2 h)
set_option maxRecDepth 100000 in
theorem ok60 : Callable Try.prog 60 ∧ Valid Try.prog 60 sIn.spec :=
  AllOK.head (AllOK.d mixed (AllOK.nil Try.prog) Try.func60 (by kernel_rfl) sIn (fun x => noInv) (fun x => noInv) fun x h => vc60 x.1 x.2.1 x.2.2.1 h)
set_option maxRecDepth 100000 in
theorem ok65 : Callable Try.prog 65 ∧ Valid Try.prog 65 sNone.spec :=
  AllOK.head (AllOK.d mixed (AllOK.nil Try.prog) Try.func65 (by kernel_rfl) sNone (fun x => noInv) (fun x => noInv) fun x h => vc65 x.1 h)
set_option maxRecDepth 100000 in
theorem ok37 : Callable Try.prog 37 ∧ Valid Try.prog 37 sDv.spec :=
  AllOK.head (AllOK.d mixed ((((AllOK.nil Try.prog).and ok60).and ok72).and ok71) Try.func37 (by kernel_rfl) sDv (fun x => (invs [(4, inv37 x.1.1 x.2.1)])) (fun x => noInv) fun x h => vc37 x.1.1 x.1.2 x.2.1 h)
set_option maxRecDepth 100000 in
theorem ok32 : Callable Try.prog 32 ∧ Valid Try.prog 32 sGet.spec :=
  AllOK.head (AllOK.d mixed ((AllOK.nil Try.prog).and ok65) Try.func32 (by kernel_rfl) sGet (fun x => (invs [(2, inv32 x.1 x.2.1)])) (fun x => noInv) fun x h => vc32 x.1 x.2.1 h)
set_option maxRecDepth 100000 in
theorem ok64 : Callable Try.prog 64 ∧ Valid Try.prog 64 sNxD.spec :=
  AllOK.head (AllOK.d mixed (AllOK.nil Try.prog) Try.func64 (by kernel_rfl) sNxD (fun x => noInv) (fun x => noInv) fun x h => vc64 x.1 x.2.1 h)
set_option maxRecDepth 100000 in
theorem ok40 : Callable Try.prog 40 ∧ Valid Try.prog 40 sAlw.spec :=
  AllOK.head (AllOK.d mixed (((((((AllOK.nil Try.prog).and ok32).and ok74).and ok58).and ok60).and ok72).and ok37) Try.func40 (by kernel_rfl) sAlw (fun x => (invsS [(5, fun _ => inv40a x.1.1 x.2.2.1), (16, fun _ => inv40b x.1.1 x.2.1 x.2.2.1 x.2.2.2.1), (20, inv40c x.2.2.1)])) (fun x => noInv) fun x h => vc40 x.1.1 x.1.2 x.2.1 x.2.2.1 x.2.2.2.1 h)
set_option maxRecDepth 100000 in
theorem ok39 : Callable Try.prog 39 ∧ Valid Try.prog 39 sSameD.spec :=
  AllOK.head (AllOK.d mixed (AllOK.nil Try.prog) Try.func39 (by kernel_rfl) sSameD (fun x => (invs [(4, inv39 x.1 x.2.1)])) (fun x => noInv) fun x h => vc39 x.1 x.2.1 h)
set_option maxRecDepth 100000 in
theorem ok29 : Callable Try.prog 29 ∧ Valid Try.prog 29 sPair.spec :=
  AllOK.head (AllOK.d mixed (AllOK.nil Try.prog) Try.func29 (by kernel_rfl) sPair (fun x => noInv) (fun x => noInv) fun x h => vc29 () h)
set_option maxRecDepth 100000 in
theorem ok69 : Callable Try.prog 69 ∧ Valid Try.prog 69 sGet.spec :=
  AllOK.head (AllOK.d mixed (AllOK.nil Try.prog) Try.func69 (by kernel_rfl) sGet (fun x => (invs [(2, inv69 x.1 x.2.1)])) (fun x => noInv) fun x h => vc69 x.1 x.2.1 h)
set_option maxRecDepth 100000 in
theorem ok86 : Callable Try.prog 86 ∧ Valid Try.prog 86 sPut.spec :=
  AllOK.head (AllOK.d mixed (AllOK.nil Try.prog) Try.func86 (by kernel_rfl) sPut (fun x => (invs [(4, inv86 x.1 x.2.1)])) (fun x => noInv) fun x h => vc86 x.1 x.2.1 h)
set_option maxRecDepth 100000 in
theorem ok68 : Callable Try.prog 68 ∧ Valid Try.prog 68 sDv.spec :=
  AllOK.head (AllOK.d mixed (((AllOK.nil Try.prog).and ok73).and ok76) Try.func68 (by kernel_rfl) sDv (fun x => (invs [(4, inv68 x.1.1 x.2.1)])) (fun x => noInv) fun x h => vc68 x.1.1 x.1.2 x.2.1 h)
set_option maxRecDepth 100000 in
theorem ok70 : Callable Try.prog 70 ∧ Valid Try.prog 70 sMissedW.spec :=
  AllOK.head (AllOK.d mixed ((AllOK.nil Try.prog).and ok69) Try.func70 (by kernel_rfl) sMissedW (fun x => (invs [(4, inv70 x.1 x.2.1 x.2.2.1)])) (fun x => noInv) fun x h => vc70 x.1 x.2.1 x.2.2.1 h)
set_option maxRecDepth 100000 in
theorem ok94 : Callable Try.prog 94 ∧ Valid Try.prog 94 sOwn.spec :=
  AllOK.head (AllOK.d mixed (AllOK.nil Try.prog) Try.func94 (by kernel_rfl) sOwn (fun x => (invs [(2, inv94 x.1 x.2.1)])) (fun x => noInv) fun x h => vc94 x.1 x.2.1 h)
set_option maxRecDepth 100000 in
theorem ok93 : Callable Try.prog 93 ∧ Valid Try.prog 93 sSubR.spec :=
  AllOK.head (AllOK.fr mixed (((AllOK.nil Try.prog).and ok38).and ok73) Try.func93 (by kernel_rfl) sSubR mSubR (fun x => (invs [(6, inv93 x.1.1 x.1.2 x.2.1)])) (fun x => noInv) fun k x h hm => vc93 k x.1.1 x.1.2 x.2.1 ⟨h, hm⟩)
set_option maxRecDepth 100000 in
theorem ok87 : Callable Try.prog 87 ∧ Valid Try.prog 87 sSumR.spec :=
  AllOK.head (AllOK.d mixed (((AllOK.nil Try.prog).and ok94).and ok93) Try.func87 (by kernel_rfl) sSumR (fun x => (invsS [(4, inv87 x.2.1)])) (fun x => noInv) fun x h => vc87 x.1.1 x.1.2 x.2.1 x.2.2.1 h)
set_option maxRecDepth 100000 in
theorem ok61 : Callable Try.prog 61 ∧ Valid Try.prog 61 sLateW.spec :=
  AllOK.head (AllOK.d mixed ((AllOK.nil Try.prog).and ok32) Try.func61 (by kernel_rfl) sLateW (fun x => (invs [(3, jnv61 x.1 x.2.1)])) (fun x => noInv) fun x h => wc61 x.1 x.2.1 h)
set_option maxRecDepth 100000 in
theorem ok63 : Callable Try.prog 63 ∧ Valid Try.prog 63 sMissW.spec :=
  AllOK.head (AllOK.d mixed ((AllOK.nil Try.prog).and ok32) Try.func63 (by kernel_rfl) sMissW (fun x => noInv) (fun x => noInv) fun x h => wc63 x.1 x.2.1 x.2.2.1 h)
set_option maxRecDepth 100000 in
theorem ok31 : Callable Try.prog 31 ∧ Valid Try.prog 31 sMissedW.spec :=
  AllOK.head (AllOK.d mixed (((AllOK.nil Try.prog).and ok63).and ok61) Try.func31 (by kernel_rfl) sMissedW (fun x => noInv) (fun x => noInv) fun x h => wc31 x.1 x.2.1 x.2.2.1 h)
set_option maxRecDepth 100000 in
theorem ok30 : Callable Try.prog 30 ∧ Valid Try.prog 30 sStep.spec :=
  AllOK.head (AllOK.d mixed (((((((((AllOK.nil Try.prog).and ok65).and ok64).and ok63).and ok32).and ok62).and ok61).and ok60).and ok37) Try.func30 (by kernel_rfl) sStep (fun x => (invsS [(6, fun _ => jnv30a x.2.2.1), (14, fun _ => jnv30b x.1.1 x.2.1 x.2.2.1), (18, jnv30c x.2.1 x.2.2.1)])) (fun x => noInv) fun x h => wc30 x.1.1 x.1.2 x.2.1 x.2.2.1 h)
set_option maxRecDepth 100000 in
theorem ok33 : Callable Try.prog 33 ∧ Valid Try.prog 33 sSane33.spec :=
  AllOK.head (AllOK.d mixed ((((((AllOK.nil Try.prog).and ok31).and ok32).and ok40).and ok30).and ok29) Try.func33 (by kernel_rfl) sSane33 (fun x => (invsS [(7, jnv33)])) (fun x => noInv) fun x h => wc33 () h)
set_option maxRecDepth 100000 in
theorem ok66 : Callable Try.prog 66 ∧ Valid Try.prog 66 sStep.spec :=
  AllOK.head (AllOK.d mixed ((((((AllOK.nil Try.prog).and ok86).and ok70).and ok38).and ok69).and ok68) Try.func66 (by kernel_rfl) sStep (fun x => (invsS [(6, fun _ => inv66a x.2.2.1), (12, fun _ => inv66b x.1.1 x.2.1 x.2.2.1), (18, inv66c x.2.1 x.2.2.1)])) (fun x => noInv) fun x h => vc66 x.1.1 x.1.2 x.2.1 x.2.2.1 h)
set_option maxRecDepth 100000 in
theorem ok67 : Callable Try.prog 67 ∧ Valid Try.prog 67 sAlw.spec :=
  AllOK.head (AllOK.d mixed ((((((AllOK.nil Try.prog).and ok69).and ok87).and ok41).and ok73).and ok68) Try.func67 (by kernel_rfl) sAlw (fun x => (invsS [(4, fun _ => inv67a x.1.1 x.2.2.1), (13, fun _ => inv67b x.1.1 x.1.2 x.2.1 x.2.2.1 x.2.2.2.1)])) (fun x => noInv) fun x h => vc67 x.1.1 x.1.2 x.2.1 x.2.2.1 x.2.2.2.1 h)
set_option maxRecDepth 100000 in
theorem ok36 : Callable Try.prog 36 ∧ Valid Try.prog 36 sEx33.spec :=
  AllOK.head (AllOK.d mixed ((((((((((((AllOK.nil Try.prog).and ok39).and ok70).and ok31).and ok69).and ok32).and ok68).and ok37).and ok67).and ok40).and ok66).and ok30) Try.func36 (by kernel_rfl) sEx33 (fun x => noInv) (fun x => noInv) fun x h => vc36 x.1.1 x.1.2 x.2.1 x.2.2.1 x.2.2.2.1 x.2.2.2.2.1 h)

set_option maxRecDepth 100000 in
theorem walk8 (a0 : Option Addr) (len0 cap0 : Nat) (z0 : List Int) (ta : Option Addr) (tcap : Nat) (l : List Nod) (n : Int) (da : Option Addr) (dcap : Nat) (ds : List Dep) (sa : Option Addr) (scap : Nat) (ss : List Smp) (ca : Option Addr) (ccap : Nat) (gs : List Chg) (g : Int) (w : World) (w0 : IsRow .i64 w a0 len0 cap0 z0) (hw : WfN l) (ht : VRel w (S0 w) μ0 (.agg [.irec true 3 l, .int .i64 n]) (.agg #[.slice ta l.length tcap, .int .i64 n])) (hd : ds.length ≤ maxLen) (hdr : VRel w (S0 w) μ0 (.irec true 5 ds) (.slice da ds.length dcap)) (hs : ss.length ≤ maxLen) (hsr : VRel w (S0 w) μ0 (.irec true 6 ss) (.slice sa ss.length scap)) (hc : gs.length ≤ maxLen) (hcr : VRel w (S0 w) μ0 (.irec true 7 gs) (.slice ca gs.length ccap)) :
    Calls Try.prog 8 #[.slice a0 len0 cap0, .agg #[.slice ta l.length tcap, .int .i64 n], .slice da ds.length dcap, .slice sa ss.length scap, .slice ca gs.length ccap, .int .i64 g] w fun e w' => e = .returned (.bool true) ∧ Below w.heap.size w w' := by
  have h1 : ds.length ≤ 9223372036854775807 := by unfold maxLen at hd; omega
  have h2 : ss.length ≤ 9223372036854775807 := by unfold maxLen at hs; omega
  have h3 : gs.length ≤ 9223372036854775807 := by unfold maxLen at hc; omega
  exact law_ofD (EV Try.prog [(13, sLight.spec), (33, sSane33.spec), (15, sRoll.spec), (16, sTree.spec), (34, sDeps.spec), (35, sSmps.spec), (22, sPick.spec), (25, sGroup.spec), (36, sEx33.spec)] (invsS [(5, fun _ => inv8a (z0.take len0)), (11, inv8b (z0.take len0))]) noInv) ((((((((((AllOK.nil Try.prog).and ok36).and ok25).and ok22).and ok35).and ok34).and ok16).and ok15).and ok33).and ok13) mixed Try.func8 (avs := [.irec true 0 (z0.take len0), .agg [.irec true 3 l, .int .i64 n], .irec true 5 ds, .irec true 6 ss, .irec true 7 gs, .int .i64 g]) (xs := [.slice a0 len0 cap0, .agg #[.slice ta l.length tcap, .int .i64 n], .slice da ds.length dcap, .slice sa ss.length scap, .slice ca gs.length ccap, .int .i64 g]) (.cons (row_rel w0) (.cons ht (.cons hdr (.cons hsr (.cons hcr (.cons (.int _ _) .nil)))))) (vc8 (z0.take len0) l n ds ss gs g ⟨⟨⟨hw, h1⟩, h2⟩, h3⟩) rfl rfl rfl rfl
end Go.Proofs.Ytglkagaammnojaa
