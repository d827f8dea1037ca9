/-
  Lemmas and contracts on the way to the laws of this seat; each theorem states its own conditions, and there are no others.
-/
import Derived.Test.YtemffnpliflkgaaE29
import Derived.Test.YtemffnpliflkgaaLU
namespace Go.Proofs.Ytemffnpliflkgaa
open Go Go.RowKit
set_option linter.unusedVariables false
set_option linter.unusedSimpArgs false
set_option linter.unusedVariables false
set_option maxRecDepth 100000 in
theorem ok23 : Callable Try.prog 23 ∧ Valid Try.prog 23 sNext.spec :=
  AllOK.head (AllOK.f mixed (AllOK.nil Try.prog) Try.func23 (by kernel_rfl) sNext (fun x => noInv) (fun x => noInv) fun x h => vc23 x.1.1 x.1.2 x.2.1 h)
set_option maxRecDepth 100000 in
theorem ok16 : Callable Try.prog 16 ∧ Valid Try.prog 16 sRoll.spec :=
  AllOK.head (AllOK.d mixed (AllOK.nil Try.prog) Try.func16 (by kernel_rfl) sRoll (fun x => noInv) (fun x => noInv) fun x h => vc16 x.1 h)
set_option maxRecDepth 100000 in
theorem ok14 : Callable Try.prog 14 ∧ Valid Try.prog 14 sLight.spec :=
  AllOK.head (AllOK.d mixed (AllOK.nil Try.prog) Try.func14 (by kernel_rfl) sLight (fun x => noInv) (fun x => noInv) fun x h => vc14 x.1 h)
set_option maxRecDepth 100000 in
theorem ok59 : Callable Try.prog 59 ∧ Valid Try.prog 59 sBool.spec :=
  AllOK.head (AllOK.f mixed ((AllOK.nil Try.prog).and ok23) Try.func59 (by kernel_rfl) sBool (fun x => noInv) (fun x => noInv) fun x h => vc59 x.1.1 x.1.2 x.2.1 h)
set_option maxRecDepth 100000 in
theorem ok72 : Callable Try.prog 72 ∧ Valid Try.prog 72 sWord.spec :=
  AllOK.head (AllOK.f mixed ((AllOK.nil Try.prog).and ok23) Try.func72 (by kernel_rfl) sWord (fun x => noInv) (fun x => noInv) fun x h => vc72 x.1.1 x.1.2 h)
set_option maxRecDepth 100000 in
theorem ok156 : Callable Try.prog 156 ∧ Valid Try.prog 156 sInner.spec :=
  AllOK.head (AllOK.d mixed (AllOK.nil Try.prog) Try.func156 (by kernel_rfl) sInner (fun x => noInv) (fun x => noInv) fun x h => vc156 x.1 h)
set_option maxRecDepth 100000 in
theorem ok79 : Callable Try.prog 79 ∧ Valid Try.prog 79 sNameR.spec :=
  AllOK.head (AllOK.d mixed (AllOK.nil Try.prog) Try.func79 (by kernel_rfl) sNameR (fun x => (invs [(4, inv79 x.1)])) (fun x => noInv) fun x h => vc79 x.1 h)
set_option maxRecDepth 100000 in
theorem ok152 : Callable Try.prog 152 ∧ Valid Try.prog 152 sNameP.spec :=
  AllOK.head (AllOK.d mixed ((AllOK.nil Try.prog).and ok156) Try.func152 (by kernel_rfl) sNameP (fun x => (invs [(2, inv152 x.1)])) (fun x => noInv) fun x h => vc152 x.1 h)
set_option maxRecDepth 100000 in
theorem ok70 : Callable Try.prog 70 ∧ Valid Try.prog 70 sNew.spec :=
  AllOK.head (AllOK.d mixed (AllOK.nil Try.prog) Try.func70 (by kernel_rfl) sNew (fun x => noInv) (fun x => noInv) fun x h => vc70 () h)
set_option maxRecDepth 100000 in
theorem ok128 : Callable Try.prog 128 ∧ Valid Try.prog 128 sNodeB.spec :=
  AllOK.head (AllOK.d mixed ((AllOK.nil Try.prog).and ok79) Try.func128 (by kernel_rfl) sNodeB (fun x => (invs [(10, inv128 x.1.1 x.2.1)])) (fun x => noInv) fun x h => vc128 x.1.1 x.1.2 x.2.1 h)
set_option maxRecDepth 100000 in
theorem ok77 : Callable Try.prog 77 ∧ Valid Try.prog 77 sUp.spec :=
  AllOK.head (AllOK.d mixed (AllOK.nil Try.prog) Try.func77 (by kernel_rfl) sUp (fun x => (invs [(3, inv77 x.1.1 x.2.1)])) (fun x => noInv) fun x h => vc77 x.1.1 x.1.2 x.2.1 h)
set_option maxRecDepth 100000 in
theorem ok78 : Callable Try.prog 78 ∧ Valid Try.prog 78 sChk.spec :=
  AllOK.head (AllOK.d mixed (((AllOK.nil Try.prog).and ok77).and ok128) Try.func78 (by kernel_rfl) sChk (fun x => (invs [(5, inv78a x.1.1), (10, inv78b x.1.1)])) (fun x => noInv) fun x h => vc78 x.1.1 x.1.2 h)
set_option maxRecDepth 100000 in
theorem ok127 : Callable Try.prog 127 ∧ Valid Try.prog 127 sFindR.spec :=
  AllOK.head (AllOK.d mixed ((AllOK.nil Try.prog).and ok78) Try.func127 (by kernel_rfl) sFindR (fun x => (invs [(4, inv127 x.1.1 x.2.1)])) (fun x => noInv) fun x h => vc127 x.1.1 x.1.2 x.2.1 h)
set_option maxRecDepth 100000 in
theorem ok76 : Callable Try.prog 76 ∧ Valid Try.prog 76 sHas.spec :=
  AllOK.head (AllOK.d mixed ((AllOK.nil Try.prog).and ok127) Try.func76 (by kernel_rfl) sHas (fun x => noInv) (fun x => noInv) fun x h => vc76 x.1.1 x.1.2 x.2.1 h)
set_option maxRecDepth 100000 in
theorem ok21 : Callable Try.prog 21 ∧ Valid Try.prog 21 sAnc.spec :=
  AllOK.head (AllOK.d mixed (((AllOK.nil Try.prog).and ok77).and ok76) Try.func21 (by kernel_rfl) sAnc (fun x => noInv) (fun x => noInv) fun x h => vc21 x.1.1 x.1.2 x.2.1 h)
set_option maxRecDepth 100000 in
theorem ok82 : Callable Try.prog 82 ∧ Valid Try.prog 82 sChn.spec :=
  AllOK.head (AllOK.d mixed ((AllOK.nil Try.prog).and ok76) Try.func82 (by kernel_rfl) sChn (fun x => (invs [(5, inv82 x.1.1 x.2.1)])) (fun x => noInv) fun x h => vc82 x.1.1 x.1.2 x.2.1 h)
set_option maxRecDepth 100000 in
theorem ok80 : Callable Try.prog 80 ∧ Valid Try.prog 80 sDepth.spec :=
  AllOK.head (AllOK.d mixed ((AllOK.nil Try.prog).and ok21) Try.func80 (by kernel_rfl) sDepth (fun x => noInv) (fun x => noInv) fun x h => vc80 x.1.1 x.1.2 x.2.1 h)
set_option maxRecDepth 100000 in
theorem ok81 : Callable Try.prog 81 ∧ Valid Try.prog 81 sCopyT.spec :=
  AllOK.head (AllOK.d mixed (AllOK.nil Try.prog) Try.func81 (by kernel_rfl) sCopyT (fun x => noInv) (fun x => noInv) fun x h => vc81 x.1.1 x.1.2 h)
set_option maxRecDepth 100000 in
theorem ok22 : Callable Try.prog 22 ∧ Valid Try.prog 22 sAdd.spec :=
  AllOK.head (AllOK.d mixed ((((((AllOK.nil Try.prog).and ok81).and ok80).and ok76).and ok79).and ok78) Try.func22 (by kernel_rfl) sAdd (fun x => (invs [(6, inv22 x.1.1 x.2.1 x.2.2.1)])) (fun x => noInv) fun x h => vc22 x.1.1 x.1.2 x.2.1 x.2.2.1 h)
set_option maxRecDepth 100000 in
theorem ok24 : Callable Try.prog 24 ∧ Valid Try.prog 24 sRem.spec :=
  AllOK.head (AllOK.d mixed ((((AllOK.nil Try.prog).and ok82).and ok76).and ok78) Try.func24 (by kernel_rfl) sRem (fun x => (invs [(11, inv24 x.1.1 x.1.2 x.2.1)])) (fun x => noInv) fun x h => vc24 x.1.1 x.1.2 x.2.1 h)
set_option maxRecDepth 100000 in
theorem ok129 : Callable Try.prog 129 ∧ Valid Try.prog 129 sRootB.spec :=
  AllOK.head (AllOK.d mixed (AllOK.nil Try.prog) Try.func129 (by kernel_rfl) sRootB (fun x => noInv) (fun x => noInv) fun x h => vc129 x.1 h)
set_option maxRecDepth 100000 in
theorem ok130 : Callable Try.prog 130 ∧ Valid Try.prog 130 sFine.spec :=
  AllOK.head (AllOK.d mixed ((AllOK.nil Try.prog).and ok152) Try.func130 (by kernel_rfl) sFine (fun x => (invs [(5, inv130 x.1 x.2.1)])) (fun x => noInv) fun x h => vc130 x.1 x.2.1 h)
set_option maxRecDepth 100000 in
theorem ok83 : Callable Try.prog 83 ∧ Valid Try.prog 83 sChkP.spec :=
  AllOK.head (AllOK.d mixed (((AllOK.nil Try.prog).and ok130).and ok129) Try.func83 (by kernel_rfl) sChkP (fun x => (invs [(5, inv83 x.1.1)])) (fun x => noInv) fun x h => vc83 x.1.1 x.1.2 h)
set_option maxRecDepth 100000 in
theorem ok155 : Callable Try.prog 155 ∧ Valid Try.prog 155 sAt1.spec :=
  AllOK.head (AllOK.d mixed (AllOK.nil Try.prog) Try.func155 (by kernel_rfl) sAt1 (fun x => noInv) (fun x => noInv) fun x h => vc155 x.1 x.2.1 h)
set_option maxRecDepth 100000 in
theorem ok154 : Callable Try.prog 154 ∧ Valid Try.prog 154 sIdxN.spec :=
  AllOK.head (AllOK.d mixed ((AllOK.nil Try.prog).and ok155) Try.func154 (by kernel_rfl) sIdxN (fun x => (invs [(2, inv154 x.1 x.2.1)])) (fun x => noInv) fun x h => vc154 x.1 x.2.1 h)
set_option maxRecDepth 100000 in
theorem ok151 : Callable Try.prog 151 ∧ Valid Try.prog 151 sAt.spec :=
  AllOK.head (AllOK.d mixed ((AllOK.nil Try.prog).and ok154) Try.func151 (by kernel_rfl) sAt (fun x => noInv) (fun x => noInv) fun x h => vc151 x.1.1 x.1.2 x.2.1 h)
set_option maxRecDepth 100000 in
theorem ok122 : Callable Try.prog 122 ∧ Valid Try.prog 122 sFFind.spec :=
  AllOK.head (AllOK.d mixed ((AllOK.nil Try.prog).and ok151) Try.func122 (by kernel_rfl) sFFind (fun x => noInv) (fun x => noInv) fun x h => vc122 x.1.1 x.1.2 x.2.1 h)
set_option maxRecDepth 100000 in
theorem ok73 : Callable Try.prog 73 ∧ Valid Try.prog 73 sFAnc.spec :=
  AllOK.head (AllOK.d mixed ((AllOK.nil Try.prog).and ok122) Try.func73 (by kernel_rfl) sFAnc (fun x => (invs [(3, inv73 x.1.1 x.2.1)])) (fun x => noInv) fun x h => vc73 x.1.1 x.1.2 x.2.1 h)
set_option maxRecDepth 100000 in
theorem ok64 : Callable Try.prog 64 ∧ Valid Try.prog 64 sHasI.spec :=
  AllOK.head (AllOK.d mixed (AllOK.nil Try.prog) Try.func64 (by kernel_rfl) sHasI (fun x => (invs [(2, inv64 x.1 x.2.1)])) (fun x => noInv) fun x h => vc64 x.1 x.2.1 h)
set_option maxRecDepth 100000 in
theorem ok145 : Callable Try.prog 145 ∧ Valid Try.prog 145 sIdxI.spec :=
  AllOK.head (AllOK.d mixed (AllOK.nil Try.prog) Try.func145 (by kernel_rfl) sIdxI (fun x => (invs [(2, inv145 x.1 x.2.1)])) (fun x => noInv) fun x h => vc145 x.1 x.2.1 h)
set_option maxRecDepth 100000 in
theorem ok112 : Callable Try.prog 112 ∧ Valid Try.prog 112 sHasI.spec :=
  AllOK.head (AllOK.d mixed ((AllOK.nil Try.prog).and ok145) Try.func112 (by kernel_rfl) sHasI (fun x => noInv) (fun x => noInv) fun x h => vc112 x.1 x.2.1 h)
set_option maxRecDepth 100000 in
theorem ok41 : Callable Try.prog 41 ∧ Valid Try.prog 41 sGroup.spec :=
  AllOK.head (AllOK.f mixed (((AllOK.nil Try.prog).and ok59).and ok23) Try.func41 (by kernel_rfl) sGroup (fun x => noInv) (fun x => noInv) fun x h => vc41 x.1.1 x.1.2 x.2.1.1 x.2.1.2 h)
set_option maxRecDepth 100000 in
theorem ok47 : Callable Try.prog 47 ∧ Valid Try.prog 47 sSome.spec :=
  AllOK.head (AllOK.f mixed ((AllOK.nil Try.prog).and ok23) Try.func47 (by kernel_rfl) sSome (fun x => (invs [(3, inv47 x.1.1 x.1.2)])) (fun x => noInv) fun x h => vc47 x.1.1 x.1.2 h)
set_option maxRecDepth 100000 in
theorem ok17 : Callable Try.prog 17 ∧ Valid Try.prog 17 sTree.spec :=
  AllOK.head (AllOK.f mixed (((((((AllOK.nil Try.prog).and ok24).and ok59).and ok22).and ok72).and ok23).and ok70) Try.func17 (by kernel_rfl) sTree (fun x => (invs [(3, inv17 x.1.1 x.2.1 x.1.2)])) (fun x => noInv) fun x h => vc17 x.1.1 x.1.2 x.2.1 h)
set_option maxRecDepth 100000 in
theorem ok92 : Callable Try.prog 92 ∧ Valid Try.prog 92 sIn.spec :=
  AllOK.head (AllOK.d mixed (AllOK.nil Try.prog) Try.func92 (by kernel_rfl) sIn (fun x => noInv) (fun x => noInv) fun x h => vc92 x.1 x.2.1 x.2.2.1 h)
set_option maxRecDepth 100000 in
theorem ok97 : Callable Try.prog 97 ∧ Valid Try.prog 97 sIn.spec :=
  AllOK.head (AllOK.d mixed (AllOK.nil Try.prog) Try.func97 (by kernel_rfl) sIn (fun x => noInv) (fun x => noInv) fun x h => vc97 x.1 x.2.1 x.2.2.1 h)
set_option maxRecDepth 100000 in
theorem ok132 : Callable Try.prog 132 ∧ Valid Try.prog 132 sAm.spec :=
  AllOK.head (AllOK.d mixed (AllOK.nil Try.prog) Try.func132 (by kernel_rfl) sAm (fun x => noInv) (fun x => noInv) fun x h => vc132 x.1 x.2.1 x.2.2.1 h)
set_option maxRecDepth 100000 in
theorem ok95 : Callable Try.prog 95 ∧ Valid Try.prog 95 sMm.spec :=
  AllOK.head (AllOK.d mixed ((AllOK.nil Try.prog).and ok132) Try.func95 (by kernel_rfl) sMm (fun x => noInv) (fun x => noInv) fun x h => vc95 x.1.1 x.1.2.1 x.1.2.2.1 x.1.2.2.2.1 x.1.2.2.2.2.1 x.1.2.2.2.2.2 h)
set_option maxRecDepth 100000 in
theorem ok93 : Callable Try.prog 93 ∧ Valid Try.prog 93 sBand.spec :=
  AllOK.head (AllOK.d mixed ((AllOK.nil Try.prog).and ok92) Try.func93 (by kernel_rfl) sBand (fun x => noInv) (fun x => noInv) fun x h => vc93 x.1 h)
set_option maxRecDepth 100000 in
theorem ok94 : Callable Try.prog 94 ∧ Valid Try.prog 94 sSetV.spec :=
  AllOK.head (AllOK.d mixed (AllOK.nil Try.prog) Try.func94 (by kernel_rfl) sSetV (fun x => (invs [(2, inv94 x.1 x.2.1)])) (fun x => noInv) fun x h => vc94 x.1 x.2.1 h)
set_option maxRecDepth 100000 in
theorem ok98 : Callable Try.prog 98 ∧ Valid Try.prog 98 sSetV.spec :=
  AllOK.head (AllOK.d mixed (AllOK.nil Try.prog) Try.func98 (by kernel_rfl) sSetV (fun x => (invs [(2, inv98 x.1 x.2.1)])) (fun x => noInv) fun x h => vc98 x.1 x.2.1 h)
set_option maxRecDepth 100000 in
theorem ok87 : Callable Try.prog 87 ∧ Valid Try.prog 87 sEqI.spec :=
  AllOK.head (AllOK.d mixed (AllOK.nil Try.prog) Try.func87 (by kernel_rfl) sEqI (fun x => (invs [(4, inv87 x.1 x.2.1)])) (fun x => noInv) fun x h => vc87 x.1 x.2.1 h)
set_option maxRecDepth 100000 in
theorem ok99 : Callable Try.prog 99 ∧ Valid Try.prog 99 sEqI.spec :=
  AllOK.head (AllOK.d mixed (AllOK.nil Try.prog) Try.func99 (by kernel_rfl) sEqI (fun x => (invs [(4, inv99 x.1 x.2.1)])) (fun x => noInv) fun x h => vc99 x.1 x.2.1 h)
set_option maxRecDepth 100000 in
theorem ok88 : Callable Try.prog 88 ∧ Valid Try.prog 88 sEqD.spec :=
  AllOK.head (AllOK.d mixed (AllOK.nil Try.prog) Try.func88 (by kernel_rfl) sEqD (fun x => (invs [(4, inv88 x.1 x.2.1)])) (fun x => noInv) fun x h => vc88 x.1 x.2.1 h)
set_option maxRecDepth 100000 in
theorem ok101 : Callable Try.prog 101 ∧ Valid Try.prog 101 sEqD.spec :=
  AllOK.head (AllOK.d mixed (AllOK.nil Try.prog) Try.func101 (by kernel_rfl) sEqD (fun x => (invs [(4, inv101 x.1 x.2.1)])) (fun x => noInv) fun x h => vc101 x.1 x.2.1 h)
set_option maxRecDepth 100000 in
theorem ok96 : Callable Try.prog 96 ∧ Valid Try.prog 96 sDevV.spec :=
  AllOK.head (AllOK.d mixed ((AllOK.nil Try.prog).and ok132) Try.func96 (by kernel_rfl) sDevV (fun x => (invs [(2, inv96 x.1)])) (fun x => noInv) fun x h => vc96 x.1 h)
set_option maxRecDepth 100000 in
theorem ok100 : Callable Try.prog 100 ∧ Valid Try.prog 100 sEqM.spec :=
  AllOK.head (AllOK.d mixed (AllOK.nil Try.prog) Try.func100 (by kernel_rfl) sEqM (fun x => noInv) (fun x => noInv) fun x h => vc100 x.1.1 x.1.2.1 x.1.2.2.1 x.1.2.2.2.1 x.1.2.2.2.2.1 x.1.2.2.2.2.2 x.2.1.1 x.2.1.2.1 x.2.1.2.2.1 x.2.1.2.2.2.1 x.2.1.2.2.2.2.1 x.2.1.2.2.2.2.2 h)
set_option maxRecDepth 100000 in
theorem ok85 : Callable Try.prog 85 ∧ Valid Try.prog 85 sDefM.spec :=
  AllOK.head (AllOK.d mixed (AllOK.nil Try.prog) Try.func85 (by kernel_rfl) sDefM (fun x => noInv) (fun x => noInv) fun x h => vc85 x h)
set_option maxRecDepth 100000 in
theorem ok86 : Callable Try.prog 86 ∧ Valid Try.prog 86 sDefD.spec :=
  AllOK.head (AllOK.d mixed (AllOK.nil Try.prog) Try.func86 (by kernel_rfl) sDefD (fun x => noInv) (fun x => noInv) fun x h => vc86 x h)
set_option maxRecDepth 100000 in
theorem ok28 : Callable Try.prog 28 ∧ Valid Try.prog 28 sDefS.spec :=
  AllOK.head (AllOK.d mixed (((AllOK.nil Try.prog).and ok86).and ok85) Try.func28 (by kernel_rfl) sDefS (fun x => noInv) (fun x => noInv) fun x h => vc28 x h)
set_option maxRecDepth 100000 in
theorem ok37 : Callable Try.prog 37 ∧ Valid Try.prog 37 sDefS.spec :=
  AllOK.head (AllOK.d mixed (((AllOK.nil Try.prog).and ok86).and ok85) Try.func37 (by kernel_rfl) sDefS (fun x => noInv) (fun x => noInv) fun x h => vc37 x h)
set_option maxRecDepth 100000 in
theorem ok126 : Callable Try.prog 126 ∧ Valid Try.prog 126 sCloneD.spec :=
  AllOK.head (AllOK.d mixed (AllOK.nil Try.prog) Try.func126 (by kernel_rfl) sCloneD (fun x => noInv) (fun x => noInv) fun x h => vc126 x.1 h)
set_option maxRecDepth 100000 in
theorem ok125 : Callable Try.prog 125 ∧ Valid Try.prog 125 sCloneI.spec :=
  AllOK.head (AllOK.d mixed (AllOK.nil Try.prog) Try.func125 (by kernel_rfl) sCloneI (fun x => noInv) (fun x => noInv) fun x h => vc125 x.1 h)
set_option maxRecDepth 100000 in
theorem ok75 : Callable Try.prog 75 ∧ Valid Try.prog 75 sCopyS.spec :=
  AllOK.head (AllOK.d mixed (((AllOK.nil Try.prog).and ok126).and ok125) Try.func75 (by kernel_rfl) sCopyS (fun x => noInv) (fun x => noInv) fun x h => vc75 x.1 h)
set_option maxRecDepth 100000 in
theorem ok84 : Callable Try.prog 84 ∧ Valid Try.prog 84 sCopyS.spec :=
  AllOK.head (AllOK.d mixed (AllOK.nil Try.prog) Try.func84 (by kernel_rfl) sCopyS (fun x => noInv) (fun x => noInv) fun x h => vc84 x.1 h)
set_option maxRecDepth 100000 in
theorem ok34 : Callable Try.prog 34 ∧ Valid Try.prog 34 sChkS.spec :=
  AllOK.head (AllOK.d mixed ((((((AllOK.nil Try.prog).and ok96).and ok95).and ok94).and ok93).and ok92) Try.func34 (by kernel_rfl) sChkS (fun x => noInv) (fun x => noInv) fun x h => vc34 x.1 h)
set_option maxRecDepth 100000 in
theorem ok35 : Callable Try.prog 35 ∧ Valid Try.prog 35 sChkS.spec :=
  AllOK.head (AllOK.d mixed (((((AllOK.nil Try.prog).and ok96).and ok95).and ok98).and ok97) Try.func35 (by kernel_rfl) sChkS (fun x => noInv) (fun x => noInv) fun x h => vc35 x.1 h)
set_option maxRecDepth 100000 in
theorem ok29 : Callable Try.prog 29 ∧ Valid Try.prog 29 sEqS.spec :=
  AllOK.head (AllOK.d mixed (((AllOK.nil Try.prog).and ok88).and ok87) Try.func29 (by kernel_rfl) sEqS (fun x => noInv) (fun x => noInv) fun x h => vc29 x.1 x.2.1 h)
set_option maxRecDepth 100000 in
theorem ok36 : Callable Try.prog 36 ∧ Valid Try.prog 36 sEqS.spec :=
  AllOK.head (AllOK.d mixed ((((AllOK.nil Try.prog).and ok101).and ok100).and ok99) Try.func36 (by kernel_rfl) sEqS (fun x => noInv) (fun x => noInv) fun x h => vc36 x.1 x.2.1 h)
set_option maxRecDepth 100000 in
theorem ok124 : Callable Try.prog 124 ∧ Valid Try.prog 124 sAt1C.spec :=
  AllOK.head (AllOK.d mixed (AllOK.nil Try.prog) Try.func124 (by kernel_rfl) sAt1C (fun x => noInv) (fun x => noInv) fun x h => vc124 x.1 x.2.1 h)
set_option maxRecDepth 100000 in
theorem ok123 : Callable Try.prog 123 ∧ Valid Try.prog 123 sIdxC.spec :=
  AllOK.head (AllOK.d mixed ((AllOK.nil Try.prog).and ok124) Try.func123 (by kernel_rfl) sIdxC (fun x => (invs [(2, inv123 x.1 x.2.1)])) (fun x => noInv) fun x h => vc123 x.1 x.2.1 h)
set_option maxRecDepth 100000 in
theorem ok74 : Callable Try.prog 74 ∧ Valid Try.prog 74 sAtC.spec :=
  AllOK.head (AllOK.d mixed ((AllOK.nil Try.prog).and ok123) Try.func74 (by kernel_rfl) sAtC (fun x => noInv) (fun x => noInv) fun x h => vc74 x.1 x.2.1 h)
set_option maxRecDepth 100000 in
theorem ok20 : Callable Try.prog 20 ∧ Valid Try.prog 20 sGetC.spec :=
  AllOK.head (AllOK.d mixed ((((AllOK.nil Try.prog).and ok75).and ok37).and ok74) Try.func20 (by kernel_rfl) sGetC (fun x => noInv) (fun x => noInv) fun x h => vc20 x.1 x.2.1 h)
set_option maxRecDepth 100000 in
theorem ok27 : Callable Try.prog 27 ∧ Valid Try.prog 27 sGetC.spec :=
  AllOK.head (AllOK.d mixed (((AllOK.nil Try.prog).and ok84).and ok28) Try.func27 (by kernel_rfl) sGetC (fun x => (invs [(2, inv27 x.1 x.2.1)])) (fun x => noInv) fun x h => vc27 x.1 x.2.1 h)
set_option maxRecDepth 100000 in
theorem ok131 : Callable Try.prog 131 ∧ Valid Try.prog 131 sCloneC.spec :=
  AllOK.head (AllOK.d mixed (AllOK.nil Try.prog) Try.func131 (by kernel_rfl) sCloneC (fun x => noInv) (fun x => noInv) fun x h => vc131 x.1 h)
set_option maxRecDepth 100000 in
theorem ok89 : Callable Try.prog 89 ∧ Valid Try.prog 89 sCopyC.spec :=
  AllOK.head (AllOK.d mixed (((AllOK.nil Try.prog).and ok75).and ok131) Try.func89 (by kernel_rfl) sCopyC (fun x => (invs [(3, inv89 x.1)])) (fun x => noInv) fun x h => vc89 x.1 h)
set_option maxRecDepth 100000 in
theorem ok25 : Callable Try.prog 25 ∧ Valid Try.prog 25 sAdjC.spec :=
  AllOK.head (AllOK.d mixed (((AllOK.nil Try.prog).and ok20).and ok83) Try.func25 (by kernel_rfl) sAdjC (fun x => (invs [(5, inv25 x.1.1 x.2.1)])) (fun x => noInv) fun x h => vc25 x.1.1 x.1.2 x.2.1 h)
set_option maxRecDepth 100000 in
theorem ok71 : Callable Try.prog 71 ∧ Valid Try.prog 71 sNewC.spec :=
  AllOK.head (AllOK.d mixed ((AllOK.nil Try.prog).and ok25) Try.func71 (by kernel_rfl) sNewC (fun x => noInv) (fun x => noInv) fun x h => vc71 x.1.1 x.1.2 h)
set_option maxRecDepth 100000 in
theorem ok26 : Callable Try.prog 26 ∧ Valid Try.prog 26 sFit.spec :=
  AllOK.head (AllOK.d mixed (((AllOK.nil Try.prog).and ok34).and ok83) Try.func26 (by kernel_rfl) sFit (fun x => (invs [(4, inv26 x.1.1 x.2.1)])) (fun x => noInv) fun x h => vc26 x.1.1 x.1.2 x.2.1 h)
set_option maxRecDepth 100000 in
theorem ok30 : Callable Try.prog 30 ∧ Valid Try.prog 30 sSetC.spec :=
  AllOK.head (AllOK.d mixed ((((((AllOK.nil Try.prog).and ok75).and ok89).and ok34).and ok26).and ok74) Try.func30 (by kernel_rfl) sSetC (fun x => noInv) (fun x => noInv) fun x h => vc30 x.1.1 x.1.2 x.2.1 x.2.2.1 x.2.2.2.1 h)
set_option maxRecDepth 100000 in
theorem ok19 : Callable Try.prog 19 ∧ Valid Try.prog 19 sLow.spec :=
  AllOK.head (AllOK.d mixed ((((AllOK.nil Try.prog).and ok20).and ok26).and ok73) Try.func19 (by kernel_rfl) sLow (fun x => (invs [(6, inv19 x.1.1 x.2.1 x.2.2.1)])) (fun x => noInv) fun x h => vc19 x.1.1 x.1.2 x.2.1 x.2.2.1 h)
set_option maxRecDepth 100000 in
theorem ok90 : Callable Try.prog 90 ∧ Valid Try.prog 90 sWeight.spec :=
  AllOK.head (AllOK.f mixed ((AllOK.nil Try.prog).and ok23) Try.func90 (by kernel_rfl) sWeight (fun x => noInv) (fun x => noInv) fun x h => vc90 x.1.1 x.1.2 h)
set_option maxRecDepth 100000 in
theorem ok91 : Callable Try.prog 91 ∧ Valid Try.prog 91 sSetD.spec :=
  AllOK.head (AllOK.f mixed ((AllOK.nil Try.prog).and ok59) Try.func91 (by kernel_rfl) sSetD (fun x => (invs [(3, inv91 x.1.1 x.1.2 x.2.1)])) (fun x => noInv) fun x h => vc91 x.1.1 x.1.2 x.2.1 h)
set_option maxRecDepth 100000 in
theorem ok31 : Callable Try.prog 31 ∧ Valid Try.prog 31 sStgD.spec :=
  AllOK.head (AllOK.f mixed ((((((AllOK.nil Try.prog).and ok91).and ok90).and ok23).and ok59).and ok28) Try.func31 (by kernel_rfl) sStgD (fun x => noInv) (fun x => (invs [(4, inv31 x.1.1 x.1.2), (8, inv31 x.1.1 x.1.2), (12, inv31 x.1.1 x.1.2), (14, inv31 x.1.1 x.1.2), (16, inv31 x.1.1 x.1.2)])) fun x h => vc31 x.1.1 x.1.2 h)
set_option maxRecDepth 100000 in
theorem ok33 : Callable Try.prog 33 ∧ Valid Try.prog 33 sOddS.spec :=
  AllOK.head (AllOK.f mixed ((((AllOK.nil Try.prog).and ok91).and ok23).and ok84) Try.func33 (by kernel_rfl) sOddS (fun x => noInv) (fun x => noInv) fun x h => vc33 x.1.1 x.1.2 x.2.1 h)
set_option maxRecDepth 100000 in
theorem ok18 : Callable Try.prog 18 ∧ Valid Try.prog 18 sCfgsD.spec :=
  AllOK.head (AllOK.f mixed ((((AllOK.nil Try.prog).and ok31).and ok59).and ok28) Try.func18 (by kernel_rfl) sCfgsD (fun x => (invs [(3, inv18 x.1.1 x.1.2 x.2.1.1)])) (fun x => noInv) fun x h => vc18 x.1.1 x.1.2 x.2.1.1 x.2.1.2 h)
set_option maxRecDepth 100000 in
theorem ok32 : Callable Try.prog 32 ∧ Valid Try.prog 32 sSubR.spec :=
  AllOK.head (AllOK.fr mixed (((AllOK.nil Try.prog).and ok82).and ok76) Try.func32 (by kernel_rfl) sSubR mSubR (fun x => (invs [(6, inv32 x.1.1 x.1.2 x.2.1)])) (fun x => noInv) fun k x h hm => vc32 k x.1.1 x.1.2 x.2.1 ⟨h, hm⟩)
set_option maxRecDepth 100000 in
theorem ok15 : Callable Try.prog 15 ∧ Valid Try.prog 15 sSane11.spec :=
  AllOK.head (AllOK.d mixed ((((((((AllOK.nil Try.prog).and ok34).and ok19).and ok30).and ok71).and ok37).and ok22).and ok70) Try.func15 (by kernel_rfl) sSane11 (fun x => noInv) (fun x => noInv) fun x h => vc15 () h)
set_option maxRecDepth 100000 in
theorem walk7 (a0 : Option Addr) (len0 cap0 : Nat) (z0 : List Int) (a1 : Int) (w : World) (w0 : IsRow .i64 w a0 len0 cap0 z0) (w1 : (Lit.int .i64 a1).wf = true) : Calls Try.prog 7 #[.slice a0 len0 cap0, .int .i64 a1] w fun e w' => e = .returned (.bool true) ∧ Below w.heap.size w w' :=
  law_ofD (EVW Try.prog [(14, sLight.spec), (15, sSane11.spec), (16, sRoll.spec), (31, sStgD.spec), (33, sOddS.spec), (28, sDefS.spec), (34, sChkS.spec), (35, sChkS.spec), (29, sEqS.spec), (36, sEqS.spec), (37, sDefS.spec)] (invsS [(9, inv7)]) noInv) ((((((((((((AllOK.nil Try.prog).and ok37).and ok36).and ok29).and ok35).and ok34).and ok28).and ok33).and ok31).and ok16).and ok15).and ok14) mixed Try.func7 (avs := [.irec true 0 (z0.take len0), .int .i64 a1]) (xs := [.slice a0 len0 cap0, .int .i64 a1]) (.cons (row_rel w0) (.cons (.int _ _) .nil)) (vc7 (z0.take len0) a1 trivial) rfl rfl rfl rfl
end Go.Proofs.Ytemffnpliflkgaa
