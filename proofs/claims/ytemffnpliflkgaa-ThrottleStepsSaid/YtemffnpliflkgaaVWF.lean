/-
  Lemmas and contracts on the way to the laws of this seat; each theorem states its own conditions, and there are no others.
-/
import Derived.Test.YtemffnpliflkgaaE29
import Derived.Test.YtemffnpliflkgaaRQ3
namespace Go.Proofs.Ytemffnpliflkgaa
open Go Go.RowKit
set_option linter.unusedVariables false
set_option linter.unusedSimpArgs false
set_option linter.unusedVariables false
set_option maxRecDepth 100000 in
theorem ok23 : Callable Try.prog 23 ∧ Valid Try.prog 23 sNext.spec :=
  AllOK.head (AllOK.f mixed (AllOK.nil Try.prog) Try.func23 (by kernel_rfl) sNext (fun x => noInv) (fun x => noInv) fun x h => vc23 x.1.1 x.1.2 x.2.1 h)
set_option maxRecDepth 100000 in
theorem ok16 : Callable Try.prog 16 ∧ Valid Try.prog 16 sRoll.spec :=
  AllOK.head (AllOK.d mixed (AllOK.nil Try.prog) Try.func16 (by kernel_rfl) sRoll (fun x => noInv) (fun x => noInv) fun x h => vc16 x.1 h)
set_option maxRecDepth 100000 in
theorem ok14 : Callable Try.prog 14 ∧ Valid Try.prog 14 sLight.spec :=
  AllOK.head (AllOK.d mixed (AllOK.nil Try.prog) Try.func14 (by kernel_rfl) sLight (fun x => noInv) (fun x => noInv) fun x h => vc14 x.1 h)
set_option maxRecDepth 100000 in
theorem ok59 : Callable Try.prog 59 ∧ Valid Try.prog 59 sBool.spec :=
  AllOK.head (AllOK.f mixed ((AllOK.nil Try.prog).and ok23) Try.func59 (by kernel_rfl) sBool (fun x => noInv) (fun x => noInv) fun x h => vc59 x.1.1 x.1.2 x.2.1 h)
set_option maxRecDepth 100000 in
theorem ok72 : Callable Try.prog 72 ∧ Valid Try.prog 72 sWord.spec :=
  AllOK.head (AllOK.f mixed ((AllOK.nil Try.prog).and ok23) Try.func72 (by kernel_rfl) sWord (fun x => noInv) (fun x => noInv) fun x h => vc72 x.1.1 x.1.2 h)
set_option maxRecDepth 100000 in
theorem ok156 : Callable Try.prog 156 ∧ Valid Try.prog 156 sInner.spec :=
  AllOK.head (AllOK.d mixed (AllOK.nil Try.prog) Try.func156 (by kernel_rfl) sInner (fun x => noInv) (fun x => noInv) fun x h => vc156 x.1 h)
set_option maxRecDepth 100000 in
theorem ok79 : Callable Try.prog 79 ∧ Valid Try.prog 79 sNameR.spec :=
  AllOK.head (AllOK.d mixed (AllOK.nil Try.prog) Try.func79 (by kernel_rfl) sNameR (fun x => (invs [(4, inv79 x.1)])) (fun x => noInv) fun x h => vc79 x.1 h)
set_option maxRecDepth 100000 in
theorem ok152 : Callable Try.prog 152 ∧ Valid Try.prog 152 sNameP.spec :=
  AllOK.head (AllOK.d mixed ((AllOK.nil Try.prog).and ok156) Try.func152 (by kernel_rfl) sNameP (fun x => (invs [(2, inv152 x.1)])) (fun x => noInv) fun x h => vc152 x.1 h)
set_option maxRecDepth 100000 in
theorem ok70 : Callable Try.prog 70 ∧ Valid Try.prog 70 sNew.spec :=
  AllOK.head (AllOK.d mixed (AllOK.nil Try.prog) Try.func70 (by kernel_rfl) sNew (fun x => noInv) (fun x => noInv) fun x h => vc70 () h)
set_option maxRecDepth 100000 in
theorem ok128 : Callable Try.prog 128 ∧ Valid Try.prog 128 sNodeB.spec :=
  AllOK.head (AllOK.d mixed ((AllOK.nil Try.prog).and ok79) Try.func128 (by kernel_rfl) sNodeB (fun x => (invs [(10, inv128 x.1.1 x.2.1)])) (fun x => noInv) fun x h => vc128 x.1.1 x.1.2 x.2.1 h)
set_option maxRecDepth 100000 in
theorem ok77 : Callable Try.prog 77 ∧ Valid Try.prog 77 sUp.spec :=
  AllOK.head (AllOK.d mixed (AllOK.nil Try.prog) Try.func77 (by kernel_rfl) sUp (fun x => (invs [(3, inv77 x.1.1 x.2.1)])) (fun x => noInv) fun x h => vc77 x.1.1 x.1.2 x.2.1 h)
set_option maxRecDepth 100000 in
theorem ok78 : Callable Try.prog 78 ∧ Valid Try.prog 78 sChk.spec :=
  AllOK.head (AllOK.d mixed (((AllOK.nil Try.prog).and ok77).and ok128) Try.func78 (by kernel_rfl) sChk (fun x => (invs [(5, inv78a x.1.1), (10, inv78b x.1.1)])) (fun x => noInv) fun x h => vc78 x.1.1 x.1.2 h)
set_option maxRecDepth 100000 in
theorem ok127 : Callable Try.prog 127 ∧ Valid Try.prog 127 sFindR.spec :=
  AllOK.head (AllOK.d mixed ((AllOK.nil Try.prog).and ok78) Try.func127 (by kernel_rfl) sFindR (fun x => (invs [(4, inv127 x.1.1 x.2.1)])) (fun x => noInv) fun x h => vc127 x.1.1 x.1.2 x.2.1 h)
set_option maxRecDepth 100000 in
theorem ok76 : Callable Try.prog 76 ∧ Valid Try.prog 76 sHas.spec :=
  AllOK.head (AllOK.d mixed ((AllOK.nil Try.prog).and ok127) Try.func76 (by kernel_rfl) sHas (fun x => noInv) (fun x => noInv) fun x h => vc76 x.1.1 x.1.2 x.2.1 h)
set_option maxRecDepth 100000 in
theorem ok21 : Callable Try.prog 21 ∧ Valid Try.prog 21 sAnc.spec :=
  AllOK.head (AllOK.d mixed (((AllOK.nil Try.prog).and ok77).and ok76) Try.func21 (by kernel_rfl) sAnc (fun x => noInv) (fun x => noInv) fun x h => vc21 x.1.1 x.1.2 x.2.1 h)
set_option maxRecDepth 100000 in
theorem ok82 : Callable Try.prog 82 ∧ Valid Try.prog 82 sChn.spec :=
  AllOK.head (AllOK.d mixed ((AllOK.nil Try.prog).and ok76) Try.func82 (by kernel_rfl) sChn (fun x => (invs [(5, inv82 x.1.1 x.2.1)])) (fun x => noInv) fun x h => vc82 x.1.1 x.1.2 x.2.1 h)
set_option maxRecDepth 100000 in
theorem ok80 : Callable Try.prog 80 ∧ Valid Try.prog 80 sDepth.spec :=
  AllOK.head (AllOK.d mixed ((AllOK.nil Try.prog).and ok21) Try.func80 (by kernel_rfl) sDepth (fun x => noInv) (fun x => noInv) fun x h => vc80 x.1.1 x.1.2 x.2.1 h)
set_option maxRecDepth 100000 in
theorem ok81 : Callable Try.prog 81 ∧ Valid Try.prog 81 sCopyT.spec :=
  AllOK.head (AllOK.d mixed (AllOK.nil Try.prog) Try.func81 (by kernel_rfl) sCopyT (fun x => noInv) (fun x => noInv) fun x h => vc81 x.1.1 x.1.2 h)
set_option maxRecDepth 100000 in
theorem ok22 : Callable Try.prog 22 ∧ Valid Try.prog 22 sAdd.spec :=
  AllOK.head (AllOK.d mixed ((((((AllOK.nil Try.prog).and ok81).and ok80).and ok76).and ok79).and ok78) Try.func22 (by kernel_rfl) sAdd (fun x => (invs [(6, inv22 x.1.1 x.2.1 x.2.2.1)])) (fun x => noInv) fun x h => vc22 x.1.1 x.1.2 x.2.1 x.2.2.1 h)
set_option maxRecDepth 100000 in
theorem ok24 : Callable Try.prog 24 ∧ Valid Try.prog 24 sRem.spec :=
  AllOK.head (AllOK.d mixed ((((AllOK.nil Try.prog).and ok82).and ok76).and ok78) Try.func24 (by kernel_rfl) sRem (fun x => (invs [(11, inv24 x.1.1 x.1.2 x.2.1)])) (fun x => noInv) fun x h => vc24 x.1.1 x.1.2 x.2.1 h)
set_option maxRecDepth 100000 in
theorem ok129 : Callable Try.prog 129 ∧ Valid Try.prog 129 sRootB.spec :=
  AllOK.head (AllOK.d mixed (AllOK.nil Try.prog) Try.func129 (by kernel_rfl) sRootB (fun x => noInv) (fun x => noInv) fun x h => vc129 x.1 h)
set_option maxRecDepth 100000 in
theorem ok130 : Callable Try.prog 130 ∧ Valid Try.prog 130 sFine.spec :=
  AllOK.head (AllOK.d mixed ((AllOK.nil Try.prog).and ok152) Try.func130 (by kernel_rfl) sFine (fun x => (invs [(5, inv130 x.1 x.2.1)])) (fun x => noInv) fun x h => vc130 x.1 x.2.1 h)
set_option maxRecDepth 100000 in
theorem ok83 : Callable Try.prog 83 ∧ Valid Try.prog 83 sChkP.spec :=
  AllOK.head (AllOK.d mixed (((AllOK.nil Try.prog).and ok130).and ok129) Try.func83 (by kernel_rfl) sChkP (fun x => (invs [(5, inv83 x.1.1)])) (fun x => noInv) fun x h => vc83 x.1.1 x.1.2 h)
set_option maxRecDepth 100000 in
theorem ok155 : Callable Try.prog 155 ∧ Valid Try.prog 155 sAt1.spec :=
  AllOK.head (AllOK.d mixed (AllOK.nil Try.prog) Try.func155 (by kernel_rfl) sAt1 (fun x => noInv) (fun x => noInv) fun x h => vc155 x.1 x.2.1 h)
set_option maxRecDepth 100000 in
theorem ok154 : Callable Try.prog 154 ∧ Valid Try.prog 154 sIdxN.spec :=
  AllOK.head (AllOK.d mixed ((AllOK.nil Try.prog).and ok155) Try.func154 (by kernel_rfl) sIdxN (fun x => (invs [(2, inv154 x.1 x.2.1)])) (fun x => noInv) fun x h => vc154 x.1 x.2.1 h)
set_option maxRecDepth 100000 in
theorem ok151 : Callable Try.prog 151 ∧ Valid Try.prog 151 sAt.spec :=
  AllOK.head (AllOK.d mixed ((AllOK.nil Try.prog).and ok154) Try.func151 (by kernel_rfl) sAt (fun x => noInv) (fun x => noInv) fun x h => vc151 x.1.1 x.1.2 x.2.1 h)
set_option maxRecDepth 100000 in
theorem ok122 : Callable Try.prog 122 ∧ Valid Try.prog 122 sFFind.spec :=
  AllOK.head (AllOK.d mixed ((AllOK.nil Try.prog).and ok151) Try.func122 (by kernel_rfl) sFFind (fun x => noInv) (fun x => noInv) fun x h => vc122 x.1.1 x.1.2 x.2.1 h)
set_option maxRecDepth 100000 in
theorem ok73 : Callable Try.prog 73 ∧ Valid Try.prog 73 sFAnc.spec :=
  AllOK.head (AllOK.d mixed ((AllOK.nil Try.prog).and ok122) Try.func73 (by kernel_rfl) sFAnc (fun x => (invs [(3, inv73 x.1.1 x.2.1)])) (fun x => noInv) fun x h => vc73 x.1.1 x.1.2 x.2.1 h)
set_option maxRecDepth 100000 in
theorem ok64 : Callable Try.prog 64 ∧ Valid Try.prog 64 sHasI.spec :=
  AllOK.head (AllOK.d mixed (AllOK.nil Try.prog) Try.func64 (by kernel_rfl) sHasI (fun x => (invs [(2, inv64 x.1 x.2.1)])) (fun x => noInv) fun x h => vc64 x.1 x.2.1 h)
set_option maxRecDepth 100000 in
theorem ok145 : Callable Try.prog 145 ∧ Valid Try.prog 145 sIdxI.spec :=
  AllOK.head (AllOK.d mixed (AllOK.nil Try.prog) Try.func145 (by kernel_rfl) sIdxI (fun x => (invs [(2, inv145 x.1 x.2.1)])) (fun x => noInv) fun x h => vc145 x.1 x.2.1 h)
set_option maxRecDepth 100000 in
theorem ok112 : Callable Try.prog 112 ∧ Valid Try.prog 112 sHasI.spec :=
  AllOK.head (AllOK.d mixed ((AllOK.nil Try.prog).and ok145) Try.func112 (by kernel_rfl) sHasI (fun x => noInv) (fun x => noInv) fun x h => vc112 x.1 x.2.1 h)
set_option maxRecDepth 100000 in
theorem ok41 : Callable Try.prog 41 ∧ Valid Try.prog 41 sGroup.spec :=
  AllOK.head (AllOK.f mixed (((AllOK.nil Try.prog).and ok59).and ok23) Try.func41 (by kernel_rfl) sGroup (fun x => noInv) (fun x => noInv) fun x h => vc41 x.1.1 x.1.2 x.2.1.1 x.2.1.2 h)
set_option maxRecDepth 100000 in
theorem ok47 : Callable Try.prog 47 ∧ Valid Try.prog 47 sSome.spec :=
  AllOK.head (AllOK.f mixed ((AllOK.nil Try.prog).and ok23) Try.func47 (by kernel_rfl) sSome (fun x => (invs [(3, inv47 x.1.1 x.1.2)])) (fun x => noInv) fun x h => vc47 x.1.1 x.1.2 h)
set_option maxRecDepth 100000 in
theorem ok17 : Callable Try.prog 17 ∧ Valid Try.prog 17 sTree.spec :=
  AllOK.head (AllOK.f mixed (((((((AllOK.nil Try.prog).and ok24).and ok59).and ok22).and ok72).and ok23).and ok70) Try.func17 (by kernel_rfl) sTree (fun x => (invs [(3, inv17 x.1.1 x.2.1 x.1.2)])) (fun x => noInv) fun x h => vc17 x.1.1 x.1.2 x.2.1 h)
set_option maxRecDepth 100000 in
theorem ok147 : Callable Try.prog 147 ∧ Valid Try.prog 147 sWithin.spec :=
  AllOK.head (AllOK.d mixed (AllOK.nil Try.prog) Try.func147 (by kernel_rfl) sWithin (fun x => noInv) (fun x => noInv) fun x h => vc147 x.1 x.2.1 x.2.2.1 h)
set_option maxRecDepth 100000 in
theorem ok119 : Callable Try.prog 119 ∧ Valid Try.prog 119 sWithin.spec :=
  AllOK.head (AllOK.d mixed (AllOK.nil Try.prog) Try.func119 (by kernel_rfl) sWithin (fun x => noInv) (fun x => noInv) fun x h => vc119 x.1 x.2.1 x.2.2.1 h)
set_option maxRecDepth 100000 in
theorem ok140 : Callable Try.prog 140 ∧ Valid Try.prog 140 sLimited.spec :=
  AllOK.head (AllOK.d mixed (AllOK.nil Try.prog) Try.func140 (by kernel_rfl) sLimited (fun x => noInv) (fun x => noInv) fun x h => vc140 x.1 h)
set_option maxRecDepth 100000 in
theorem ok57 : Callable Try.prog 57 ∧ Valid Try.prog 57 sLimited.spec :=
  AllOK.head (AllOK.d mixed (AllOK.nil Try.prog) Try.func57 (by kernel_rfl) sLimited (fun x => noInv) (fun x => noInv) fun x h => vc57 x.1 h)
set_option maxRecDepth 100000 in
theorem ok153 : Callable Try.prog 153 ∧ Valid Try.prog 153 sSum.spec :=
  AllOK.head (AllOK.d mixed (AllOK.nil Try.prog) Try.func153 (by kernel_rfl) sSum (fun x => (invs [(2, inv153 x.1 x.2.1)])) (fun x => noInv) fun x h => vc153 x.1 x.2.1 h)
set_option maxRecDepth 100000 in
theorem ok144 : Callable Try.prog 144 ∧ Valid Try.prog 144 sHeld.spec :=
  AllOK.head (AllOK.d mixed ((AllOK.nil Try.prog).and ok153) Try.func144 (by kernel_rfl) sHeld (fun x => noInv) (fun x => noInv) fun x h => vc144 x.1 h)
set_option maxRecDepth 100000 in
theorem ok125 : Callable Try.prog 125 ∧ Valid Try.prog 125 sClone.spec :=
  AllOK.head (AllOK.d mixed (AllOK.nil Try.prog) Try.func125 (by kernel_rfl) sClone (fun x => noInv) (fun x => noInv) fun x h => vc125 x.1 h)
set_option maxRecDepth 100000 in
theorem ok139 : Callable Try.prog 139 ∧ Valid Try.prog 139 sCopied.spec :=
  AllOK.head (AllOK.d mixed ((AllOK.nil Try.prog).and ok125) Try.func139 (by kernel_rfl) sCopied (fun x => noInv) (fun x => noInv) fun x h => vc139 x.1 h)
set_option maxRecDepth 100000 in
theorem ok60 : Callable Try.prog 60 ∧ Valid Try.prog 60 sHeld.spec :=
  AllOK.head (AllOK.d mixed (AllOK.nil Try.prog) Try.func60 (by kernel_rfl) sHeld (fun x => (invs [(3, inv60 x.1)])) (fun x => noInv) fun x h => vc60 x.1 h)
set_option maxRecDepth 100000 in
theorem ok118 : Callable Try.prog 118 ∧ Valid Try.prog 118 sCopied.spec :=
  AllOK.head (AllOK.d mixed (AllOK.nil Try.prog) Try.func118 (by kernel_rfl) sCopied (fun x => noInv) (fun x => noInv) fun x h => vc118 x.1 h)
set_option maxRecDepth 100000 in
theorem ok148 : Callable Try.prog 148 ∧ Valid Try.prog 148 sRates.spec :=
  AllOK.head (AllOK.d mixed (((AllOK.nil Try.prog).and ok140).and ok147) Try.func148 (by kernel_rfl) sRates (fun x => noInv) (fun x => noInv) fun x h => vc148 x.1 h)
set_option maxRecDepth 100000 in
theorem ok150 : Callable Try.prog 150 ∧ Valid Try.prog 150 sCount.spec :=
  AllOK.head (AllOK.d mixed ((AllOK.nil Try.prog).and ok147) Try.func150 (by kernel_rfl) sCount (fun x => noInv) (fun x => noInv) fun x h => vc150 x.1 h)
set_option maxRecDepth 100000 in
theorem ok149 : Callable Try.prog 149 ∧ Valid Try.prog 149 sHeldB.spec :=
  AllOK.head (AllOK.d mixed ((((AllOK.nil Try.prog).and ok144).and ok140).and ok147) Try.func149 (by kernel_rfl) sHeldB (fun x => (invs [(5, inv149 x.1)])) (fun x => noInv) fun x h => vc149 x.1 h)
set_option maxRecDepth 100000 in
theorem ok121 : Callable Try.prog 121 ∧ Valid Try.prog 121 sGoodB.spec :=
  AllOK.head (AllOK.d mixed (((((AllOK.nil Try.prog).and ok150).and ok149).and ok148).and ok147) Try.func121 (by kernel_rfl) sGoodB (fun x => noInv) (fun x => noInv) fun x h => vc121 x.1 h)
set_option maxRecDepth 100000 in
theorem ok116 : Callable Try.prog 116 ∧ Valid Try.prog 116 sGoodB.spec :=
  AllOK.head (AllOK.d mixed ((((AllOK.nil Try.prog).and ok60).and ok57).and ok119) Try.func116 (by kernel_rfl) sGoodB (fun x => (invs [(10, inv116 x.1)])) (fun x => noInv) fun x h => vc116 x.1 h)
set_option maxRecDepth 100000 in
theorem ok138 : Callable Try.prog 138 ∧ Valid Try.prog 138 sUse.spec :=
  AllOK.head (AllOK.d mixed ((AllOK.nil Try.prog).and ok121) Try.func138 (by kernel_rfl) sUse (fun x => noInv) (fun x => noInv) fun x h => vc138 x.1 x.2.1 h)
set_option maxRecDepth 100000 in
theorem ok142 : Callable Try.prog 142 ∧ Valid Try.prog 142 sUse.spec :=
  AllOK.head (AllOK.d mixed (((AllOK.nil Try.prog).and ok119).and ok116) Try.func142 (by kernel_rfl) sUse (fun x => noInv) (fun x => noInv) fun x h => vc142 x.1 x.2.1 h)
set_option maxRecDepth 100000 in
theorem ok137 : Callable Try.prog 137 ∧ Valid Try.prog 137 sRoom.spec :=
  AllOK.head (AllOK.d mixed (((AllOK.nil Try.prog).and ok140).and ok121) Try.func137 (by kernel_rfl) sRoom (fun x => noInv) (fun x => noInv) fun x h => vc137 x.1 x.2.1 h)
set_option maxRecDepth 100000 in
theorem ok62 : Callable Try.prog 62 ∧ Valid Try.prog 62 sRoom.spec :=
  AllOK.head (AllOK.d mixed ((((AllOK.nil Try.prog).and ok119).and ok57).and ok116) Try.func62 (by kernel_rfl) sRoom (fun x => noInv) (fun x => noInv) fun x h => vc62 x.1 x.2.1 h)
set_option maxRecDepth 100000 in
theorem ok141 : Callable Try.prog 141 ∧ Valid Try.prog 141 sTake.spec :=
  AllOK.head (AllOK.d mixed ((((AllOK.nil Try.prog).and ok140).and ok139).and ok138) Try.func141 (by kernel_rfl) sTake (fun x => noInv) (fun x => noInv) fun x h => vc141 x.1 x.2.1 h)
set_option maxRecDepth 100000 in
theorem ok143 : Callable Try.prog 143 ∧ Valid Try.prog 143 sTake.spec :=
  AllOK.head (AllOK.d mixed ((((AllOK.nil Try.prog).and ok57).and ok118).and ok142) Try.func143 (by kernel_rfl) sTake (fun x => noInv) (fun x => noInv) fun x h => vc143 x.1 x.2.1 h)
set_option maxRecDepth 100000 in
theorem ok107 : Callable Try.prog 107 ∧ Valid Try.prog 107 sSpend.spec :=
  AllOK.head (AllOK.d mixed (((((AllOK.nil Try.prog).and ok141).and ok140).and ok139).and ok138) Try.func107 (by kernel_rfl) sSpend (fun x => noInv) (fun x => noInv) fun x h => vc107 x.1 x.2.1 h)
set_option maxRecDepth 100000 in
theorem ok108 : Callable Try.prog 108 ∧ Valid Try.prog 108 sSpend.spec :=
  AllOK.head (AllOK.d mixed ((((((AllOK.nil Try.prog).and ok62).and ok143).and ok57).and ok118).and ok142) Try.func108 (by kernel_rfl) sSpend (fun x => noInv) (fun x => noInv) fun x h => vc108 x.1 x.2.1 h)
set_option maxRecDepth 100000 in
theorem ok113 : Callable Try.prog 113 ∧ Valid Try.prog 113 sRefill.spec :=
  AllOK.head (AllOK.d mixed (((((AllOK.nil Try.prog).and ok60).and ok57).and ok118).and ok116) Try.func113 (by kernel_rfl) sRefill (fun x => noInv) (fun x => noInv) fun x h => vc113 x.1 h)
set_option maxRecDepth 100000 in
theorem ok115 : Callable Try.prog 115 ∧ Valid Try.prog 115 sNewP.spec :=
  AllOK.head (AllOK.d mixed ((((AllOK.nil Try.prog).and ok121).and ok140).and ok147) Try.func115 (by kernel_rfl) sNewP (fun x => noInv) (fun x => noInv) fun x h => vc115 x.1 x.2.1 x.2.2.1 x.2.2.2.1 x.2.2.2.2.1 h)
set_option maxRecDepth 100000 in
theorem ok133 : Callable Try.prog 133 ∧ Valid Try.prog 133 sNewP.spec :=
  AllOK.head (AllOK.d mixed ((((AllOK.nil Try.prog).and ok116).and ok57).and ok119) Try.func133 (by kernel_rfl) sNewP (fun x => noInv) (fun x => noInv) fun x h => vc133 x.1 x.2.1 x.2.2.1 x.2.2.2.1 x.2.2.2.2.1 h)
set_option maxRecDepth 100000 in
theorem ok146 : Callable Try.prog 146 ∧ Valid Try.prog 146 sChange.spec :=
  AllOK.head (AllOK.d mixed ((((((AllOK.nil Try.prog).and ok140).and ok144).and ok148).and ok139).and ok121) Try.func146 (by kernel_rfl) sChange (fun x => (invs [(11, inv146 x.1 x.2.1 x.2.2.1)])) (fun x => noInv) fun x h => vc146 x.1 x.2.1 x.2.2.1 h)
set_option maxRecDepth 100000 in
theorem ok135 : Callable Try.prog 135 ∧ Valid Try.prog 135 sAt1P.spec :=
  AllOK.head (AllOK.d mixed (AllOK.nil Try.prog) Try.func135 (by kernel_rfl) sAt1P (fun x => noInv) (fun x => noInv) fun x h => vc135 x.1 x.2.1 h)
set_option maxRecDepth 100000 in
theorem ok134 : Callable Try.prog 134 ∧ Valid Try.prog 134 sIdxF.spec :=
  AllOK.head (AllOK.d mixed ((AllOK.nil Try.prog).and ok135) Try.func134 (by kernel_rfl) sIdxF (fun x => (invs [(2, inv134 x.1 x.2.1)])) (fun x => noInv) fun x h => vc134 x.1 x.2.1 h)
set_option maxRecDepth 100000 in
theorem ok104 : Callable Try.prog 104 ∧ Valid Try.prog 104 sAtP.spec :=
  AllOK.head (AllOK.d mixed ((AllOK.nil Try.prog).and ok134) Try.func104 (by kernel_rfl) sAtP (fun x => noInv) (fun x => noInv) fun x h => vc104 x.1 x.2.1 h)
set_option maxRecDepth 100000 in
theorem ok136 : Callable Try.prog 136 ∧ Valid Try.prog 136 sCloneP.spec :=
  AllOK.head (AllOK.d mixed (AllOK.nil Try.prog) Try.func136 (by kernel_rfl) sCloneP (fun x => noInv) (fun x => noInv) fun x h => vc136 x.1 h)
set_option maxRecDepth 100000 in
theorem ok105 : Callable Try.prog 105 ∧ Valid Try.prog 105 sCopyP.spec :=
  AllOK.head (AllOK.d mixed (((AllOK.nil Try.prog).and ok125).and ok136) Try.func105 (by kernel_rfl) sCopyP (fun x => (invs [(3, inv105 x.1)])) (fun x => noInv) fun x h => vc105 x.1 h)
set_option maxRecDepth 100000 in
theorem ok103_sCopyP : Callable Try.prog 103 ∧ Valid Try.prog 103 sCopyP.spec :=
  AllOK.head (AllOK.d mixed ((AllOK.nil Try.prog).and ok118) Try.func103 (by kernel_rfl) sCopyP (fun x => (invs [(3, inv103 x.1)])) (fun x => noInv) fun x h => vc103 x.1 h)
set_option maxRecDepth 100000 in
theorem ok66 : Callable Try.prog 66 ∧ Valid Try.prog 66 sThr.spec :=
  AllOK.head (AllOK.d mixed (((AllOK.nil Try.prog).and ok121).and ok83) Try.func66 (by kernel_rfl) sThr (fun x => (invs [(4, inv66 x.1.1 x.2.1)])) (fun x => noInv) fun x h => vc66 x.1.1 x.1.2 x.2.1 h)
set_option maxRecDepth 100000 in
theorem ok54 : Callable Try.prog 54 ∧ Valid Try.prog 54 sThr.spec :=
  AllOK.head (AllOK.d mixed (((AllOK.nil Try.prog).and ok116).and ok78) Try.func54 (by kernel_rfl) sThr (fun x => (invs [(4, inv54 x.1.1 x.2.1)])) (fun x => noInv) fun x h => vc54 x.1.1 x.1.2 x.2.1 h)
set_option maxRecDepth 100000 in
theorem ok58 : Callable Try.prog 58 ∧ Valid Try.prog 58 sGetP.spec :=
  AllOK.head (AllOK.d mixed ((AllOK.nil Try.prog).and ok118) Try.func58 (by kernel_rfl) sGetP (fun x => (invs [(2, inv58 x.1 x.2.1)])) (fun x => noInv) fun x h => vc58 x.1 x.2.1 h)
set_option maxRecDepth 100000 in
theorem ok106 : Callable Try.prog 106 ∧ Valid Try.prog 106 sBlk0.spec :=
  AllOK.head (AllOK.d mixed ((((AllOK.nil Try.prog).and ok137).and ok104).and ok73) Try.func106 (by kernel_rfl) sBlk0 (fun x => (invs [(2, inv106 x.1.1 x.2.1 x.2.2.1 x.2.2.2.1)])) (fun x => noInv) fun x h => vc106 x.1.1 x.1.2 x.2.1 x.2.2.1 x.2.2.2.1 h)
set_option maxRecDepth 100000 in
theorem ok63 : Callable Try.prog 63 ∧ Valid Try.prog 63 sBlkT.spec :=
  AllOK.head (AllOK.d mixed (((AllOK.nil Try.prog).and ok106).and ok66) Try.func63 (by kernel_rfl) sBlkT (fun x => noInv) (fun x => noInv) fun x h => vc63 x.1.1 x.1.2 x.2.1 x.2.2.1 x.2.2.2.1 h)
set_option maxRecDepth 100000 in
theorem ok68 : Callable Try.prog 68 ∧ Valid Try.prog 68 sBlkT.spec :=
  AllOK.head (AllOK.d mixed (((((AllOK.nil Try.prog).and ok62).and ok58).and ok54).and ok21) Try.func68 (by kernel_rfl) sBlkT (fun x => (invs [(5, inv68 x.1.1 x.1.2 x.2.1 x.2.2.1 x.2.2.2.1)])) (fun x => noInv) fun x h => vc68 x.1.1 x.1.2 x.2.1 x.2.2.1 x.2.2.2.1 h)
set_option maxRecDepth 100000 in
theorem ok42 : Callable Try.prog 42 ∧ Valid Try.prog 42 sSpT.spec :=
  AllOK.head (AllOK.d mixed (((((((AllOK.nil Try.prog).and ok73).and ok107).and ok106).and ok105).and ok104).and ok66) Try.func42 (by kernel_rfl) sSpT (fun x => (invs [(13, inv42 x.1.1 x.2.1 x.2.2.1 x.2.2.2.1)])) (fun x => noInv) fun x h => vc42 x.1.1 x.1.2 x.2.1 x.2.2.1 x.2.2.2.1 h)
set_option maxRecDepth 100000 in
theorem ok43 : Callable Try.prog 43 ∧ Valid Try.prog 43 sSpT.spec :=
  AllOK.head (AllOK.d mixed ((((((((AllOK.nil Try.prog).and ok64).and ok108).and ok68).and ok21).and ok103_sCopyP).and ok76).and ok54) Try.func43 (by kernel_rfl) sSpT (fun x => (invs [(11, inv43 x.1.1 x.1.2 x.2.1 x.2.2.1 x.2.2.2.1)])) (fun x => noInv) fun x h => vc43 x.1.1 x.1.2 x.2.1 x.2.2.1 x.2.2.2.1 h)
set_option maxRecDepth 100000 in
theorem ok49 : Callable Try.prog 49 ∧ Valid Try.prog 49 sRfT.spec :=
  AllOK.head (AllOK.d mixed (((((AllOK.nil Try.prog).and ok64).and ok113).and ok103_sCopyP).and ok54) Try.func49 (by kernel_rfl) sRfT (fun x => (invs [(5, inv49 x.2.1 x.2.2.1)])) (fun x => noInv) fun x h => vc49 x.1.1 x.1.2 x.2.1 x.2.2.1 h)
set_option maxRecDepth 100000 in
theorem ok61 : Callable Try.prog 61 ∧ Valid Try.prog 61 sSameP.spec :=
  AllOK.head (AllOK.d mixed (AllOK.nil Try.prog) Try.func61 (by kernel_rfl) sSameP (fun x => (invs [(4, inv61 x.1 x.2.1)])) (fun x => noInv) fun x h => vc61 x.1 x.2.1 h)
set_option maxRecDepth 100000 in
theorem ok114 : Callable Try.prog 114 ∧ Valid Try.prog 114 sKept.spec :=
  AllOK.head (AllOK.d mixed ((((AllOK.nil Try.prog).and ok146).and ok105).and ok121) Try.func114 (by kernel_rfl) sKept (fun x => (invs [(2, inv114 x.1 x.2.1 x.2.2.2.2.1 x.2.2.2.2.2.1)])) (fun x => noInv) fun x h => vc114 x.1 x.2.1 x.2.2.1 x.2.2.2.1 x.2.2.2.2.1 x.2.2.2.2.2.1 h)
set_option maxRecDepth 100000 in
theorem ok51 : Callable Try.prog 51 ∧ Valid Try.prog 51 sSync.spec :=
  AllOK.head (AllOK.d mixed ((((AllOK.nil Try.prog).and ok115).and ok114).and ok83) Try.func51 (by kernel_rfl) sSync (fun x => (invs [(5, inv51 x.1.1 x.2.1 x.2.2.1 x.2.2.2.1 x.2.2.2.2.1 x.2.2.2.2.2.1)])) (fun x => noInv) fun x h => vc51 x.1.1 x.1.2 x.2.1 x.2.2.1 x.2.2.2.1 x.2.2.2.2.1 x.2.2.2.2.2.1 h)
set_option maxRecDepth 100000 in
theorem ok53 : Callable Try.prog 53 ∧ Valid Try.prog 53 sNewT.spec :=
  AllOK.head (AllOK.d mixed ((AllOK.nil Try.prog).and ok51) Try.func53 (by kernel_rfl) sNewT (fun x => noInv) (fun x => noInv) fun x h => vc53 x.1.1 x.1.2 x.2.1 x.2.2.1 x.2.2.2.1 x.2.2.2.2.1 h)
set_option maxRecDepth 100000 in
theorem ok102 : Callable Try.prog 102 ∧ Valid Try.prog 102 sNewT.spec :=
  AllOK.head (AllOK.d mixed (((AllOK.nil Try.prog).and ok133).and ok78) Try.func102 (by kernel_rfl) sNewT (fun x => (invs [(5, inv102 x.1.1 x.2.1 x.2.2.1 x.2.2.2.1 x.2.2.2.2.1)])) (fun x => noInv) fun x h => vc102 x.1.1 x.1.2 x.2.1 x.2.2.1 x.2.2.2.1 x.2.2.2.2.1 h)
set_option maxRecDepth 100000 in
theorem ok50 : Callable Try.prog 50 ∧ Valid Try.prog 50 sNums.spec :=
  AllOK.head (AllOK.f mixed (((AllOK.nil Try.prog).and ok23).and ok59) Try.func50 (by kernel_rfl) sNums (fun x => (invs [(3, inv50 x.1.1 x.1.2 x.2.1)])) (fun x => noInv) fun x h => vc50 x.1.1 x.1.2 x.2.1 h)
set_option maxRecDepth 100000 in
theorem ok39 : Callable Try.prog 39 ∧ Valid Try.prog 39 sPools.spec :=
  AllOK.head (AllOK.f mixed (((((((((AllOK.nil Try.prog).and ok49).and ok47).and ok59).and ok43).and ok41).and ok102).and ok23).and ok50) Try.func39 (by kernel_rfl) sPools (fun x => (invs [(4, inv39 x.1.1 x.1.2 x.2.1.1 x.2.1.2 x.2.2.1)])) (fun x => noInv) fun x h => vc39 x.1.1 x.1.2 x.2.1.1 x.2.1.2 x.2.2.1 h)
set_option maxRecDepth 100000 in
theorem ok38 : Callable Try.prog 38 ∧ Valid Try.prog 38 sSane18.spec :=
  AllOK.head (AllOK.d mixed ((((((AllOK.nil Try.prog).and ok63).and ok42).and ok53).and ok22).and ok70) Try.func38 (by kernel_rfl) sSane18 (fun x => noInv) (fun x => noInv) fun x h => vc38 () h)
set_option maxRecDepth 100000 in
theorem ok109 : Callable Try.prog 109 ∧ Valid Try.prog 109 sReturn.spec :=
  AllOK.head (AllOK.d mixed (((AllOK.nil Try.prog).and ok139).and ok138) Try.func109 (by kernel_rfl) sReturn (fun x => noInv) (fun x => noInv) fun x h => vc109 x.1 x.2.1 h)
set_option maxRecDepth 100000 in
theorem ok111 : Callable Try.prog 111 ∧ Valid Try.prog 111 sRefill.spec :=
  AllOK.head (AllOK.d mixed (((((AllOK.nil Try.prog).and ok144).and ok140).and ok139).and ok121) Try.func111 (by kernel_rfl) sRefill (fun x => noInv) (fun x => noInv) fun x h => vc111 x.1 h)
set_option maxRecDepth 100000 in
theorem ok110 : Callable Try.prog 110 ∧ Valid Try.prog 110 sReturn.spec :=
  AllOK.head (AllOK.d mixed (((AllOK.nil Try.prog).and ok118).and ok142) Try.func110 (by kernel_rfl) sReturn (fun x => noInv) (fun x => noInv) fun x h => vc110 x.1 x.2.1 h)
set_option maxRecDepth 100000 in
theorem ok117 : Callable Try.prog 117 ∧ Valid Try.prog 117 sChange.spec :=
  AllOK.head (AllOK.d mixed ((((((AllOK.nil Try.prog).and ok57).and ok60).and ok119).and ok118).and ok116) Try.func117 (by kernel_rfl) sChange (fun x => (invs [(15, inv117 x.1 x.2.1 x.2.2.1)])) (fun x => noInv) fun x h => vc117 x.1 x.2.1 x.2.2.1 h)
set_option maxRecDepth 100000 in
theorem ok46 : Callable Try.prog 46 ∧ Valid Try.prog 46 sIdT.spec :=
  AllOK.head (AllOK.d mixed ((((AllOK.nil Try.prog).and ok110).and ok103_sCopyP).and ok54) Try.func46 (by kernel_rfl) sIdT (fun x => (invs [(5, inv46 x.2.1 x.2.2.1)])) (fun x => noInv) fun x h => vc46 x.1.1 x.1.2 x.2.1 x.2.2.1 h)
set_option maxRecDepth 100000 in
theorem ok44 : Callable Try.prog 44 ∧ Valid Try.prog 44 sSameL.spec :=
  AllOK.head (AllOK.d mixed ((AllOK.nil Try.prog).and ok61) Try.func44 (by kernel_rfl) sSameL (fun x => (invs [(4, inv44 x.1 x.2.1)])) (fun x => noInv) fun x h => vc44 x.1 x.2.1 h)
set_option maxRecDepth 100000 in
theorem ok45 : Callable Try.prog 45 ∧ Valid Try.prog 45 sIdT.spec :=
  AllOK.head (AllOK.d mixed ((((AllOK.nil Try.prog).and ok109).and ok105).and ok66) Try.func45 (by kernel_rfl) sIdT (fun x => (invs [(5, inv45 x.2.1 x.2.2.1)])) (fun x => noInv) fun x h => vc45 x.1.1 x.1.2 x.2.1 x.2.2.1 h)
set_option maxRecDepth 100000 in
theorem ok48 : Callable Try.prog 48 ∧ Valid Try.prog 48 sRfT.spec :=
  AllOK.head (AllOK.d mixed (((((AllOK.nil Try.prog).and ok112).and ok111).and ok105).and ok66) Try.func48 (by kernel_rfl) sRfT (fun x => (invs [(5, inv48 x.2.1 x.2.2.1)])) (fun x => noInv) fun x h => vc48 x.1.1 x.1.2 x.2.1 x.2.2.1 h)
set_option maxRecDepth 100000 in
theorem ok103_sCopyD : Callable Try.prog 103 ∧ Valid Try.prog 103 sCopyD.spec :=
  AllOK.head (AllOK.dD mixed ((AllOK.nil Try.prog).and ok118) Try.func103 (by kernel_rfl) sCopyD [80] (fun x => (invs [(3, jnv103 x.1)])) (fun x => noInv) fun x h => vd103 x.1 h)
set_option maxRecDepth 100000 in
theorem ok40 : Callable Try.prog 40 ∧ Valid Try.prog 40 sOdd.spec :=
  AllOK.head (AllOK.fD mixed (((AllOK.nil Try.prog).and ok23).and ok103_sCopyD) Try.func40 (by kernel_rfl) sOdd [80] (fun x => noInv) (fun x => noInv) fun x h => vc40 x.1.1 x.1.2 x.2.1 h)
set_option maxRecDepth 100000 in
theorem ok52 : Callable Try.prog 52 ∧ Valid Try.prog 52 sSync.spec :=
  AllOK.head (AllOK.d mixed (((((AllOK.nil Try.prog).and ok118).and ok117).and ok116).and ok102) Try.func52 (by kernel_rfl) sSync (fun x => (invsS [(5, inv52 x.1.1 x.2.1 x.2.2.1 x.2.2.2.1 x.2.2.2.2.1 x.2.2.2.2.2.1), (8, inv52b x.2.1 x.2.2.2.2.1 x.2.2.2.2.2.1)])) (fun x => noInv) fun x h => vc52 x.1.1 x.1.2 x.2.1 x.2.2.1 x.2.2.2.1 x.2.2.2.2.1 x.2.2.2.2.2.1 h)
set_option maxRecDepth 100000 in
theorem walk8 (a0 : Option Addr) (len0 cap0 : Nat) (z0 : List Int) (a1 : Int) (a2 : Int) (w : World) (w0 : IsRow .i64 w a0 len0 cap0 z0) (w1 : (Lit.int .i64 a1).wf = true) (w2 : (Lit.int .i64 a2).wf = true) : Calls Try.prog 8 #[.slice a0 len0 cap0, .int .i64 a1, .int .i64 a2] w fun e w' => e = .returned (.bool true) ∧ Below w.heap.size w w' :=
  law_ofD (EV Try.prog [(14, sLight.spec), (38, sSane18.spec), (16, sRoll.spec), (17, sTree.spec), (23, sNext.spec), (39, sPools.spec), (40, sOdd.spec), (41, sGroup.spec), (42, sSpT.spec), (43, sSpT.spec), (44, sSameL.spec), (45, sIdT.spec), (46, sIdT.spec), (47, sSome.spec), (48, sRfT.spec), (49, sRfT.spec), (50, sNums.spec), (51, sSync.spec), (52, sSync.spec), (53, sNewT.spec), (54, sThr.spec)] (invsS [(8, inv8a (z0.take len0)), (11, inv8b (z0.take len0)), (23, inv8c (z0.take len0))]) (invsS [(10, jn8a), (25, jn8b)])) ((((((((((((((((((((((AllOK.nil Try.prog).and ok54).and ok53).and ok52).and ok51).and ok50).and ok49).and ok48).and ok47).and ok46).and ok45).and ok44).and ok43).and ok42).and ok41).and ok40).and ok39).and ok23).and ok17).and ok16).and ok38).and ok14) mixed Try.func8 (avs := [.irec true 0 (z0.take len0), .int .i64 a1, .int .i64 a2]) (xs := [.slice a0 len0 cap0, .int .i64 a1, .int .i64 a2]) (.cons (row_rel w0) (.cons (.int _ _) (.cons (.int _ _) .nil))) (vc8 (z0.take len0) a1 a2 trivial) rfl rfl rfl rfl
end Go.Proofs.Ytemffnpliflkgaa
