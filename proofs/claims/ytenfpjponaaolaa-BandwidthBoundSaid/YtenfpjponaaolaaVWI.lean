/-
  Lemmas and contracts on the way to the laws of this seat; each theorem states its own conditions, and there are no others.
-/
import Derived.Test.YtenfpjponaaolaaE29
import Derived.Test.YtenfpjponaaolaaVI
namespace Go.Proofs.Ytenfpjponaaolaa
open Go Go.RowKit
set_option linter.unusedVariables false
set_option linter.unusedSimpArgs false
set_option linter.unusedVariables false
set_option maxRecDepth 100000 in
theorem ok39 : Callable Try.prog 39 ∧ Valid Try.prog 39 sWithin.spec :=
  AllOK.head (AllOK.d mixed (AllOK.nil Try.prog) Try.func39 (by kernel_rfl) sWithin (fun x => noInv) (fun x => noInv) fun x h => vc39 x.1 x.2.1 x.2.2.1 h)
set_option maxRecDepth 100000 in
theorem ok37 : Callable Try.prog 37 ∧ Valid Try.prog 37 sWithin.spec :=
  AllOK.head (AllOK.d mixed (AllOK.nil Try.prog) Try.func37 (by kernel_rfl) sWithin (fun x => noInv) (fun x => noInv) fun x h => vc37 x.1 x.2.1 x.2.2.1 h)
set_option maxRecDepth 100000 in
theorem ok13 : Callable Try.prog 13 ∧ Valid Try.prog 13 sLimited.spec :=
  AllOK.head (AllOK.d mixed (AllOK.nil Try.prog) Try.func13 (by kernel_rfl) sLimited (fun x => noInv) (fun x => noInv) fun x h => vc13 x.1 h)
set_option maxRecDepth 100000 in
theorem ok19 : Callable Try.prog 19 ∧ Valid Try.prog 19 sLimited.spec :=
  AllOK.head (AllOK.d mixed (AllOK.nil Try.prog) Try.func19 (by kernel_rfl) sLimited (fun x => noInv) (fun x => noInv) fun x h => vc19 x.1 h)
set_option maxRecDepth 100000 in
theorem ok36 : Callable Try.prog 36 ∧ Valid Try.prog 36 sRates.spec :=
  AllOK.head (AllOK.d mixed (((AllOK.nil Try.prog).and ok13).and ok39) Try.func36 (by kernel_rfl) sRates (fun x => noInv) (fun x => noInv) fun x h => vc36 x.1 h)
set_option maxRecDepth 100000 in
theorem ok35 : Callable Try.prog 35 ∧ Valid Try.prog 35 sSum.spec :=
  AllOK.head (AllOK.d mixed (AllOK.nil Try.prog) Try.func35 (by kernel_rfl) sSum (fun x => (invs [(2, inv35 x.1 x.2.1)])) (fun x => noInv) fun x h => vc35 x.1 x.2.1 h)
set_option maxRecDepth 100000 in
theorem ok14 : Callable Try.prog 14 ∧ Valid Try.prog 14 sHeld.spec :=
  AllOK.head (AllOK.d mixed ((AllOK.nil Try.prog).and ok35) Try.func14 (by kernel_rfl) sHeld (fun x => noInv) (fun x => noInv) fun x h => vc14 x.1 h)
set_option maxRecDepth 100000 in
theorem ok44 : Callable Try.prog 44 ∧ Valid Try.prog 44 sGood.spec :=
  AllOK.head (AllOK.d mixed ((AllOK.nil Try.prog).and ok39) Try.func44 (by kernel_rfl) sGood (fun x => noInv) (fun x => noInv) fun x h => vc44 x.1 h)
set_option maxRecDepth 100000 in
theorem ok45 : Callable Try.prog 45 ∧ Valid Try.prog 45 sClone.spec :=
  AllOK.head (AllOK.d mixed (AllOK.nil Try.prog) Try.func45 (by kernel_rfl) sClone (fun x => noInv) (fun x => noInv) fun x h => vc45 x.1 h)
set_option maxRecDepth 100000 in
theorem ok34 : Callable Try.prog 34 ∧ Valid Try.prog 34 sCopied.spec :=
  AllOK.head (AllOK.d mixed ((AllOK.nil Try.prog).and ok45) Try.func34 (by kernel_rfl) sCopied (fun x => noInv) (fun x => noInv) fun x h => vc34 x.1 h)
set_option maxRecDepth 100000 in
theorem ok15 : Callable Try.prog 15 ∧ Valid Try.prog 15 sHeld.spec :=
  AllOK.head (AllOK.d mixed (AllOK.nil Try.prog) Try.func15 (by kernel_rfl) sHeld (fun x => (invs [(3, inv15 x.1)])) (fun x => noInv) fun x h => vc15 x.1 h)
set_option maxRecDepth 100000 in
theorem ok43 : Callable Try.prog 43 ∧ Valid Try.prog 43 sGood.spec :=
  AllOK.head (AllOK.d mixed ((((AllOK.nil Try.prog).and ok14).and ok13).and ok39) Try.func43 (by kernel_rfl) sGood (fun x => (invs [(5, inv43 x.1)])) (fun x => noInv) fun x h => vc43 x.1 h)
set_option maxRecDepth 100000 in
theorem ok33 : Callable Try.prog 33 ∧ Valid Try.prog 33 sGood.spec :=
  AllOK.head (AllOK.d mixed (((((AllOK.nil Try.prog).and ok44).and ok43).and ok36).and ok39) Try.func33 (by kernel_rfl) sGood (fun x => noInv) (fun x => noInv) fun x h => vc33 x.1 h)
set_option maxRecDepth 100000 in
theorem ok18 : Callable Try.prog 18 ∧ Valid Try.prog 18 sGood.spec :=
  AllOK.head (AllOK.d mixed ((((AllOK.nil Try.prog).and ok15).and ok19).and ok37) Try.func18 (by kernel_rfl) sGood (fun x => (invs [(10, inv18 x.1)])) (fun x => noInv) fun x h => vc18 x.1 h)
set_option maxRecDepth 100000 in
theorem ok38 : Callable Try.prog 38 ∧ Valid Try.prog 38 sUsable.spec :=
  AllOK.head (AllOK.d mixed ((AllOK.nil Try.prog).and ok33) Try.func38 (by kernel_rfl) sUsable (fun x => noInv) (fun x => noInv) fun x h => vc38 x.1 x.2.1 h)
set_option maxRecDepth 100000 in
theorem ok40 : Callable Try.prog 40 ∧ Valid Try.prog 40 sUsable.spec :=
  AllOK.head (AllOK.d mixed (((AllOK.nil Try.prog).and ok37).and ok18) Try.func40 (by kernel_rfl) sUsable (fun x => noInv) (fun x => noInv) fun x h => vc40 x.1 x.2.1 h)
set_option maxRecDepth 100000 in
theorem ok25 : Callable Try.prog 25 ∧ Valid Try.prog 25 sRoom.spec :=
  AllOK.head (AllOK.d mixed (((AllOK.nil Try.prog).and ok13).and ok33) Try.func25 (by kernel_rfl) sRoom (fun x => noInv) (fun x => noInv) fun x h => vc25 x.1 x.2.1 h)
set_option maxRecDepth 100000 in
theorem ok42 : Callable Try.prog 42 ∧ Valid Try.prog 42 sRoom.spec :=
  AllOK.head (AllOK.d mixed ((((AllOK.nil Try.prog).and ok37).and ok19).and ok18) Try.func42 (by kernel_rfl) sRoom (fun x => noInv) (fun x => noInv) fun x h => vc42 x.1 x.2.1 h)
set_option maxRecDepth 100000 in
theorem ok41 : Callable Try.prog 41 ∧ Valid Try.prog 41 sCopied.spec :=
  AllOK.head (AllOK.d mixed (AllOK.nil Try.prog) Try.func41 (by kernel_rfl) sCopied (fun x => noInv) (fun x => noInv) fun x h => vc41 x.1 h)
set_option maxRecDepth 100000 in
theorem ok12 : Callable Try.prog 12 ∧ Valid Try.prog 12 sRefill.spec :=
  AllOK.head (AllOK.d mixed (((((AllOK.nil Try.prog).and ok14).and ok13).and ok34).and ok33) Try.func12 (by kernel_rfl) sRefill (fun x => noInv) (fun x => noInv) fun x h => vc12 x.1 h)
set_option maxRecDepth 100000 in
theorem ok31 : Callable Try.prog 31 ∧ Valid Try.prog 31 sRefill.spec :=
  AllOK.head (AllOK.d mixed (((((AllOK.nil Try.prog).and ok15).and ok19).and ok41).and ok18) Try.func31 (by kernel_rfl) sRefill (fun x => noInv) (fun x => noInv) fun x h => vc31 x.1 h)
set_option maxRecDepth 100000 in
theorem ok21 : Callable Try.prog 21 ∧ Valid Try.prog 21 sTake.spec :=
  AllOK.head (AllOK.d mixed ((((AllOK.nil Try.prog).and ok13).and ok34).and ok38) Try.func21 (by kernel_rfl) sTake (fun x => noInv) (fun x => noInv) fun x h => vc21 x.1 x.2.1 h)
set_option maxRecDepth 100000 in
theorem ok28 : Callable Try.prog 28 ∧ Valid Try.prog 28 sTake.spec :=
  AllOK.head (AllOK.d mixed ((((AllOK.nil Try.prog).and ok19).and ok41).and ok40) Try.func28 (by kernel_rfl) sTake (fun x => noInv) (fun x => noInv) fun x h => vc28 x.1 x.2.1 h)
set_option maxRecDepth 100000 in
theorem ok23 : Callable Try.prog 23 ∧ Valid Try.prog 23 sReturn.spec :=
  AllOK.head (AllOK.d mixed (((AllOK.nil Try.prog).and ok34).and ok38) Try.func23 (by kernel_rfl) sReturn (fun x => noInv) (fun x => noInv) fun x h => vc23 x.1 x.2.1 h)
set_option maxRecDepth 100000 in
theorem ok30 : Callable Try.prog 30 ∧ Valid Try.prog 30 sReturn.spec :=
  AllOK.head (AllOK.d mixed (((AllOK.nil Try.prog).and ok41).and ok40) Try.func30 (by kernel_rfl) sReturn (fun x => noInv) (fun x => noInv) fun x h => vc30 x.1 x.2.1 h)
set_option maxRecDepth 100000 in
theorem ok22 : Callable Try.prog 22 ∧ Valid Try.prog 22 sSpend.spec :=
  AllOK.head (AllOK.d mixed (((((AllOK.nil Try.prog).and ok21).and ok13).and ok34).and ok38) Try.func22 (by kernel_rfl) sSpend (fun x => noInv) (fun x => noInv) fun x h => vc22 x.1 x.2.1 h)
set_option maxRecDepth 100000 in
theorem ok29 : Callable Try.prog 29 ∧ Valid Try.prog 29 sSpend.spec :=
  AllOK.head (AllOK.d mixed ((((((AllOK.nil Try.prog).and ok42).and ok28).and ok19).and ok41).and ok40) Try.func29 (by kernel_rfl) sSpend (fun x => noInv) (fun x => noInv) fun x h => vc29 x.1 x.2.1 h)
set_option maxRecDepth 100000 in
theorem ok26 : Callable Try.prog 26 ∧ Valid Try.prog 26 sNew.spec :=
  AllOK.head (AllOK.d mixed ((((AllOK.nil Try.prog).and ok33).and ok13).and ok39) Try.func26 (by kernel_rfl) sNew (fun x => noInv) (fun x => noInv) fun x h => vc26 x.1 x.2.1 x.2.2.1 x.2.2.2.1 x.2.2.2.2.1 ⟨h.1, h.2.1, h.2.2⟩)
set_option maxRecDepth 100000 in
theorem ok27 : Callable Try.prog 27 ∧ Valid Try.prog 27 sNew.spec :=
  AllOK.head (AllOK.d mixed ((((AllOK.nil Try.prog).and ok18).and ok19).and ok37) Try.func27 (by kernel_rfl) sNew (fun x => noInv) (fun x => noInv) fun x h => vc27 x.1 x.2.1 x.2.2.1 x.2.2.2.1 x.2.2.2.2.1 ⟨h.1, h.2.1, h.2.2⟩)
set_option maxRecDepth 100000 in
theorem ok16 : Callable Try.prog 16 ∧ Valid Try.prog 16 sNext.spec :=
  AllOK.head (AllOK.f mixed (AllOK.nil Try.prog) Try.func16 (by kernel_rfl) sNext (fun x => noInv) (fun x => noInv) fun x h => vc16 x.1.1 x.1.2 x.2.1 h)
set_option maxRecDepth 100000 in
theorem ok24 : Callable Try.prog 24 ∧ Valid Try.prog 24 sBool.spec :=
  AllOK.head (AllOK.f mixed ((AllOK.nil Try.prog).and ok16) Try.func24 (by kernel_rfl) sBool (fun x => noInv) (fun x => noInv) fun x h => vc24 x.1.1 x.1.2 x.2.1 h)
set_option maxRecDepth 100000 in
theorem ok20 : Callable Try.prog 20 ∧ Valid Try.prog 20 sLeft.spec :=
  AllOK.head (AllOK.d mixed (AllOK.nil Try.prog) Try.func20 (by kernel_rfl) sLeft (fun x => noInv) (fun x => noInv) fun x h => vc20 x.1.1 x.1.2 h)
set_option maxRecDepth 100000 in
theorem ok10 : Callable Try.prog 10 ∧ Valid Try.prog 10 sRoll.spec :=
  AllOK.head (AllOK.d mixed (AllOK.nil Try.prog) Try.func10 (by kernel_rfl) sRoll (fun x => noInv) (fun x => noInv) fun x h => vc10 x.1 h)
set_option maxRecDepth 100000 in
theorem ok8 : Callable Try.prog 8 ∧ Valid Try.prog 8 sLight.spec :=
  AllOK.head (AllOK.d mixed (AllOK.nil Try.prog) Try.func8 (by kernel_rfl) sLight (fun x => noInv) (fun x => noInv) fun x h => vc8 x.1 h)
set_option maxRecDepth 100000 in
theorem ok17 : Callable Try.prog 17 ∧ Valid Try.prog 17 sChange.spec :=
  AllOK.head (AllOK.f mixed ((((((AllOK.nil Try.prog).and ok13).and ok14).and ok36).and ok34).and ok33) Try.func17 (by kernel_rfl) sChange (fun x => (invs [(11, inv17 x.1 x.2.1 x.2.2.1)])) (fun x => noInv) fun x h => vc17 x.1 x.2.1 x.2.2.1 h)
set_option maxRecDepth 100000 in
theorem ok32 : Callable Try.prog 32 ∧ Valid Try.prog 32 sChange.spec :=
  AllOK.head (AllOK.f mixed ((((((AllOK.nil Try.prog).and ok19).and ok15).and ok37).and ok41).and ok18) Try.func32 (by kernel_rfl) sChange (fun x => (invs [(15, inv32 x.1 x.2.1 x.2.2.1)])) (fun x => noInv) fun x h => vc32 x.1 x.2.1 x.2.2.1 h)
set_option maxRecDepth 100000 in
theorem ok11 : Callable Try.prog 11 ∧ Valid Try.prog 11 sPool.spec :=
  AllOK.head (AllOK.f mixed (((((((((AllOK.nil Try.prog).and ok32).and ok31).and ok30).and ok29).and ok28).and ok27).and ok16).and ok24) Try.func11 (by kernel_rfl) sPool (fun x => (invs [(7, inv11 x.1.1 x.1.2 x.2.1)])) (fun x => noInv) fun x h => vc11 x.1.1 x.1.2 x.2.1 h)
set_option maxRecDepth 100000 in
theorem ok9 : Callable Try.prog 9 ∧ Valid Try.prog 9 sSane.spec :=
  AllOK.head (AllOK.d mixed (((((AllOK.nil Try.prog).and ok13).and ok14).and ok12).and ok26) Try.func9 (by kernel_rfl) sSane (fun x => noInv) (fun x => noInv) fun x h => vc9 () h)
set_option maxRecDepth 100000 in
theorem walk5 (a0 : Option Addr) (len0 cap0 : Nat) (z0 : List Int) (w : World) (w0 : IsRow .i64 w a0 len0 cap0 z0) : Calls Try.prog 5 #[.slice a0 len0 cap0] w fun e w' => e = .returned (.bool true) ∧ Below w.heap.size w w' :=
  law_ofD (EV Try.prog [(8, sLight.spec), (9, sSane.spec), (10, sRoll.spec), (11, sPool.spec), (12, sRefill.spec), (16, sNext.spec), (18, sGood.spec), (19, sLimited.spec), (20, sLeft.spec), (15, sHeld.spec), (21, sTake.spec), (22, sSpend.spec), (23, sReturn.spec), (24, sBool.spec)] (invsS [(12, inv5 (z0.take len0))]) (invsS [(32, join32 (z0.take len0)), (36, join36)])) (((((((((((((((AllOK.nil Try.prog).and ok24).and ok23).and ok22).and ok21).and ok15).and ok20).and ok19).and ok18).and ok16).and ok12).and ok11).and ok10).and ok9).and ok8) mixed Try.func5 (avs := [.irec true 0 (z0.take len0)]) (xs := [.slice a0 len0 cap0]) (.cons (row_rel w0) .nil) (vc5 (z0.take len0) trivial) rfl rfl rfl rfl
end Go.Proofs.Ytenfpjponaaolaa
