/-
  Lemmas and contracts on the way to the laws of this seat; each theorem states its own conditions, and there are no others.
-/
import Derived.Test.YtgaeomkjpcpogaaE29
import Derived.Test.YtgaeomkjpcpogaaYL
namespace Go.Proofs.Ytgaeomkjpcpogaa
open Go Go.RowKit
set_option linter.unusedVariables false
set_option linter.unusedSimpArgs false
set_option linter.unusedVariables false
set_option maxRecDepth 100000 in
theorem ok9 : Callable Try.prog 9 ∧ Valid Try.prog 9 sNext.spec :=
  AllOK.head (AllOK.f mixed (AllOK.nil Try.prog) Try.func9 (by kernel_rfl) sNext (fun x => noInv) (fun x => noInv) fun x h => vc9 x.1.1 x.1.2 x.2.1 h)
set_option maxRecDepth 100000 in
theorem ok8 : Callable Try.prog 8 ∧ Valid Try.prog 8 sRoll.spec :=
  AllOK.head (AllOK.d mixed (AllOK.nil Try.prog) Try.func8 (by kernel_rfl) sRoll (fun x => noInv) (fun x => noInv) fun x h => vc8 x.1 h)
set_option maxRecDepth 100000 in
theorem ok13 : Callable Try.prog 13 ∧ Valid Try.prog 13 sLight.spec :=
  AllOK.head (AllOK.d mixed (AllOK.nil Try.prog) Try.func13 (by kernel_rfl) sLight (fun x => noInv) (fun x => noInv) fun x h => vc13 x.1 h)
set_option maxRecDepth 100000 in
theorem ok36 : Callable Try.prog 36 ∧ Valid Try.prog 36 sBool.spec :=
  AllOK.head (AllOK.f mixed ((AllOK.nil Try.prog).and ok9) Try.func36 (by kernel_rfl) sBool (fun x => noInv) (fun x => noInv) fun x h => vc36 x.1.1 x.1.2 x.2.1 h)
set_option maxRecDepth 100000 in
theorem ok18 : Callable Try.prog 18 ∧ Valid Try.prog 18 sPick.spec :=
  AllOK.head (AllOK.f mixed ((AllOK.nil Try.prog).and ok9) Try.func18 (by kernel_rfl) sPick (fun x => noInv) (fun x => noInv) fun x h => vc18 x.1.1 x.1.2 x.2.1 h)
set_option maxRecDepth 100000 in
theorem ok26 : Callable Try.prog 26 ∧ Valid Try.prog 26 sIn.spec :=
  AllOK.head (AllOK.d mixed (AllOK.nil Try.prog) Try.func26 (by kernel_rfl) sIn (fun x => noInv) (fun x => noInv) fun x h => vc26 x.1 x.2.1 x.2.2.1 h)
set_option maxRecDepth 100000 in
theorem ok42 : Callable Try.prog 42 ∧ Valid Try.prog 42 sTicks.spec :=
  AllOK.head (AllOK.d mixed ((AllOK.nil Try.prog).and ok26) Try.func42 (by kernel_rfl) sTicks (fun x => noInv) (fun x => noInv) fun x h => vc42 x.1 x.2.1 h)
set_option maxRecDepth 100000 in
theorem ok43 : Callable Try.prog 43 ∧ Valid Try.prog 43 sPages.spec :=
  AllOK.head (AllOK.d mixed ((AllOK.nil Try.prog).and ok26) Try.func43 (by kernel_rfl) sPages (fun x => noInv) (fun x => noInv) fun x h => vc43 x.1 x.2.1 h)
set_option maxRecDepth 100000 in
theorem ok44 : Callable Try.prog 44 ∧ Valid Try.prog 44 sTouch.spec :=
  AllOK.head (AllOK.d mixed ((AllOK.nil Try.prog).and ok26) Try.func44 (by kernel_rfl) sTouch (fun x => noInv) (fun x => noInv) fun x h => vc44 x.1 x.2.1 h)
set_option maxRecDepth 100000 in
theorem ok45 : Callable Try.prog 45 ∧ Valid Try.prog 45 sReq.spec :=
  AllOK.head (AllOK.d mixed ((AllOK.nil Try.prog).and ok26) Try.func45 (by kernel_rfl) sReq (fun x => noInv) (fun x => noInv) fun x h => vc45 x.1 x.2.1 h)
set_option maxRecDepth 100000 in
theorem ok46 : Callable Try.prog 46 ∧ Valid Try.prog 46 sFork.spec :=
  AllOK.head (AllOK.d mixed ((AllOK.nil Try.prog).and ok26) Try.func46 (by kernel_rfl) sFork (fun x => noInv) (fun x => noInv) fun x h => vc46 x.1 x.2.1 h)
set_option maxRecDepth 100000 in
theorem ok47 : Callable Try.prog 47 ∧ Valid Try.prog 47 sNone.spec :=
  AllOK.head (AllOK.d mixed ((AllOK.nil Try.prog).and ok26) Try.func47 (by kernel_rfl) sNone (fun x => noInv) (fun x => noInv) fun x h => vc47 x.1 x.2.1 h)
set_option maxRecDepth 100000 in
theorem ok25 : Callable Try.prog 25 ∧ Valid Try.prog 25 sTable.spec :=
  AllOK.head (AllOK.d mixed (AllOK.nil Try.prog) Try.func25 (by kernel_rfl) sTable (fun x => noInv) (fun x => noInv) fun x h => vc25 () h)
set_option maxRecDepth 100000 in
theorem ok10 : Callable Try.prog 10 ∧ Valid Try.prog 10 sValid.spec :=
  AllOK.head (AllOK.d mixed (((((((((AllOK.nil Try.prog).and ok47).and ok46).and ok45).and ok44).and ok43).and ok42).and ok25).and ok26) Try.func10 (by kernel_rfl) sValid (fun x => (invsS [(5, inv10 x.1), (10, inv10a x.1)])) (fun x => noInv) fun x h => vc10 x.1 h)
set_option maxRecDepth 100000 in
theorem ok31 : Callable Try.prog 31 ∧ Valid Try.prog 31 sSnd.spec :=
  AllOK.head (AllOK.d mixed ((AllOK.nil Try.prog).and ok26) Try.func31 (by kernel_rfl) sSnd (fun x => noInv) (fun x => noInv) fun x h => vc31 x.1 x.2.1 h)
set_option maxRecDepth 100000 in
theorem ok20 : Callable Try.prog 20 ∧ Valid Try.prog 20 sSound.spec :=
  AllOK.head (AllOK.d mixed (((AllOK.nil Try.prog).and ok31).and ok10) Try.func20 (by kernel_rfl) sSound (fun x => noInv) (fun x => noInv) fun x h => vc20 x.1 x.2.1 h)
set_option maxRecDepth 100000 in
theorem ok27 : Callable Try.prog 27 ∧ Valid Try.prog 27 sAt.spec :=
  AllOK.head (AllOK.d mixed (AllOK.nil Try.prog) Try.func27 (by kernel_rfl) sAt (fun x => noInv) (fun x => noInv) fun x h => vc27 x.1 x.2.1 x.2.2.1 h)
set_option maxRecDepth 100000 in
theorem ok30 : Callable Try.prog 30 ∧ Valid Try.prog 30 sNxt.spec :=
  AllOK.head (AllOK.d mixed ((AllOK.nil Try.prog).and ok27) Try.func30 (by kernel_rfl) sNxt (fun x => noInv) (fun x => noInv) fun x h => vc30 x.1 x.2.1 h)
set_option maxRecDepth 100000 in
theorem ok29 : Callable Try.prog 29 ∧ Valid Try.prog 29 sChk.spec :=
  AllOK.head (AllOK.d mixed ((AllOK.nil Try.prog).and ok20) Try.func29 (by kernel_rfl) sChk (fun x => noInv) (fun x => noInv) fun x h => vc29 x.1 x.2.1 h)
set_option maxRecDepth 100000 in
theorem ok11 : Callable Try.prog 11 ∧ Valid Try.prog 11 sStart.spec :=
  AllOK.head (AllOK.d mixed ((((AllOK.nil Try.prog).and ok27).and ok26).and ok10) Try.func11 (by kernel_rfl) sStart (fun x => noInv) (fun x => noInv) fun x h => vc11 x.1 x.2.1 x.2.2.1 h)
set_option maxRecDepth 100000 in
theorem ok15 : Callable Try.prog 15 ∧ Valid Try.prog 15 sNextR.spec :=
  AllOK.head (AllOK.d mixed (((AllOK.nil Try.prog).and ok30).and ok29) Try.func15 (by kernel_rfl) sNextR (fun x => noInv) (fun x => noInv) fun x h => vc15 x.1 x.2.1 h)
set_option maxRecDepth 100000 in
theorem ok16 : Callable Try.prog 16 ∧ Valid Try.prog 16 sUnit.spec :=
  AllOK.head (AllOK.d mixed (((AllOK.nil Try.prog).and ok30).and ok29) Try.func16 (by kernel_rfl) sUnit (fun x => noInv) (fun x => noInv) fun x h => vc16 x.1 x.2.1 h)
set_option maxRecDepth 100000 in
theorem ok17 : Callable Try.prog 17 ∧ Valid Try.prog 17 sWait.spec :=
  AllOK.head (AllOK.d mixed (((AllOK.nil Try.prog).and ok26).and ok29) Try.func17 (by kernel_rfl) sWait (fun x => noInv) (fun x => noInv) fun x h => vc17 x.1 x.2.1 x.2.2.1 x.2.2.2.1 h)
set_option maxRecDepth 100000 in
theorem ok19 : Callable Try.prog 19 ∧ Valid Try.prog 19 sWake.spec :=
  AllOK.head (AllOK.d mixed (((AllOK.nil Try.prog).and ok30).and ok20) Try.func19 (by kernel_rfl) sWake (fun x => noInv) (fun x => noInv) fun x h => vc19 x.1 x.2.1 x.2.2.1 h)
set_option maxRecDepth 100000 in
theorem ok21 : Callable Try.prog 21 ∧ Valid Try.prog 21 sEager.spec :=
  AllOK.head (AllOK.d mixed ((AllOK.nil Try.prog).and ok20) Try.func21 (by kernel_rfl) sEager (fun x => noInv) (fun x => noInv) fun x h => vc21 x.1 x.2.1 h)
set_option maxRecDepth 100000 in
theorem ok24 : Callable Try.prog 24 ∧ Valid Try.prog 24 sCur.spec :=
  AllOK.head (AllOK.d mixed ((AllOK.nil Try.prog).and ok20) Try.func24 (by kernel_rfl) sCur (fun x => noInv) (fun x => noInv) fun x h => vc24 x.1 x.2.1 h)
set_option maxRecDepth 100000 in
theorem ok28 : Callable Try.prog 28 ∧ Valid Try.prog 28 sStep.spec :=
  AllOK.head (AllOK.f mixed (((AllOK.nil Try.prog).and ok18).and ok9) Try.func28 (by kernel_rfl) sStep (fun x => noInv) (fun x => noInv) fun x h => vc28 x.1.1 x.1.2 x.2.1 h)
set_option maxRecDepth 100000 in
theorem ok14 : Callable Try.prog 14 ∧ Valid Try.prog 14 sProgs.spec :=
  AllOK.head (AllOK.f mixed (((AllOK.nil Try.prog).and ok28).and ok9) Try.func14 (by kernel_rfl) sProgs (fun x => (invsS [(4, inv14 x.1.1 x.1.2), (8, inv14a x.1.1 x.1.2)])) (fun x => noInv) fun x h => vc14 x.1.1 x.1.2 h)
set_option maxRecDepth 100000 in
theorem ok12 : Callable Try.prog 12 ∧ Valid Try.prog 12 sSane.spec :=
  AllOK.head (AllOK.d mixed ((((((AllOK.nil Try.prog).and ok15).and ok19).and ok17).and ok16).and ok11) Try.func12 (by kernel_rfl) sSane (fun x => noInv) (fun x => noInv) fun x h => vc12 () h)
set_option maxRecDepth 100000 in
theorem walk3 (a0 : Int) (a1 : Int) (w : World) (w0 : (Lit.int .i64 a0).wf = true) (w1 : (Lit.int .i64 a1).wf = true) : Calls Try.prog 3 #[.int .i64 a0, .int .i64 a1] w fun e w' => e = .returned (.bool true) ∧ Below w.heap.size w w' :=
  law_ofD (EVD Try.prog [(8, sRoll.spec), (9, sNext.spec), (10, sValid.spec), (11, sStart.spec), (12, sSane.spec)] (invsS [(4, inv3a), (8, inv3b), (12, inv3c)]) noInv [31]) ((((((AllOK.nil Try.prog).and ok12).and ok11).and ok10).and ok9).and ok8) mixed Try.func3 (avs := [.int .i64 a0, .int .i64 a1]) (xs := [.int .i64 a0, .int .i64 a1]) (.cons (.int _ _) (.cons (.int _ _) .nil)) (vc3 a0 a1 trivial) rfl rfl rfl rfl
end Go.Proofs.Ytgaeomkjpcpogaa
