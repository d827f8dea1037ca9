/-
  Lemmas and contracts on the way to the laws of this seat; each theorem states its own conditions, and there are no others.
-/
import Derived.Test.YtaipgdhaoldhjaaE29
import Derived.Test.YtaipgdhaoldhjaaVT
namespace Go.Proofs.Ytaipgdhaoldhjaa
open Go Go.RowKit
set_option linter.unusedVariables false
set_option linter.unusedSimpArgs false
set_option linter.unusedVariables false
set_option maxRecDepth 100000 in
theorem ok29 : Callable Try.prog 29 ∧ Valid Try.prog 29 sCap.spec :=
  AllOK.head (AllOK.d mixed (AllOK.nil Try.prog) Try.func29 (by kernel_rfl) sCap (fun x => noInv) (fun x => noInv) fun x h => vc29 x.1 x.2.1 x.2.2.1 h)
set_option maxRecDepth 100000 in
theorem ok30 : Callable Try.prog 30 ∧ Valid Try.prog 30 sIdx.spec :=
  AllOK.head (AllOK.d mixed ((AllOK.nil Try.prog).and ok29) Try.func30 (by kernel_rfl) sIdx (fun x => (invsS [(2, inv30 x.1)])) (fun x => noInv) fun x h => vc30 x.1 x.2.1.1 x.2.1.2 h)
set_option maxRecDepth 100000 in
theorem ok28 : Callable Try.prog 28 ∧ Valid Try.prog 28 sCont.spec :=
  AllOK.head (AllOK.d mixed ((AllOK.nil Try.prog).and ok30) Try.func28 (by kernel_rfl) sCont (fun x => noInv) (fun x => noInv) fun x h => vc28 x.1 x.2.1.1 x.2.1.2 h)
set_option maxRecDepth 100000 in
theorem ok21 : Callable Try.prog 21 ∧ Valid Try.prog 21 sWithin.spec :=
  AllOK.head (AllOK.d mixed ((AllOK.nil Try.prog).and ok28) Try.func21 (by kernel_rfl) sWithin (fun x => noInv) (fun x => noInv) fun x h => vc21 x.1 x.2.1 x.2.2.1 h)
set_option maxRecDepth 100000 in
theorem ok18 : Callable Try.prog 18 ∧ Valid Try.prog 18 sValid.spec :=
  AllOK.head (AllOK.d mixed ((AllOK.nil Try.prog).and ok21) Try.func18 (by kernel_rfl) sValid (fun x => noInv) (fun x => noInv) fun x h => vc18 x.1 x.2.1 x.2.2.1 h)
set_option maxRecDepth 100000 in
theorem ok23 : Callable Try.prog 23 ∧ Valid Try.prog 23 sLevel.spec :=
  AllOK.head (AllOK.d mixed (AllOK.nil Try.prog) Try.func23 (by kernel_rfl) sLevel (fun x => noInv) (fun x => noInv) fun x h => vc23 x.1 x.2.1 x.2.2.1 x.2.2.2.1 h)
set_option maxRecDepth 100000 in
theorem ok16 : Callable Try.prog 16 ∧ Valid Try.prog 16 sLevel.spec :=
  AllOK.head (AllOK.d mixed (((AllOK.nil Try.prog).and ok21).and ok23) Try.func16 (by kernel_rfl) sLevel (fun x => (invsS [(3, inv16 x.2.2.1 x.2.2.2.1)])) (fun x => noInv) fun x h => vc16 x.1 x.2.1 x.2.2.1 x.2.2.2.1 h)
set_option maxRecDepth 100000 in
theorem ok22 : Callable Try.prog 22 ∧ Valid Try.prog 22 sFirst.spec :=
  AllOK.head (AllOK.f mixed ((AllOK.nil Try.prog).and ok23) Try.func22 (by kernel_rfl) sFirst (fun x => (invsS [(3, inv22 x.1 x.2.1 x.2.2.1)])) (fun x => noInv) fun x h => vc22 x.1 x.2.1 x.2.2.1 h)
set_option maxRecDepth 100000 in
theorem ok15 : Callable Try.prog 15 ∧ Valid Try.prog 15 sFirst.spec :=
  AllOK.head (AllOK.f mixed (((AllOK.nil Try.prog).and ok21).and ok22) Try.func15 (by kernel_rfl) sFirst (fun x => noInv) (fun x => noInv) fun x h => vc15 x.1 x.2.1 x.2.2.1 h)
set_option maxRecDepth 100000 in
theorem ok25 : Callable Try.prog 25 ∧ Valid Try.prog 25 sBegin.spec :=
  AllOK.head (AllOK.f mixed (AllOK.nil Try.prog) Try.func25 (by kernel_rfl) sBegin (fun x => (invsS [(4, inv25 x.1 x.2.1 x.2.2.1), (8, inv25a x.1 x.2.1 x.2.2.1), (15, inv25b x.1 x.2.1 x.2.2.1)])) (fun x => noInv) fun x h => vc25 x.1 x.2.1 x.2.2.1 h)
set_option maxRecDepth 100000 in
theorem ok26 : Callable Try.prog 26 ∧ Valid Try.prog 26 sSum.spec :=
  AllOK.head (AllOK.d mixed (AllOK.nil Try.prog) Try.func26 (by kernel_rfl) sSum (fun x => (invsS [(3, inv26 x.1)])) (fun x => noInv) fun x h => vc26 x.1 h)
set_option maxRecDepth 100000 in
theorem ok19 : Callable Try.prog 19 ∧ Valid Try.prog 19 sDivide.spec :=
  AllOK.head (AllOK.f mixed ((((AllOK.nil Try.prog).and ok22).and ok26).and ok25) Try.func19 (by kernel_rfl) sDivide (fun x => (invsS [(3, inv19 x.1 x.2.1 x.2.2.1)])) (fun x => noInv) fun x h => vc19 x.1 x.2.1 x.2.2.1 h)
set_option maxRecDepth 100000 in
theorem ok13 : Callable Try.prog 13 ∧ Valid Try.prog 13 sDivide.spec :=
  AllOK.head (AllOK.f mixed (((AllOK.nil Try.prog).and ok19).and ok18) Try.func13 (by kernel_rfl) sDivide (fun x => noInv) (fun x => noInv) fun x h => vc13 x.1 x.2.1 x.2.2.1 h)
set_option maxRecDepth 100000 in
theorem ok11 : Callable Try.prog 11 ∧ Valid Try.prog 11 sNext.spec :=
  AllOK.head (AllOK.f mixed (AllOK.nil Try.prog) Try.func11 (by kernel_rfl) sNext (fun x => noInv) (fun x => noInv) fun x h => vc11 x.1.1 x.1.2 x.2.1 h)
set_option maxRecDepth 100000 in
theorem ok10 : Callable Try.prog 10 ∧ Valid Try.prog 10 sRoll.spec :=
  AllOK.head (AllOK.d mixed (AllOK.nil Try.prog) Try.func10 (by kernel_rfl) sRoll (fun x => noInv) (fun x => noInv) fun x h => vc10 x.1 h)
set_option maxRecDepth 100000 in
theorem ok8 : Callable Try.prog 8 ∧ Valid Try.prog 8 sLight.spec :=
  AllOK.head (AllOK.d mixed (AllOK.nil Try.prog) Try.func8 (by kernel_rfl) sLight (fun x => noInv) (fun x => noInv) fun x h => vc8 x.1 h)
set_option maxRecDepth 100000 in
theorem ok27 : Callable Try.prog 27 ∧ Valid Try.prog 27 sWeight.spec :=
  AllOK.head (AllOK.f mixed ((AllOK.nil Try.prog).and ok11) Try.func27 (by kernel_rfl) sWeight (fun x => noInv) (fun x => noInv) fun x h => vc27 x.1.1 x.1.2 h)
set_option maxRecDepth 100000 in
theorem ok20 : Callable Try.prog 20 ∧ Valid Try.prog 20 sWeights.spec :=
  AllOK.head (AllOK.f mixed ((AllOK.nil Try.prog).and ok27) Try.func20 (by kernel_rfl) sWeights (fun x => (invsS [(3, inv20 x.1.1 x.1.2 x.2.1)])) (fun x => noInv) fun x h => vc20 x.1.1 x.1.2 x.2.1 h)
set_option maxRecDepth 100000 in
theorem ok14 : Callable Try.prog 14 ∧ Valid Try.prog 14 sDraw.spec :=
  AllOK.head (AllOK.f mixed (((AllOK.nil Try.prog).and ok20).and ok11) Try.func14 (by kernel_rfl) sDraw (fun x => (invsS [(4, inv14 x.1.1 x.1.2)])) (fun x => noInv) fun x h => vc14 x.1.1 x.1.2 h)
set_option maxRecDepth 100000 in
theorem ok12 : Callable Try.prog 12 ∧ Valid Try.prog 12 sSame.spec :=
  AllOK.head (AllOK.d mixed (AllOK.nil Try.prog) Try.func12 (by kernel_rfl) sSame (fun x => (invsS [(4, inv12 x.1 x.2.1)])) (fun x => noInv) fun x h => vc12 x.1 x.2.1 h)
set_option maxRecDepth 100000 in
theorem ok9 : Callable Try.prog 9 ∧ Valid Try.prog 9 sSane.spec :=
  AllOK.head (AllOK.d mixed (((AllOK.nil Try.prog).and ok12).and ok13) Try.func9 (by kernel_rfl) sSane (fun x => noInv) (fun x => noInv) fun x h => vc9 () h)
set_option maxRecDepth 100000 in
theorem ok24 : Callable Try.prog 24 ∧ Valid Try.prog 24 sClone.spec :=
  AllOK.head (AllOK.d mixed (AllOK.nil Try.prog) Try.func24 (by kernel_rfl) sClone (fun x => noInv) (fun x => noInv) fun x h => vc24 x.1 h)
set_option maxRecDepth 100000 in
theorem ok17 : Callable Try.prog 17 ∧ Valid Try.prog 17 sTree.spec :=
  AllOK.head (AllOK.fD mixed ((((AllOK.nil Try.prog).and ok24).and ok19).and ok18) Try.func17 (by kernel_rfl) sTree [22] (fun x => (invsS [(5, inv17a x.2.1), (13, inv17b x.2.1 x.2.2.2.1), (18, inv17c x.2.1 x.2.2.2.1), (24, inv17d x.2.1 x.2.2.2.1 x.1), (31, inv17e x.2.1 x.2.2.1), (36, inv17f x.2.1)])) (fun x => noInv) fun x h => vc17 x.1 x.2.1 x.2.2.1 x.2.2.2.1 h)
set_option maxRecDepth 100000 in
theorem walk7 (a0 : Option Addr) (len0 cap0 : Nat) (z0 : List Int) (a1 : Int) (w : World) (w0 : IsRow .i64 w a0 len0 cap0 z0) (w1 : (Lit.int .u16 a1).wf = true) : Calls Try.prog 7 #[.slice a0 len0 cap0, .int .u16 a1] w fun e w' => e = .returned (.bool true) ∧ Below w.heap.size w w' :=
  law_ofD (EV Try.prog [(8, sLight.spec), (9, sSane.spec), (10, sRoll.spec), (14, sDraw.spec), (11, sNext.spec), (17, sTree.spec)] (invsS [(7, inv7a (z0.take len0)), (17, inv7b), (21, inv7c)]) noInv) (((((((AllOK.nil Try.prog).and ok17).and ok11).and ok14).and ok10).and ok9).and ok8) mixed Try.func7 (avs := [.irec true 0 (z0.take len0), .int .u16 a1]) (xs := [.slice a0 len0 cap0, .int .u16 a1]) (.cons (row_rel w0) (.cons (.int _ _) .nil)) (vc7 (z0.take len0) a1 (wf_u16 w1)) rfl rfl rfl rfl
end Go.Proofs.Ytaipgdhaoldhjaa
