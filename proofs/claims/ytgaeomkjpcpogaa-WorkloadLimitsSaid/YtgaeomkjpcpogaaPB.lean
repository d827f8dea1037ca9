/-
  Lemmas and contracts on the way to the laws of this seat; each theorem states its own conditions, and there are no others.
-/
import Derived.Test.YtgaeomkjpcpogaaVB
namespace Go.Proofs.Ytgaeomkjpcpogaa
open Go Go.RowKit
set_option linter.unusedVariables false
set_option linter.unusedSimpArgs false

def runP (p : List (List Stp)) (r : Run) : List Stp := pr p r.p.toNat
def cur (p : List (List Stp)) (r : Run) : Stp := st (runP p r) r.a.toNat
def SndP (p : List (List Stp)) (r : Run) : Prop := 1 ≤ r.t ∧ r.t ≤ 2147483647 ∧ 0 ≤ r.p ∧ r.p < p.length ∧
  ((r.s = 4 ∧ r.a = (runP p r).length ∧ r.l = 0 ∧ r.u = 0) ∨ (0 ≤ r.s ∧ r.s ≤ 3 ∧ 0 ≤ r.a ∧ r.a < (runP p r).length ∧ 0 ≤ r.u ∧ r.u ≤ 1048576 ∧ (r.u = 0 ∨ r.s = 1) ∧ (((cur p r).k = 1 ∧ 1 ≤ r.l ∧ r.l ≤ (cur p r).n) ∨ ((cur p r).k ≠ 1 ∧ r.l = 0))))
noncomputable def sndB (p : List (List Stp)) (r : Run) : Bool := @decide (SndP p r) (Classical.propDecidable _)
theorem sndB_iff {p : List (List Stp)} {r : Run} : sndB p r = true ↔ SndP p r := by
  unfold sndB; exact @decide_eq_true_iff _ (Classical.propDecidable _)
theorem sndB_of {p : List (List Stp)} {r : Run} (h : SndP p r) : sndB p r = true := sndB_iff.2 h
theorem sndB_not {p : List (List Stp)} {r : Run} (h : ¬ SndP p r) : sndB p r = false := by
  rw [← Bool.not_eq_true, sndB_iff]; exact h
noncomputable def soundB (p : List (List Stp)) (r : Run) : Bool := validB p && sndB p r
theorem soundB_iff {p : List (List Stp)} {r : Run} : soundB p r = true ↔ ValidP p ∧ SndP p r := by
  unfold soundB; rw [Bool.and_eq_true, validB_iff, sndB_iff]
def zR : Run := ⟨0, 0, 0, 0, 0, 0⟩
def atR (p : List (List Stp)) (r : Run) (i : Int) : Run := ⟨r.t, r.p, i, if i = (runP p r).length then 0 else if (st (runP p r) i.toNat).k = 1 then (st (runP p r) i.toNat).n else 0, if i = (runP p r).length then 4 else 0, 0⟩
def nxtI (p : List (List Stp)) (r : Run) : Int := if (cur p r).k = 11 then 0 else r.a + 1
def nxtR (p : List (List Stp)) (r : Run) : Run := atR p r (nxtI p r)
noncomputable def chkE (p : List (List Stp)) (r : Run) : Int := if soundB p r = false then 1 else if r.s = 4 then 9 else 0
noncomputable def nextR (p : List (List Stp)) (r : Run) : Run := if chkE p r = 0 then nxtR p r else zR
noncomputable def unitE (p : List (List Stp)) (r : Run) : Int := if chkE p r = 0 then (if r.s = 0 ∧ (cur p r).k = 1 then 0 else 9) else chkE p r
noncomputable def unitR (p : List (List Stp)) (r : Run) : Run := if unitE p r = 0 then (if r.l - 1 = 0 then nxtR p r else ⟨r.t, r.p, r.a, r.l - 1, r.s, r.u⟩) else zR
noncomputable def waitE (p : List (List Stp)) (r : Run) (s u : Int) : Int := if chkE p r = 0 then (if (1 ≤ s ∧ s ≤ 3) ∧ (0 ≤ u ∧ u ≤ 1048576) ∧ (u = 0 ∨ s = 1) then 0 else 3) else chkE p r
noncomputable def waitR (p : List (List Stp)) (r : Run) (s u : Int) : Run := if waitE p r s u = 0 then ⟨r.t, r.p, r.a, r.l, s, u⟩ else zR
noncomputable def wakeB (p : List (List Stp)) (r : Run) (now : Int) : Bool := soundB p r && decide (r.s = 1) && decide (r.u ≤ now)
noncomputable def wakeR (p : List (List Stp)) (r : Run) (now : Int) : Run := if wakeB p r now = true then nxtR p r else r
noncomputable def startE (p : List (List Stp)) (t k : Int) : Int := if validB p = true then (if 0 ≤ k ∧ k < p.length then (if 1 ≤ t ∧ t ≤ 2147483647 then 0 else 3) else 4) else 1
noncomputable def startR (p : List (List Stp)) (t k : Int) : Run := if startE p t k = 0 then atR p ⟨t, k, 0, 0, 0, 0⟩ 0 else zR
noncomputable def curB (p : List (List Stp)) (r : Run) : Bool := soundB p r && !decide (r.s = 4)
noncomputable def curS (p : List (List Stp)) (r : Run) : Stp := if curB p r = true then cur p r else ⟨0, 0, 0, 0⟩
noncomputable def eagerB (p : List (List Stp)) (r : Run) : Bool := soundB p r && (decide (r.s = 0) || decide (r.s = 3))
theorem chk0 {p : List (List Stp)} {r : Run} : chkE p r = 0 ↔ (ValidP p ∧ SndP p r) ∧ r.s ≠ 4 := by
  unfold chkE
  rw [← soundB_iff]
  cases soundB p r <;> by_cases h : r.s = 4 <;> simp [h]
theorem go_at {p : List (List Stp)} {r : Run} (h : ValidP p ∧ SndP p r) (h4 : r.s ≠ 4) : 0 ≤ r.p ∧ r.p < p.length ∧ 0 ≤ r.a ∧ r.a < (runP p r).length ∧ (runP p r).length ≤ 64 := by
  obtain ⟨hv, h1, h2, h3, h5, h6⟩ := h
  have := (hv.2 r.p.toNat (by omega)).2.1
  rcases h6 with h6 | h6
  · exact absurd h6.1 h4
  · exact ⟨h3, h5, h6.2.2.1, h6.2.2.2.1, this⟩
end Go.Proofs.Ytgaeomkjpcpogaa
