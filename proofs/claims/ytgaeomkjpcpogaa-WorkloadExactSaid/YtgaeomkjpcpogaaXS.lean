/-
  Lemmas and contracts on the way to the laws of this seat; each theorem states its own conditions, and there are no others.
-/
import Derived.Test.YtgaeomkjpcpogaaXR

namespace Go.Proofs.Ytgaeomkjpcpogaa
open Go
set_option linter.unusedVariables false
set_option linter.unusedSimpArgs false
set_option linter.unusedVariables false


set_option maxRecDepth 100000 in
theorem vc39 (p : List (List Stp)) (r : Run) (hx : True) : sSound.vc (EV Try.prog [(38, sValid.spec), (48, sIn.spec)] noInv noInv) Try.f39 (p, r, ()) := by
  have e : (True ∧ ((!validB p) = false → (!validB p) = false) ∧ ((!validB p) = false → (!validB p) = false) ∧ ((!validB p) = false → True) ∧ ((!validB p) = false → (!validB p) = false) ∧ ((!validB p) = false → (!validB p) = false) ∧ ((!validB p || !inb r.t (1 : Int) (2147483647 : Int)) = false → (!validB p || !inb r.t (1 : Int) (2147483647 : Int)) = false) ∧ ((!validB p || !inb r.t (1 : Int) (2147483647 : Int)) = false → (!validB p || !inb r.t (1 : Int) (2147483647 : Int)) = false) ∧ ((!validB p || !inb r.t (1 : Int) (2147483647 : Int)) = false → (!validB p || !inb r.t (1 : Int) (2147483647 : Int)) = false) ∧ ((!validB p || !inb r.t (1 : Int) (2147483647 : Int)) = false → i64R ((↑p.length : Int) - (1 : Int))) ∧ ((!validB p || !inb r.t (1 : Int) (2147483647 : Int)) = false → (!validB p || !inb r.t (1 : Int) (2147483647 : Int)) = false) ∧ ((!validB p || !inb r.t (1 : Int) (2147483647 : Int)) = false → (!validB p || !inb r.t (1 : Int) (2147483647 : Int)) = false) ∧ ((!validB p || !inb r.t (1 : Int) (2147483647 : Int)) = false → True) ∧ ((!validB p || !inb r.t (1 : Int) (2147483647 : Int)) = false → (!validB p || !inb r.t (1 : Int) (2147483647 : Int)) = false) ∧ ((!validB p || !inb r.t (1 : Int) (2147483647 : Int)) = false → (!validB p || !inb r.t (1 : Int) (2147483647 : Int)) = false) ∧ ((!validB p || !inb r.t (1 : Int) (2147483647 : Int) || !inb r.p (0 : Int) ((↑p.length : Int) - (1 : Int))) = true → ∃ (y : Unit), True ∧ false = soundB p r) ∧ ((!validB p || !inb r.t (1 : Int) (2147483647 : Int) || !inb r.p (0 : Int) ((↑p.length : Int) - (1 : Int))) = false → ((0 : Int) ≤ r.p ∧ r.p < (↑p.length : Int)) ∧ (decide (r.s = (4 : Int)) = true → (decide (r.a = (↑(p.getD r.p.toNat (NilL Stp)).length : Int)) = true → decide (r.a = (↑(p.getD r.p.toNat (NilL Stp)).length : Int)) = true) ∧ (decide (r.a = (↑(p.getD r.p.toNat (NilL Stp)).length : Int)) = true → decide (r.a = (↑(p.getD r.p.toNat (NilL Stp)).length : Int)) = true) ∧ (decide (r.a = (↑(p.getD r.p.toNat (NilL Stp)).length : Int)) = true → decide (r.a = (↑(p.getD r.p.toNat (NilL Stp)).length : Int)) = true) ∧ ((decide (r.a = (↑(p.getD r.p.toNat (NilL Stp)).length : Int)) && decide (r.l = (0 : Int))) = true → (decide (r.a = (↑(p.getD r.p.toNat (NilL Stp)).length : Int)) && decide (r.l = (0 : Int))) = true) ∧ ((decide (r.a = (↑(p.getD r.p.toNat (NilL Stp)).length : Int)) && decide (r.l = (0 : Int))) = true → (decide (r.a = (↑(p.getD r.p.toNat (NilL Stp)).length : Int)) && decide (r.l = (0 : Int))) = true) ∧ ((decide (r.a = (↑(p.getD r.p.toNat (NilL Stp)).length : Int)) && decide (r.l = (0 : Int))) = true → (decide (r.a = (↑(p.getD r.p.toNat (NilL Stp)).length : Int)) && decide (r.l = (0 : Int))) = true) ∧ ∃ (y : Unit), True ∧ (decide (r.a = (↑(p.getD r.p.toNat (NilL Stp)).length : Int)) && decide (r.l = (0 : Int)) && decide (r.u = (0 : Int))) = soundB p r) ∧ (decide (r.s = (4 : Int)) = false → True ∧ ((!inb r.s (0 : Int) (3 : Int)) = false → (!inb r.s (0 : Int) (3 : Int)) = false) ∧ ((!inb r.s (0 : Int) (3 : Int)) = false → (!inb r.s (0 : Int) (3 : Int)) = false) ∧ ((!inb r.s (0 : Int) (3 : Int)) = false → (!inb r.s (0 : Int) (3 : Int)) = false) ∧ ((!inb r.s (0 : Int) (3 : Int)) = false → i64R ((↑(p.getD r.p.toNat (NilL Stp)).length : Int) - (1 : Int))) ∧ ((!inb r.s (0 : Int) (3 : Int)) = false → (!inb r.s (0 : Int) (3 : Int)) = false) ∧ ((!inb r.s (0 : Int) (3 : Int)) = false → (!inb r.s (0 : Int) (3 : Int)) = false) ∧ ((!inb r.s (0 : Int) (3 : Int)) = false → True) ∧ ((!inb r.s (0 : Int) (3 : Int)) = false → (!inb r.s (0 : Int) (3 : Int)) = false) ∧ ((!inb r.s (0 : Int) (3 : Int)) = false → (!inb r.s (0 : Int) (3 : Int)) = false) ∧ ((!inb r.s (0 : Int) (3 : Int) || !inb r.a (0 : Int) ((↑(p.getD r.p.toNat (NilL Stp)).length : Int) - (1 : Int))) = false → (!inb r.s (0 : Int) (3 : Int) || !inb r.a (0 : Int) ((↑(p.getD r.p.toNat (NilL Stp)).length : Int) - (1 : Int))) = false) ∧ ((!inb r.s (0 : Int) (3 : Int) || !inb r.a (0 : Int) ((↑(p.getD r.p.toNat (NilL Stp)).length : Int) - (1 : Int))) = false → (!inb r.s (0 : Int) (3 : Int) || !inb r.a (0 : Int) ((↑(p.getD r.p.toNat (NilL Stp)).length : Int) - (1 : Int))) = false) ∧ ((!inb r.s (0 : Int) (3 : Int) || !inb r.a (0 : Int) ((↑(p.getD r.p.toNat (NilL Stp)).length : Int) - (1 : Int))) = false → True) ∧ ((!inb r.s (0 : Int) (3 : Int) || !inb r.a (0 : Int) ((↑(p.getD r.p.toNat (NilL Stp)).length : Int) - (1 : Int))) = false → (!inb r.s (0 : Int) (3 : Int) || !inb r.a (0 : Int) ((↑(p.getD r.p.toNat (NilL Stp)).length : Int) - (1 : Int))) = false) ∧ ((!inb r.s (0 : Int) (3 : Int) || !inb r.a (0 : Int) ((↑(p.getD r.p.toNat (NilL Stp)).length : Int) - (1 : Int))) = false → (!inb r.s (0 : Int) (3 : Int) || !inb r.a (0 : Int) ((↑(p.getD r.p.toNat (NilL Stp)).length : Int) - (1 : Int))) = false) ∧ ((!inb r.s (0 : Int) (3 : Int) || !inb r.a (0 : Int) ((↑(p.getD r.p.toNat (NilL Stp)).length : Int) - (1 : Int)) || !inb r.u (0 : Int) (1048576 : Int)) = false → (!inb r.s (0 : Int) (3 : Int) || !inb r.a (0 : Int) ((↑(p.getD r.p.toNat (NilL Stp)).length : Int) - (1 : Int)) || !inb r.u (0 : Int) (1048576 : Int)) = false) ∧ ((!inb r.s (0 : Int) (3 : Int) || !inb r.a (0 : Int) ((↑(p.getD r.p.toNat (NilL Stp)).length : Int) - (1 : Int)) || !inb r.u (0 : Int) (1048576 : Int)) = false → (!inb r.s (0 : Int) (3 : Int) || !inb r.a (0 : Int) ((↑(p.getD r.p.toNat (NilL Stp)).length : Int) - (1 : Int)) || !inb r.u (0 : Int) (1048576 : Int)) = false) ∧ ((!inb r.s (0 : Int) (3 : Int) || !inb r.a (0 : Int) ((↑(p.getD r.p.toNat (NilL Stp)).length : Int) - (1 : Int)) || !inb r.u (0 : Int) (1048576 : Int)) = false → (!inb r.s (0 : Int) (3 : Int) || !inb r.a (0 : Int) ((↑(p.getD r.p.toNat (NilL Stp)).length : Int) - (1 : Int)) || !inb r.u (0 : Int) (1048576 : Int)) = false) ∧ ((!(!inb r.s (0 : Int) (3 : Int) || !inb r.a (0 : Int) ((↑(p.getD r.p.toNat (NilL Stp)).length : Int) - (1 : Int)) || !inb r.u (0 : Int) (1048576 : Int)) && !decide (r.u = (0 : Int))) = true → (!(!inb r.s (0 : Int) (3 : Int) || !inb r.a (0 : Int) ((↑(p.getD r.p.toNat (NilL Stp)).length : Int) - (1 : Int)) || !inb r.u (0 : Int) (1048576 : Int)) && !decide (r.u = (0 : Int))) = true) ∧ ((!(!inb r.s (0 : Int) (3 : Int) || !inb r.a (0 : Int) ((↑(p.getD r.p.toNat (NilL Stp)).length : Int) - (1 : Int)) || !inb r.u (0 : Int) (1048576 : Int)) && !decide (r.u = (0 : Int))) = true → (!(!inb r.s (0 : Int) (3 : Int) || !inb r.a (0 : Int) ((↑(p.getD r.p.toNat (NilL Stp)).length : Int) - (1 : Int)) || !inb r.u (0 : Int) (1048576 : Int)) && !decide (r.u = (0 : Int))) = true) ∧ ((!inb r.s (0 : Int) (3 : Int) || !inb r.a (0 : Int) ((↑(p.getD r.p.toNat (NilL Stp)).length : Int) - (1 : Int)) || !inb r.u (0 : Int) (1048576 : Int)) = false → (!inb r.s (0 : Int) (3 : Int) || !inb r.a (0 : Int) ((↑(p.getD r.p.toNat (NilL Stp)).length : Int) - (1 : Int)) || !inb r.u (0 : Int) (1048576 : Int)) = false) ∧ ((!inb r.s (0 : Int) (3 : Int) || !inb r.a (0 : Int) ((↑(p.getD r.p.toNat (NilL Stp)).length : Int) - (1 : Int)) || !inb r.u (0 : Int) (1048576 : Int)) = false → (!decide (r.u = (0 : Int))) = true → (!(!inb r.s (0 : Int) (3 : Int) || !inb r.a (0 : Int) ((↑(p.getD r.p.toNat (NilL Stp)).length : Int) - (1 : Int)) || !inb r.u (0 : Int) (1048576 : Int)) && !decide (r.u = (0 : Int))) = true) ∧ ((!inb r.s (0 : Int) (3 : Int) || !inb r.a (0 : Int) ((↑(p.getD r.p.toNat (NilL Stp)).length : Int) - (1 : Int)) || !inb r.u (0 : Int) (1048576 : Int)) = false → (!inb r.s (0 : Int) (3 : Int) || !inb r.a (0 : Int) ((↑(p.getD r.p.toNat (NilL Stp)).length : Int) - (1 : Int)) || !inb r.u (0 : Int) (1048576 : Int)) = false) ∧ ((!inb r.s (0 : Int) (3 : Int) || !inb r.a (0 : Int) ((↑(p.getD r.p.toNat (NilL Stp)).length : Int) - (1 : Int)) || !inb r.u (0 : Int) (1048576 : Int) || !decide (r.u = (0 : Int)) && !decide (r.s = (1 : Int))) = true → ∃ (y : Unit), True ∧ false = soundB p r) ∧ ((!inb r.s (0 : Int) (3 : Int) || !inb r.a (0 : Int) ((↑(p.getD r.p.toNat (NilL Stp)).length : Int) - (1 : Int)) || !inb r.u (0 : Int) (1048576 : Int) || !decide (r.u = (0 : Int)) && !decide (r.s = (1 : Int))) = false → ((0 : Int) ≤ r.a ∧ r.a < (↑(p.getD r.p.toNat (NilL Stp)).length : Int)) ∧ (decide (((p.getD r.p.toNat (NilL Stp)).getD r.a.toNat { k := (0 : Int), n := (0 : Int), a := (0 : Int), t := (0 : Int) : Stp }).k = (1 : Int)) = true → ((0 : Int) ≤ r.a ∧ r.a < (↑(p.getD r.p.toNat (NilL Stp)).length : Int)) ∧ True ∧ ∃ (y : Unit), True ∧ inb r.l (1 : Int) ((p.getD r.p.toNat (NilL Stp)).getD r.a.toNat { k := (0 : Int), n := (0 : Int), a := (0 : Int), t := (0 : Int) : Stp }).n = soundB p r) ∧ (decide (((p.getD r.p.toNat (NilL Stp)).getD r.a.toNat { k := (0 : Int), n := (0 : Int), a := (0 : Int), t := (0 : Int) : Stp }).k = (1 : Int)) = false → ∃ (y : Unit), True ∧ decide (r.l = (0 : Int)) = soundB p r))))) = sSound.vc (EV Try.prog [(38, sValid.spec), (48, sIn.spec)] noInv noInv) Try.f39 (p, r, ()) := by kernel_rfl
  rw [← e]
  clear e
  have e1 : ∀ k, p.getD k (NilL Stp) = pr p k := fun _ => rfl
  have e2 : ∀ (l : List Stp) k, l.getD k ⟨0, 0, 0, 0⟩ = st l k := fun _ _ => rfl
  try simp only [e1, e2]
  clear e1 e2
  simp only [imp_self, true_and, and_true, exists_const, implies_true, gd1, gd2, gd3, gd4, gd5, gd6 ]
  simp only [Prod.forall, Prod.exists, exists_const, implies_true, not_true_eq_false, not_false_eq_true, or_self, or_false, false_or, or_true, true_or, and_false, false_and, forall_const, true_and, and_true, i64R, imp_self, Int.reduceLE, Int.reduceLT, Int.reduceNeg, false_implies, true_implies, decide_eq_true_eq, decide_eq_false_iff_not, Bool.not_eq_true', Bool.not_eq_false', Bool.true_eq_false, Bool.false_eq_true, Bool.and_eq_true, Bool.or_eq_true, Bool.and_eq_false_iff, Bool.or_eq_false_iff ]
  have ib : ∀ a b c : Int, inb a b c = true ↔ b ≤ a ∧ a ≤ c := fun a b c => by simp only [inb, Bool.and_eq_true, decide_eq_true_eq]
  have ibn : ∀ a b c : Int, inb a b c = false ↔ ¬ (b ≤ a ∧ a ≤ c) := fun a b c => by rw [← ib]; simp
  have no : (soundB p r = true → False) → false = soundB p r := fun h => by
    cases e : soundB p r
    · rfl
    · exact (h e).elim
  simp only [ib, ibn]
  have eP : runP p r = pr p r.p.toNat := rfl
  have eC : cur p r = st (pr p r.p.toNat) r.a.toNat := rfl
  refine ⟨fun h => ?_, fun h => no fun hs => ?_, fun h => ⟨by omega, fun h4 => ?_, fun h4 => ⟨fun _ => ?_, fun hb => no fun hs => ?_, fun hg => ⟨by omega, fun hk => ⟨by omega, ?_⟩, fun hk => ?_⟩⟩⟩⟩
  · have := ((validB_iff p).1 h.1).1
    omega
  · obtain ⟨hv, h1, h2, h3, h4, h5⟩ := soundB_iff.1 hs
    rcases h with (h | h) | h
    · rw [validB_of hv] at h; cases h
    · omega
    · omega
  · rw [Bool.eq_iff_iff, soundB_iff]
    simp only [Bool.and_eq_true, decide_eq_true_eq]
    constructor
    · rintro ⟨⟨a, b⟩, c⟩
      exact ⟨(validB_iff p).1 h.1.1, by omega, by omega, by omega, by omega, .inl ⟨h4, a, b, c⟩⟩
    · rintro ⟨hv, _, _, _, _, h5⟩
      rcases h5 with ⟨_, a, b, c⟩ | h5
      · exact ⟨⟨a, b⟩, c⟩
      · omega
  · have := (((validB_iff p).1 h.1.1).2 r.p.toNat (by omega)).2.1
    omega
  · obtain ⟨hv, h1, h2, h3, h4', h5⟩ := soundB_iff.1 hs
    rw [eP] at h5
    omega
  · rw [Bool.eq_iff_iff, soundB_iff, ib]
    constructor
    · rintro ⟨a, b⟩
      refine ⟨(validB_iff p).1 h.1.1, by omega, by omega, by omega, by omega, .inr ?_⟩
      rw [eP, eC]
      refine ⟨by omega, by omega, by omega, by omega, by omega, by omega, by omega, .inl ⟨hk, a, b⟩⟩
    · rintro ⟨hv, _, _, _, _, h5⟩
      rw [eP, eC] at h5
      omega
  · rw [Bool.eq_iff_iff, soundB_iff, decide_eq_true_eq]
    constructor
    · intro a
      refine ⟨(validB_iff p).1 h.1.1, by omega, by omega, by omega, by omega, .inr ?_⟩
      rw [eP, eC]
      refine ⟨by omega, by omega, by omega, by omega, by omega, by omega, by omega, .inr ⟨hk, a⟩⟩
    · rintro ⟨hv, _, _, _, _, h5⟩
      rw [eP, eC] at h5
      omega


set_option maxRecDepth 100000 in
theorem vc49 (p : List (List Stp)) (r : Run) (i : Int) (hx : 0 ≤ r.p ∧ r.p < p.length ∧ 0 ≤ i ∧ i ≤ (runP p r).length) : sAt.vc (EV Try.prog [] noInv noInv) Try.f49 (p, r, i, ()) := by
  have e : (((0 : Int) ≤ r.p ∧ r.p < (↑p.length : Int)) ∧ (decide (i = (↑(p.getD r.p.toNat (NilL Stp)).length : Int)) = true → ∃ (y : Unit), True ∧ r.t = r.t ∧ r.p = r.p ∧ i = i ∧ ((0 : Int) = if i = (↑(runP p r).length : Int) then (0 : Int) else if (st (runP p r) i.toNat).k = (1 : Int) then (st (runP p r) i.toNat).n else (0 : Int)) ∧ ((4 : Int) = if i = (↑(runP p r).length : Int) then (4 : Int) else (0 : Int)) ∧ (0 : Int) = (0 : Int)) ∧ (decide (i = (↑(p.getD r.p.toNat (NilL Stp)).length : Int)) = false → ((0 : Int) ≤ i ∧ i < (↑(p.getD r.p.toNat (NilL Stp)).length : Int)) ∧ (decide (((p.getD r.p.toNat (NilL Stp)).getD i.toNat { k := (0 : Int), n := (0 : Int), a := (0 : Int), t := (0 : Int) : Stp }).k = (1 : Int)) = true → ((0 : Int) ≤ i ∧ i < (↑(p.getD r.p.toNat (NilL Stp)).length : Int)) ∧ ∃ (y : Unit), True ∧ r.t = r.t ∧ r.p = r.p ∧ i = i ∧ (((p.getD r.p.toNat (NilL Stp)).getD i.toNat { k := (0 : Int), n := (0 : Int), a := (0 : Int), t := (0 : Int) : Stp }).n = if i = (↑(runP p r).length : Int) then (0 : Int) else if (st (runP p r) i.toNat).k = (1 : Int) then (st (runP p r) i.toNat).n else (0 : Int)) ∧ ((0 : Int) = if i = (↑(runP p r).length : Int) then (4 : Int) else (0 : Int)) ∧ (0 : Int) = (0 : Int)) ∧ (decide (((p.getD r.p.toNat (NilL Stp)).getD i.toNat { k := (0 : Int), n := (0 : Int), a := (0 : Int), t := (0 : Int) : Stp }).k = (1 : Int)) = false → ∃ (y : Unit), True ∧ r.t = r.t ∧ r.p = r.p ∧ i = i ∧ ((0 : Int) = if i = (↑(runP p r).length : Int) then (0 : Int) else if (st (runP p r) i.toNat).k = (1 : Int) then (st (runP p r) i.toNat).n else (0 : Int)) ∧ ((0 : Int) = if i = (↑(runP p r).length : Int) then (4 : Int) else (0 : Int)) ∧ (0 : Int) = (0 : Int)))) = sAt.vc (EV Try.prog [] noInv noInv) Try.f49 (p, r, i, ()) := by kernel_rfl
  rw [← e]
  clear e
  have e1 : ∀ k, p.getD k (NilL Stp) = pr p k := fun _ => rfl
  have e2 : ∀ (l : List Stp) k, l.getD k ⟨0, 0, 0, 0⟩ = st l k := fun _ _ => rfl
  try simp only [e1, e2]
  clear e1 e2
  simp only [imp_self, true_and, and_true, exists_const, implies_true, gd1, gd2, gd3, gd4, gd5, gd6 ]
  simp only [Prod.forall, Prod.exists, exists_const, implies_true, not_true_eq_false, not_false_eq_true, or_self, or_false, false_or, or_true, true_or, and_false, false_and, forall_const, true_and, and_true, i64R, imp_self, Int.reduceLE, Int.reduceLT, Int.reduceNeg, false_implies, true_implies, decide_eq_true_eq, decide_eq_false_iff_not, Bool.not_eq_true', Bool.not_eq_false', Bool.true_eq_false, Bool.false_eq_true, Bool.and_eq_true, Bool.or_eq_true, Bool.and_eq_false_iff, Bool.or_eq_false_iff ]
  obtain ⟨h1, h2, h3, h4⟩ := hx
  have eP : runP p r = pr p r.p.toNat := rfl
  rw [eP] at h4 ⊢
  refine ⟨⟨h1, h2⟩, fun h => by rw [if_pos h, if_pos h]; exact ⟨rfl, rfl⟩, fun h => ⟨by omega, fun hk => ⟨by omega, by rw [if_neg h, if_pos hk], by rw [if_neg h]⟩, fun hk => by rw [if_neg h, if_neg hk, if_neg h]; exact ⟨rfl, rfl⟩⟩⟩


set_option maxRecDepth 100000 in
theorem vc32 (p : List (List Stp)) (t k : Int) (hx : True) : sStart.vc (EV Try.prog [(38, sValid.spec), (48, sIn.spec), (49, sAt.spec)] noInv noInv) Try.f32 (p, t, k, ()) := by
  have e : (True ∧ ((!validB p) = true → ∃ (y : Unit), True ∧ 0 = (startR p t k).t ∧ 0 = (startR p t k).p ∧ 0 = (startR p t k).a ∧ 0 = (startR p t k).l ∧ 0 = (startR p t k).s ∧ 0 = (startR p t k).u ∧ 1 = startE p t k) ∧ ((!validB p) = false → i64R ((↑p.length : Int) - 1) ∧ True ∧ ((!inb k 0 ((↑p.length : Int) - 1)) = true → ∃ (y : Unit), True ∧ 0 = (startR p t k).t ∧ 0 = (startR p t k).p ∧ 0 = (startR p t k).a ∧ 0 = (startR p t k).l ∧ 0 = (startR p t k).s ∧ 0 = (startR p t k).u ∧ 4 = startE p t k) ∧ ((!inb k 0 ((↑p.length : Int) - 1)) = false → True ∧ ((!inb t 1 2147483647) = true → ∃ (y : Unit), True ∧ 0 = (startR p t k).t ∧ 0 = (startR p t k).p ∧ 0 = (startR p t k).a ∧ 0 = (startR p t k).l ∧ 0 = (startR p t k).s ∧ 0 = (startR p t k).u ∧ 3 = startE p t k) ∧ ((!inb t 1 2147483647) = false → (0 ≤ k ∧ k < (↑p.length : Int) ∧ (0 : Int) ≤ 0 ∧ 0 ≤ (↑(runP p { t := t, p := k, a := 0, l := 0, s := 0, u := 0 : Run }).length : Int)) ∧ ∃ (y : Unit), True ∧ t = (startR p t k).t ∧ k = (startR p t k).p ∧ 0 = (startR p t k).a ∧ (if 0 = (↑(runP p { t := t, p := k, a := 0, l := 0, s := 0, u := 0 : Run }).length : Int) then 0 else if ((runP p { t := t, p := k, a := 0, l := 0, s := 0, u := 0 : Run }).getD (Int.toNat 0) { k := 0, n := 0, a := 0, t := 0 : Stp }).k = 1 then ((runP p { t := t, p := k, a := 0, l := 0, s := 0, u := 0 : Run }).getD (Int.toNat 0) { k := 0, n := 0, a := 0, t := 0 : Stp }).n else 0) = (startR p t k).l ∧ (if 0 = (↑(runP p { t := t, p := k, a := 0, l := 0, s := 0, u := 0 : Run }).length : Int) then 4 else 0) = (startR p t k).s ∧ 0 = (startR p t k).u ∧ 0 = startE p t k)))) = sStart.vc (EV Try.prog [(38, sValid.spec), (48, sIn.spec), (49, sAt.spec)] noInv noInv) Try.f32 (p, t, k, ()) := by kernel_rfl
  rw [← e]
  clear e
  have e1 : ∀ k, p.getD k (NilL Stp) = pr p k := fun _ => rfl
  have e2 : ∀ (l : List Stp) k, l.getD k ⟨0, 0, 0, 0⟩ = st l k := fun _ _ => rfl
  try simp only [e1, e2]
  clear e1 e2
  simp only [imp_self, true_and, and_true, exists_const, implies_true, gd1, gd2, gd3, gd4, gd5, gd6 ]
  simp only [Prod.forall, Prod.exists, exists_const, implies_true, not_true_eq_false, not_false_eq_true, or_self, or_false, false_or, or_true, true_or, and_false, false_and, forall_const, true_and, and_true, i64R, imp_self, Int.reduceLE, Int.reduceLT, Int.reduceNeg, false_implies, true_implies, decide_eq_true_eq, decide_eq_false_iff_not, Bool.not_eq_true', Bool.not_eq_false', Bool.true_eq_false, Bool.false_eq_true, Bool.and_eq_true, Bool.or_eq_true, Bool.and_eq_false_iff, Bool.or_eq_false_iff ]
  have ib : ∀ a b c : Int, inb a b c = true ↔ b ≤ a ∧ a ≤ c := fun a b c => by simp only [inb, Bool.and_eq_true, decide_eq_true_eq]
  have ibn : ∀ a b c : Int, inb a b c = false ↔ ¬ (b ≤ a ∧ a ≤ c) := fun a b c => by rw [← ib]; simp
  simp only [ib, ibn]
  refine ⟨fun h => ?_, fun h => ⟨?_, fun hk => ?_, fun hk => ⟨fun ht => ?_, fun ht => ?_⟩⟩⟩
  · have e : startE p t k = 1 := by rw [startE, if_neg (by rw [h]; simp)]
    rw [startR, if_neg (by rw [e]; omega), e]
    exact ⟨rfl, rfl, rfl, rfl, rfl, rfl, rfl⟩
  · have := (validB_iff p).1 h
    have := this.1
    omega
  · have e : startE p t k = 4 := by rw [startE, if_pos h, if_neg (by omega)]
    rw [startR, if_neg (by rw [e]; omega), e]
    exact ⟨rfl, rfl, rfl, rfl, rfl, rfl, rfl⟩
  · have e : startE p t k = 3 := by rw [startE, if_pos h, if_pos (by omega), if_neg (by omega)]
    rw [startR, if_neg (by rw [e]; omega), e]
    exact ⟨rfl, rfl, rfl, rfl, rfl, rfl, rfl⟩
  · have e : startE p t k = 0 := by rw [startE, if_pos h, if_pos (by omega), if_pos (by omega)]
    rw [startR, if_pos e, e]
    exact ⟨by omega, rfl, rfl, rfl, rfl, rfl, rfl, rfl⟩


set_option maxRecDepth 100000 in
theorem vc37 (p : List (List Stp)) (r : Run) (hx : True) : sCur.vc (EV Try.prog [(39, sSound.spec)] noInv noInv) Try.f37 (p, r, ()) := by
  have e : (True ∧ ((!soundB p r) = false → (!soundB p r) = false) ∧ ((!soundB p r) = false → (!soundB p r) = false) ∧ ((!soundB p r) = false → (!soundB p r) = false) ∧ ((!soundB p r || decide (r.s = 4)) = true → ∃ (y : Unit), True ∧ 0 = (curS p r).k ∧ 0 = (curS p r).n ∧ 0 = (curS p r).a ∧ 0 = (curS p r).t ∧ false = curB p r) ∧ ((!soundB p r || decide (r.s = 4)) = false → (0 ≤ r.p ∧ r.p < (↑p.length : Int)) ∧ (0 ≤ r.a ∧ r.a < (↑(p.getD r.p.toNat (NilL Stp)).length : Int)) ∧ ∃ (y : Unit), True ∧ ((p.getD r.p.toNat (NilL Stp)).getD r.a.toNat { k := 0, n := 0, a := 0, t := 0 : Stp }).k = (curS p r).k ∧ ((p.getD r.p.toNat (NilL Stp)).getD r.a.toNat { k := 0, n := 0, a := 0, t := 0 : Stp }).n = (curS p r).n ∧ ((p.getD r.p.toNat (NilL Stp)).getD r.a.toNat { k := 0, n := 0, a := 0, t := 0 : Stp }).a = (curS p r).a ∧ ((p.getD r.p.toNat (NilL Stp)).getD r.a.toNat { k := 0, n := 0, a := 0, t := 0 : Stp }).t = (curS p r).t ∧ true = curB p r)) = sCur.vc (EV Try.prog [(39, sSound.spec)] noInv noInv) Try.f37 (p, r, ()) := by kernel_rfl
  rw [← e]
  clear e
  have e1 : ∀ k, p.getD k (NilL Stp) = pr p k := fun _ => rfl
  have e2 : ∀ (l : List Stp) k, l.getD k ⟨0, 0, 0, 0⟩ = st l k := fun _ _ => rfl
  try simp only [e1, e2]
  clear e1 e2
  simp only [imp_self, true_and, and_true, exists_const, implies_true, gd1, gd2, gd3, gd4, gd5, gd6 ]
  simp only [Prod.forall, Prod.exists, exists_const, implies_true, not_true_eq_false, not_false_eq_true, or_self, or_false, false_or, or_true, true_or, and_false, false_and, forall_const, true_and, and_true, i64R, imp_self, Int.reduceLE, Int.reduceLT, Int.reduceNeg, false_implies, true_implies, decide_eq_true_eq, decide_eq_false_iff_not, Bool.not_eq_true', Bool.not_eq_false', Bool.true_eq_false, Bool.false_eq_true, Bool.and_eq_true, Bool.or_eq_true, Bool.and_eq_false_iff, Bool.or_eq_false_iff ]
  have eP : runP p r = pr p r.p.toNat := rfl
  refine ⟨fun h => ?_, fun h => ?_⟩
  · have e : curB p r = false := by
      rw [curB]
      rcases h with h | h
      · rw [h]; rfl
      · rw [h]; simp
    rw [curS, if_neg (by rw [e]; simp), e]
    exact ⟨rfl, rfl, rfl, rfl, rfl⟩
  · have e : curB p r = true := by rw [curB, h.1]; simp [h.2]
    obtain ⟨hv, h1, h2, h3, h4, h5⟩ := soundB_iff.1 h.1
    rw [eP] at h5
    rw [curS, if_pos e, e]
    exact ⟨by omega, by omega, rfl, rfl, rfl, rfl, rfl⟩


set_option maxRecDepth 100000 in
theorem vc40 (p : List (List Stp)) (r : Run) (hx : True) : sEager.vc (EV Try.prog [(39, sSound.spec)] noInv noInv) Try.f40 (p, r, ()) := by
  have e : (True ∧ (soundB p r = true → soundB p r = true) ∧ (soundB p r = true → soundB p r = true) ∧ (soundB p r = true → soundB p r = true) ∧ ((soundB p r && !decide (r.s = 0)) = true → (soundB p r && !decide (r.s = 0)) = true) ∧ ((soundB p r && !decide (r.s = 0)) = true → (soundB p r && !decide (r.s = 0)) = true) ∧ (soundB p r = true → soundB p r = true) ∧ (soundB p r = true → decide (r.s = 0) = false → (soundB p r && !decide (r.s = 0)) = true) ∧ (soundB p r = true → soundB p r = true) ∧ ∃ (y : Unit), True ∧ (soundB p r && (decide (r.s = 0) || decide (r.s = 3))) = eagerB p r) = sEager.vc (EV Try.prog [(39, sSound.spec)] noInv noInv) Try.f40 (p, r, ()) := by kernel_rfl
  rw [← e]
  clear e
  have e1 : ∀ k, p.getD k (NilL Stp) = pr p k := fun _ => rfl
  have e2 : ∀ (l : List Stp) k, l.getD k ⟨0, 0, 0, 0⟩ = st l k := fun _ _ => rfl
  try simp only [e1, e2]
  clear e1 e2
  simp only [imp_self, true_and, and_true, exists_const, implies_true, gd1, gd2, gd3, gd4, gd5, gd6 ]
  simp only [Prod.forall, Prod.exists, exists_const, implies_true, not_true_eq_false, not_false_eq_true, or_self, or_false, false_or, or_true, true_or, and_false, false_and, forall_const, true_and, and_true, i64R, imp_self, Int.reduceLE, Int.reduceLT, Int.reduceNeg, false_implies, true_implies, decide_eq_true_eq, decide_eq_false_iff_not, Bool.not_eq_true', Bool.not_eq_false', Bool.true_eq_false, Bool.false_eq_true, Bool.and_eq_true, Bool.or_eq_true, Bool.and_eq_false_iff, Bool.or_eq_false_iff ]
  exact ⟨fun a b => ⟨a, b⟩, rfl⟩


set_option maxRecDepth 100000 in
theorem vc33 (p : List (List Stp)) (r : Run) (hx : True) : sNextR.vc (EV Try.prog [(39, sSound.spec), (37, sCur.spec), (49, sAt.spec)] noInv noInv) Try.f33 (p, r, ()) := by
  have e : (True ∧ ((!soundB p r) = true → ∃ (y : Unit), True ∧ 0 = (nextR p r).t ∧ 0 = (nextR p r).p ∧ 0 = (nextR p r).a ∧ 0 = (nextR p r).l ∧ 0 = (nextR p r).s ∧ 0 = (nextR p r).u ∧ 1 = chkE p r) ∧ ((!soundB p r) = false → True ∧ ((!curB p r) = true → ∃ (y : Unit), True ∧ 0 = (nextR p r).t ∧ 0 = (nextR p r).p ∧ 0 = (nextR p r).a ∧ 0 = (nextR p r).l ∧ 0 = (nextR p r).s ∧ 0 = (nextR p r).u ∧ 9 = chkE p r) ∧ ((!curB p r) = false → (decide ((curS p r).k = 11) = true → (0 ≤ r.p ∧ r.p < (↑p.length : Int) ∧ (0 : Int) ≤ 0 ∧ 0 ≤ (↑(runP p r).length : Int)) ∧ ∃ (y : Unit), True ∧ r.t = (nextR p r).t ∧ r.p = (nextR p r).p ∧ 0 = (nextR p r).a ∧ (if 0 = (↑(runP p r).length : Int) then 0 else if ((runP p r).getD (Int.toNat 0) { k := 0, n := 0, a := 0, t := 0 : Stp }).k = 1 then ((runP p r).getD (Int.toNat 0) { k := 0, n := 0, a := 0, t := 0 : Stp }).n else 0) = (nextR p r).l ∧ (if 0 = (↑(runP p r).length : Int) then 4 else 0) = (nextR p r).s ∧ 0 = (nextR p r).u ∧ 0 = chkE p r) ∧ (decide ((curS p r).k = 11) = false → i64R (r.a + 1) ∧ (0 ≤ r.p ∧ r.p < (↑p.length : Int) ∧ 0 ≤ r.a + 1 ∧ r.a + 1 ≤ (↑(runP p r).length : Int)) ∧ ∃ (y : Unit), True ∧ r.t = (nextR p r).t ∧ r.p = (nextR p r).p ∧ r.a + 1 = (nextR p r).a ∧ (if r.a + 1 = (↑(runP p r).length : Int) then 0 else if ((runP p r).getD (r.a + 1).toNat { k := 0, n := 0, a := 0, t := 0 : Stp }).k = 1 then ((runP p r).getD (r.a + 1).toNat { k := 0, n := 0, a := 0, t := 0 : Stp }).n else 0) = (nextR p r).l ∧ (if r.a + 1 = (↑(runP p r).length : Int) then 4 else 0) = (nextR p r).s ∧ 0 = (nextR p r).u ∧ 0 = chkE p r)))) = sNextR.vc (EV Try.prog [(39, sSound.spec), (37, sCur.spec), (49, sAt.spec)] noInv noInv) Try.f33 (p, r, ()) := by kernel_rfl
  rw [← e]
  clear e
  have e1 : ∀ k, p.getD k (NilL Stp) = pr p k := fun _ => rfl
  have e2 : ∀ (l : List Stp) k, l.getD k ⟨0, 0, 0, 0⟩ = st l k := fun _ _ => rfl
  try simp only [e1, e2]
  clear e1 e2
  simp only [imp_self, true_and, and_true, exists_const, implies_true, gd1, gd2, gd3, gd4, gd5, gd6 ]
  simp only [Prod.forall, Prod.exists, exists_const, implies_true, not_true_eq_false, not_false_eq_true, or_self, or_false, false_or, or_true, true_or, and_false, false_and, forall_const, true_and, and_true, i64R, imp_self, Int.reduceLE, Int.reduceLT, Int.reduceNeg, false_implies, true_implies, decide_eq_true_eq, decide_eq_false_iff_not, Bool.not_eq_true', Bool.not_eq_false', Bool.true_eq_false, Bool.false_eq_true, Bool.and_eq_true, Bool.or_eq_true, Bool.and_eq_false_iff, Bool.or_eq_false_iff ]
  have eC : curB p r = true → soundB p r = true ∧ ¬ r.s = 4 ∧ curS p r = cur p r ∧ chkE p r = 0 := fun a => by
    have b := a
    rw [curB, Bool.and_eq_true] at b
    have b2 : ¬ r.s = 4 := by simpa using b.2
    exact ⟨b.1, b2, by rw [curS, if_pos a], by rw [chkE, if_neg (by rw [b.1]; simp), if_neg b2]⟩
  refine ⟨fun h => ?_, fun h => ⟨fun hc => ?_, fun hc => ?_⟩⟩
  · have e : chkE p r = 1 := by rw [chkE, if_pos h]
    rw [nextR, if_neg (by rw [e]; omega), e]
    exact ⟨rfl, rfl, rfl, rfl, rfl, rfl, rfl⟩
  · have h4 : r.s = 4 := by
      rw [curB, h] at hc
      simpa using hc
    have e : chkE p r = 9 := by rw [chkE, if_neg (by rw [h]; simp), if_pos h4]
    rw [nextR, if_neg (by rw [e]; omega), e]
    exact ⟨rfl, rfl, rfl, rfl, rfl, rfl, rfl⟩
  · obtain ⟨_, b2, b3, b4⟩ := eC hc
    obtain ⟨hv, h1, h2, h3, h4, h5⟩ := soundB_iff.1 h
    have hn := (hv.2 r.p.toNat (by omega)).2.1
    have hn2 : (runP p r).length ≤ 64 := hn
    rw [b3, nextR, if_pos b4, b4, nxtR, nxtI]
    rcases h5 with h5 | h5
    · omega
    · obtain ⟨_, _, a0, a1, _⟩ := h5
      refine ⟨fun hk => ?_, fun hk => ?_⟩
      · rw [if_pos hk]
        exact ⟨by omega, rfl, rfl, rfl, rfl, rfl, rfl, rfl⟩
      · rw [if_neg hk]
        exact ⟨by omega, by omega, rfl, rfl, rfl, rfl, rfl, rfl, rfl⟩


set_option maxRecDepth 100000 in
theorem vc34 (p : List (List Stp)) (r : Run) (hx : True) : sUnit.vc (EV Try.prog [(39, sSound.spec), (37, sCur.spec), (33, sNextR.spec)] noInv noInv) Try.f34 (p, r, ()) := by
  have e : (True ∧ ((!soundB p r) = true → ∃ (y : Unit), True ∧ (0 : Int) = (unitR p r).t ∧ (0 : Int) = (unitR p r).p ∧ (0 : Int) = (unitR p r).a ∧ (0 : Int) = (unitR p r).l ∧ (0 : Int) = (unitR p r).s ∧ (0 : Int) = (unitR p r).u ∧ (1 : Int) = unitE p r) ∧ ((!soundB p r) = false → True ∧ ((!decide (r.s = (0 : Int))) = false → (!decide (r.s = (0 : Int))) = false) ∧ ((!decide (r.s = (0 : Int))) = false → (!decide (r.s = (0 : Int))) = false) ∧ ((!decide (r.s = (0 : Int))) = false → (!decide (r.s = (0 : Int))) = false) ∧ ((!decide (r.s = (0 : Int)) || !decide ((curS p r).k = (1 : Int))) = true → ∃ (y : Unit), True ∧ (0 : Int) = (unitR p r).t ∧ (0 : Int) = (unitR p r).p ∧ (0 : Int) = (unitR p r).a ∧ (0 : Int) = (unitR p r).l ∧ (0 : Int) = (unitR p r).s ∧ (0 : Int) = (unitR p r).u ∧ (9 : Int) = unitE p r) ∧ ((!decide (r.s = (0 : Int)) || !decide ((curS p r).k = (1 : Int))) = false → (decide (r.l = (1 : Int)) = true → True ∧ ∃ (y : Unit), True ∧ (nextR p r).t = (unitR p r).t ∧ (nextR p r).p = (unitR p r).p ∧ (nextR p r).a = (unitR p r).a ∧ (nextR p r).l = (unitR p r).l ∧ (nextR p r).s = (unitR p r).s ∧ (nextR p r).u = (unitR p r).u ∧ chkE p r = unitE p r) ∧ (decide (r.l = (1 : Int)) = false → i64R (r.l - (1 : Int)) ∧ ∃ (y : Unit), True ∧ r.t = (unitR p r).t ∧ r.p = (unitR p r).p ∧ r.a = (unitR p r).a ∧ r.l - (1 : Int) = (unitR p r).l ∧ r.s = (unitR p r).s ∧ r.u = (unitR p r).u ∧ (0 : Int) = unitE p r)))) = sUnit.vc (EV Try.prog [(39, sSound.spec), (37, sCur.spec), (33, sNextR.spec)] noInv noInv) Try.f34 (p, r, ()) := by kernel_rfl
  rw [← e]
  clear e
  have e1 : ∀ k, p.getD k (NilL Stp) = pr p k := fun _ => rfl
  have e2 : ∀ (l : List Stp) k, l.getD k ⟨0, 0, 0, 0⟩ = st l k := fun _ _ => rfl
  try simp only [e1, e2]
  clear e1 e2
  simp only [imp_self, true_and, and_true, exists_const, implies_true, gd1, gd2, gd3, gd4, gd5, gd6 ]
  simp only [Prod.forall, Prod.exists, exists_const, implies_true, not_true_eq_false, not_false_eq_true, or_self, or_false, false_or, or_true, true_or, and_false, false_and, forall_const, true_and, and_true, i64R, imp_self, Int.reduceLE, Int.reduceLT, Int.reduceNeg, false_implies, true_implies, decide_eq_true_eq, decide_eq_false_iff_not, Bool.not_eq_true', Bool.not_eq_false', Bool.true_eq_false, Bool.false_eq_true, Bool.and_eq_true, Bool.or_eq_true, Bool.and_eq_false_iff, Bool.or_eq_false_iff ]
  have eC : ∀ a : soundB p r = true, ¬ r.s = 4 → curS p r = cur p r ∧ chkE p r = 0 := fun a b => by
    refine ⟨by rw [curS, if_pos]; rw [curB, a]; simp [b], by rw [chkE, if_neg (by rw [a]; simp), if_neg b]⟩
  refine ⟨fun h => ?_, fun h => ⟨fun hb => ?_, fun hb => ?_⟩⟩
  · have e : unitE p r = 1 := by rw [unitE, chkE, if_pos h, if_neg (show ¬ (1 : Int) = 0 by omega)]
    rw [unitR, if_neg (by rw [e]; omega), e]
    exact ⟨rfl, rfl, rfl, rfl, rfl, rfl, rfl⟩
  · have e : unitE p r = 9 := by
      by_cases h4 : r.s = 4
      · have n1 : ¬ soundB p r = false := by rw [h]; simp
        have c9 : chkE p r = 9 := by rw [chkE, if_neg n1, if_pos h4]
        rw [unitE, c9, if_neg (show ¬ (9 : Int) = 0 by omega)]
      · obtain ⟨q1, q2⟩ := eC h h4
        rw [q1] at hb
        rw [unitE, if_pos q2, if_neg (by rintro ⟨a, b⟩; rcases hb with c | c; exact c a; exact c b)]
    rw [unitR, if_neg (by rw [e]; omega), e]
    exact ⟨rfl, rfl, rfl, rfl, rfl, rfl, rfl⟩
  · obtain ⟨q1, q2⟩ := eC h (by omega)
    rw [q1] at hb
    have e : unitE p r = 0 := by rw [unitE, if_pos q2, if_pos hb]
    obtain ⟨hv, h1, h2, h3, h4, h5⟩ := soundB_iff.1 h
    have hn := (hv.2 r.p.toNat (by omega)).2.1
    refine ⟨fun hl => ?_, fun hl => ?_⟩
    · have e2 : nextR p r = nxtR p r := by rw [nextR, if_pos q2]
      rw [unitR, if_pos e, if_pos (by omega), e, q2, e2]
      exact ⟨rfl, rfl, rfl, rfl, rfl, rfl, rfl⟩
    · rw [unitR, if_pos e, if_neg (by omega), e]
      refine ⟨?_, rfl, rfl, rfl, rfl, rfl, rfl, rfl⟩
      have hk : (cur p r).n ≤ 9223372036854775807 ∨ True := .inr trivial
      rcases h5 with h5 | h5
      · omega
      · obtain ⟨_, _, a0, a1, _, _, _, h5⟩ := h5
        rcases h5 with h6 | h6
        · have h7 := (hv.2 r.p.toNat (by omega)).2.2 r.a.toNat (by unfold runP at a1; omega)
          have h8 := h7.2
          have h9 : (st (pr p r.p.toNat) r.a.toNat).k = 1 := h6.1
          rw [h9] at h8
          have h10 : okTicks (st (pr p r.p.toNat) r.a.toNat) = true := h8
          simp only [okTicks, inb, Bool.and_eq_true, decide_eq_true_eq] at h10
          have h11 : r.l ≤ (st (pr p r.p.toNat) r.a.toNat).n := h6.2.2
          omega
        · omega


set_option maxRecDepth 100000 in
theorem vc35 (p : List (List Stp)) (r : Run) (s u : Int) (hx : True) : sWait.vc (EV Try.prog [(39, sSound.spec), (48, sIn.spec)] noInv noInv) Try.f35 (p, r, s, u, ()) := by
  have e : (True ∧ ((!soundB p r) = true → ∃ (y : Unit), True ∧ (0 : Int) = (waitR p r s u).t ∧ (0 : Int) = (waitR p r s u).p ∧ (0 : Int) = (waitR p r s u).a ∧ (0 : Int) = (waitR p r s u).l ∧ (0 : Int) = (waitR p r s u).s ∧ (0 : Int) = (waitR p r s u).u ∧ (1 : Int) = waitE p r s u) ∧ ((!soundB p r) = false → (decide (r.s = (4 : Int)) = true → ∃ (y : Unit), True ∧ (0 : Int) = (waitR p r s u).t ∧ (0 : Int) = (waitR p r s u).p ∧ (0 : Int) = (waitR p r s u).a ∧ (0 : Int) = (waitR p r s u).l ∧ (0 : Int) = (waitR p r s u).s ∧ (0 : Int) = (waitR p r s u).u ∧ (9 : Int) = waitE p r s u) ∧ (decide (r.s = (4 : Int)) = false → True ∧ ((!inb s (1 : Int) (3 : Int)) = false → (!inb s (1 : Int) (3 : Int)) = false) ∧ ((!inb s (1 : Int) (3 : Int)) = false → (!inb s (1 : Int) (3 : Int)) = false) ∧ ((!!inb s (1 : Int) (3 : Int) && decide (s = (1 : Int))) = true → (!!inb s (1 : Int) (3 : Int) && decide (s = (1 : Int))) = true) ∧ ((!!inb s (1 : Int) (3 : Int) && decide (s = (1 : Int))) = true → True) ∧ ((!!inb s (1 : Int) (3 : Int) && decide (s = (1 : Int))) = true → (!!inb s (1 : Int) (3 : Int) && decide (s = (1 : Int))) = true) ∧ ((!inb s (1 : Int) (3 : Int)) = false → (!inb s (1 : Int) (3 : Int)) = false) ∧ ((!inb s (1 : Int) (3 : Int)) = false → decide (s = (1 : Int)) = true → (!!inb s (1 : Int) (3 : Int) && decide (s = (1 : Int))) = true) ∧ ((!inb s (1 : Int) (3 : Int)) = false → (!inb s (1 : Int) (3 : Int)) = false) ∧ ((!inb s (1 : Int) (3 : Int) || decide (s = (1 : Int)) && !inb u (0 : Int) (1048576 : Int)) = false → (!inb s (1 : Int) (3 : Int) || decide (s = (1 : Int)) && !inb u (0 : Int) (1048576 : Int)) = false) ∧ ((!inb s (1 : Int) (3 : Int) || decide (s = (1 : Int)) && !inb u (0 : Int) (1048576 : Int)) = false → (!inb s (1 : Int) (3 : Int) || decide (s = (1 : Int)) && !inb u (0 : Int) (1048576 : Int)) = false) ∧ ((!(!inb s (1 : Int) (3 : Int) || decide (s = (1 : Int)) && !inb u (0 : Int) (1048576 : Int)) && !decide (s = (1 : Int))) = true → (!(!inb s (1 : Int) (3 : Int) || decide (s = (1 : Int)) && !inb u (0 : Int) (1048576 : Int)) && !decide (s = (1 : Int))) = true) ∧ ((!inb s (1 : Int) (3 : Int) || decide (s = (1 : Int)) && !inb u (0 : Int) (1048576 : Int)) = false → (!inb s (1 : Int) (3 : Int) || decide (s = (1 : Int)) && !inb u (0 : Int) (1048576 : Int)) = false) ∧ ((!inb s (1 : Int) (3 : Int) || decide (s = (1 : Int)) && !inb u (0 : Int) (1048576 : Int)) = false → (!decide (s = (1 : Int))) = true → (!(!inb s (1 : Int) (3 : Int) || decide (s = (1 : Int)) && !inb u (0 : Int) (1048576 : Int)) && !decide (s = (1 : Int))) = true) ∧ ((!inb s (1 : Int) (3 : Int) || decide (s = (1 : Int)) && !inb u (0 : Int) (1048576 : Int)) = false → (!inb s (1 : Int) (3 : Int) || decide (s = (1 : Int)) && !inb u (0 : Int) (1048576 : Int)) = false) ∧ ((!inb s (1 : Int) (3 : Int) || decide (s = (1 : Int)) && !inb u (0 : Int) (1048576 : Int) || !decide (s = (1 : Int)) && !decide (u = (0 : Int))) = true → ∃ (y : Unit), True ∧ (0 : Int) = (waitR p r s u).t ∧ (0 : Int) = (waitR p r s u).p ∧ (0 : Int) = (waitR p r s u).a ∧ (0 : Int) = (waitR p r s u).l ∧ (0 : Int) = (waitR p r s u).s ∧ (0 : Int) = (waitR p r s u).u ∧ (3 : Int) = waitE p r s u) ∧ ((!inb s (1 : Int) (3 : Int) || decide (s = (1 : Int)) && !inb u (0 : Int) (1048576 : Int) || !decide (s = (1 : Int)) && !decide (u = (0 : Int))) = false → ∃ (y : Unit), True ∧ r.t = (waitR p r s u).t ∧ r.p = (waitR p r s u).p ∧ r.a = (waitR p r s u).a ∧ r.l = (waitR p r s u).l ∧ s = (waitR p r s u).s ∧ u = (waitR p r s u).u ∧ (0 : Int) = waitE p r s u)))) = sWait.vc (EV Try.prog [(39, sSound.spec), (48, sIn.spec)] noInv noInv) Try.f35 (p, r, s, u, ()) := by kernel_rfl
  rw [← e]
  clear e
  have e1 : ∀ k, p.getD k (NilL Stp) = pr p k := fun _ => rfl
  have e2 : ∀ (l : List Stp) k, l.getD k ⟨0, 0, 0, 0⟩ = st l k := fun _ _ => rfl
  try simp only [e1, e2]
  clear e1 e2
  simp only [imp_self, true_and, and_true, exists_const, implies_true, gd1, gd2, gd3, gd4, gd5, gd6 ]
  simp only [Prod.forall, Prod.exists, exists_const, implies_true, not_true_eq_false, not_false_eq_true, or_self, or_false, false_or, or_true, true_or, and_false, false_and, forall_const, true_and, and_true, i64R, imp_self, Int.reduceLE, Int.reduceLT, Int.reduceNeg, false_implies, true_implies, decide_eq_true_eq, decide_eq_false_iff_not, Bool.not_eq_true', Bool.not_eq_false', Bool.true_eq_false, Bool.false_eq_true, Bool.and_eq_true, Bool.or_eq_true, Bool.and_eq_false_iff, Bool.or_eq_false_iff ]
  have ib : ∀ a b c : Int, inb a b c = true ↔ b ≤ a ∧ a ≤ c := fun a b c => by simp only [inb, Bool.and_eq_true, decide_eq_true_eq]
  have ibn : ∀ a b c : Int, inb a b c = false ↔ ¬ (b ≤ a ∧ a ≤ c) := fun a b c => by rw [← ib]; simp
  simp only [ib, ibn]
  have c0 : soundB p r = true → ¬ r.s = 4 → chkE p r = 0 := fun a b => by rw [chkE, if_neg (by rw [a]; simp), if_neg b]
  refine ⟨fun h => ?_, fun h => ⟨fun h4 => ?_, fun h4 => ⟨fun hb => ?_, fun hb => ?_⟩⟩⟩
  · have e : waitE p r s u = 1 := by rw [waitE, chkE, if_pos h, if_neg (show ¬ (1 : Int) = 0 by omega)]
    rw [waitR, if_neg (by rw [e]; omega), e]
    exact ⟨rfl, rfl, rfl, rfl, rfl, rfl, rfl⟩
  · have n1 : ¬ soundB p r = false := by rw [h]; simp
    have c9 : chkE p r = 9 := by rw [chkE, if_neg n1, if_pos h4]
    have e : waitE p r s u = 9 := by rw [waitE, c9, if_neg (show ¬ (9 : Int) = 0 by omega)]
    rw [waitR, if_neg (by rw [e]; omega), e]
    exact ⟨rfl, rfl, rfl, rfl, rfl, rfl, rfl⟩
  · have e : waitE p r s u = 3 := by rw [waitE, if_pos (c0 h h4), if_neg (by omega)]
    rw [waitR, if_neg (by rw [e]; omega), e]
    exact ⟨rfl, rfl, rfl, rfl, rfl, rfl, rfl⟩
  · have e : waitE p r s u = 0 := by rw [waitE, if_pos (c0 h h4), if_pos (by omega)]
    rw [waitR, if_pos e, e]
    exact ⟨rfl, rfl, rfl, rfl, rfl, rfl, rfl⟩


set_option maxRecDepth 100000 in
theorem vc41 (p : List (List Stp)) (r : Run) (w : Int) (hx : True) : sWake.vc (EV Try.prog [(39, sSound.spec), (33, sNextR.spec)] noInv noInv) Try.f41 (p, r, w, ()) := by
  have e : (True ∧ ((!soundB p r) = false → (!soundB p r) = false) ∧ ((!soundB p r) = false → (!soundB p r) = false) ∧ ((!soundB p r) = false → (!soundB p r) = false) ∧ ((!soundB p r || !decide (r.s = 1)) = false → (!soundB p r || !decide (r.s = 1)) = false) ∧ ((!soundB p r || !decide (r.s = 1)) = false → (!soundB p r || !decide (r.s = 1)) = false) ∧ ((!soundB p r || !decide (r.s = 1)) = false → (!soundB p r || !decide (r.s = 1)) = false) ∧ ((!soundB p r || !decide (r.s = 1)) = false → (!soundB p r || !decide (r.s = 1)) = false) ∧ ((!soundB p r || !decide (r.s = 1) || decide (w < r.u)) = true → ∃ (y : Unit), True ∧ r.t = (wakeR p r w).t ∧ r.p = (wakeR p r w).p ∧ r.a = (wakeR p r w).a ∧ r.l = (wakeR p r w).l ∧ r.s = (wakeR p r w).s ∧ r.u = (wakeR p r w).u ∧ false = wakeB p r w) ∧ ((!soundB p r || !decide (r.s = 1) || decide (w < r.u)) = false → True ∧ ∃ (y : Unit), True ∧ (nextR p r).t = (wakeR p r w).t ∧ (nextR p r).p = (wakeR p r w).p ∧ (nextR p r).a = (wakeR p r w).a ∧ (nextR p r).l = (wakeR p r w).l ∧ (nextR p r).s = (wakeR p r w).s ∧ (nextR p r).u = (wakeR p r w).u ∧ true = wakeB p r w)) = sWake.vc (EV Try.prog [(39, sSound.spec), (33, sNextR.spec)] noInv noInv) Try.f41 (p, r, w, ()) := by kernel_rfl
  rw [← e]
  clear e
  have e1 : ∀ k, p.getD k (NilL Stp) = pr p k := fun _ => rfl
  have e2 : ∀ (l : List Stp) k, l.getD k ⟨0, 0, 0, 0⟩ = st l k := fun _ _ => rfl
  try simp only [e1, e2]
  clear e1 e2
  simp only [imp_self, true_and, and_true, exists_const, implies_true, gd1, gd2, gd3, gd4, gd5, gd6 ]
  simp only [Prod.forall, Prod.exists, exists_const, implies_true, not_true_eq_false, not_false_eq_true, or_self, or_false, false_or, or_true, true_or, and_false, false_and, forall_const, true_and, and_true, i64R, imp_self, Int.reduceLE, Int.reduceLT, Int.reduceNeg, false_implies, true_implies, decide_eq_true_eq, decide_eq_false_iff_not, Bool.not_eq_true', Bool.not_eq_false', Bool.true_eq_false, Bool.false_eq_true, Bool.and_eq_true, Bool.or_eq_true, Bool.and_eq_false_iff, Bool.or_eq_false_iff ]
  refine ⟨fun h => ?_, fun h => ?_⟩
  · have e : wakeB p r w = false := by
      rw [wakeB]
      rcases h with (h | h) | h
      · rw [h]; rfl
      · simp [h]
      · have : ¬ r.u ≤ w := by omega
        simp [this]
    rw [wakeR, if_neg (by rw [e]; simp), e]
    exact ⟨rfl, rfl, rfl, rfl, rfl, rfl, rfl⟩
  · have e : wakeB p r w = true := by
      have : r.u ≤ w := by omega
      rw [wakeB, h.1.1]; simp [h.1.2, this]
    have e2 : nextR p r = nxtR p r := by
      rw [nextR, if_pos]
      rw [chkE, if_neg (by rw [h.1.1]; simp), if_neg (by omega)]
    rw [wakeR, if_pos e, e, e2]
    exact ⟨rfl, rfl, rfl, rfl, rfl, rfl, rfl⟩
end Go.Proofs.Ytgaeomkjpcpogaa
