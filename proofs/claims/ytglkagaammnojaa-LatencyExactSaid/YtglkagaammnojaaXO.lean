/-
  Lemmas and contracts on the way to the laws of this seat; each theorem states its own conditions, and there are no others.
-/
import Derived.Test.YtglkagaammnojaaXN
import Derived.Test.YtglkagaammnojaaTS

namespace Go.Proofs.Ytglkagaammnojaa
open Go
set_option linter.unusedVariables false
set_option linter.unusedSimpArgs false
set_option linter.unusedVariables false

def sSubR : FSp := ⟨_, two pkTree pkI, fun x => ChkP x.1.1 x.1.2, List Int, fun x y => Sub x.1.1 x.2.1 y, fun _ _ => .own 101 0, fun _ y => [(101, .rows 3 0 y)], fun x h => sub_ex h.asc x.2.1⟩
def mSubR : sSubR.X → Nat := fun x => abv x.1.1 x.2.1
theorem has_chk {l : List Nod} {n g : Int} (h : ChkP l n) : hasR l n g = hasB l g := by rw [hasR, chkB_iff.2 h, Bool.true_and]
theorem chn_chk {l : List Nod} {n g : Int} (h : ChkP l n) (hg : g ∈ ids l) : chnR l n g = chn l g := by rw [chnR, has_chk h, if_pos (hasB_iff.2 hg)]
theorem own_foldl (g : Int) : ∀ (gs : List Chg) (f : Int → Int), gs.Pairwise (fun a b => a.group ≠ b.group) → gs.foldl (fun f x => updF 0 f x.group x.own) f g = match gs.find? (fun x => decide (x.group = g)) with
    | some x => x.own
    | none => f g
  | [], f, _ => rfl
  | x :: r, f, h => by
    rw [List.pairwise_cons] at h
    rw [List.foldl_cons, own_foldl g r _ h.2]
    by_cases e : x.group = g
    · have : r.find? (fun x => decide (x.group = g)) = none := by
        rw [List.find?_eq_none]
        intro y hy
        have := h.1 y hy
        simp only [decide_eq_true_eq]
        omega
      rw [this, List.find?_cons_of_pos (by simpa using e)]
      simp [updF, e]
    · rw [List.find?_cons_of_neg (by simpa using e)]
      have e2 : updF 0 f x.group x.own g = f g := by
        simp only [updF]
        rw [if_neg (fun c => e c.symm)]
      rw [e2]
theorem own_eq {l : List Nod} {gs : List Chg} (h : gvB l gs = true) (g : Int) : ownL gs g = ownF gs g := by
  have h2 : gs.Pairwise (fun a b => a.group ≠ b.group) := by
    rw [List.pairwise_iff_getElem]
    intro i j hi hj hij
    have h3 := asc_lt (f := fun i => (gn gs i).group) (n := gs.length) (fun i h0 h1 => by
      have := gvB_all.1 h i h1
      simp only [gv1, Bool.and_eq_true, Bool.or_eq_true, decide_eq_true_eq] at this
      rcases this.1.2 with e | e
      · omega
      · exact e) j hj i hij
    simp only [gn, List.getD_eq_getElem?_getD, List.getElem?_eq_getElem hi, List.getElem?_eq_getElem hj, Option.getD_some] at h3
    omega
  rw [ownL, ownF]
  exact (own_foldl g gs (fun _ => 0) h2).symm
def sSumR : DS := ⟨_, three pkTree pkCtr pkI, fun x => (ChkP x.1.1 x.1.2 ∧ gvB x.1.1 x.2.1 = true) ∧ x.2.1.length ≤ 9223372036854775807, fun x => .int .i64 (sumI (ownF x.2.1) (subL x.1.1 x.2.2.1)), nou⟩

def inv93 (l : List Nod) (n g : Int) : Inv where
  X := Int × List Int
  ok := fun x => 0 ≤ x.1 ∧ x.1 ≤ (chnR l n g).length ∧ SubK l g x.1.toNat x.2
  sl := fun x => [(7, .int .i64 x.1), (5, .own 101 0), (6, .own 103 0)]
  hp := fun x => [(101, .rows 3 0 x.2), (103, .rows 3 0 (chnR l n g))]
  keep := [10000]
  me := fun x => ((chnR l n g).length - x.1).toNat
set_option maxRecDepth 100000 in
theorem vc93 (k : Nat) (l : List Nod) (n : Int) (g : Int) (hx : ChkP l n ∧ abv l g ≤ k) : sSubR.vc (EV Try.prog [(93, (sSubR.lim mSubR k).spec), (73, sHas.spec), (38, sChn.spec)] (invs [(6, inv93 l n g)]) noInv) Try.f93 ((l, n), g, ()) := by
  have e : (True ∧ ((!hasR l n g) = Bool.true → ∃ (y : List Int), Sub l g y ∧ NilL Int = y) ∧ ((!hasR l n g) = Bool.false → True ∧ (∃ (x : Int × List Int), ((0 : Int) ≤ x.fst ∧ x.fst ≤ (↑(chnR l n g).length : Int) ∧ SubK l g x.fst.toNat x.snd) ∧ (0 : Int) = x.fst ∧ g :: NilL Int = x.snd ∧ chnR l n g = chnR l n g ∧ l = l ∧ n = n) ∧ ∀ (x : Int × List Int), (0 : Int) ≤ x.fst ∧ x.fst ≤ (↑(chnR l n g).length : Int) ∧ SubK l g x.fst.toNat x.snd → (Decidable.decide (x.fst < (↑(chnR l n g).length : Int)) = Bool.true → ((0 : Int) ≤ x.fst ∧ x.fst < (↑(chnR l n g).length : Int)) ∧ (ChkP l n ∧ abv l ((chnR l n g).getD x.fst.toNat (0 : Int)) < k) ∧ (∀ (y : List Int), Bool.true = Bool.true) ∧ ∀ (y : List Int), Sub l ((chnR l n g).getD x.fst.toNat (0 : Int)) y → x.snd.length + y.length ≤ (68719476736 : Nat) ∧ i64R (x.fst + (1 : Int)) ∧ ∃ (x' : Int × List Int), ((0 : Int) ≤ x'.fst ∧ x'.fst ≤ (↑(chnR l n g).length : Int) ∧ SubK l g x'.fst.toNat x'.snd) ∧ ((↑(chnR l n g).length : Int) - x'.fst).toNat < ((↑(chnR l n g).length : Int) - x.fst).toNat ∧ x.fst + (1 : Int) = x'.fst ∧ x.snd ++ y = x'.snd ∧ chnR l n g = chnR l n g ∧ l = l ∧ n = n) ∧ (Decidable.decide (x.fst < (↑(chnR l n g).length : Int)) = Bool.false → ∃ (y : List Int), Sub l g y ∧ x.snd = y))) = sSubR.vc (EV Try.prog [(93, (sSubR.lim mSubR k).spec), (73, sHas.spec), (38, sChn.spec)] (invs [(6, inv93 l n g)]) noInv) Try.f93 ((l, n), g, ()) := by kernel_rfl
  rw [← e]
  clear e
  simp only [imp_self, true_and, and_true, exists_const, implies_true, gd1, gd2, gd3, gd4, gd5, gd6, NilL_eq ]
  simp only [Prod.forall, Prod.exists, exists_const, implies_true, not_true_eq_false, not_false_eq_true, or_self, or_false, false_or, or_true, true_or, and_false, false_and, forall_const, true_and, and_true, i64R, imp_self, Int.reduceLE, Int.reduceLT, Int.reduceNeg, false_implies, true_implies, decide_eq_true_eq, decide_eq_false_iff_not, Bool.not_eq_true', Bool.not_eq_false', Bool.true_eq_false, Bool.false_eq_true, Bool.and_eq_true, Bool.or_eq_true, NilL_eq, Bool.and_eq_false_iff, Bool.or_eq_false_iff ]
  obtain ⟨hc, hk⟩ := hx
  rw [has_chk hc]
  have ha := hc.asc
  have l2 := hc.len2
  refine ⟨fun h => ⟨[], sub_nil (fun hm => by rw [hasB_iff.2 hm] at h; cases h), rfl⟩, fun h => ?_⟩
  have hg := hasB_iff.1 h
  rw [chn_chk hc hg]
  have hcl := chn_len (l := l) g
  refine ⟨⟨0, [g], ⟨by omega, by omega, subK_zero l g⟩, rfl, rfl⟩, fun i s hi => ⟨fun hlt => ⟨⟨hi.1, hlt⟩, ⟨hc, ?_⟩, fun y hy => ?_⟩, fun hge => ⟨s, ?_, rfl⟩⟩⟩
  · have := abv_lt ha hg (cn__mem (l := l) (g := g) (k := i.toNat) (by omega))
    rw [cn_] at this
    omega
  · have h2 := subK_step ha hg (k := i.toNat) (by omega) hi.2.2 hy
    have e : (i + 1).toNat = i.toNat + 1 := by omega
    have h3 := subK_len hg h2
    rw [List.length_append] at h3
    exact ⟨by omega, by omega, i + 1, s ++ y, ⟨by omega, by omega, by rw [e]; exact h2⟩, by omega, rfl, rfl⟩
  · have e : i.toNat = (chn l g).length := by omega
    exact subK_fin ha hg (by rw [← e]; exact hi.2.2)

def inv87 (gs : List Chg) (s : St) : Inv where
  X := Int
  ok := fun i => 0 ≤ i ∧ i ≤ (contI s (s.t 8)).length
  sl := fun i => [(9, .int .i64 i), (7, .int .i64 (sumI (ownF gs) ((contI s (s.t 8)).take i.toNat))), (8, .own 103 0)]
  hp := fun x => [(103, .rows 3 0 (contI s (s.t 8)))]
  keep := [10000, 10010]
  me := fun i => ((contI s (s.t 8)).length - i).toNat
set_option maxRecDepth 100000 in
theorem vc87 (l : List Nod) (n : Int) (gs : List Chg) (g : Int) (hx : (ChkP l n ∧ gvB l gs = true) ∧ gs.length ≤ 9223372036854775807) : sSumR.vc (EV Try.prog [(93, sSubR.spec), (94, sOwn.spec)] (invsS [(4, inv87 gs)]) noInv) Try.f87 ((l, n), gs, g, ()) := by
  have e : (ChkP l n ∧ (∀ (y : List Int), Bool.true = Bool.true) ∧ ∀ (y : List Int), Sub l g y → (∃ (x : Int), ((0 : Int) ≤ x ∧ x ≤ (↑y.length : Int)) ∧ (0 : Int) = x ∧ (0 : Int) = sumI (ownF gs) (List.take x.toNat y) ∧ y = y ∧ l = l ∧ n = n ∧ gs = gs) ∧ ∀ (x : Int), (0 : Int) ≤ x ∧ x ≤ (↑y.length : Int) → (Decidable.decide (x < (↑y.length : Int)) = Bool.true → ((0 : Int) ≤ x ∧ x < (↑y.length : Int)) ∧ gs.length ≤ (9223372036854775807 : Nat) ∧ i64R (sumI (ownF gs) (List.take x.toNat y) + ownL gs (y.getD x.toNat (0 : Int))) ∧ i64R (x + (1 : Int)) ∧ ∃ (x' : Int), ((0 : Int) ≤ x' ∧ x' ≤ (↑y.length : Int)) ∧ ((↑y.length : Int) - x').toNat < ((↑y.length : Int) - x).toNat ∧ x + (1 : Int) = x' ∧ sumI (ownF gs) (List.take x.toNat y) + ownL gs (y.getD x.toNat (0 : Int)) = sumI (ownF gs) (List.take x'.toNat y) ∧ y = y ∧ l = l ∧ n = n ∧ gs = gs) ∧ (Decidable.decide (x < (↑y.length : Int)) = Bool.false → ∃ (y_1 : Unit), True ∧ sumI (ownF gs) (List.take x.toNat y) = sumI (ownF gs) (subL l g))) = sSumR.vc (EV Try.prog [(93, sSubR.spec), (94, sOwn.spec)] (invsS [(4, inv87 gs)]) noInv) Try.f87 ((l, n), gs, g, ()) := by kernel_rfl
  rw [← e]
  clear e
  simp only [imp_self, true_and, and_true, exists_const, implies_true, gd1, gd2, gd3, gd4, gd5, gd6, NilL_eq ]
  simp only [Prod.forall, Prod.exists, exists_const, implies_true, not_true_eq_false, not_false_eq_true, or_self, or_false, false_or, or_true, true_or, and_false, false_and, forall_const, true_and, and_true, i64R, imp_self, Int.reduceLE, Int.reduceLT, Int.reduceNeg, false_implies, true_implies, decide_eq_true_eq, decide_eq_false_iff_not, Bool.not_eq_true', Bool.not_eq_false', Bool.true_eq_false, Bool.false_eq_true, Bool.and_eq_true, Bool.or_eq_true, NilL_eq, Bool.and_eq_false_iff, Bool.or_eq_false_iff ]
  obtain ⟨⟨hc, hg⟩, hl⟩ := hx
  have ha := hc.asc
  have l2 := hc.len2
  have hob := own_rng hg
  refine ⟨hc, fun y hy => ⟨⟨0, by omega, rfl, rfl⟩, fun i hi => ⟨fun hlt => ?_, fun hge => ?_⟩⟩⟩
  · have hyl := sub_len hy
    have h5 := sumI_rng hob y i.toNat (by omega)
    have h6 := hob (y.getD i.toNat 0)
    have ek : (i + 1).toNat = i.toNat + 1 := by omega
    rw [own_eq hg]
    refine ⟨by omega, hl, by omega, by omega, i + 1, by omega, by omega, rfl, ?_⟩
    rw [ek, sumI_step (by omega)]
  · rw [List.take_of_length_le (by omega)]
    exact sub_sum hy (subL_sub ha g) _
end Go.Proofs.Ytglkagaammnojaa
