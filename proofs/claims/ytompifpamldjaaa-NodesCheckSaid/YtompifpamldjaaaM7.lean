/-
  Lemmas and contracts on the way to the laws of this seat; each theorem states its own conditions, and there are no others.
-/
import Derived.Test.YtompifpamldjaaaM6
namespace Go.Proofs.Ytompifpamldjaaa
set_option linter.unusedVariables false
set_option linter.unusedSimpArgs false
set_option linter.unusedVariables false

theorem VOK.capB {C : List Chg} {A : List NSet} {cap : List Int} (hv : VOK C A cap) (j : Nat) : 0 ≤ nth cap j ∧ nth cap j ≤ 16777216 := by
  by_cases h : j < cap.length
  · exact hv.cp j h
  · rw [nth_out (by omega)]; omega
theorem rowAt_repl {m n : Nat} {r : Nat} : rowAt (List.replicate m (List.replicate n 0)) r = if r < m then List.replicate n 0 else [] := by
  rw [rowAt, List.getD_eq_getElem?_getD, List.getElem?_replicate]
  split <;> rfl
theorem nth_zero (n j : Nat) : nth (List.replicate n 0) j = 0 := by
  by_cases h : j < n
  · exact nth_repl _ _ _ h
  · exact nth_out (by simp; omega)
theorem cell_repl {m n r j : Nat} : nth (rowAt (List.replicate m (List.replicate n 0)) r) j = 0 := by
  rw [rowAt_repl]; split
  · exact nth_zero _ _
  · exact nth_out (by simp)
theorem PV.start {C : List Chg} {A : List NSet} {cap : List Int} (hv : VOK C A cap) : PV C A cap cap (List.replicate C.length (List.replicate cap.length 0)) 0 (ownAt C 0) := by
  have hla := hv.la
  refine ⟨⟨⟨by simp [hla], fun r hr => by rw [rowAt_repl, if_pos (by omega)]; simp, fun i hi j hj => ?_, fun i hi => Nat.le_trans (hv.chg i (by omega)).2.2.2.2.2.2.len hv.c8, by have := hv.d64; omega, hv.c8⟩, fun r j => by rw [cell_repl]; omega, fun r j h => by rw [cell_repl] at h; omega, fun j => hv.capB j⟩, rfl, hla, fun j => ?_, fun r hr => ?_⟩
  · have ha := (hv.chg i (by omega)).2.2.2.2.2.2
    obtain ⟨u, hu, eu⟩ := List.getElem_of_mem hj
    have := ha u hu
    have e : nth (nodesAt A i) u = j := by rw [nth, List.getD_eq_getElem?_getD, List.getElem?_eq_getElem hu]; exact eu
    unfold ascO at this
    rw [e] at this
    exact ⟨this.1, this.2.1⟩
  · rw [colS_sum, sumF_congr (g := fun _ => 0) (fun r _ => cell_repl), sumF_zero]; omega
  · rw [rowAt_repl, if_pos hr]
    have : (List.replicate cap.length (0 : Int)).sum = 0 := by simp
    rw [this, if_neg (by omega)]
    split
    · rename_i e; have : r = 0 := by omega
      subst this; omega
    · rfl
theorem PV.next {C : List Chg} {A : List NSet} {cap L : List Int} {M : List (List Int)} {i k : Int} (h : PV C A cap L M i k) (hk : k = 0) (i0 : 0 ≤ i) : PV C A cap L M (i + 1) (ownAt C (i + 1).toNat) := by
  refine ⟨h.f, h.ll, h.la, h.cs, fun r hr => ?_⟩
  rw [h.rs r hr]
  by_cases e : (r : Int) < i
  · rw [if_pos e, if_pos (by omega)]
  · rw [if_neg e]
    by_cases e2 : (r : Int) = i
    · rw [if_pos e2, if_pos (by omega)]; omega
    · rw [if_neg e2, if_neg (by omega)]
      split
      · rename_i e3
        have : (i + 1).toNat = r := by omega
        rw [this]; omega
      · rfl
theorem PV.pre {C : List Chg} {A : List NSet} {cap L : List Int} {M : List (List Int)} {i k e : Int} {N D : List Int} (hv : VOK C A cap) (h : PV C A cap L M i k) (i0 : 0 ≤ i) (i1 : i < C.length) (hk : 0 < k) (hko : k ≤ ownAt C i.toNat) (hF : Found A L M i N D e) (he : 0 ≤ e) : PPre A L M N D i e k := by
  have := (hv.chg i.toNat (by omega)).2.2.2.1
  rcases hF.e with ⟨e1, _⟩ | ⟨e1, e2, e3, e4⟩
  · omega
  · exact ⟨h.f, hF.s, e1, e2, e3, e4, hk, by omega⟩
theorem PV.push {C : List Chg} {A : List NSet} {cap L : List Int} {M M' : List (List Int)} {i k e c : Int} (hv : VOK C A cap) (h : PV C A cap L M i k) (e0 : 0 ≤ e) (e1 : e < L.length) (hp : Pushed A L M i e k c M') : PV C A cap (L.set e.toNat (nth L e.toNat - c)) M' i (k - c) := by
  have hc0 := hp.c0
  have hcl := hp.cl
  have hs : ∀ j, nth (L.set e.toNat (nth L e.toNat - c)) j = if j = e.toNat then nth L e.toNat - c else nth L j := nth_set (by omega) _
  have l0 : ∀ j, 0 ≤ nth (L.set e.toNat (nth L e.toNat - c)) j ∧ nth (L.set e.toNat (nth L e.toNat - c)) j ≤ 16777216 := fun j => by
    rw [hs]
    have a := h.f.l0 e.toNat
    have b := h.f.l0 j
    split <;> omega
  have cs : ∀ j, colS M' j + nth (L.set e.toNat (nth L e.toNat - c)) j = nth cap j := fun j => by rw [hp.cs j]; exact h.cs j
  refine ⟨⟨⟨hp.lm.trans h.f.ok.lm, fun r hr => by rw [List.length_set]; exact hp.row r hr, fun r hr => by rw [List.length_set]; exact h.f.ok.nds r hr, h.f.ok.len, h.f.ok.la, by rw [List.length_set]; exact h.f.ok.ll⟩, fun r j => ⟨hp.m0 r j, ?_⟩, hp.ms, l0⟩, by rw [List.length_set]; exact h.ll, h.la, cs, fun r hr => ?_⟩
  · have a := cell_le (M := M') (j := j) (fun r => hp.m0 r j) r
    have b := cs j
    have d := l0 j
    have g := hv.capB j
    omega
  · rw [hp.rs r, h.rs r hr]
    by_cases e2 : (r : Int) = i
    · rw [if_pos e2, if_neg (by omega), if_pos e2, if_neg (by omega), if_pos e2]; omega
    · rw [if_neg e2, if_neg e2, if_neg e2]
      split <;> omega
theorem PV.plc {C : List Chg} {A : List NSet} {cap L : List Int} {M : List (List Int)} {i k : Int} (h : PV C A cap L M i k) (hi : i = C.length) : Plc C A cap M := by
  have hla := h.la
  refine ⟨fun r hr => by rw [← h.ll]; exact h.f.ok.row r (by omega), by have := h.f.ok.lm; omega, fun r j => (h.f.m0 r j).1, h.f.ms, fun r hr => by rw [h.rs r hr, if_pos (by omega)], fun j => ?_⟩
  have a := h.cs j
  have b := (h.f.l0 j).1
  omega
theorem place_ex (C : List Chg) (A : List NSet) (cap : List Int) : ∃ y, PlaceR C A cap y := by
  by_cases hv : VOK C A cap
  case neg => exact ⟨([], [], 1), .inl ⟨hv, rfl⟩⟩
  obtain ⟨K, hK⟩ : ∃ K : Nat, (K : Int) = 16777217 := ⟨16777217, rfl⟩
  have key : ∀ (m : Nat) (i k : Int) (L : List Int) (M : List (List Int)), (C.length - i).toNat * K + k.toNat ≤ m → 0 ≤ i → i ≤ C.length → 0 ≤ k → (i < C.length → k ≤ ownAt C i.toNat) → PV C A cap L M i k → ∃ y, PlaceR C A cap y := by
    intro m
    induction m with
    | zero =>
      intro i k L M hm i0 i1 k0 kb h
      have hz : (C.length - i).toNat = 0 := by
        rcases Nat.eq_zero_or_pos (C.length - i).toNat with e | e
        · exact e
        · have := Nat.mul_le_mul_right K e
          generalize (C.length - i).toNat * K = Z at *
          omega
      exact ⟨(allS C M cap.length C.length, [], 0), .inr (.inl ⟨hv, ⟨M, h.plc (by omega), rfl⟩, rfl, rfl⟩)⟩
    | succ m ih =>
      intro i k L M hm i0 i1 k0 kb h
      by_cases hi : i = C.length
      · exact ⟨(allS C M cap.length C.length, [], 0), .inr (.inl ⟨hv, ⟨M, h.plc hi, rfl⟩, rfl, rfl⟩)⟩
      have own : ∀ r, 0 ≤ ownAt C r ∧ ownAt C r ≤ 16777216 := fun r => by
        by_cases hr : r < C.length
        · have := (hv.chg r hr).2.2; omega
        · have : ownAt C r = 0 := by
            rw [ownAt, List.getD_eq_getElem?_getD, List.getElem?_eq_none (by omega)]; rfl
          omega
      by_cases hk : k = 0
      · have := own (i + 1).toNat
        have e : (C.length - i).toNat = (C.length - (i + 1)).toNat + 1 := by omega
        refine ih (i + 1) _ L M ?_ (by omega) (by omega) this.1 (fun _ => Int.le_refl _) (h.next hk i0)
        rw [e, Nat.succ_mul] at hm
        generalize (C.length - (i + 1)).toNat * K = Z at *
        generalize ownAt C (i + 1).toNat = W at *
        omega
      · have hla := h.la
        obtain ⟨N, D, e, hF⟩ := found_ex h.f.ok i0 (by omega)
        rcases hF.e with ⟨e1, e2⟩ | ⟨e1, e2, e3, e4⟩
        · exact ⟨([], reach' N L.length, 20), .inr (.inr ⟨hv, rfl, h.refuse hv (by omega) (kb (by omega)) hF.s e2, rfl⟩)⟩
        · obtain ⟨c, M', hP⟩ := pushed_ex (h.pre hv i0 (by omega) (by omega) (kb (by omega)) hF e1)
          have c0 := hP.c0
          have ck := hP.ck
          refine ih i (k - c) _ M' ?_ i0 i1 (by omega) (fun hh => by have := kb hh; omega) (h.push hv e1 e2 hP)
          generalize (C.length - i).toNat * K = Z at *
          omega
  have o0 : 0 ≤ ownAt C 0 := by
    by_cases hr : 0 < C.length
    · have := (hv.chg 0 hr).2.2; omega
    · have : ownAt C 0 = 0 := by
        rw [ownAt, List.getD_eq_getElem?_getD, List.getElem?_eq_none (by omega)]; rfl
      omega
  exact key _ 0 (ownAt C 0) _ _ (Nat.le_refl _) (Int.le_refl _) (by omega) o0 (fun _ => Int.le_refl _) (PV.start hv)
end Go.Proofs.Ytompifpamldjaaa
