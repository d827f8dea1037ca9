/-
  Lemmas and contracts on the way to the laws of this seat; each theorem states its own conditions, and there are no others.
-/
import Derived.Test.YtemffnpliflkgaaQG
namespace Go.Proofs.Ytemffnpliflkgaa
open Go
set_option linter.unusedVariables false
set_option linter.unusedSimpArgs false
set_option linter.unusedVariables false

/-- Quotas and bursts. -/
structure NumOK (n : Nat) (q b : List Int) : Prop where
  lq : q.length = n
  lb : b.length = n
  ok : ∀ i, i < n → ratesI (q.getD i 0) (b.getD i 0) = true
theorem NumOK.zero : NumOK 0 [] [] := ⟨rfl, rfl, fun i hi => absurd hi (Nat.not_lt_zero _)⟩
theorem getD_snoc {l : List Int} {x : Int} {i : Nat} : (l ++ [x]).getD i 0 = if i < l.length then l.getD i 0 else if i = l.length then x else 0 := by
  rw [List.getD_eq_getElem?_getD]
  by_cases h : i < l.length
  · rw [if_pos h, List.getElem?_append_left h, List.getD_eq_getElem?_getD]
  · rw [if_neg h, List.getElem?_append_right (by omega)]
    by_cases h2 : i = l.length
    · rw [if_pos h2, h2, Nat.sub_self]; rfl
    · rw [if_neg h2, List.getElem?_eq_none (by simp; omega)]; rfl
theorem NumOK.snoc {n : Nat} {q b : List Int} (h : NumOK n q b) {x y : Int} (e : ratesI x y = true) : NumOK (n + 1) (q ++ [x]) (b ++ [y]) := by
  refine ⟨by rw [List.length_append, h.lq]; rfl, by rw [List.length_append, h.lb]; rfl, fun i hi => ?_⟩
  rw [getD_snoc, getD_snoc, h.lq, h.lb]
  by_cases c : i < n
  · rw [if_pos c, if_pos c]; exact h.ok i c
  · rw [if_neg c, if_neg c, if_pos (by omega), if_pos (by omega)]; exact e
theorem num_ex (n : Nat) : ∃ q b, NumOK n q b := by
  induction n with
  | zero => exact ⟨[], [], NumOK.zero⟩
  | succ n ih =>
    obtain ⟨q, b, h⟩ := ih
    exact ⟨_, _, h.snoc (x := 4611686018427387904) (y := 0) (by decide)⟩
theorem NumOK.bl {n : Nat} {q b : List Int} (h : NumOK n q b) (hn : n ≤ 1000) : BL b := by
  refine ⟨fun i hi => ?_, by rw [h.lb]; omega⟩
  rw [h.lb] at hi
  have := ratesI_iff.1 (h.ok i hi)
  omega
/-- Pools that are made: c cells each, the same slice, at most m periods. -/
structure PoolsK (l : List Nod) (n c m : Int) (ps : List Pool) : Prop where
  thr : ThrP l n ps
  loc : ((pn ps 0).l.length : Int) = c
  sl : ∀ i, i < l.length → (pn ps i).s = (pn ps 0).s
  pe : ∀ i, i < l.length → (pn ps i).pe ≤ m
  sp : ∀ i, i < l.length → (pn ps i).sp ≤ m
theorem PoolsK.locs {l : List Nod} {n c m : Int} {ps : List Pool} (h : PoolsK l n c m ps) {i : Nat} (hi : i < l.length) : ((pn ps i).l.length : Int) = c := by rw [h.thr.loc i hi]; exact h.loc
theorem PoolsK.tl {l : List Nod} {n c m : Int} {ps : List Pool} (h : PoolsK l n c m ps) : TL ps := by
  have := h.thr.len
  have := h.thr.chk.len2
  exact ⟨h.thr.tame, by omega⟩
theorem PoolsK.up {l : List Nod} {n c m m' : Int} {ps : List Pool} (h : PoolsK l n c m ps) (hm : m ≤ m') : PoolsK l n c m' ps := ⟨h.thr, h.loc, h.sl, fun i hi => by have := h.pe i hi; omega, fun i hi => by have := h.sp i hi; omega⟩
theorem PoolsK.map {l : List Nod} {n c m m' : Int} {ps : List Pool} (h : PoolsK l n c m ps) {F : Pool → Pool} (hF : ∀ i, i < l.length → Good (F (pn ps i)) ∧ (F (pn ps i)).g = (pn ps i).g ∧ (F (pn ps i)).l.length = (pn ps i).l.length ∧ (F (pn ps i)).s = (pn ps i).s ∧ (F (pn ps i)).pe ≤ m' ∧ (F (pn ps i)).sp ≤ m') : PoolsK l n c m' (ps.map F) := by
  have hl := h.thr.len
  have l1 := h.thr.chk.len1
  have e : ∀ i, i < l.length → pn (ps.map F) i = F (pn ps i) := fun i hi => map_pn (by omega)
  refine ⟨h.thr.map fun i hi => ⟨(hF i hi).1, (hF i hi).2.1, (hF i hi).2.2.1⟩, ?_, fun i hi => ?_, fun i hi => ?_, fun i hi => ?_⟩
  · rw [e 0 (by omega), (hF 0 (by omega)).2.2.1]; exact h.loc
  · rw [e i hi, e 0 (by omega), (hF i hi).2.2.2.1, (hF 0 (by omega)).2.2.2.1]; exact h.sl i hi
  · rw [e i hi]; exact (hF i hi).2.2.2.2.1
  · rw [e i hi]; exact (hF i hi).2.2.2.2.2
theorem ChkP.id_max {l : List Nod} {n : Int} (h : ChkP l n) {i : Nat} (hi : i < l.length) : 1 ≤ (nd l i).id ∧ (nd l i).id ≤ 2147483647 := by
  have h1 := h.lt_next hi
  have h2 := h.nx2
  have h3 := h.asc.pos hi
  omega
theorem new_is {l : List Nod} {n : Int} (hc : ChkP l n) {q b : List Int} {s c : Int} (hn : NumOK l.length q b) (hs : 1 ≤ s ∧ s ≤ 1000000) (hcc : 1 ≤ c ∧ c ≤ 16) {i : Nat} (hi : i < l.length) : syI l [] q b s c i = (newP (nd l i).id (q.getD i 0) (b.getD i 0) s c.toNat, 0) ∧ Good (newP (nd l i).id (q.getD i 0) (b.getD i 0) s c.toNat) := by
  have hg := new_good (hc.id_max hi) (ratesI_iff.1 (hn.ok i hi)) hs (c := c.toNat) ⟨by omega, by omega⟩
  refine ⟨?_, hg⟩
  rw [syI, sync_nil, newG, if_pos ⟨hcc.1, hcc.2, goodB_iff.2 hg⟩]
theorem pools_new {l : List Nod} {n : Int} (hc : ChkP l n) {q b : List Int} {s c : Int} (hn : NumOK l.length q b) (hs : 1 ≤ s ∧ s ≤ 1000000) (hcc : 1 ≤ c ∧ c ≤ 16) : syE l n [] q b s c = 0 ∧ PoolsK l n c 1 (syL l n [] q b s c) := by
  have l1 := hc.len1
  have hE : syE l n [] q b s c = 0 := by
    rw [syE, if_neg, if_pos]
    · exact syOk_iff.2 fun i hi => by rw [(new_is hc hn hs hcc hi).1]
    · rw [chkB_iff.2 hc, hn.lq, hn.lb]; simp
  have e : ∀ i, i < l.length → pn (syL l n [] q b s c) i = newP (nd l i).id (q.getD i 0) (b.getD i 0) s c.toNat := fun i hi => by
    rw [syL, if_pos hE, pn_get (by rw [syT_len]; exact hi)]
    simp only [syT, List.getElem_map, List.getElem_range]
    rw [(new_is hc hn hs hcc hi).1]
  have ln : ∀ i, i < l.length → (pn (syL l n [] q b s c) i).l.length = c.toNat := fun i hi => by rw [e i hi]; simp [newP]
  refine ⟨hE, ⟨hc, by rw [syL, if_pos hE, syT_len], fun i hi => by rw [e i hi]; rfl, fun i hi => by rw [e i hi]; exact (new_is hc hn hs hcc hi).2, fun i hi => by rw [ln i hi, ln 0 (by omega)]⟩, by rw [ln 0 (by omega)]; omega, fun i hi => by rw [e i hi, e 0 (by omega)]; rfl, fun i hi => by rw [e i hi]; exact Int.le_refl 1, fun i hi => by rw [e i hi]; show (0 : Int) ≤ 1; omega⟩
theorem spE_ok {l : List Nod} {n : Int} {ps : List Pool} {g c : Int} (h : spE l n ps g c = 0 ∨ spE l n ps g c = 11) : ThrP l n ps ∧ g ∈ ids l ∧ 0 ≤ c ∧ c < (pn ps 0).l.length := by
  unfold spE at h
  by_cases e : thrB l n ps = false
  · rw [if_pos e] at h; omega
  · rw [if_neg e] at h
    by_cases e2 : hasB l g = false
    · rw [if_pos e2] at h; omega
    · rw [if_neg e2] at h
      by_cases e3 : c < 0 ∨ ((pn ps 0).l.length : Int) ≤ c
      · rw [if_pos e3] at h; omega
      · exact ⟨thrB_iff.1 (by simpa using e), hasB_iff.1 (by simpa using e2), by omega, by omega⟩
theorem sp1_facts {l : List Nod} {n : Int} {ps : List Pool} (h : ThrP l n ps) {up : List Int} {c : Int} (h0 : 0 ≤ c) (h1 : c < (pn ps 0).l.length) {i : Nat} (hi : i < l.length) : Good (sp1 ps up c (pn ps i)) ∧ (sp1 ps up c (pn ps i)).g = (pn ps i).g ∧ (sp1 ps up c (pn ps i)).l.length = (pn ps i).l.length ∧ (sp1 ps up c (pn ps i)).s = (pn ps i).s ∧ (sp1 ps up c (pn ps i)).pe = (pn ps i).pe ∧ (sp1 ps up c (pn ps i)).q = (pn ps i).q ∧ (sp1 ps up c (pn ps i)).bu = (pn ps i).bu ∧ (sp1 ps up c (pn ps i)).sp ≤ (pn ps i).sp + 1 := by
  have hg := h.good i hi
  have hl : c < (pn ps i).l.length := by rw [h.loc i hi]; exact h1
  unfold sp1
  split
  · rw [spendG_ok hg h0 hl]
    obtain ⟨f1, f2, f3, f4, f5, f6, _⟩ := spend_facts hg (c := c.toNat) (by omega)
    obtain ⟨g1, g2⟩ := spend_same (pn ps i) c.toNat
    exact ⟨f1, g1, f5, g2, f4, f2, f3, f6⟩
  · exact ⟨hg, rfl, rfl, rfl, rfl, rfl, rfl, by omega⟩
theorem PoolsK.spend {l : List Nod} {n k m : Int} {ps : List Pool} (h : PoolsK l n k m ps) {g c : Int} (hE : spE l n ps g c = 0 ∨ spE l n ps g c = 11) : PoolsK l n k (m + 1) (spL l n ps g c) := by
  obtain ⟨hT, hg, h0, h1⟩ := spE_ok hE
  rw [spL, if_pos hE]
  refine h.map fun i hi => ?_
  obtain ⟨f1, f2, f3, f4, f5, _, _, f6⟩ := sp1_facts hT (up := upT l g) h0 h1 hi
  have p1 := h.pe i hi
  have p2 := h.sp i hi
  exact ⟨f1, f2, f3, f4, by omega, by omega⟩
theorem PoolsK.refill {l : List Nod} {n k m : Int} {ps : List Pool} (h : PoolsK l n k m ps) (hm : m < 1099511627776) (due : List Int) : PoolsK l n k (m + 1) (rfL l n ps due) := by
  rw [rfL, if_neg (by rw [thrB_iff.2 h.thr]; simp)]
  refine h.map fun i hi => ?_
  have hg := h.thr.good i hi
  have hp := h.pe i hi
  have hsp := h.sp i hi
  have hr := refillG_ok hg (by omega)
  have hp0 := hg.pe0
  unfold rf1
  split
  · rw [hr]
    exact ⟨(refill_facts hg (by omega)).1, rfl, rfl, rfl, by show (pn ps i).pe + 1 ≤ _; omega, by show (0 : Int) ≤ _; omega⟩
  · exact ⟨hg, rfl, rfl, rfl, by omega, by omega⟩
theorem PoolsK.idle {l : List Nod} {n k m : Int} {ps : List Pool} (h : PoolsK l n k m ps) (c : Int) : PoolsK l n k m (idL l n ps c) := by
  rw [idL, if_neg (by rw [thrB_iff.2 h.thr]; simp)]
  refine h.map fun i hi => ?_
  have hg := h.thr.good i hi
  unfold id1
  by_cases e : (returnG (pn ps i) c).2 = 0
  · rw [if_pos e]
    by_cases hu : useI (pn ps i) c = 0
    · obtain ⟨_, h0, h1⟩ := use_ok hu
      rw [returnG_ok hg h0 h1]
      exact ⟨hg.back (by omega), rfl, by simp [returnP], rfl, h.pe i hi, h.sp i hi⟩
    · rw [returnG, if_neg hu] at e
      exact absurd e hu
  · rw [if_neg e]; exact ⟨hg, rfl, rfl, rfl, h.pe i hi, h.sp i hi⟩
theorem pools_ex {l : List Nod} {n c : Int} (hc : ChkP l n) (hcc : 1 ≤ c ∧ c ≤ 16) : ∃ ps, PoolsK l n c 1 ps := by
  obtain ⟨q, b, h⟩ := num_ex l.length
  exact ⟨_, (pools_new hc h (s := 1) ⟨by omega, by omega⟩ hcc).2⟩
end Go.Proofs.Ytemffnpliflkgaa
