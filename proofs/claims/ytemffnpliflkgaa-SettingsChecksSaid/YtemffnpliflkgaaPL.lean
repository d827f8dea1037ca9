/-
  Lemmas and contracts on the way to the laws of this seat; each theorem states its own conditions, and there are no others.
-/
import Derived.Test.YtemffnpliflkgaaSD
namespace Go.Proofs.Ytemffnpliflkgaa
open Go
set_option linter.unusedVariables false
set_option linter.unusedSimpArgs false
set_option linter.unusedVariables false

def upS (l : List Nod) (n : Int) (c : List Cfg) (i : Nat) : Stg := if (nd l i).id = 1 then getC c (nd l i).id else lowS l n c (nd l i).parent
def anyP (p : Int) (c : List Cfg) (l : List Int) : Bool := l.any fun a => decide ((getC c a).pids = p)
theorem CfgsP.fit {l : List Nod} {n : Int} {c : List Cfg} (h : CfgsP l c) (hc : ChkP l n) : fitB l n c = true := by
  refine fitB_iff.2 ⟨⟨chkB_iff.2 hc, h.len⟩, fun i hi => ?_⟩
  obtain ⟨h1, h2⟩ := h.at_ i hi
  simp [fit1, h1, h2.1]
theorem CfgsP.cl {l : List Nod} {n : Int} {c : List Cfg} (h : CfgsP l c) (hc : ChkP l n) : CL c := by
  have l2 := hc.len2
  refine ⟨fun x hx => ?_, by rw [h.len]; omega⟩
  obtain ⟨i, hi, e⟩ := mem_cn hx
  rw [← e]
  exact (h.at_ i (by rw [← h.len]; exact hi)).2.2
theorem CfgsP.get {l : List Nod} {n : Int} {c : List Cfg} (h : CfgsP l c) (hc : ChkP l n) {i : Nat} (hi : i < l.length) : getC c (nd l i).id = cst (cn c i) ∧ idxC c (nd l i).id = i := by
  have h1 : ∀ j, j < i → ¬ (cn c j).grp = (nd l i).id := fun j hj e => by
    rw [(h.at_ j (by omega)).1] at e
    have := hc.asc.inj (by omega) hi e
    omega
  exact ⟨getC_at h1 (by rw [h.len]; exact hi) (h.at_ i hi).1, idxC_first h1 (by rw [h.len]; exact hi) (h.at_ i hi).1⟩
def fm (f : Int → Int) (a : Int) (up : List Int) : Int := up.foldl (fun m g => min m (f g)) a
theorem fm_min (f : Int → Int) : ∀ (up : List Int) (a b : Int), fm f (min a b) up = min a (fm f b up)
  | [], a, b => rfl
  | g :: r, a, b => by
    show fm f (min (min a b) (f g)) r = min a (fm f (min b (f g)) r)
    rw [Int.min_assoc, fm_min f r]
theorem fm_mem (f : Int → Int) : ∀ (up : List Int) (a : Int), fm f a up = a ∨ ∃ g ∈ up, f g = fm f a up
  | [], a => .inl rfl
  | g :: r, a => by
    show fm f (min a (f g)) r = a ∨ ∃ x ∈ g :: r, f x = fm f (min a (f g)) r
    rcases fm_mem f r (min a (f g)) with h | ⟨x, hx, e⟩
    · rw [h]
      by_cases c : a ≤ f g
      · exact .inl (Int.min_eq_left c)
      · exact .inr ⟨g, by simp, by rw [Int.min_eq_right (by omega)]⟩
    · exact .inr ⟨x, by simp [hx], e⟩
theorem fm_self (f : Int → Int) (g : Int) (r : List Int) : fm f (f g) (g :: r) = fm f (f g) r := by
  show fm f (min (f g) (f g)) r = _
  rw [Int.min_self]
theorem lowF_fm (c : List Cfg) : ∀ (up : List Int) (s : Stg), (lowF c s up).pids = fm (fun g => (getC c g).pids) s.pids up ∧ (lowF c s up).quota = fm (fun g => (getC c g).quota) s.quota up ∧ (lowF c s up).cmax = fm (fun g => (getC c g).cmax) s.cmax up ∧ (lowF c s up).cmin = s.cmin ∧ (lowF c s up).weight = s.weight
  | [], s => ⟨rfl, rfl, rfl, rfl, rfl⟩
  | g :: r, s => lowF_fm c r (minS s (getC c g))
theorem low_at {l : List Nod} {n : Int} {c : List Cfg} (h : CfgsP l c) (hc : ChkP l n) {g : Int} (hg : g ∈ ids l) : lowS l n c g = lowE (lowF c (getC c g) (upT l g)) := by
  rw [lowS, if_pos ⟨hasR_iff.2 ⟨hc, hg⟩, h.fit hc⟩]
/-- The law of effective limits. -/
theorem low_law {l : List Nod} {n : Int} {c : List Cfg} (h : CfgsP l c) (hc : ChkP l n) {i : Nat} (hi : i < l.length) :
    anyP (lowS l n c (nd l i).id).pids c (ancR l n (nd l i).id) = true ∧ (lowS l n c (nd l i).id).pids = min (getC c (nd l i).id).pids (upS l n c i).pids ∧ (lowS l n c (nd l i).id).quota = min (getC c (nd l i).id).quota (upS l n c i).quota ∧ (lowS l n c (nd l i).id).cmax = min (getC c (nd l i).id).cmax (upS l n c i).cmax ∧ (lowS l n c (nd l i).id).cmin ≤ (lowS l n c (nd l i).id).cmax ∧ (lowS l n c (nd l i).id).cmin ≤ (getC c (nd l i).id).cmin ∧ (lowS l n c (nd l i).id).weight = (getC c (nd l i).id).weight := by
  have ha := hc.asc
  have hg : (nd l i).id ∈ ids l := ids_mem.2 ⟨i, hi, rfl⟩
  have e := low_at h hc hg
  have eu := ha.upT_par hi
  have er : ancR l n (nd l i).id = upT l (nd l i).id := by rw [ancR, if_pos (hasR_iff.2 ⟨hc, hg⟩)]
  rw [er, e, eu]
  obtain ⟨f1, f2, f3, f4, f5⟩ := lowF_fm c ((nd l i).id :: upT l (nd l i).parent) (getC c (nd l i).id)
  have g1 : (lowE (lowF c (getC c (nd l i).id) ((nd l i).id :: upT l (nd l i).parent))).pids = _ := f1
  have g2 : (lowE (lowF c (getC c (nd l i).id) ((nd l i).id :: upT l (nd l i).parent))).quota = _ := f2
  have g3 : (lowE (lowF c (getC c (nd l i).id) ((nd l i).id :: upT l (nd l i).parent))).cmax = _ := f3
  have g4 : (lowE (lowF c (getC c (nd l i).id) ((nd l i).id :: upT l (nd l i).parent))).cmin = min (lowF c (getC c (nd l i).id) ((nd l i).id :: upT l (nd l i).parent)).cmin (lowF c (getC c (nd l i).id) ((nd l i).id :: upT l (nd l i).parent)).cmax := rfl
  have g5 : (lowE (lowF c (getC c (nd l i).id) ((nd l i).id :: upT l (nd l i).parent))).weight = _ := f5
  have key : ∀ f : Int → Int, ∀ u : Int, ((nd l i).id = 1 → u = f (nd l i).id) → (¬ (nd l i).id = 1 → u = fm f (f (nd l i).parent) (upT l (nd l i).parent)) → fm f (f (nd l i).id) ((nd l i).id :: upT l (nd l i).parent) = min (f (nd l i).id) u := by
    intro f u h1 h2
    rw [fm_self]
    by_cases hr : (nd l i).id = 1
    · have i0 : i = 0 := by
        have r0 := ha.root (by omega)
        exact ha.inj hi (by omega) (by rw [hr, r0.1])
      have hp : (nd l i).parent = 0 := by rw [i0]; exact (ha.root (by omega)).2
      rw [hp, upT_none ha.notzero, h1 hr, Int.min_self]
      rfl
    · have i0 : 0 < i := by
        rcases Nat.eq_zero_or_pos i with z | z
        · exact absurd (by rw [z]; exact (ha.root (by omega)).1) hr
        · exact z
      obtain ⟨q, hq, eq⟩ := ha.par i i0 hi
      have e2 := ha.upT_par (i := q) (by omega)
      rw [eq] at e2
      rw [h2 hr, e2, fm_self]
      show fm f (min (f (nd l i).id) (f (nd l i).parent)) (upT l (nd l q).parent) = _
      rw [fm_min]
  have hpar : ¬ (nd l i).id = 1 → lowS l n c (nd l i).parent = lowE (lowF c (getC c (nd l i).parent) (upT l (nd l i).parent)) := fun hr => by
    have i0 : 0 < i := by
      rcases Nat.eq_zero_or_pos i with z | z
      · exact absurd (by rw [z]; exact (ha.root (by omega)).1) hr
      · exact z
    obtain ⟨q, hq, eq⟩ := ha.par i i0 hi
    exact low_at h hc (ids_mem.2 ⟨q, by omega, eq⟩)
  refine ⟨?_, ?_, ?_, ?_, ?_, ?_, ?_⟩
  · rw [g1]
    rcases fm_mem (fun g => (getC c g).pids) ((nd l i).id :: upT l (nd l i).parent) (getC c (nd l i).id).pids with h1 | ⟨g, hg, h1⟩
    · rw [h1]; simp [anyP]
    · rw [anyP, List.any_eq_true]
      exact ⟨g, hg, by simpa using h1⟩
  · rw [g1]
    refine key (fun g => (getC c g).pids) _ (fun hr => by rw [upS, if_pos hr]) (fun hr => ?_)
    rw [upS, if_neg hr, hpar hr]
    exact (lowF_fm c _ _).1
  · rw [g2]
    refine key (fun g => (getC c g).quota) _ (fun hr => by rw [upS, if_pos hr]) (fun hr => ?_)
    rw [upS, if_neg hr, hpar hr]
    exact (lowF_fm c _ _).2.1
  · rw [g3]
    refine key (fun g => (getC c g).cmax) _ (fun hr => by rw [upS, if_pos hr]) (fun hr => ?_)
    rw [upS, if_neg hr, hpar hr]
    exact (lowF_fm c _ _).2.2.1
  · rw [g4]; exact Int.min_le_right _ _
  · rw [g4, f4]; exact Int.min_le_left _ _
  · rw [g5]
/-- What Set changes. -/
theorem set_law {l : List Nod} {n : Int} {c : List Cfg} {s : Stg} (h : CfgsP l c) (hc : ChkP l n) (hs : MS s) {i : Nat} (hi : i < l.length) :
    setE l n c (nd l i).id s = 0 ∧ CfgsP l (setL l n c (nd l i).id s) ∧ getC (setL l n c (nd l i).id s) (nd l i).id = s ∧ ∀ k, k < l.length → ¬ (nd l k).id = (nd l i).id → getC (setL l n c (nd l i).id s) (nd l k).id = getC c (nd l k).id := by
  obtain ⟨e1, e2⟩ := h.get hc hi
  have e : setE l n c (nd l i).id s = 0 := by
    rw [setE, if_neg (by simp [h.fit hc]), e2, if_neg (by omega), if_neg (by simp [hs.1])]
  have eL : setL l n c (nd l i).id s = c.set i (cfgS (cn c i).grp s) := by
    rw [setL, if_pos e, e2]; rfl
  have at1 : ∀ k, k < l.length → cn (c.set i (cfgS (cn c i).grp s)) k = if i = k then cfgS (cn c i).grp s else cn c k := fun k hk => by
    rw [cn_get (by rw [List.length_set, h.len]; exact hk), List.getElem_set]
    split
    · rfl
    · exact (cn_get (by rw [h.len]; exact hk)).symm
  have hP : CfgsP l (c.set i (cfgS (cn c i).grp s)) := by
    refine ⟨by rw [List.length_set, h.len], fun k hk => ?_⟩
    rw [at1 k hk]
    split
    · rename_i ek
      subst ek
      exact ⟨(h.at_ i hi).1, hs⟩
    · exact h.at_ k hk
  rw [eL]
  refine ⟨e, hP, ?_, fun k hk hne => ?_⟩
  · rw [(hP.get hc hi).1, at1 i hi, if_pos rfl]; rfl
  · rw [(hP.get hc hk).1, at1 k hk, if_neg (by rintro rfl; exact hne rfl), (h.get hc hk).1]
end Go.Proofs.Ytemffnpliflkgaa
