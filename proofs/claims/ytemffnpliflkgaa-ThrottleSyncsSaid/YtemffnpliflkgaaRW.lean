/-
  Lemmas and contracts on the way to the laws of this seat; each theorem states its own conditions, and there are no others.
-/
import Derived.Test.YtemffnpliflkgaaQH
namespace Go.Proofs.Ytemffnpliflkgaa
open Go
set_option linter.unusedVariables false
set_option linter.unusedSimpArgs false
set_option linter.unusedVariables false

def anyR (ps : List Pool) (c : Int) (up : List Int) : Bool := up.any fun g => decide (roomI (atP ps g) c = 0)
theorem anyR_step {ps : List Pool} {c : Int} {up : List Int} {i : Nat} (h : i < up.length) : anyR ps c (up.take (i + 1)) = (anyR ps c (up.take i) || decide (roomI (atP ps (up.getD i 0)) c = 0)) := by
  unfold anyR
  rw [List.take_add_one, List.any_append, List.getElem?_eq_getElem h]
  simp [List.getD_eq_getElem?_getD, h]
def anyI (x : Int) (up : List Int) : Bool := up.any fun g => decide (g = x)
theorem anyI_step {x : Int} {up : List Int} {i : Nat} (h : i < up.length) : anyI x (up.take (i + 1)) = (anyI x (up.take i) || decide (up.getD i 0 = x)) := by
  unfold anyI
  rw [List.take_add_one, List.any_append, List.getElem?_eq_getElem h]
  simp [List.getD_eq_getElem?_getD, h]
theorem anyI_iff {x : Int} {up : List Int} : anyI x up = true ↔ x ∈ up := by simp [anyI]
theorem blk_any (ps : List Pool) (c : Int) : ∀ up : List Int, (blkL ps c up).2 = anyR ps c up
  | [] => rfl
  | g :: r => by
    have ih := blk_any ps c r
    rw [blkL]
    unfold anyR at ih ⊢
    rw [List.any_cons]
    by_cases e : roomI (atP ps g) c = 0
    · rw [if_pos e]; simp [e]
    · rw [if_neg e, ih]; simp [e]
theorem room_fold {ps : List Pool} {c : Int} : ∀ (up : List Int) (m : Int), 0 ≤ m → (∀ g ∈ up, 0 ≤ roomI (atP ps g) c) → (up.foldl (fun m g => min m (roomI (atP ps g) c)) m = 0 ↔ m = 0 ∨ anyR ps c up = true)
  | [], m, h0, _ => by simp [anyR]
  | g :: r, m, h0, h => by
    have hg := h g (by simp)
    rw [List.foldl_cons, room_fold r _ (by omega) fun x hx => h x (by simp [hx])]
    unfold anyR
    rw [List.any_cons, Bool.or_eq_true, decide_eq_true_eq]
    constructor
    · rintro (e | e)
      · by_cases e2 : m = 0
        · exact .inl e2
        · exact .inr (.inl (by omega))
      · exact .inr (.inr e)
    · rintro (e | e | e)
      · exact .inl (by omega)
      · exact .inl (by omega)
      · exact .inr e
theorem room_nonneg {p : Pool} (hg : Good p) (c : Int) : 0 ≤ roomI p c := by
  unfold roomI
  by_cases h : useI p c = 0
  · obtain ⟨_, h0, h1⟩ := use_ok h
    have := hg.room h0 h1
    rw [if_neg (by omega)]
    split <;> omega
  · rw [if_pos h]; exact Int.le_refl 0
theorem ThrP.room_zero {l : List Nod} {n : Int} {ps : List Pool} (h : ThrP l n ps) (g c : Int) : decide (roomL ps c (upT l g) = 0) = anyR ps c (upT l g) := by
  have := room_fold (ps := ps) (c := c) (upT l g) 1099511627776 (by omega) fun x hx => by
    obtain ⟨i, hi, _, _, e, _, _⟩ := h.of_id (upT_sub hx)
    rw [e]; exact room_nonneg (h.good i hi) c
  rw [Bool.eq_iff_iff, decide_eq_true_eq]
  unfold roomL
  rw [this]
  simp
theorem spend_th {p : Pool} {c : Nat} (h : (spendR p c).2 = 0) : (spendR p c).1.th = p.th := by
  unfold spendR at h ⊢
  split
  · rfl
  · rename_i hq
    rw [if_neg hq] at h
    split
    · rename_i hl
      rw [if_pos hl] at h
      split
      · rename_i hle
        rw [if_pos hle] at h
        cases h
      · rfl
    · rfl
/-- What a spending along a path changes of one pool. -/
theorem sp1_law {l : List Nod} {n k m : Int} {ps : List Pool} (h : PoolsK l n k m ps) (hm : m < 1099511627776) {g c : Int} (h0 : 0 ≤ c) (h1 : c < k) {i : Nat} (hi : i < l.length) :
    (sp1 ps (upT l g) c (pn ps i)).sp - (pn ps i).sp = (if (blkL ps c (upT l g)).2 = false ∧ (pn ps i).g ∈ upT l g then 1 else 0) ∧
    ((pn ps i).q ≠ 4611686018427387904 → (pn ps i).le + (pn ps i).l.sum - ((sp1 ps (upT l g) c (pn ps i)).le + (sp1 ps (upT l g) c (pn ps i)).l.sum) = (if (blkL ps c (upT l g)).2 = false ∧ (pn ps i).g ∈ upT l g then 1 else 0)) ∧
    ((sp1 ps (upT l g) c (pn ps i)).th = (pn ps i).th ∨ (pn ps i).g = (blkL ps c (upT l g)).1) ∧
    ((pn ps i).g ∉ upT l g → sp1 ps (upT l g) c (pn ps i) = pn ps i) := by
  have hT := h.thr
  have hg := hT.good i hi
  have hl : c < (pn ps i).l.length := by rw [h.locs hi]; exact h1
  have hsp := h.sp i hi
  have hcn : c.toNat < (pn ps i).l.length := by omega
  obtain ⟨f1, f2, f3, f4, f5, f6, f7⟩ := spend_facts hg hcn
  have eG := spendG_ok hg h0 hl
  have eR : roomI (pn ps i) c = if (pn ps i).q = 4611686018427387904 then 1099511627776 else (pn ps i).le + (pn ps i).l.getD c.toNat 0 := by
    rw [roomI, if_neg (by have := use_of hg h0 hl; omega)]
  cases hb : (blkL ps c (upT l g)).2 with
  | true =>
    obtain ⟨m1, m2⟩ := blkL_mem hb
    by_cases e : (pn ps i).g = (blkL ps c (upT l g)).1
    · have eA : atP ps (blkL ps c (upT l g)).1 = pn ps i := by
        rw [← e, hT.grp i hi]; exact (hT.at hi).2.1
      rw [eA, eR] at m2
      have e1 : sp1 ps (upT l g) c (pn ps i) = (spendG (pn ps i) c).1 := by rw [sp1, if_pos (.inl ⟨hb, e⟩)]
      have hq : (pn ps i).q ≠ 4611686018427387904 := fun a => by rw [if_pos a] at m2; omega
      rw [if_neg hq] at m2
      have hd : spendR (pn ps i) c.toNat = (dryP (pn ps i), 11) := by
        rcases f7 with ⟨a, _⟩ | ⟨_, a, _⟩ | ⟨_, _, _, a⟩
        · exact absurd a hq
        · omega
        · exact a
      obtain ⟨d1, d2, d3, d4, d5, d6, _⟩ := dry_same (pn ps i)
      rw [e1, eG, hd]
      dsimp only
      rw [if_neg (by simp), d4, d5, d6]
      exact ⟨by omega, fun _ => by omega, .inr e, fun a => absurd (by rw [e]; exact m1) a⟩
    · have e1 : sp1 ps (upT l g) c (pn ps i) = pn ps i := by
        rw [sp1, if_neg]
        rintro (⟨_, a⟩ | ⟨a, _⟩)
        · exact e a
        · rw [hb] at a; cases a
      rw [e1, if_neg (by simp)]
      exact ⟨by omega, fun _ => by omega, .inl rfl, fun _ => rfl⟩
  | false =>
    obtain ⟨m1, m2⟩ := blkL_no hb
    by_cases e : (pn ps i).g ∈ upT l g
    · have e1 : sp1 ps (upT l g) c (pn ps i) = (spendG (pn ps i) c).1 := by rw [sp1, if_pos (.inr ⟨hb, e⟩)]
      have eA : atP ps (pn ps i).g = pn ps i := by
        rw [hT.grp i hi]; exact (hT.at hi).2.1
      have hr := m2 _ e
      rw [eA, eR] at hr
      rw [e1, eG, if_pos ⟨rfl, e⟩]
      rcases f7 with ⟨a1, a2, a3, a4, a5⟩ | ⟨a1, a2, a3, a4, a5⟩ | ⟨a1, a2, a3, a4⟩
      · exact ⟨by rw [a3]; omega, fun c => absurd a1 c, .inl (spend_th a2), fun c => absurd e c⟩
      · exact ⟨by rw [a4]; omega, fun _ => by omega, .inl (spend_th a3), fun c => absurd e c⟩
      · rw [if_neg a1] at hr
        omega
    · have e1 : sp1 ps (upT l g) c (pn ps i) = pn ps i := by
        rw [sp1, if_neg]
        rintro (⟨a, _⟩ | ⟨_, a⟩)
        · rw [hb] at a; cases a
        · exact e a
      rw [e1, if_neg (by intro a; exact e a.2)]
      exact ⟨by omega, fun _ => by omega, .inl rfl, fun _ => rfl⟩
theorem PoolsK.spE {l : List Nod} {n k m : Int} {ps : List Pool} (h : PoolsK l n k m ps) {g c : Int} (hg : g ∈ ids l) (h0 : 0 ≤ c) (h1 : c < k) : spE l n ps g c = (if (blkL ps c (upT l g)).2 = true then 11 else 0) ∧ spL l n ps g c = ps.map (sp1 ps (upT l g) c) := by
  have e : Go.Proofs.Ytemffnpliflkgaa.spE l n ps g c = (if (blkL ps c (upT l g)).2 = true then 11 else 0) := by
    have := h.loc
    rw [Go.Proofs.Ytemffnpliflkgaa.spE, if_neg (by rw [thrB_iff.2 h.thr]; simp), if_neg (by rw [hasB_iff.2 hg]; simp), if_neg (by omega)]
  refine ⟨e, ?_⟩
  rw [spL, if_pos]
  rw [e]
  split
  · exact .inr rfl
  · exact .inl rfl
theorem PoolsK.get {l : List Nod} {n k m : Int} {ps : List Pool} (h : PoolsK l n k m ps) {F : Pool → Pool} {i : Nat} (hi : i < l.length) : pn (ps.map F) i = F (pn ps i) := map_pn (by rw [h.thr.len]; exact hi)
theorem idle_held {l : List Nod} {n k m : Int} {ps : List Pool} (h : PoolsK l n k m ps) {c : Int} (h0 : 0 ≤ c) (h1 : c < k) {i : Nat} (hi : i < l.length) : (id1 c (pn ps i)).le + (id1 c (pn ps i)).l.sum = (pn ps i).le + (pn ps i).l.sum := by
  have hl : c < (pn ps i).l.length := by rw [h.locs hi]; exact h1
  rw [id1, returnG_ok (h.thr.good i hi) h0 hl, if_pos rfl]
  exact back_held (by omega)
theorem rf_held {l : List Nod} {n k m : Int} {ps : List Pool} (h : PoolsK l n k m ps) (hm : m < 1099511627776) (due : List Int) {i : Nat} (hi : i < l.length) : (rf1 due (pn ps i)).le + (rf1 due (pn ps i)).l.sum = if (pn ps i).g ∈ due ∧ (pn ps i).q ≠ 4611686018427387904 then min ((pn ps i).le + (pn ps i).l.sum + (pn ps i).q) ((pn ps i).q + (pn ps i).bu) else (pn ps i).le + (pn ps i).l.sum := by
  have hg := h.thr.good i hi
  have hp := h.pe i hi
  have hr := refillG_ok hg (by omega)
  obtain ⟨r1, r2, r3⟩ := refill_facts hg (by omega)
  unfold rf1
  by_cases e : (pn ps i).g ∈ due
  · rw [hr, if_pos ⟨rfl, e⟩]
    by_cases hq : (pn ps i).q = 4611686018427387904
    · rw [if_neg (fun a => a.2 hq)]
      have e2 : refillP (pn ps i) = { pn ps i with pe := (pn ps i).pe + 1, sp := 0, em := false } := by rw [refillP, if_pos hq]
      rw [e2]
    · rw [if_pos ⟨e, hq⟩]
      exact r3 hq
  · rw [if_neg (fun a => e a.2), if_neg (fun a => e a.1)]
theorem bne_t (a b : Bool) : ((a != b) = true) = ¬(a = true ↔ b = true) := by cases a <;> cases b <;> decide
theorem bne_f (a b : Bool) : ((a != b) = false) = (a = true ↔ b = true) := by cases a <;> cases b <;> decide
def rowsN (s : St) (b : Nat) : List Nod := match s.h b with
  | some (.rows _ 3 l) => l
  | _ => []
def sLaw18 : DS := ⟨_, one pkIntsP, fun _ => True, fun _ => .bool true, nou⟩
end Go.Proofs.Ytemffnpliflkgaa
