/-
  Lemmas and contracts on the way to the laws of this seat; each theorem states its own conditions, and there are no others.
-/
import Derived.Test.YtemffnpliflkgaaE3
namespace Go.Proofs.Ytemffnpliflkgaa
open Go
set_option linter.unusedVariables false
set_option linter.unusedSimpArgs false

/-- The groups from one up to the root, in a list that has the last ones first. -/
def up : List Nod → Int → List Int
  | [], _ => []
  | x :: r, id => if x.id = id then id :: up r x.parent else up r id
def upT (l : List Nod) (id : Int) : List Int := up l.reverse id
def ids (l : List Nod) : List Int := l.map (·.id)
def nz : Nod := ⟨0, 0, ByteArray.empty, 0, 0, 0⟩
def nd (l : List Nod) (i : Nat) : Nod := l.getD i nz
def okB (c : Int) : Bool := (decide (97 ≤ c) && decide (c ≤ 122)) || (decide (65 ≤ c) && decide (c ≤ 90)) || (decide (48 ≤ c) && decide (c ≤ 57)) || decide (c = 95) || decide (c = 45)
def nameB (s : ByteArray) : Bool := decide (1 ≤ (bytesOf s).length) && decide ((bytesOf s).length ≤ 32) && !decide ((bytesOf s).getD 0 0 = 45) && (bytesOf s).all okB
structure CtlOk (x : Nod) : Prop where
  c0 : 0 ≤ x.control
  c1 : x.control ≤ 31
  o0 : 0 ≤ x.owner
  o1 : x.owner ≤ 1048576
  k : x.kind = 0 ∨ x.kind = 1
structure RootOk (x : Nod) : Prop where
  id : x.id = 1
  par : x.parent = 0
  name : x.name = ByteArray.empty
  kind : x.kind = 0
structure FineAt (l : List Nod) (i : Nat) : Prop where
  asc : (nd l (i - 1)).id < (nd l i).id
  name : nameB (nd l i).name = true
  par : ∃ k, k < i ∧ (nd l k).id = (nd l i).parent
  sole : ∀ k, k < i → ¬ ((nd l k).parent = (nd l i).parent ∧ (nd l k).name = (nd l i).name)
structure NodOk (l : List Nod) (i : Nat) : Prop where
  ctl : CtlOk (nd l i)
  root : i = 0 → RootOk (nd l 0)
  fine : 0 < i → FineAt l i
def DepAt (l : List Nod) (i : Nat) : Prop := (up (l.take (i + 1)).reverse (nd l i).id).length ≤ 9
structure ChkP (l : List Nod) (n : Int) : Prop where
  len1 : 1 ≤ l.length
  len2 : l.length ≤ 64
  nod : ∀ i, i < l.length → NodOk l i
  dep : ∀ i, i < l.length → DepAt l i
  nx1 : (nd l (l.length - 1)).id < n
  nx2 : n ≤ 2147483648

theorem take_succ_rev {l : List Nod} {i : Nat} (h : i < l.length) : (l.take (i + 1)).reverse = nd l i :: (l.take i).reverse := by
  have e : l.take (i + 1) = l.take i ++ [nd l i] := by
    rw [List.take_add_one, List.getElem?_eq_getElem h]
    simp [nd, List.getD_eq_getElem?_getD, List.getElem?_eq_getElem h]
  rw [e, List.reverse_append]; rfl
theorem nd_take {l : List Nod} {i k : Nat} (h : i < k) : nd (l.take k) i = nd l i := by
  simp [nd, List.getD_eq_getElem?_getD, List.getElem?_take_of_lt h]
theorem nd_mem {l : List Nod} {i : Nat} (h : i < l.length) : nd l i ∈ l := by
  simp only [nd, List.getD_eq_getElem?_getD, List.getElem?_eq_getElem h, Option.getD_some]
  exact List.getElem_mem h
theorem mem_nd {l : List Nod} {x : Nod} (h : x ∈ l) : ∃ i, i < l.length ∧ nd l i = x := by
  obtain ⟨i, hi, e⟩ := List.getElem_of_mem h
  exact ⟨i, hi, by simp [nd, List.getD_eq_getElem?_getD, hi, e]⟩
theorem ids_mem {l : List Nod} {g : Int} : g ∈ ids l ↔ ∃ i, i < l.length ∧ (nd l i).id = g := by
  unfold ids
  rw [List.mem_map]
  constructor
  · rintro ⟨x, hx, e⟩
    obtain ⟨i, hi, e2⟩ := mem_nd hx
    exact ⟨i, hi, by rw [e2]; exact e⟩
  · rintro ⟨i, hi, e⟩
    exact ⟨nd l i, nd_mem hi, e⟩
/-- Ascending by the numbers; the parent is ahead. -/
structure Asc (l : List Nod) : Prop where
  lt : ∀ i j, i < j → j < l.length → (nd l i).id < (nd l j).id
  root : 0 < l.length → (nd l 0).id = 1 ∧ (nd l 0).parent = 0
  par : ∀ i, 0 < i → i < l.length → ∃ k, k < i ∧ (nd l k).id = (nd l i).parent
theorem ChkP.asc {l : List Nod} {n : Int} (h : ChkP l n) : Asc l where
  lt := fun i j hij hj => by
    induction j with
    | zero => omega
    | succ j ih =>
      have h1 := ((h.nod (j + 1) hj).fine (by omega)).asc
      simp only [Nat.add_sub_cancel] at h1
      by_cases e : i = j
      · subst e; exact h1
      · have := ih (by omega) (by omega); omega
  root := fun h0 => ⟨((h.nod 0 h0).root rfl).id, ((h.nod 0 h0).root rfl).par⟩
  par := fun i h0 hi => ((h.nod i hi).fine h0).par
theorem Asc.inj {l : List Nod} (h : Asc l) {i j : Nat} (hi : i < l.length) (hj : j < l.length) (e : (nd l i).id = (nd l j).id) : i = j := by
  rcases Nat.lt_trichotomy i j with c | c | c
  · have := h.lt i j c hj; omega
  · exact c
  · have := h.lt j i c hi; omega
theorem Asc.pos {l : List Nod} (h : Asc l) {i : Nat} (hi : i < l.length) : 1 ≤ (nd l i).id := by
  have h0 := (h.root (by omega)).1
  by_cases e : i = 0
  · subst e; omega
  · have := h.lt 0 i (by omega) hi; omega
theorem Asc.notzero {l : List Nod} (h : Asc l) : (0 : Int) ∉ ids l := fun hm => by
  obtain ⟨i, hi, e⟩ := ids_mem.1 hm
  have := h.pos hi; omega

theorem up_none : ∀ {l : List Nod} {id : Int}, (∀ x ∈ l, x.id ≠ id) → up l id = []
  | [], _, _ => rfl
  | x :: r, id, h => by
    rw [up, if_neg (h x (by simp))]
    exact up_none fun y hy => h y (by simp [hy])
theorem up_step {l : List Nod} {i : Nat} (h : i < l.length) (id : Int) : up (l.take (i + 1)).reverse id = if (nd l i).id = id then id :: up (l.take i).reverse (nd l i).parent else up (l.take i).reverse id := by
  rw [take_succ_rev h, up]
theorem Asc.skip {l : List Nod} (h : Asc l) {i j : Nat} (hij : i < j) (hj : j ≤ l.length) : up (l.take j).reverse (nd l i).id = up (l.take (i + 1)).reverse (nd l i).id := by
  induction j with
  | zero => omega
  | succ j ih =>
    by_cases e : i = j
    · subst e; rfl
    · rw [up_step (by omega), if_neg, ih (by omega) (by omega)]
      intro e2
      exact e (h.inj (by omega) (by omega) e2.symm)
theorem Asc.upT_at {l : List Nod} (h : Asc l) {i : Nat} (hi : i < l.length) : upT l (nd l i).id = (nd l i).id :: up (l.take i).reverse (nd l i).parent := by
  have := h.skip (i := i) (j := l.length) hi (Nat.le_refl _)
  rw [List.take_length] at this
  unfold upT
  rw [this, up_step hi, if_pos rfl]
theorem upT_none {l : List Nod} {id : Int} (h : id ∉ ids l) : upT l id = [] :=
  up_none fun x hx e => h (by unfold ids; exact List.mem_map.2 ⟨x, by simpa using hx, e⟩)
theorem Asc.upT_par {l : List Nod} (h : Asc l) {i : Nat} (hi : i < l.length) : upT l (nd l i).id = (nd l i).id :: upT l (nd l i).parent := by
  rw [h.upT_at hi]
  congr 1
  by_cases e : i = 0
  · subst e
    have h0 := h.root (by omega)
    rw [h0.2, upT_none h.notzero]; simp [up]
  · obtain ⟨k, hk, e2⟩ := h.par i (by omega) hi
    rw [← e2]
    rw [h.skip (i := k) (j := i) hk (by omega)]
    have := h.skip (i := k) (j := l.length) (by omega) (Nat.le_refl _)
    rw [List.take_length] at this
    exact this.symm
/-- The first group with a number. -/
def findN (l : List Nod) (id : Int) : Option Nod := l.find? fun x => decide (x.id = id)
def hasB (l : List Nod) (id : Int) : Bool := (ids l).contains id
theorem hasB_iff {l : List Nod} {id : Int} : hasB l id = true ↔ id ∈ ids l := by simp [hasB]
theorem Asc.find_at {l : List Nod} (h : Asc l) {i : Nat} (hi : i < l.length) : findN l (nd l i).id = some (nd l i) := by
  unfold findN
  rw [List.find?_eq_some_iff_getElem]
  refine ⟨by simp, i, hi, by simp [nd, List.getD_eq_getElem?_getD, hi], fun j hj => ?_⟩
  have := h.lt i
  have hj2 := h.lt j i hj hi
  have e : nd l j = l[j] := by simp [nd, List.getD_eq_getElem?_getD, show j < l.length by omega]
  rw [e] at hj2
  simp; omega
theorem find_none {l : List Nod} {id : Int} (h : id ∉ ids l) : findN l id = none := by
  unfold findN
  rw [List.find?_eq_none]
  intro x hx
  simp only [decide_eq_true_eq]
  exact fun e => h (by unfold ids; exact List.mem_map.2 ⟨x, hx, e⟩)
/-- The groups from one up, by looking for each parent. -/
def anc (l : List Nod) : Nat → Int → List Int
  | 0, _ => []
  | k + 1, id => match findN l id with
    | none => []
    | some x => id :: anc l k x.parent
theorem Asc.anc_up {l : List Nod} (h : Asc l) : ∀ (i f : Nat), i < l.length → i < f → anc l f (nd l i).id = upT l (nd l i).id := by
  intro i
  induction i using Nat.strongRecOn with
  | _ i ih =>
    intro f hi hf
    obtain ⟨g, rfl⟩ : ∃ g, f = g + 1 := ⟨f - 1, by omega⟩
    rw [anc, h.find_at hi, h.upT_par hi]
    simp only
    congr 1
    by_cases e : i = 0
    · subst e
      rw [(h.root (by omega)).2, upT_none h.notzero]
      cases g with
      | zero => rfl
      | succ g => rw [anc, find_none h.notzero]
    · obtain ⟨k, hk, e2⟩ := h.par i (by omega) hi
      rw [← e2]
      exact ih k hk g (by omega) (by omega)
theorem Asc.anc_eq {l : List Nod} (h : Asc l) (id : Int) : anc l l.length id = upT l id := by
  by_cases hm : id ∈ ids l
  · obtain ⟨i, hi, rfl⟩ := ids_mem.1 hm
    exact h.anc_up i _ hi hi
  · rw [upT_none hm]
    cases hl : l.length with
    | zero => rfl
    | succ k => rw [anc, find_none hm]
theorem up_sub : ∀ {l : List Nod} {id g : Int}, g ∈ up l id → g ∈ l.map (·.id)
  | x :: r, id, g, h => by
    rw [up] at h
    split at h
    · rename_i e
      rcases List.mem_cons.1 h with e2 | h2
      · subst e2; simp [e]
      · simp only [List.map_cons, List.mem_cons]; exact .inr (up_sub h2)
    · simp only [List.map_cons, List.mem_cons]; exact .inr (up_sub h)
theorem upT_sub {l : List Nod} {id g : Int} (h : g ∈ upT l id) : g ∈ ids l := by
  have := up_sub h
  simpa [ids] using this
theorem Asc.self_mem {l : List Nod} (h : Asc l) {id : Int} (hm : id ∈ ids l) : id ∈ upT l id := by
  obtain ⟨i, hi, rfl⟩ := ids_mem.1 hm
  rw [h.upT_par hi]; simp
/-- Going up twice. -/
theorem Asc.up_trans {l : List Nod} (h : Asc l) : ∀ (i : Nat), i < l.length → ∀ a b, a ∈ upT l (nd l i).id → b ∈ upT l a → b ∈ upT l (nd l i).id := by
  intro i
  induction i using Nat.strongRecOn with
  | _ i ih =>
    intro hi a b ha hb
    rw [h.upT_par hi] at ha
    rcases List.mem_cons.1 ha with e | ha
    · subst e; exact hb
    · by_cases e : i = 0
      · subst e
        rw [(h.root (by omega)).2, upT_none h.notzero] at ha; cases ha
      · obtain ⟨k, hk, e2⟩ := h.par i (by omega) hi
        rw [← e2] at ha
        have := ih k hk (by omega) a b ha hb
        rw [h.upT_par hi, List.mem_cons]
        right
        rw [← e2]; exact this
theorem Asc.le_of_up {l : List Nod} (h : Asc l) : ∀ (i : Nat), i < l.length → ∀ a, a ∈ upT l (nd l i).id → a ≤ (nd l i).id := by
  intro i
  induction i using Nat.strongRecOn with
  | _ i ih =>
    intro hi a ha
    rw [h.upT_par hi] at ha
    rcases List.mem_cons.1 ha with e | ha
    · omega
    · by_cases e : i = 0
      · subst e
        rw [(h.root (by omega)).2, upT_none h.notzero] at ha; cases ha
      · obtain ⟨k, hk, e2⟩ := h.par i (by omega) hi
        rw [← e2] at ha
        have h1 := ih k hk (by omega) a ha
        have h2 := h.lt k i hk hi
        omega
theorem Asc.root_mem {l : List Nod} (h : Asc l) : ∀ (i : Nat), i < l.length → (1 : Int) ∈ upT l (nd l i).id := by
  intro i
  induction i using Nat.strongRecOn with
  | _ i ih =>
    intro hi
    rw [h.upT_par hi]
    by_cases e : i = 0
    · subst e
      simp [(h.root (by omega)).1]
    · obtain ⟨k, hk, e2⟩ := h.par i (by omega) hi
      rw [List.mem_cons]
      right
      rw [← e2]; exact ih k hk (by omega)
/-- The numbers on the way up fall. -/
theorem Asc.up_desc {l : List Nod} (h : Asc l) : ∀ (i : Nat), i < l.length → (upT l (nd l i).id).Pairwise (fun a b => b < a) := by
  intro i
  induction i using Nat.strongRecOn with
  | _ i ih =>
    intro hi
    rw [h.upT_par hi]
    by_cases e : i = 0
    · subst e
      rw [(h.root (by omega)).2, upT_none h.notzero]; simp
    · obtain ⟨k, hk, e2⟩ := h.par i (by omega) hi
      rw [← e2]
      refine List.pairwise_cons.2 ⟨fun a ha => ?_, ih k hk (by omega)⟩
      have h1 := h.le_of_up k (by omega) a ha
      have h2 := h.lt k i hk hi
      omega

/-! The same, as tests. -/
def ctlB (x : Nod) : Bool := decide (0 ≤ x.control) && decide (x.control ≤ 31) && decide (0 ≤ x.owner) && decide (x.owner ≤ 1048576) && (decide (x.kind = 0) || decide (x.kind = 1))
theorem ctlB_iff {x : Nod} : ctlB x = true ↔ CtlOk x := by
  simp only [ctlB, Bool.and_eq_true, Bool.or_eq_true, decide_eq_true_eq]
  exact ⟨fun ⟨⟨⟨⟨a, b⟩, c⟩, d⟩, e⟩ => ⟨a, b, c, d, e⟩, fun h => ⟨⟨⟨⟨h.c0, h.c1⟩, h.o0⟩, h.o1⟩, h.k⟩⟩
def rootB (x : Nod) : Bool := decide (x.id = 1) && decide (x.parent = 0) && decide (x.name = ByteArray.empty) && decide (x.kind = 0)
theorem rootB_iff {x : Nod} : rootB x = true ↔ RootOk x := by
  simp only [rootB, Bool.and_eq_true, decide_eq_true_eq]
  exact ⟨fun ⟨⟨⟨a, b⟩, c⟩, d⟩ => ⟨a, b, c, d⟩, fun h => ⟨⟨⟨h.id, h.par⟩, h.name⟩, h.kind⟩⟩
/-- Is there one ahead with this number? -/
def parB (l : List Nod) (i : Nat) (g : Int) : Bool := (List.range i).any fun k => decide ((nd l k).id = g)
theorem parB_iff {l : List Nod} {i : Nat} {g : Int} : parB l i g = true ↔ ∃ k, k < i ∧ (nd l k).id = g := by
  simp [parB, List.any_eq_true]
/-- Does none ahead have this parent and this name? -/
def soleB (l : List Nod) (i : Nat) (p : Int) (s : ByteArray) : Bool := (List.range i).all fun k => !(decide ((nd l k).parent = p) && decide ((nd l k).name = s))
theorem soleB_iff {l : List Nod} {i : Nat} {p : Int} {s : ByteArray} : soleB l i p s = true ↔ ∀ k, k < i → ¬ ((nd l k).parent = p ∧ (nd l k).name = s) := by
  simp only [soleB, List.all_eq_true, List.mem_range, Bool.not_eq_true', Bool.and_eq_false_iff, decide_eq_false_iff_not]
  exact ⟨fun h k hk hc => (h k hk).elim (fun h => h hc.1) (fun h => h hc.2), fun h k hk => by
    by_cases e : (nd l k).parent = p
    · exact .inr fun e2 => h k hk ⟨e, e2⟩
    · exact .inl e⟩
def fineB (l : List Nod) (i : Nat) : Bool := decide ((nd l (i - 1)).id < (nd l i).id) && nameB (nd l i).name && parB l i (nd l i).parent && soleB l i (nd l i).parent (nd l i).name
theorem fineB_iff {l : List Nod} {i : Nat} : fineB l i = true ↔ FineAt l i := by
  simp only [fineB, Bool.and_eq_true, decide_eq_true_eq, parB_iff, soleB_iff]
  exact ⟨fun ⟨⟨⟨a, b⟩, c⟩, d⟩ => ⟨a, b, c, d⟩, fun h => ⟨⟨⟨h.asc, h.name⟩, h.par⟩, h.sole⟩⟩
def nodB (l : List Nod) (i : Nat) : Bool := ctlB (nd l i) && (if i = 0 then rootB (nd l 0) else fineB l i)
theorem nodB_iff {l : List Nod} {i : Nat} : nodB l i = true ↔ NodOk l i := by
  unfold nodB
  rw [Bool.and_eq_true, ctlB_iff]
  by_cases e : i = 0
  · rw [if_pos e, rootB_iff]
    exact ⟨fun ⟨a, b⟩ => ⟨a, fun _ => b, fun h => by omega⟩, fun h => ⟨h.ctl, h.root e⟩⟩
  · rw [if_neg e, fineB_iff]
    exact ⟨fun ⟨a, b⟩ => ⟨a, fun h => absurd h e, fun _ => b⟩, fun h => ⟨h.ctl, h.fine (by omega)⟩⟩
def depB (l : List Nod) (i : Nat) : Bool := decide ((up (l.take (i + 1)).reverse (nd l i).id).length ≤ 9)
theorem depB_iff {l : List Nod} {i : Nat} : depB l i = true ↔ DepAt l i := by simp [depB, DepAt]
def chkB (l : List Nod) (n : Int) : Bool := decide (1 ≤ l.length) && decide (l.length ≤ 64) && (List.range l.length).all (nodB l) && (List.range l.length).all (depB l) && decide ((nd l (l.length - 1)).id < n) && decide (n ≤ 2147483648)
theorem chkB_iff {l : List Nod} {n : Int} : chkB l n = true ↔ ChkP l n := by
  simp only [chkB, Bool.and_eq_true, decide_eq_true_eq, List.all_eq_true, List.mem_range, nodB_iff, depB_iff]
  exact ⟨fun ⟨⟨⟨⟨⟨a, b⟩, c⟩, d⟩, e⟩, f⟩ => ⟨a, b, c, d, e, f⟩, fun h => ⟨⟨⟨⟨⟨h.len1, h.len2⟩, h.nod⟩, h.dep⟩, h.nx1⟩, h.nx2⟩⟩
theorem chkB_of {l : List Nod} {n : Int} (h : ChkP l n) : chkB l n = true := chkB_iff.2 h
theorem chkB_not {l : List Nod} {n : Int} (h : ¬ ChkP l n) : chkB l n = false := by
  rw [← Bool.not_eq_true, chkB_iff]; exact h
/-- The children of a group. -/
def chn (l : List Nod) (id : Int) : List Int := (l.filter fun x => decide (x.parent = id)).map (·.id)
theorem chn_mem {l : List Nod} {id g : Int} : g ∈ chn l id ↔ ∃ i, i < l.length ∧ (nd l i).id = g ∧ (nd l i).parent = id := by
  unfold chn
  simp only [List.mem_map, List.mem_filter, decide_eq_true_eq]
  constructor
  · rintro ⟨x, ⟨hx, h1⟩, h2⟩
    obtain ⟨i, hi, e⟩ := mem_nd hx
    exact ⟨i, hi, by rw [e]; exact h2, by rw [e]; exact h1⟩
  · rintro ⟨i, hi, h1, h2⟩
    exact ⟨nd l i, ⟨nd_mem hi, h2⟩, h1⟩
theorem chn_take {l : List Nod} {i : Nat} (h : i < l.length) (id : Int) : chn (l.take (i + 1)) id = chn (l.take i) id ++ (if (nd l i).parent = id then [(nd l i).id] else []) := by
  have e : l.take (i + 1) = l.take i ++ [nd l i] := by
    rw [List.take_add_one, List.getElem?_eq_getElem h]
    simp [nd, List.getD_eq_getElem?_getD, List.getElem?_eq_getElem h]
  rw [e]
  unfold chn
  rw [List.filter_append, List.map_append]
  by_cases c : (nd l i).parent = id <;> simp [c]
theorem chn_len {l : List Nod} (id : Int) : (chn l id).length ≤ l.length := by
  unfold chn
  rw [List.length_map]
  exact List.length_filter_le _ _
theorem Asc.nodup {l : List Nod} (h : Asc l) : (ids l).Nodup := by
  unfold ids
  rw [List.Nodup, List.pairwise_map, List.pairwise_iff_getElem]
  intro i j hi hj hij
  have := h.lt i j hij hj
  have e1 : nd l i = l[i] := by simp [nd, List.getD_eq_getElem?_getD, hi]
  have e2 : nd l j = l[j] := by simp [nd, List.getD_eq_getElem?_getD, hj]
  rw [e1, e2] at this
  omega
theorem Asc.chn_nodup {l : List Nod} (h : Asc l) (id : Int) : (chn l id).Nodup := by
  have := h.nodup
  unfold ids at this
  unfold chn
  exact this.sublist (List.Sublist.map _ List.filter_sublist)
/-- The groups below one, itself among them. -/
def Sub (l : List Nod) (id : Int) (s : List Int) : Prop := s.Nodup ∧ ∀ g, g ∈ s ↔ id ∈ upT l g
theorem nodup_le : ∀ {l m : List Int}, l.Nodup → l ⊆ m → l.length ≤ m.length
  | [], _, _, _ => Nat.zero_le _
  | a :: r, m, hn, hs => by
    rw [List.nodup_cons] at hn
    have hm : a ∈ m := hs (by simp)
    have h1 : r ⊆ m.erase a := fun x hx => (List.mem_erase_of_ne fun e => hn.1 (by rw [← e]; exact hx)).2 (hs (by simp [hx]))
    have := nodup_le hn.2 h1
    rw [List.length_erase_of_mem hm] at this
    have : 0 < m.length := List.length_pos_of_mem hm
    simp only [List.length_cons]
    omega
/-- Half a walk through the groups below one. -/
structure Walk (l : List Nod) (id : Int) (out todo : List Int) : Prop where
  nodup : (out ++ todo).Nodup
  below : ∀ g ∈ out ++ todo, id ∈ upT l g
  cover : ∀ g, id ∈ upT l g → g ∈ out ∨ ∃ a ∈ todo, a ∈ upT l g
  par : ∀ i, i < l.length → (nd l i).id ∈ out ++ todo → (nd l i).id = id ∨ (nd l i).parent ∈ out
theorem Walk.start {l : List Nod} (h : Asc l) {id : Int} (hm : id ∈ ids l) : Walk l id [] [id] where
  nodup := by simp
  below := fun g hg => by simp at hg; subst hg; exact h.self_mem hm
  cover := fun g hg => .inr ⟨id, by simp, hg⟩
  par := fun i hi hg => .inl (by simpa using hg)
theorem Walk.step {l : List Nod} (h : Asc l) {id a : Int} {out r : List Int} (W : Walk l id out (a :: r)) : Walk l id (out ++ [a]) (chn l a ++ r) := by
  have hn := W.nodup
  have hnew : ∀ c ∈ chn l a, c ∉ out ++ a :: r := fun c hc hin => by
    obtain ⟨i, hi, e1, e2⟩ := chn_mem.1 hc
    subst e1
    rcases W.par i hi hin with e | hp
    · -- the group itself is below its own child
      have h1 : id ∈ upT l a := W.below a (by simp)
      have ha : a ∈ ids l := by
        by_cases hx : a ∈ ids l
        · exact hx
        · rw [upT_none hx] at h1; cases h1
      obtain ⟨k, hk, ek⟩ := ids_mem.1 ha
      have h2 := h.le_of_up k hk id (by rw [ek]; exact h1)
      by_cases i0 : i = 0
      · subst i0
        have h3 := h.pos hk
        rw [ek, ← e2, (h.root (by omega)).2] at h3; omega
      · obtain ⟨q, hq, eq⟩ := h.par i (by omega) hi
        have h3 := h.lt q i hq hi
        rw [eq, e2] at h3
        rw [ek] at h2
        omega
    · rw [e2] at hp
      rw [List.nodup_append] at hn
      exact hn.2.2 a hp a (by simp) rfl
  have perm : ∀ x, x ∈ (out ++ [a]) ++ (chn l a ++ r) ↔ x ∈ out ++ a :: r ∨ x ∈ chn l a := fun x => by
    simp only [List.mem_append, List.mem_cons, List.not_mem_nil, or_false]
    constructor
    · rintro ((h1 | h1) | h1 | h1) <;> simp [h1]
    · rintro ((h1 | h1 | h1) | h1) <;> simp [h1]
  refine ⟨?_, fun g hg => ?_, fun g hg => ?_, fun i hi hg => ?_⟩
  · rw [List.nodup_append] at hn ⊢
    obtain ⟨n1, n2, n3⟩ := hn
    rw [List.nodup_cons] at n2
    refine ⟨?_, ?_, ?_⟩
    · rw [List.nodup_append]
      exact ⟨n1, by simp, fun x hx y hy => by simp at hy; subst hy; exact n3 x hx _ (by simp)⟩
    · rw [List.nodup_append]
      exact ⟨h.chn_nodup a, n2.2, fun x hx y hy e => by subst e; exact hnew x hx (by simp [hy])⟩
    · intro x hx y hy e
      subst e
      rcases List.mem_append.1 hy with hy | hy
      · refine hnew x hy ?_
        rcases List.mem_append.1 hx with hx | hx
        · simp [hx]
        · simp at hx; subst hx; simp
      · rcases List.mem_append.1 hx with hx | hx
        · exact n3 x hx x (by simp [hy]) rfl
        · have hx' : x = a := by simpa using hx
          rw [hx'] at hy
          exact n2.1 hy
  · rcases (perm g).1 hg with hg | hg
    · exact W.below g hg
    · obtain ⟨i, hi, e1, e2⟩ := chn_mem.1 hg
      subst e1
      rw [h.upT_par hi, e2]
      exact List.mem_cons_of_mem _ (W.below a (by simp))
  · rcases W.cover g hg with h1 | ⟨b, hb, h2⟩
    · exact .inl (by simp [h1])
    · rcases List.mem_cons.1 hb with e | hb
      · subst e
        -- g is a, or below one of its children
        have key : ∀ i, i < l.length → b ∈ upT l (nd l i).id → (nd l i).id = b ∨ ∃ c ∈ chn l b, c ∈ upT l (nd l i).id := by
          intro i
          induction i using Nat.strongRecOn with
          | _ i ih =>
            intro hi hbm
            by_cases eb : (nd l i).id = b
            · exact .inl eb
            · right
              rw [h.upT_par hi] at hbm
              rcases List.mem_cons.1 hbm with e | hbm
              · exact absurd e.symm eb
              · by_cases i0 : i = 0
                · subst i0
                  rw [(h.root (by omega)).2, upT_none h.notzero] at hbm; cases hbm
                · obtain ⟨q, hq, eq⟩ := h.par i (by omega) hi
                  rw [← eq] at hbm
                  rcases ih q hq (by omega) hbm with e | ⟨c, hc, hcm⟩
                  · refine ⟨(nd l i).id, chn_mem.2 ⟨i, hi, rfl, by rw [← eq]; exact e⟩, ?_⟩
                    rw [h.upT_par hi]; simp
                  · refine ⟨c, hc, ?_⟩
                    rw [h.upT_par hi, ← eq]
                    exact List.mem_cons_of_mem _ hcm
        have hgm : g ∈ ids l := by
          by_cases hx : g ∈ ids l
          · exact hx
          · rw [upT_none hx] at h2; cases h2
        obtain ⟨i, hi, rfl⟩ := ids_mem.1 hgm
        rcases key i hi h2 with e | ⟨c, hc, hcm⟩
        · left; rw [e]; simp
        · exact .inr ⟨c, by simp [hc], hcm⟩
      · exact .inr ⟨b, by simp [hb], h2⟩
  · rcases (perm _).1 hg with hg | hg
    · rcases W.par i hi hg with h1 | h1
      · exact .inl h1
      · exact .inr (by simp [h1])
    · obtain ⟨j, hj, e1, e2⟩ := chn_mem.1 hg
      have := h.inj hj hi e1
      subst this
      exact .inr (by simp [e2])
theorem Walk.len {l : List Nod} (h : Asc l) {id : Int} {out todo : List Int} (W : Walk l id out todo) : out.length + todo.length ≤ l.length := by
  have h1 : (out ++ todo) ⊆ ids l := fun g hg => by
    have h2 := W.below g hg
    by_cases hx : g ∈ ids l
    · exact hx
    · rw [upT_none hx] at h2; cases h2
  have := nodup_le W.nodup h1
  simpa [ids] using this
theorem Walk.fin {l : List Nod} (h : Asc l) {id : Int} {out todo : List Int} (W : Walk l id out todo) (he : todo = [] ∨ l.length ≤ out.length) : Sub l id out := by
  have e : todo = [] := by
    rcases he with e | e
    · exact e
    · have := W.len h
      exact List.eq_nil_of_length_eq_zero (by omega)
  subst e
  refine ⟨by simpa using W.nodup, fun g => ⟨fun hg => W.below g (by simp [hg]), fun hg => ?_⟩⟩
  rcases W.cover g hg with h1 | ⟨a, ha, _⟩
  · exact h1
  · cases ha

theorem nameB_iff {s : ByteArray} : nameB s = true ↔ 1 ≤ (bytesOf s).length ∧ (bytesOf s).length ≤ 32 ∧ ¬ (bytesOf s).getD 0 0 = 45 ∧ ∀ j, j < (bytesOf s).length → okB ((bytesOf s).getD j 0) = true := by
  unfold nameB
  simp only [Bool.and_eq_true, decide_eq_true_eq, Bool.not_eq_true', decide_eq_false_iff_not, List.all_eq_true]
  constructor
  · rintro ⟨⟨⟨h1, h2⟩, h3⟩, h4⟩
    refine ⟨h1, h2, h3, fun j hj => h4 _ ?_⟩
    rw [List.getD_eq_getElem?_getD, List.getElem?_eq_getElem hj]
    exact List.getElem_mem hj
  · rintro ⟨h1, h2, h3, h4⟩
    refine ⟨⟨⟨h1, h2⟩, h3⟩, fun x hx => ?_⟩
    obtain ⟨j, hj, e⟩ := List.getElem_of_mem hx
    have := h4 j hj
    rw [List.getD_eq_getElem?_getD, List.getElem?_eq_getElem hj, Option.getD_some, e] at this
    exact this
theorem okB_fold (c : Int) : (decide (97 ≤ c) && decide (c ≤ 122) || decide (65 ≤ c) && decide (c ≤ 90) || decide (48 ≤ c) && decide (c ≤ 57) || decide (c = 95) || decide (c = 45)) = okB c := rfl
theorem size_bytes (s : ByteArray) : s.size = (bytesOf s).length := by
  unfold bytesOf
  rw [List.length_map, Array.length_toList]
  rfl
end Go.Proofs.Ytemffnpliflkgaa
