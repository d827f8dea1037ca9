/-
  Lemmas and contracts on the way to the laws of this seat; each theorem states its own conditions, and there are no others.
-/
import Derived.Test.YtemffnpliflkgaaE3
import Derived.Test.YtemffnpliflkgaaE29
namespace Go.Proofs.Ytemffnpliflkgaa
open Go
set_option linter.unusedVariables false
set_option linter.unusedSimpArgs false
set_option linter.unusedVariables false
set_option linter.unusedSimpArgs false
def nd0 : Nod := { id := 0, parent := 0, name := ByteArray.empty, control := 0, kind := 0, owner := 0 }
def nd1 : Nod := { id := 1, parent := 0, name := ByteArray.empty, control := 0, kind := 0, owner := 0 }
def pl0 : Pool := { g := 0, q := 0, bu := 0, s := 0, le := 0, l := NilL Int, sp := 0, pe := 0, th := 0, em := false }
def by97 : ByteArray := { data := ((97 : UInt8) :: NilL UInt8).toArray }
def by98 : ByteArray := { data := ((98 : UInt8) :: NilL UInt8).toArray }
end Go.Proofs.Ytemffnpliflkgaa
namespace Go.Proofs.Ytemffnpliflkgaa
open Go

/-- The groups from one up to the root, in a list that has the last ones first. -/
def up : List Nod → Int → List Int
  | [], _ => []
  | x :: r, id => if x.id = id then id :: up r x.parent else up r id
def upT (l : List Nod) (id : Int) : List Int := up l.reverse id
def ids (l : List Nod) : List Int := l.map (·.id)
def nz : Nod := ⟨0, 0, ByteArray.empty, 0, 0, 0⟩
def nd (l : List Nod) (i : Nat) : Nod := l.getD i nz
def okB (c : Int) : Bool := (decide (97 ≤ c) && decide (c ≤ 122)) || (decide (65 ≤ c) && decide (c ≤ 90)) || (decide (48 ≤ c) && decide (c ≤ 57)) || decide (c = 95) || decide (c = 45)
def nameB (s : ByteArray) : Bool := decide (1 ≤ (bytesOf s).length) && decide ((bytesOf s).length ≤ 32) && !decide ((bytesOf s).getD 0 0 = 45) && (bytesOf s).all okB
structure CtlOk (x : Nod) : Prop where
  c0 : 0 ≤ x.control
  c1 : x.control ≤ 31
  o0 : 0 ≤ x.owner
  o1 : x.owner ≤ 1048576
  k : x.kind = 0 ∨ x.kind = 1
structure RootOk (x : Nod) : Prop where
  id : x.id = 1
  par : x.parent = 0
  name : x.name = ByteArray.empty
  kind : x.kind = 0
structure FineAt (l : List Nod) (i : Nat) : Prop where
  asc : (nd l (i - 1)).id < (nd l i).id
  name : nameB (nd l i).name = true
  par : ∃ k, k < i ∧ (nd l k).id = (nd l i).parent
  sole : ∀ k, k < i → ¬ ((nd l k).parent = (nd l i).parent ∧ (nd l k).name = (nd l i).name)
structure NodOk (l : List Nod) (i : Nat) : Prop where
  ctl : CtlOk (nd l i)
  root : i = 0 → RootOk (nd l 0)
  fine : 0 < i → FineAt l i
def DepAt (l : List Nod) (i : Nat) : Prop := (up (l.take (i + 1)).reverse (nd l i).id).length ≤ 9
structure ChkP (l : List Nod) (n : Int) : Prop where
  len1 : 1 ≤ l.length
  len2 : l.length ≤ 64
  nod : ∀ i, i < l.length → NodOk l i
  dep : ∀ i, i < l.length → DepAt l i
  nx1 : (nd l (l.length - 1)).id < n
  nx2 : n ≤ 2147483648

theorem take_succ_rev {l : List Nod} {i : Nat} (h : i < l.length) : (l.take (i + 1)).reverse = nd l i :: (l.take i).reverse := by
  have e : l.take (i + 1) = l.take i ++ [nd l i] := by
    rw [List.take_add_one, List.getElem?_eq_getElem h]
    simp [nd, List.getD_eq_getElem?_getD, List.getElem?_eq_getElem h]
  rw [e, List.reverse_append]; rfl
theorem nd_take {l : List Nod} {i k : Nat} (h : i < k) : nd (l.take k) i = nd l i := by
  simp [nd, List.getD_eq_getElem?_getD, List.getElem?_take_of_lt h]
theorem nd_mem {l : List Nod} {i : Nat} (h : i < l.length) : nd l i ∈ l := by
  simp only [nd, List.getD_eq_getElem?_getD, List.getElem?_eq_getElem h, Option.getD_some]
  exact List.getElem_mem h
theorem mem_nd {l : List Nod} {x : Nod} (h : x ∈ l) : ∃ i, i < l.length ∧ nd l i = x := by
  obtain ⟨i, hi, e⟩ := List.getElem_of_mem h
  exact ⟨i, hi, by simp [nd, List.getD_eq_getElem?_getD, hi, e]⟩
theorem ids_mem {l : List Nod} {g : Int} : g ∈ ids l ↔ ∃ i, i < l.length ∧ (nd l i).id = g := by
  unfold ids
  rw [List.mem_map]
  constructor
  · rintro ⟨x, hx, e⟩
    obtain ⟨i, hi, e2⟩ := mem_nd hx
    exact ⟨i, hi, by rw [e2]; exact e⟩
  · rintro ⟨i, hi, e⟩
    exact ⟨nd l i, nd_mem hi, e⟩
/-- Ascending by the numbers; the parent is ahead. -/
structure Asc (l : List Nod) : Prop where
  lt : ∀ i j, i < j → j < l.length → (nd l i).id < (nd l j).id
  root : 0 < l.length → (nd l 0).id = 1 ∧ (nd l 0).parent = 0
  par : ∀ i, 0 < i → i < l.length → ∃ k, k < i ∧ (nd l k).id = (nd l i).parent
theorem ChkP.asc {l : List Nod} {n : Int} (h : ChkP l n) : Asc l where
  lt := fun i j hij hj => by
    induction j with
    | zero => omega
    | succ j ih =>
      have h1 := ((h.nod (j + 1) hj).fine (by omega)).asc
      simp only [Nat.add_sub_cancel] at h1
      by_cases e : i = j
      · subst e; exact h1
      · have := ih (by omega) (by omega); omega
  root := fun h0 => ⟨((h.nod 0 h0).root rfl).id, ((h.nod 0 h0).root rfl).par⟩
  par := fun i h0 hi => ((h.nod i hi).fine h0).par
theorem Asc.inj {l : List Nod} (h : Asc l) {i j : Nat} (hi : i < l.length) (hj : j < l.length) (e : (nd l i).id = (nd l j).id) : i = j := by
  rcases Nat.lt_trichotomy i j with c | c | c
  · have := h.lt i j c hj; omega
  · exact c
  · have := h.lt j i c hi; omega
theorem Asc.pos {l : List Nod} (h : Asc l) {i : Nat} (hi : i < l.length) : 1 ≤ (nd l i).id := by
  have h0 := (h.root (by omega)).1
  by_cases e : i = 0
  · subst e; omega
  · have := h.lt 0 i (by omega) hi; omega
theorem Asc.notzero {l : List Nod} (h : Asc l) : (0 : Int) ∉ ids l := fun hm => by
  obtain ⟨i, hi, e⟩ := ids_mem.1 hm
  have := h.pos hi; omega

theorem up_none : ∀ {l : List Nod} {id : Int}, (∀ x ∈ l, x.id ≠ id) → up l id = []
  | [], _, _ => rfl
  | x :: r, id, h => by
    rw [up, if_neg (h x (by simp))]
    exact up_none fun y hy => h y (by simp [hy])
theorem up_step {l : List Nod} {i : Nat} (h : i < l.length) (id : Int) : up (l.take (i + 1)).reverse id = if (nd l i).id = id then id :: up (l.take i).reverse (nd l i).parent else up (l.take i).reverse id := by
  rw [take_succ_rev h, up]
theorem Asc.skip {l : List Nod} (h : Asc l) {i j : Nat} (hij : i < j) (hj : j ≤ l.length) : up (l.take j).reverse (nd l i).id = up (l.take (i + 1)).reverse (nd l i).id := by
  induction j with
  | zero => omega
  | succ j ih =>
    by_cases e : i = j
    · subst e; rfl
    · rw [up_step (by omega), if_neg, ih (by omega) (by omega)]
      intro e2
      exact e (h.inj (by omega) (by omega) e2.symm)
theorem Asc.upT_at {l : List Nod} (h : Asc l) {i : Nat} (hi : i < l.length) : upT l (nd l i).id = (nd l i).id :: up (l.take i).reverse (nd l i).parent := by
  have := h.skip (i := i) (j := l.length) hi (Nat.le_refl _)
  rw [List.take_length] at this
  unfold upT
  rw [this, up_step hi, if_pos rfl]
theorem upT_none {l : List Nod} {id : Int} (h : id ∉ ids l) : upT l id = [] :=
  up_none fun x hx e => h (by unfold ids; exact List.mem_map.2 ⟨x, by simpa using hx, e⟩)
theorem Asc.upT_par {l : List Nod} (h : Asc l) {i : Nat} (hi : i < l.length) : upT l (nd l i).id = (nd l i).id :: upT l (nd l i).parent := by
  rw [h.upT_at hi]
  congr 1
  by_cases e : i = 0
  · subst e
    have h0 := h.root (by omega)
    rw [h0.2, upT_none h.notzero]; simp [up]
  · obtain ⟨k, hk, e2⟩ := h.par i (by omega) hi
    rw [← e2]
    rw [h.skip (i := k) (j := i) hk (by omega)]
    have := h.skip (i := k) (j := l.length) (by omega) (Nat.le_refl _)
    rw [List.take_length] at this
    exact this.symm
/-- The first group with a number. -/
def findN (l : List Nod) (id : Int) : Option Nod := l.find? fun x => decide (x.id = id)
def hasB (l : List Nod) (id : Int) : Bool := (ids l).contains id
theorem hasB_iff {l : List Nod} {id : Int} : hasB l id = true ↔ id ∈ ids l := by simp [hasB]
theorem Asc.find_at {l : List Nod} (h : Asc l) {i : Nat} (hi : i < l.length) : findN l (nd l i).id = some (nd l i) := by
  unfold findN
  rw [List.find?_eq_some_iff_getElem]
  refine ⟨by simp, i, hi, by simp [nd, List.getD_eq_getElem?_getD, hi], fun j hj => ?_⟩
  have := h.lt i
  have hj2 := h.lt j i hj hi
  have e : nd l j = l[j] := by simp [nd, List.getD_eq_getElem?_getD, show j < l.length by omega]
  rw [e] at hj2
  simp; omega
theorem find_none {l : List Nod} {id : Int} (h : id ∉ ids l) : findN l id = none := by
  unfold findN
  rw [List.find?_eq_none]
  intro x hx
  simp only [decide_eq_true_eq]
  exact fun e => h (by unfold ids; exact List.mem_map.2 ⟨x, hx, e⟩)
/-- The groups from one up, by looking for each parent. -/
def anc (l : List Nod) : Nat → Int → List Int
  | 0, _ => []
  | k + 1, id => match findN l id with
    | none => []
    | some x => id :: anc l k x.parent
theorem Asc.anc_up {l : List Nod} (h : Asc l) : ∀ (i f : Nat), i < l.length → i < f → anc l f (nd l i).id = upT l (nd l i).id := by
  intro i
  induction i using Nat.strongRecOn with
  | _ i ih =>
    intro f hi hf
    obtain ⟨g, rfl⟩ : ∃ g, f = g + 1 := ⟨f - 1, by omega⟩
    rw [anc, h.find_at hi, h.upT_par hi]
    simp only
    congr 1
    by_cases e : i = 0
    · subst e
      rw [(h.root (by omega)).2, upT_none h.notzero]
      cases g with
      | zero => rfl
      | succ g => rw [anc, find_none h.notzero]
    · obtain ⟨k, hk, e2⟩ := h.par i (by omega) hi
      rw [← e2]
      exact ih k hk g (by omega) (by omega)
theorem Asc.anc_eq {l : List Nod} (h : Asc l) (id : Int) : anc l l.length id = upT l id := by
  by_cases hm : id ∈ ids l
  · obtain ⟨i, hi, rfl⟩ := ids_mem.1 hm
    exact h.anc_up i _ hi hi
  · rw [upT_none hm]
    cases hl : l.length with
    | zero => rfl
    | succ k => rw [anc, find_none hm]
theorem up_sub : ∀ {l : List Nod} {id g : Int}, g ∈ up l id → g ∈ l.map (·.id)
  | x :: r, id, g, h => by
    rw [up] at h
    split at h
    · rename_i e
      rcases List.mem_cons.1 h with e2 | h2
      · subst e2; simp [e]
      · simp only [List.map_cons, List.mem_cons]; exact .inr (up_sub h2)
    · simp only [List.map_cons, List.mem_cons]; exact .inr (up_sub h)
theorem upT_sub {l : List Nod} {id g : Int} (h : g ∈ upT l id) : g ∈ ids l := by
  have := up_sub h
  simpa [ids] using this
theorem Asc.self_mem {l : List Nod} (h : Asc l) {id : Int} (hm : id ∈ ids l) : id ∈ upT l id := by
  obtain ⟨i, hi, rfl⟩ := ids_mem.1 hm
  rw [h.upT_par hi]; simp
/-- Going up twice. -/
theorem Asc.up_trans {l : List Nod} (h : Asc l) : ∀ (i : Nat), i < l.length → ∀ a b, a ∈ upT l (nd l i).id → b ∈ upT l a → b ∈ upT l (nd l i).id := by
  intro i
  induction i using Nat.strongRecOn with
  | _ i ih =>
    intro hi a b ha hb
    rw [h.upT_par hi] at ha
    rcases List.mem_cons.1 ha with e | ha
    · subst e; exact hb
    · by_cases e : i = 0
      · subst e
        rw [(h.root (by omega)).2, upT_none h.notzero] at ha; cases ha
      · obtain ⟨k, hk, e2⟩ := h.par i (by omega) hi
        rw [← e2] at ha
        have := ih k hk (by omega) a b ha hb
        rw [h.upT_par hi, List.mem_cons]
        right
        rw [← e2]; exact this
theorem Asc.le_of_up {l : List Nod} (h : Asc l) : ∀ (i : Nat), i < l.length → ∀ a, a ∈ upT l (nd l i).id → a ≤ (nd l i).id := by
  intro i
  induction i using Nat.strongRecOn with
  | _ i ih =>
    intro hi a ha
    rw [h.upT_par hi] at ha
    rcases List.mem_cons.1 ha with e | ha
    · omega
    · by_cases e : i = 0
      · subst e
        rw [(h.root (by omega)).2, upT_none h.notzero] at ha; cases ha
      · obtain ⟨k, hk, e2⟩ := h.par i (by omega) hi
        rw [← e2] at ha
        have h1 := ih k hk (by omega) a ha
        have h2 := h.lt k i hk hi
        omega
theorem Asc.root_mem {l : List Nod} (h : Asc l) : ∀ (i : Nat), i < l.length → (1 : Int) ∈ upT l (nd l i).id := by
  intro i
  induction i using Nat.strongRecOn with
  | _ i ih =>
    intro hi
    rw [h.upT_par hi]
    by_cases e : i = 0
    · subst e
      simp [(h.root (by omega)).1]
    · obtain ⟨k, hk, e2⟩ := h.par i (by omega) hi
      rw [List.mem_cons]
      right
      rw [← e2]; exact ih k hk (by omega)
/-- The numbers on the way up fall. -/
theorem Asc.up_desc {l : List Nod} (h : Asc l) : ∀ (i : Nat), i < l.length → (upT l (nd l i).id).Pairwise (fun a b => b < a) := by
  intro i
  induction i using Nat.strongRecOn with
  | _ i ih =>
    intro hi
    rw [h.upT_par hi]
    by_cases e : i = 0
    · subst e
      rw [(h.root (by omega)).2, upT_none h.notzero]; simp
    · obtain ⟨k, hk, e2⟩ := h.par i (by omega) hi
      rw [← e2]
      refine List.pairwise_cons.2 ⟨fun a ha => ?_, ih k hk (by omega)⟩
      have h1 := h.le_of_up k (by omega) a ha
      have h2 := h.lt k i hk hi
      omega

/-! The same, as tests. -/
def ctlB (x : Nod) : Bool := decide (0 ≤ x.control) && decide (x.control ≤ 31) && decide (0 ≤ x.owner) && decide (x.owner ≤ 1048576) && (decide (x.kind = 0) || decide (x.kind = 1))
theorem ctlB_iff {x : Nod} : ctlB x = true ↔ CtlOk x := by
  simp only [ctlB, Bool.and_eq_true, Bool.or_eq_true, decide_eq_true_eq]
  exact ⟨fun ⟨⟨⟨⟨a, b⟩, c⟩, d⟩, e⟩ => ⟨a, b, c, d, e⟩, fun h => ⟨⟨⟨⟨h.c0, h.c1⟩, h.o0⟩, h.o1⟩, h.k⟩⟩
def rootB (x : Nod) : Bool := decide (x.id = 1) && decide (x.parent = 0) && decide (x.name = ByteArray.empty) && decide (x.kind = 0)
theorem rootB_iff {x : Nod} : rootB x = true ↔ RootOk x := by
  simp only [rootB, Bool.and_eq_true, decide_eq_true_eq]
  exact ⟨fun ⟨⟨⟨a, b⟩, c⟩, d⟩ => ⟨a, b, c, d⟩, fun h => ⟨⟨⟨h.id, h.par⟩, h.name⟩, h.kind⟩⟩
/-- Is there one ahead with this number? -/
def parB (l : List Nod) (i : Nat) (g : Int) : Bool := (List.range i).any fun k => decide ((nd l k).id = g)
theorem parB_iff {l : List Nod} {i : Nat} {g : Int} : parB l i g = true ↔ ∃ k, k < i ∧ (nd l k).id = g := by
  simp [parB, List.any_eq_true]
/-- Does none ahead have this parent and this name? -/
def soleB (l : List Nod) (i : Nat) (p : Int) (s : ByteArray) : Bool := (List.range i).all fun k => !(decide ((nd l k).parent = p) && decide ((nd l k).name = s))
theorem soleB_iff {l : List Nod} {i : Nat} {p : Int} {s : ByteArray} : soleB l i p s = true ↔ ∀ k, k < i → ¬ ((nd l k).parent = p ∧ (nd l k).name = s) := by
  simp only [soleB, List.all_eq_true, List.mem_range, Bool.not_eq_true', Bool.and_eq_false_iff, decide_eq_false_iff_not]
  exact ⟨fun h k hk hc => (h k hk).elim (fun h => h hc.1) (fun h => h hc.2), fun h k hk => by
    by_cases e : (nd l k).parent = p
    · exact .inr fun e2 => h k hk ⟨e, e2⟩
    · exact .inl e⟩
def fineB (l : List Nod) (i : Nat) : Bool := decide ((nd l (i - 1)).id < (nd l i).id) && nameB (nd l i).name && parB l i (nd l i).parent && soleB l i (nd l i).parent (nd l i).name
theorem fineB_iff {l : List Nod} {i : Nat} : fineB l i = true ↔ FineAt l i := by
  simp only [fineB, Bool.and_eq_true, decide_eq_true_eq, parB_iff, soleB_iff]
  exact ⟨fun ⟨⟨⟨a, b⟩, c⟩, d⟩ => ⟨a, b, c, d⟩, fun h => ⟨⟨⟨h.asc, h.name⟩, h.par⟩, h.sole⟩⟩
def nodB (l : List Nod) (i : Nat) : Bool := ctlB (nd l i) && (if i = 0 then rootB (nd l 0) else fineB l i)
theorem nodB_iff {l : List Nod} {i : Nat} : nodB l i = true ↔ NodOk l i := by
  unfold nodB
  rw [Bool.and_eq_true, ctlB_iff]
  by_cases e : i = 0
  · rw [if_pos e, rootB_iff]
    exact ⟨fun ⟨a, b⟩ => ⟨a, fun _ => b, fun h => by omega⟩, fun h => ⟨h.ctl, h.root e⟩⟩
  · rw [if_neg e, fineB_iff]
    exact ⟨fun ⟨a, b⟩ => ⟨a, fun h => absurd h e, fun _ => b⟩, fun h => ⟨h.ctl, h.fine (by omega)⟩⟩
def depB (l : List Nod) (i : Nat) : Bool := decide ((up (l.take (i + 1)).reverse (nd l i).id).length ≤ 9)
theorem depB_iff {l : List Nod} {i : Nat} : depB l i = true ↔ DepAt l i := by simp [depB, DepAt]
def chkB (l : List Nod) (n : Int) : Bool := decide (1 ≤ l.length) && decide (l.length ≤ 64) && (List.range l.length).all (nodB l) && (List.range l.length).all (depB l) && decide ((nd l (l.length - 1)).id < n) && decide (n ≤ 2147483648)
theorem chkB_iff {l : List Nod} {n : Int} : chkB l n = true ↔ ChkP l n := by
  simp only [chkB, Bool.and_eq_true, decide_eq_true_eq, List.all_eq_true, List.mem_range, nodB_iff, depB_iff]
  exact ⟨fun ⟨⟨⟨⟨⟨a, b⟩, c⟩, d⟩, e⟩, f⟩ => ⟨a, b, c, d, e, f⟩, fun h => ⟨⟨⟨⟨⟨h.len1, h.len2⟩, h.nod⟩, h.dep⟩, h.nx1⟩, h.nx2⟩⟩
theorem chkB_of {l : List Nod} {n : Int} (h : ChkP l n) : chkB l n = true := chkB_iff.2 h
theorem chkB_not {l : List Nod} {n : Int} (h : ¬ ChkP l n) : chkB l n = false := by
  rw [← Bool.not_eq_true, chkB_iff]; exact h
/-- The children of a group. -/
def chn (l : List Nod) (id : Int) : List Int := (l.filter fun x => decide (x.parent = id)).map (·.id)
theorem chn_mem {l : List Nod} {id g : Int} : g ∈ chn l id ↔ ∃ i, i < l.length ∧ (nd l i).id = g ∧ (nd l i).parent = id := by
  unfold chn
  simp only [List.mem_map, List.mem_filter, decide_eq_true_eq]
  constructor
  · rintro ⟨x, ⟨hx, h1⟩, h2⟩
    obtain ⟨i, hi, e⟩ := mem_nd hx
    exact ⟨i, hi, by rw [e]; exact h2, by rw [e]; exact h1⟩
  · rintro ⟨i, hi, h1, h2⟩
    exact ⟨nd l i, ⟨nd_mem hi, h2⟩, h1⟩
theorem chn_take {l : List Nod} {i : Nat} (h : i < l.length) (id : Int) : chn (l.take (i + 1)) id = chn (l.take i) id ++ (if (nd l i).parent = id then [(nd l i).id] else []) := by
  have e : l.take (i + 1) = l.take i ++ [nd l i] := by
    rw [List.take_add_one, List.getElem?_eq_getElem h]
    simp [nd, List.getD_eq_getElem?_getD, List.getElem?_eq_getElem h]
  rw [e]
  unfold chn
  rw [List.filter_append, List.map_append]
  by_cases c : (nd l i).parent = id <;> simp [c]
theorem chn_len {l : List Nod} (id : Int) : (chn l id).length ≤ l.length := by
  unfold chn
  rw [List.length_map]
  exact List.length_filter_le _ _
theorem Asc.nodup {l : List Nod} (h : Asc l) : (ids l).Nodup := by
  unfold ids
  rw [List.Nodup, List.pairwise_map, List.pairwise_iff_getElem]
  intro i j hi hj hij
  have := h.lt i j hij hj
  have e1 : nd l i = l[i] := by simp [nd, List.getD_eq_getElem?_getD, hi]
  have e2 : nd l j = l[j] := by simp [nd, List.getD_eq_getElem?_getD, hj]
  rw [e1, e2] at this
  omega
theorem Asc.chn_nodup {l : List Nod} (h : Asc l) (id : Int) : (chn l id).Nodup := by
  have := h.nodup
  unfold ids at this
  unfold chn
  exact this.sublist (List.Sublist.map _ List.filter_sublist)
/-- The groups below one, itself among them. -/
def Sub (l : List Nod) (id : Int) (s : List Int) : Prop := s.Nodup ∧ ∀ g, g ∈ s ↔ id ∈ upT l g
theorem nodup_le : ∀ {l m : List Int}, l.Nodup → l ⊆ m → l.length ≤ m.length
  | [], _, _, _ => Nat.zero_le _
  | a :: r, m, hn, hs => by
    rw [List.nodup_cons] at hn
    have hm : a ∈ m := hs (by simp)
    have h1 : r ⊆ m.erase a := fun x hx => (List.mem_erase_of_ne fun e => hn.1 (by rw [← e]; exact hx)).2 (hs (by simp [hx]))
    have := nodup_le hn.2 h1
    rw [List.length_erase_of_mem hm] at this
    have : 0 < m.length := List.length_pos_of_mem hm
    simp only [List.length_cons]
    omega
/-- Half a walk through the groups below one. -/
structure Walk (l : List Nod) (id : Int) (out todo : List Int) : Prop where
  nodup : (out ++ todo).Nodup
  below : ∀ g ∈ out ++ todo, id ∈ upT l g
  cover : ∀ g, id ∈ upT l g → g ∈ out ∨ ∃ a ∈ todo, a ∈ upT l g
  par : ∀ i, i < l.length → (nd l i).id ∈ out ++ todo → (nd l i).id = id ∨ (nd l i).parent ∈ out
theorem Walk.start {l : List Nod} (h : Asc l) {id : Int} (hm : id ∈ ids l) : Walk l id [] [id] where
  nodup := by simp
  below := fun g hg => by simp at hg; subst hg; exact h.self_mem hm
  cover := fun g hg => .inr ⟨id, by simp, hg⟩
  par := fun i hi hg => .inl (by simpa using hg)
theorem Walk.step {l : List Nod} (h : Asc l) {id a : Int} {out r : List Int} (W : Walk l id out (a :: r)) : Walk l id (out ++ [a]) (chn l a ++ r) := by
  have hn := W.nodup
  have hnew : ∀ c ∈ chn l a, c ∉ out ++ a :: r := fun c hc hin => by
    obtain ⟨i, hi, e1, e2⟩ := chn_mem.1 hc
    subst e1
    rcases W.par i hi hin with e | hp
    · -- the group itself is below its own child
      have h1 : id ∈ upT l a := W.below a (by simp)
      have ha : a ∈ ids l := by
        by_cases hx : a ∈ ids l
        · exact hx
        · rw [upT_none hx] at h1; cases h1
      obtain ⟨k, hk, ek⟩ := ids_mem.1 ha
      have h2 := h.le_of_up k hk id (by rw [ek]; exact h1)
      by_cases i0 : i = 0
      · subst i0
        have h3 := h.pos hk
        rw [ek, ← e2, (h.root (by omega)).2] at h3; omega
      · obtain ⟨q, hq, eq⟩ := h.par i (by omega) hi
        have h3 := h.lt q i hq hi
        rw [eq, e2] at h3
        rw [ek] at h2
        omega
    · rw [e2] at hp
      rw [List.nodup_append] at hn
      exact hn.2.2 a hp a (by simp) rfl
  have perm : ∀ x, x ∈ (out ++ [a]) ++ (chn l a ++ r) ↔ x ∈ out ++ a :: r ∨ x ∈ chn l a := fun x => by
    simp only [List.mem_append, List.mem_cons, List.not_mem_nil, or_false]
    constructor
    · rintro ((h1 | h1) | h1 | h1) <;> simp [h1]
    · rintro ((h1 | h1 | h1) | h1) <;> simp [h1]
  refine ⟨?_, fun g hg => ?_, fun g hg => ?_, fun i hi hg => ?_⟩
  · rw [List.nodup_append] at hn ⊢
    obtain ⟨n1, n2, n3⟩ := hn
    rw [List.nodup_cons] at n2
    refine ⟨?_, ?_, ?_⟩
    · rw [List.nodup_append]
      exact ⟨n1, by simp, fun x hx y hy => by simp at hy; subst hy; exact n3 x hx _ (by simp)⟩
    · rw [List.nodup_append]
      exact ⟨h.chn_nodup a, n2.2, fun x hx y hy e => by subst e; exact hnew x hx (by simp [hy])⟩
    · intro x hx y hy e
      subst e
      rcases List.mem_append.1 hy with hy | hy
      · refine hnew x hy ?_
        rcases List.mem_append.1 hx with hx | hx
        · simp [hx]
        · simp at hx; subst hx; simp
      · rcases List.mem_append.1 hx with hx | hx
        · exact n3 x hx x (by simp [hy]) rfl
        · have hx' : x = a := by simpa using hx
          rw [hx'] at hy
          exact n2.1 hy
  · rcases (perm g).1 hg with hg | hg
    · exact W.below g hg
    · obtain ⟨i, hi, e1, e2⟩ := chn_mem.1 hg
      subst e1
      rw [h.upT_par hi, e2]
      exact List.mem_cons_of_mem _ (W.below a (by simp))
  · rcases W.cover g hg with h1 | ⟨b, hb, h2⟩
    · exact .inl (by simp [h1])
    · rcases List.mem_cons.1 hb with e | hb
      · subst e
        -- g is a, or below one of its children
        have key : ∀ i, i < l.length → b ∈ upT l (nd l i).id → (nd l i).id = b ∨ ∃ c ∈ chn l b, c ∈ upT l (nd l i).id := by
          intro i
          induction i using Nat.strongRecOn with
          | _ i ih =>
            intro hi hbm
            by_cases eb : (nd l i).id = b
            · exact .inl eb
            · right
              rw [h.upT_par hi] at hbm
              rcases List.mem_cons.1 hbm with e | hbm
              · exact absurd e.symm eb
              · by_cases i0 : i = 0
                · subst i0
                  rw [(h.root (by omega)).2, upT_none h.notzero] at hbm; cases hbm
                · obtain ⟨q, hq, eq⟩ := h.par i (by omega) hi
                  rw [← eq] at hbm
                  rcases ih q hq (by omega) hbm with e | ⟨c, hc, hcm⟩
                  · refine ⟨(nd l i).id, chn_mem.2 ⟨i, hi, rfl, by rw [← eq]; exact e⟩, ?_⟩
                    rw [h.upT_par hi]; simp
                  · refine ⟨c, hc, ?_⟩
                    rw [h.upT_par hi, ← eq]
                    exact List.mem_cons_of_mem _ hcm
        have hgm : g ∈ ids l := by
          by_cases hx : g ∈ ids l
          · exact hx
          · rw [upT_none hx] at h2; cases h2
        obtain ⟨i, hi, rfl⟩ := ids_mem.1 hgm
        rcases key i hi h2 with e | ⟨c, hc, hcm⟩
        · left; rw [e]; simp
        · exact .inr ⟨c, by simp [hc], hcm⟩
      · exact .inr ⟨b, by simp [hb], h2⟩
  · rcases (perm _).1 hg with hg | hg
    · rcases W.par i hi hg with h1 | h1
      · exact .inl h1
      · exact .inr (by simp [h1])
    · obtain ⟨j, hj, e1, e2⟩ := chn_mem.1 hg
      have := h.inj hj hi e1
      subst this
      exact .inr (by simp [e2])
theorem Walk.len {l : List Nod} (h : Asc l) {id : Int} {out todo : List Int} (W : Walk l id out todo) : out.length + todo.length ≤ l.length := by
  have h1 : (out ++ todo) ⊆ ids l := fun g hg => by
    have h2 := W.below g hg
    by_cases hx : g ∈ ids l
    · exact hx
    · rw [upT_none hx] at h2; cases h2
  have := nodup_le W.nodup h1
  simpa [ids] using this
theorem Walk.fin {l : List Nod} (h : Asc l) {id : Int} {out todo : List Int} (W : Walk l id out todo) (he : todo = [] ∨ l.length ≤ out.length) : Sub l id out := by
  have e : todo = [] := by
    rcases he with e | e
    · exact e
    · have := W.len h
      exact List.eq_nil_of_length_eq_zero (by omega)
  subst e
  refine ⟨by simpa using W.nodup, fun g => ⟨fun hg => W.below g (by simp [hg]), fun hg => ?_⟩⟩
  rcases W.cover g hg with h1 | ⟨a, ha, _⟩
  · exact h1
  · cases ha

theorem nameB_iff {s : ByteArray} : nameB s = true ↔ 1 ≤ (bytesOf s).length ∧ (bytesOf s).length ≤ 32 ∧ ¬ (bytesOf s).getD 0 0 = 45 ∧ ∀ j, j < (bytesOf s).length → okB ((bytesOf s).getD j 0) = true := by
  unfold nameB
  simp only [Bool.and_eq_true, decide_eq_true_eq, Bool.not_eq_true', decide_eq_false_iff_not, List.all_eq_true]
  constructor
  · rintro ⟨⟨⟨h1, h2⟩, h3⟩, h4⟩
    refine ⟨h1, h2, h3, fun j hj => h4 _ ?_⟩
    rw [List.getD_eq_getElem?_getD, List.getElem?_eq_getElem hj]
    exact List.getElem_mem hj
  · rintro ⟨h1, h2, h3, h4⟩
    refine ⟨⟨⟨h1, h2⟩, h3⟩, fun x hx => ?_⟩
    obtain ⟨j, hj, e⟩ := List.getElem_of_mem hx
    have := h4 j hj
    rw [List.getD_eq_getElem?_getD, List.getElem?_eq_getElem hj, Option.getD_some, e] at this
    exact this
theorem okB_fold (c : Int) : (decide (97 ≤ c) && decide (c ≤ 122) || decide (65 ≤ c) && decide (c ≤ 90) || decide (48 ≤ c) && decide (c ≤ 57) || decide (c = 95) || decide (c = 45)) = okB c := rfl
theorem size_bytes (s : ByteArray) : s.size = (bytesOf s).length := by
  unfold bytesOf
  rw [List.length_map, Array.length_toList]
  rfl
end Go.Proofs.Ytemffnpliflkgaa
namespace Go.Proofs.Ytemffnpliflkgaa
open Go

/-- A tree, told by what lies on the way up. -/
theorem chk_of {l : List Nod} {n : Int} (h1 : 1 ≤ l.length) (h2 : l.length ≤ 64) (h3 : ∀ i, i < l.length → NodOk l i) (h4 : Asc l → ∀ i, i < l.length → (upT l (nd l i).id).length ≤ 9) (h5 : (nd l (l.length - 1)).id < n) (h6 : n ≤ 2147483648) : ChkP l n := by
  have ha : Asc l := by
    refine ⟨fun i j hij hj => ?_, fun h0 => ⟨((h3 0 h0).root rfl).id, ((h3 0 h0).root rfl).par⟩, fun i h0 hi => ((h3 i hi).fine h0).par⟩
    induction j with
    | zero => omega
    | succ j ih =>
      have h1 := ((h3 (j + 1) hj).fine (by omega)).asc
      simp only [Nat.add_sub_cancel] at h1
      by_cases e : i = j
      · subst e; exact h1
      · have := ih (by omega) (by omega); omega
  refine ⟨h1, h2, h3, fun i hi => ?_, h5, h6⟩
  have := h4 ha i hi
  have e := ha.skip (i := i) (j := l.length) hi (Nat.le_refl _)
  rw [List.take_length] at e
  unfold DepAt
  rw [← e]; exact this
theorem ChkP.up_len {l : List Nod} {n : Int} (h : ChkP l n) {i : Nat} (hi : i < l.length) : (upT l (nd l i).id).length ≤ 9 := by
  have h1 := h.dep i hi
  have e := h.asc.skip (i := i) (j := l.length) hi (Nat.le_refl _)
  rw [List.take_length] at e
  unfold upT
  rw [e]; exact h1
theorem nd_append {l : List Nod} {x : Nod} {i : Nat} (h : i < l.length) : nd (l ++ [x]) i = nd l i := by
  simp [nd, List.getD_eq_getElem?_getD, List.getElem?_append_left h]
theorem nd_last {l : List Nod} {x : Nod} : nd (l ++ [x]) l.length = x := by
  simp [nd, List.getD_eq_getElem?_getD]
theorem ChkP.lt_next {l : List Nod} {n : Int} (h : ChkP l n) {i : Nat} (hi : i < l.length) : (nd l i).id < n := by
  have h1 := h.nx1
  by_cases e : i = l.length - 1
  · subst e; exact h1
  · have := h.asc.lt i (l.length - 1) (by omega) (by omega); omega
theorem upT_append {l : List Nod} {x : Nod} {g : Int} (h : g ≠ x.id) : upT (l ++ [x]) g = upT l g := by
  unfold upT
  rw [List.reverse_append]
  show up (x :: l.reverse) g = _
  rw [up, if_neg fun e => h e.symm]
theorem upT_new {l : List Nod} {x : Nod} : upT (l ++ [x]) x.id = x.id :: upT l x.parent := by
  unfold upT
  rw [List.reverse_append]
  show up (x :: l.reverse) x.id = _
  rw [up, if_pos rfl]
/-- A group is added. -/
theorem ChkP.add {l : List Nod} {n : Int} (h : ChkP l n) {p : Int} {s : ByteArray} (hp : p ∈ ids l) (hs : nameB s = true) (hd : ∀ i, i < l.length → ¬ ((nd l i).parent = p ∧ (nd l i).name = s)) (hu : (upT l p).length ≤ 8) (hl : l.length < 64) (hn : n ≤ 2147483647) : ChkP (l ++ [⟨n, p, s, 0, 0, 0⟩]) (n + 1) := by
  obtain ⟨q, hq, eq⟩ := ids_mem.1 hp
  have h1 := h.len1
  refine chk_of (by simp) (by simp; omega) (fun i hi => ?_) (fun ha i hi => ?_) ?_ (by omega)
  · have hi' : i < l.length ∨ i = l.length := by simp at hi; omega
    rcases hi' with hi' | rfl
    · obtain ⟨c, r, f⟩ := h.nod i hi'
      refine ⟨by rw [nd_append hi']; exact c, fun e => by rw [nd_append (by omega)]; exact r e, fun e => ?_⟩
      obtain ⟨f1, f2, ⟨k, hk, f3⟩, f4⟩ := f e
      refine ⟨by rw [nd_append hi', nd_append (by omega)]; exact f1, by rw [nd_append hi']; exact f2, ⟨k, hk, by rw [nd_append hi', nd_append (by omega)]; exact f3⟩, fun k hk => ?_⟩
      rw [nd_append hi', nd_append (by omega)]; exact f4 k hk
    · refine ⟨by rw [nd_last]; exact ⟨Int.le_refl 0, (by show (0:Int) ≤ 31; omega), Int.le_refl 0, (by show (0:Int) ≤ 1048576; omega), .inl rfl⟩, fun e => by omega, fun e => ⟨?_, by rw [nd_last]; exact hs, ⟨q, hq, by rw [nd_last, nd_append hq]; exact eq⟩, fun k hk => ?_⟩⟩
      · rw [nd_last, nd_append (by omega)]; exact h.lt_next (by omega)
      · rw [nd_last, nd_append hk]; exact hd k hk
  · have hi' : i < l.length ∨ i = l.length := by simp at hi; omega
    rcases hi' with hi' | rfl
    · rw [nd_append hi', upT_append (by have := h.lt_next hi'; simp only; omega)]
      exact h.up_len hi'
    · rw [nd_last, upT_new]
      simp only [List.length_cons]
      omega
  · simp only [List.length_append, List.length_cons, List.length_nil, Nat.zero_add, Nat.add_sub_cancel, nd_last]
    omega
theorem nd_erase {l : List Nod} {r i : Nat} : nd (l.eraseIdx r) i = if i < r then nd l i else nd l (i + 1) := by
  unfold nd
  simp only [List.getD_eq_getElem?_getD, List.getElem?_eraseIdx]
  split <;> rfl
theorem filter_erase {l : List Nod} (h : Asc l) {r : Nat} (hr : r < l.length) : (l.filter fun x => !decide (x.id = (nd l r).id)) = l.eraseIdx r := by
  have key : ∀ (l : List Nod) (r : Nat), r < l.length → (∀ i, i < l.length → ((nd l i).id = (nd l r).id ↔ i = r)) → (l.filter fun x => !decide (x.id = (nd l r).id)) = l.eraseIdx r := by
    intro l
    induction l with
    | nil => intro r hr; simp at hr
    | cons x t ih =>
      intro r hr hk
      cases r with
      | zero =>
        have hx : nd (x :: t) 0 = x := rfl
        rw [hx] at hk ⊢
        rw [List.eraseIdx_zero, List.filter_cons]
        simp only [decide_true, Bool.not_true, Bool.false_eq_true, if_false, List.tail_cons]
        rw [List.filter_eq_self]
        intro y hy
        obtain ⟨i, hi, e⟩ := mem_nd hy
        have := hk (i + 1) (by simp; omega)
        have e2 : nd (x :: t) (i + 1) = nd t i := rfl
        rw [e2, e] at this
        simpa using fun e3 => absurd (this.1 e3) (by omega)
      | succ r =>
        have e2 : nd (x :: t) (r + 1) = nd t r := rfl
        have h0 := hk 0 (by simp)
        have hx : nd (x :: t) 0 = x := rfl
        rw [hx] at h0
        have hne : ¬ x.id = (nd (x :: t) (r + 1)).id := fun e => absurd (h0.1 e) (by omega)
        rw [List.eraseIdx_cons_succ, List.filter_cons, if_pos (by simpa using hne)]
        congr 1
        rw [e2] at hk ⊢
        refine ih r (by simpa using hr) fun i hi => ?_
        have := hk (i + 1) (by simp; omega)
        have e3 : nd (x :: t) (i + 1) = nd t i := rfl
        rw [e3] at this
        omega
  exact key l r hr fun i hi => ⟨fun e => h.inj hi hr e, fun e => by rw [e]⟩
/-- A group without children is removed. -/
theorem ChkP.remove {l : List Nod} {n : Int} (h : ChkP l n) {r : Nat} (hr : r < l.length) (h0 : 0 < r) (hc : chn l (nd l r).id = []) : ChkP (l.eraseIdx r) n := by
  have ha := h.asc
  have hlen : (l.eraseIdx r).length = l.length - 1 := by rw [List.length_eraseIdx, if_pos hr]
  have nopar : ∀ i, i < l.length → (nd l i).parent ≠ (nd l r).id := fun i hi e => by
    have : (nd l i).id ∈ chn l (nd l r).id := chn_mem.2 ⟨i, hi, rfl, e⟩
    rw [hc] at this; cases this
  -- the old place of a group
  let old : Nat → Nat := fun i => if i < r then i else i + 1
  have hold : ∀ i, nd (l.eraseIdx r) i = nd l (old i) := fun i => by
    rw [nd_erase]; simp only [old]; split <;> rfl
  have olt : ∀ i, i < l.length - 1 → old i < l.length := fun i hi => by simp only [old]; split <;> omega
  have one : ∀ i, old i ≠ r := fun i => by simp only [old]; split <;> omega
  have omono : ∀ i j, i < j → old i < old j := fun i j hij => by simp only [old]; split <;> split <;> omega
  have onew : ∀ i j, i < old j → i ≠ r → ∃ k, k < j ∧ old k = i := fun i j hij hne => by
    by_cases c : i < r
    · refine ⟨i, ?_, by simp only [old, if_pos c]⟩
      simp only [old] at hij
      split at hij <;> omega
    · refine ⟨i - 1, ?_, ?_⟩
      · simp only [old] at hij
        split at hij <;> omega
      · have : ¬ i - 1 < r := by omega
        simp only [old, if_neg this]; omega
  have hnod : ∀ i, i < (l.eraseIdx r).length → NodOk (l.eraseIdx r) i := fun i hi => by
    rw [hlen] at hi
    obtain ⟨c, ro, f⟩ := h.nod (old i) (olt i hi)
    refine ⟨by rw [hold]; exact c, fun e => ?_, fun e => ?_⟩
    · have e0 : old 0 = 0 := by simp only [old, if_pos h0]
      rw [hold, e0]
      subst e
      exact ro e0
    · have hp : 0 < old i := by simp only [old]; split <;> omega
      obtain ⟨f1, f2, ⟨k, hk, f3⟩, f4⟩ := f hp
      refine ⟨?_, by rw [hold]; exact f2, ?_, fun k hk => ?_⟩
      · rw [hold, hold]
        have h1 : old (i - 1) < old i := omono _ _ (by omega)
        exact ha.lt _ _ h1 (olt i hi)
      · have hkr : k ≠ r := fun e => by
          subst e
          exact nopar (old i) (olt i hi) f3.symm
        obtain ⟨k', hk', e'⟩ := onew k i hk hkr
        exact ⟨k', hk', by rw [hold, hold, e']; exact f3⟩
      · rw [hold, hold]
        exact f4 (old k) (omono _ _ hk)
  refine chk_of (by have := h.len1; omega) (by have := h.len2; omega) hnod (fun ha' i hi => ?_) ?_ h.nx2
  · have key : ∀ i, i < l.length - 1 → upT (l.eraseIdx r) (nd (l.eraseIdx r) i).id = upT l (nd l (old i)).id := by
      intro i
      induction i using Nat.strongRecOn with
      | _ i ih =>
        intro hi
        rw [ha'.upT_par (by omega), hold, ha.upT_par (olt i hi)]
        congr 1
        by_cases i0 : i = 0
        · subst i0
          have e0 : old 0 = 0 := by simp only [old, if_pos h0]
          rw [e0, (ha.root (by omega)).2, upT_none ha.notzero, upT_none ha'.notzero]
        · have hp : 0 < old i := by simp only [old]; split <;> omega
          obtain ⟨k, hk, e⟩ := ha.par (old i) hp (olt i hi)
          have hkr : k ≠ r := fun e2 => by
            rw [e2] at e
            exact nopar (old i) (olt i hi) e.symm
          obtain ⟨k', hk', e'⟩ := onew k i hk hkr
          rw [← e, ← e']
          have := ih k' hk' (by omega)
          rw [hold] at this
          exact this
    rw [key i (by omega)]
    exact h.up_len (olt i (by omega))
  · rw [hold, hlen]
    refine h.lt_next ?_
    have := h.len1
    have : l.length - 1 - 1 < l.length - 1 := by omega
    exact olt _ this

theorem parB_succ {l : List Nod} {i : Nat} {g : Int} : parB l (i + 1) g = (parB l i g || decide ((nd l i).id = g)) := by
  simp only [parB, List.range_succ, List.any_append, List.any_cons, List.any_nil, Bool.or_false]
theorem soleB_succ {l : List Nod} {i : Nat} {p : Int} {s : ByteArray} : soleB l (i + 1) p s = (soleB l i p s && !(decide ((nd l i).parent = p) && decide ((nd l i).name = s))) := by
  simp only [soleB, List.range_succ, List.all_append, List.all_cons, List.all_nil, Bool.and_true]
theorem chkB_alt {l : List Nod} {n : Int} : chkB l n = true ↔ 1 ≤ l.length ∧ l.length ≤ 64 ∧ (∀ i, i < l.length → nodB l i = true) ∧ (∀ i, i < l.length → (upT l (nd l i).id).length ≤ 9) ∧ (nd l (l.length - 1)).id < n ∧ n ≤ 2147483648 := by
  rw [chkB_iff]
  constructor
  · intro h
    exact ⟨h.len1, h.len2, fun i hi => nodB_iff.2 (h.nod i hi), fun i hi => h.up_len hi, h.nx1, h.nx2⟩
  · rintro ⟨h1, h2, h3, h4, h5, h6⟩
    exact chk_of h1 h2 (fun i hi => nodB_iff.1 (h3 i hi)) (fun _ => h4) h5 h6
theorem find_first {l : List Nod} {g : Int} {i : Nat} (h : ∀ j, j < i → ¬ (nd l j).id = g) (hi : i < l.length) (e : (nd l i).id = g) : findN l g = some (nd l i) ∧ hasB l g = true := by
  refine ⟨?_, hasB_iff.2 (ids_mem.2 ⟨i, hi, e⟩)⟩
  unfold findN
  rw [List.find?_eq_some_iff_getElem]
  refine ⟨by simpa using e, i, hi, by simp [nd, List.getD_eq_getElem?_getD, hi], fun j hj => ?_⟩
  have := h j hj
  have e2 : nd l j = l[j] := by simp [nd, List.getD_eq_getElem?_getD, show j < l.length by omega]
  rw [e2] at this
  simpa using this
theorem find_all {l : List Nod} {g : Int} (h : ∀ j, j < l.length → ¬ (nd l j).id = g) : findN l g = none ∧ hasB l g = false := by
  have hm : g ∉ ids l := fun hm => by
    obtain ⟨i, hi, e⟩ := ids_mem.1 hm
    exact h i hi e
  exact ⟨find_none hm, by rw [← Bool.not_eq_true, hasB_iff]; exact hm⟩
theorem filter_take {l : List Nod} {i : Nat} (h : i < l.length) (g : Int) : (l.take (i + 1)).filter (fun x => !decide (x.id = g)) = (l.take i).filter (fun x => !decide (x.id = g)) ++ (if (nd l i).id = g then [] else [nd l i]) := by
  have e : l.take (i + 1) = l.take i ++ [nd l i] := by
    rw [List.take_add_one, List.getElem?_eq_getElem h]
    simp [nd, List.getD_eq_getElem?_getD, List.getElem?_eq_getElem h]
  rw [e, List.filter_append]
  by_cases c : (nd l i).id = g <;> simp [c]
end Go.Proofs.Ytemffnpliflkgaa
namespace Go.Proofs.Ytemffnpliflkgaa
open Go Go.RowKit

def pkInts : PK (List Int) := pkL 0
def pkIntsP : PK (List Int) := pkLP 0
/-- Dice: the numbers, and the place. -/
def diceO (d : List Int × Int) : OB := .cells 93 [.irec true 0 d.1, .int .i64 d.2]
def getDice : OB → Option (List Int × Int)
  | .cells t [.irec true 0 l, .int .i64 n] => bif Nat.beq t 93 then some (l, n) else none
  | _ => none
theorem getDice_spec (o : OB) (d : List Int × Int) (h : getDice o = some d) : o = diceO d := by
  unfold getDice at h
  split at h
  · rename_i t l n
    by_cases e : Nat.beq t 93 = true
    · rw [e, cond_true] at h
      cases h
      rw [Nat.eq_of_beq_eq_true e]
      rfl
    · simp only [Bool.not_eq_true] at e
      rw [e, cond_false] at h
      cases h
  · cases h
def Sig.dice {X : Type} (s : Sig X) (hs : ∀ x, s.boxes x = []) : Sig ((List Int × Int) × X) := Sig.box getDice diceO getDice_spec s hs
abbrev one {α : Type} (k : PK α) : Sig (α × Unit) := Sig.cons k Sig.nil
abbrev two {α β : Type} (k : PK α) (k' : PK β) : Sig (α × β × Unit) := Sig.cons k (one k')
abbrev three {α β γ : Type} (k : PK α) (k' : PK β) (k'' : PK γ) : Sig (α × β × γ × Unit) := Sig.cons k (two k' k'')
abbrev four {α β γ δ : Type} (k : PK α) (k' : PK β) (k'' : PK γ) (k3 : PK δ) : Sig (α × β × γ × δ × Unit) := Sig.cons k (three k' k'' k3)
abbrev five {α β γ δ ε : Type} (k : PK α) (k' : PK β) (k'' : PK γ) (k3 : PK δ) (k4 : PK ε) : Sig (α × β × γ × δ × ε × Unit) := Sig.cons k (four k' k'' k3 k4)
abbrev nou {X : Type} : X → List (Nat × OB) := fun _ => []

/-- A tree. -/
def treeV (t : List Nod × Int) : AV := .agg [.irec false 3 t.1, .int .i64 t.2]
def getTree : AV → Option (List Nod × Int)
  | .agg [v, .int .i64 n] => (match getL 3 v with
    | some l => some (l, n)
    | none => none)
  | _ => none
def pkTree : PK (List Nod × Int) where
  get := getTree
  put := treeV
  ok := fun v a h w S μ x hS hx => by
    unfold getTree at h
    split at h
    · rename_i u n
      split at h
      · rename_i l hl
        cases h
        obtain ⟨vs, h1, h2, rfl⟩ := hx.agg_inv
        refine .agg (by simpa using h1) fun i hi => ?_
        match i, hi with
        | 0, _ => exact getL_rel hl hS (h2 0 (by simp))
        | 1, _ => exact h2 1 (by simp)
        | k + 2, h => exact absurd h (by simp)
      · cases h
    · cases h
/-- A node. -/
def nodV (x : Nod) : AV := .agg [.int .i64 x.id, .int .i64 x.parent, .str x.name, .int .i64 x.control, .int .i64 x.kind, .int .i64 x.owner]
def getNod : AV → Option Nod
  | .agg [.int .i64 a, .int .i64 b, .str c, .int .i64 d, .int .i64 e, .int .i64 f] => some ⟨a, b, c, d, e, f⟩
  | _ => none
def pkNod : PK Nod where
  get := getNod
  put := nodV
  ok := fun v a h w S μ x _ hx => by
    unfold getNod at h
    split at h
    · cases h; exact hx
    · cases h
abbrev pkNods : PK (List Nod) := pkL 3

/-- Dice that can be thrown. -/
structure DOK (d : List Int × Int) : Prop where
  lo : 0 ≤ d.2
  hi : d.2 ≤ d.1.length
  len : d.1.length ≤ 600

/-- Results of the functions on trees. -/
def findR (l : List Nod) (n g : Int) : Nod := if chkB l n = true then (findN l g).getD nz else nz
def hasR (l : List Nod) (n g : Int) : Bool := chkB l n && hasB l g
def ancR (l : List Nod) (n g : Int) : List Int := if hasR l n g = true then upT l g else []
def chnR (l : List Nod) (n g : Int) : List Int := if hasR l n g = true then chn l g else []
def addE (l : List Nod) (n p : Int) (s : ByteArray) : Int :=
  if chkB l n = false ∨ nameB s = false then 1 else if hasR l n p = false then 4 else if soleB l l.length p s = false then 5 else if ((ancR l n p).length : Int) - 1 ≥ 8 ∨ (l.length : Int) ≥ 64 ∨ n > 2147483647 then 7 else 0
def addL (l : List Nod) (n p : Int) (s : ByteArray) : List Nod := if addE l n p s = 0 then l ++ [⟨n, p, s, 0, 0, 0⟩] else []
def addN (l : List Nod) (n p : Int) (s : ByteArray) : Int := if addE l n p s = 0 then n + 1 else 0
def addI (l : List Nod) (n p : Int) (s : ByteArray) : Int := if addE l n p s = 0 then n else 0
def rmE (l : List Nod) (n g : Int) : Int := if chkB l n = false then 1 else if hasR l n g = false then 4 else if g = 1 then 9 else if ((chnR l n g).length : Int) > 0 then 6 else 0
def rmL (l : List Nod) (n g : Int) : List Nod := if rmE l n g = 0 then l.filter (fun x => !decide (x.id = g)) else []
def rmN (l : List Nod) (n g : Int) : Int := if rmE l n g = 0 then n else 0
/-- The names that are made. -/
def wordsS : List ByteArray := [⟨#[97]⟩, ⟨#[98]⟩, ⟨#[99]⟩, ⟨#[119, 101, 98]⟩, ⟨#[100, 98, 45, 49]⟩, ⟨#[88, 95, 57]⟩]
theorem words_name : ∀ s ∈ wordsS, nameB s = true := by decide
/-- A tree that is made. -/
structure TreeP (l : List Nod) (n : Int) : Prop where
  chk : ChkP l n
  word : ∀ x ∈ l, x.name = ByteArray.empty ∨ x.name ∈ wordsS

theorem bytes_nil {s : ByteArray} : (bytesOf s).length = 0 ↔ s = { data := (NilL UInt8).toArray : ByteArray } := by
  constructor
  · intro h
    rw [← size_bytes] at h
    have h2 : s.data.size = 0 := h
    obtain ⟨d⟩ := s
    simp at h2
    rw [h2]; rfl
  · intro h; rw [h]; rfl
theorem str_empty (s : ByteArray) : decide (s = { data := (NilL UInt8).toArray : ByteArray }) = decide ((bytesOf s).length = 0) := by
  rw [decide_eq_decide]
  exact bytes_nil.symm
/-- A pool's cells; its slice is told apart. -/
def poolAV (p : Pool) (sl : AV) : AV := .agg [.int .i64 p.g, .int .i64 p.q, .int .i64 p.bu, .int .i64 p.s, .int .i64 p.le, sl, .int .i64 p.sp, .int .i64 p.pe, .int .i64 p.th, .bool p.em]
def getPool : AV → Option Pool
  | .agg [.int .i64 g, .int .i64 q, .int .i64 bu, .int .i64 s, .int .i64 le, L, .int .i64 sp, .int .i64 pe, .int .i64 th, em] => match getL 0 L, em.asB with
    | some l, some em => some ⟨g, q, bu, s, le, l, sp, pe, th, em⟩
    | _, _ => none
  | _ => none
theorem rel_get {w : World} {S S' : SS} {μ : MM} {l l' : List AV} {x : Value} (hl : l.length = l'.length) (h : ∀ i, i < l.length → ∀ y, VRel w S μ (l.getD i .undef) y → VRel w S' μ (l'.getD i .undef) y) (hx : VRel w S μ (.agg l) x) : VRel w S' μ (.agg l') x := by
  obtain ⟨vs, h1, h2, rfl⟩ := hx.agg_inv
  exact .agg (by omega) fun i hi => h i (by omega) _ (h2 i (by omega))
def pkPool : PK Pool where
  get := getPool
  put := fun p => poolAV p (.irec false 0 p.l)
  ok := fun v p h w S μ x hS hx => by
    unfold getPool at h
    split at h
    · rename_i g q bu s le L sp pe th em
      split at h
      · rename_i l em' h1 h2
        cases h
        refine rel_get (by rfl) (fun i hi y hy => ?_) hx
        match i, hi with
        | 0, _ => exact hy
        | 1, _ => exact hy
        | 2, _ => exact hy
        | 3, _ => exact hy
        | 4, _ => exact hy
        | 5, _ => exact getL_rel h1 hS hy
        | 6, _ => exact hy
        | 7, _ => exact hy
        | 8, _ => exact hy
        | 9, _ =>
          have hy' : VRel w S μ em y := hy
          have := asB_rel hy' h2
          subst this
          exact .bool em'
      · cases h
    · cases h

/-- A well-formed pool. -/
structure Good (p : Pool) : Prop where
  g0 : 1 ≤ p.g
  g1 : p.g ≤ 2147483647
  lim : (p.q = 4611686018427387904 ∧ p.bu = 0 ∧ p.le = 0 ∧ (∀ x ∈ p.l, x = 0)) ∨ (p.q ≠ 4611686018427387904 ∧ 1 ≤ p.q ∧ p.q ≤ 1000000 ∧ 0 ≤ p.bu ∧ p.bu ≤ p.q ∧ 0 ≤ p.le ∧ (∀ x ∈ p.l, 0 ≤ x) ∧ p.le + p.l.sum ≤ p.q + p.bu)
  s0 : 1 ≤ p.s
  s1 : p.s ≤ 1000000
  n0 : 1 ≤ p.l.length
  n1 : p.l.length ≤ 16
  sp0 : 0 ≤ p.sp
  sp1 : p.sp ≤ 1099511627776
  pe0 : 0 ≤ p.pe
  pe1 : p.pe ≤ 1099511627776
  th0 : 0 ≤ p.th
  th1 : p.th ≤ if p.em then p.pe else p.pe - 1
/-- What sums need. -/
structure Small (n : Int) (l : List Int) : Prop where
  n0 : 0 ≤ n
  l0 : ∀ x ∈ l, 0 ≤ x
  up : n + l.sum ≤ 1152921504606846976
  len : l.length ≤ 1099511627776
/-- Quota and burst are as they must be. -/
def Rates (p : Pool) : Prop := (p.q = 4611686018427387904 ∧ p.bu = 0) ∨ (p.q ≠ 4611686018427387904 ∧ 1 ≤ p.q ∧ p.q ≤ 1000000 ∧ 0 ≤ p.bu ∧ p.bu ≤ p.q)


/-- A pool that is returned has a row of its own. -/
def ret (p : Pool) : AV := poolAV p (.own 101 0)
def row (p : Pool) : List (Nat × OB) := [(101, .rows 3 0 p.l)]
abbrev pkPools : PK (List Pool) := pkL 4
end Go.Proofs.Ytemffnpliflkgaa
namespace Go.Proofs.Ytemffnpliflkgaa
open Go
set_option linter.unusedVariables false

def sNext : FSp := ⟨_, Sig.dice (one pkI) (fun _ => rfl), fun x => DOK x.1 ∧ x.2.1 ≤ 4611686018427387904, Int × Int, fun x y => (1 ≤ x.2.1 → 0 ≤ y.1 ∧ y.1 < x.2.1) ∧ (x.2.1 < 1 → y.1 = 0) ∧ x.1.2 ≤ y.2 ∧ y.2 ≤ x.1.1.length, fun _ y => .int .i64 y.1, fun x y => [(0, diceO (x.1.1, y.2))], fun x h => ⟨(0, x.1.2), fun h => ⟨Int.le_refl _, by show (0 : Int) < x.2.1; omega⟩, fun _ => rfl, Int.le_refl _, h.1.hi⟩⟩
def sRoll : DS := ⟨_, one pkIntsP, fun _ => True, fun _ => .ptr 100 0, fun x => [(100, diceO (x.1, 0))]⟩
def sLight : DS := ⟨_, one pkInts, fun _ => True, fun x => .bool (decide ((x.1.length : Int) ≤ 600)), nou⟩
def sBool : FSp := ⟨_, Sig.dice (one pkI) (fun _ => rfl), fun x => DOK x.1 ∧ 1 ≤ x.2.1 ∧ x.2.1 ≤ 1000, Bool × Int, fun x y => x.1.2 ≤ y.2 ∧ y.2 ≤ x.1.1.length, fun _ y => .bool y.1, fun x y => [(0, diceO (x.1.1, y.2))], fun x h => ⟨(true, x.1.2), Int.le_refl _, h.1.hi⟩⟩
def sPick : FSp := ⟨_, Sig.dice (one pkInts) (fun _ => rfl), fun x => DOK x.1 ∧ 1 ≤ x.2.1.length ∧ x.2.1.length ≤ 1000, Int × Int, fun x y => y.1 ∈ x.2.1 ∧ x.1.2 ≤ y.2 ∧ y.2 ≤ x.1.1.length, fun _ y => .int .i64 y.1, fun x y => [(0, diceO (x.1.1, y.2))], fun x h => ⟨(x.2.1.getD 0 0, x.1.2), by obtain ⟨h1, h2, h3⟩ := h; match h4 : x.2.1, h2 with | a :: l, _ => simp, Int.le_refl _, h.1.hi⟩⟩
def sWord : FSp := ⟨_, Sig.dice Sig.nil (fun _ => rfl), fun x => DOK x.1, ByteArray × Int, fun x y => y.1 ∈ wordsS ∧ x.1.2 ≤ y.2 ∧ y.2 ≤ x.1.1.length, fun _ y => .str y.1, fun x y => [(0, diceO (x.1.1, y.2))], fun x h => ⟨(⟨#[97]⟩, x.1.2), by show (⟨#[97]⟩ : ByteArray) ∈ wordsS; simp [wordsS], Int.le_refl _, h.hi⟩⟩
def sNameR : DS := ⟨_, one pkS, fun _ => True, fun x => .bool (nameB x.1), nou⟩
def sNameP : DS := ⟨_, one pkS, fun x => (bytesOf x.1).length ≤ 9223372036854775807, fun x => .bool (nameB x.1), nou⟩
def sInner : DS := ⟨_, one (pkK .u8), fun _ => True, fun x => .bool (okB x.1), nou⟩


set_option maxRecDepth 100000 in
theorem vc23 (L : List Int) (k n : Int) (hx : DOK (L, k) ∧ n ≤ 4611686018427387904) : sNext.vc (EV Try.prog [] noInv noInv) Try.f23 ((L, k), n, ()) := by
  have e : ((decide ((↑L.length : Int) ≤ k) = false → decide ((↑L.length : Int) ≤ k) = false) ∧ (decide ((↑L.length : Int) ≤ k) = false → decide ((↑L.length : Int) ≤ k) = false) ∧ ((decide ((↑L.length : Int) ≤ k) || decide (n < 1)) = true → ∃ (y : Int × Int), ((1 ≤ n → 0 ≤ y.fst ∧ y.fst < n) ∧ (n < 1 → y.fst = 0) ∧ k ≤ y.snd ∧ y.snd ≤ (↑L.length : Int)) ∧ 0 = y.fst ∧ L = L ∧ k = y.snd) ∧ ((decide ((↑L.length : Int) ≤ k) || decide (n < 1)) = false → i64R (k + 1) ∧ i64R (k + (1 : Int) - 1) ∧ (0 ≤ k + (1 : Int) - 1 ∧ k + (1 : Int) - 1 < (↑L.length : Int)) ∧ 0 < n ∧ (decide ((L.getD (k + (1 : Int) - 1).toNat 0).tmod n < 0) = true → i64R ((L.getD (k + (1 : Int) - 1).toNat 0).tmod n + n) ∧ ∃ (y : Int × Int), ((1 ≤ n → 0 ≤ y.fst ∧ y.fst < n) ∧ (n < 1 → y.fst = 0) ∧ k ≤ y.snd ∧ y.snd ≤ (↑L.length : Int)) ∧ (L.getD (k + (1 : Int) - 1).toNat 0).tmod n + n = y.fst ∧ L = L ∧ k + 1 = y.snd) ∧ (decide ((L.getD (k + (1 : Int) - 1).toNat 0).tmod n < 0) = false → ∃ (y : Int × Int), ((1 ≤ n → 0 ≤ y.fst ∧ y.fst < n) ∧ (n < 1 → y.fst = 0) ∧ k ≤ y.snd ∧ y.snd ≤ (↑L.length : Int)) ∧ (L.getD (k + (1 : Int) - 1).toNat 0).tmod n = y.fst ∧ L = L ∧ k + 1 = y.snd))) = sNext.vc (EV Try.prog [] noInv noInv) Try.f23 ((L, k), n, ()) := by kernel_rfl
  rw [← e]
  clear e
  obtain ⟨⟨h1, h2, h3⟩, h4⟩ := hx
  have h1 : 0 ≤ k := h1
  have h2 : k ≤ L.length := h2
  have h3 : L.length ≤ 600 := h3
  have key : 0 < n → ∀ x : Int, -n < x.tmod n ∧ x.tmod n < n := fun h x => ⟨Int.lt_tmod_of_pos x h, Int.tmod_lt_of_pos x h⟩
  refine ⟨fun h => h, fun h => h, fun h => ⟨(0, k), ⟨⟨fun _ => ⟨Int.le_refl _, by simp at h ⊢; omega⟩, fun _ => rfl, Int.le_refl _, h2⟩, rfl, rfl, rfl⟩⟩, fun h => ?_⟩
  have h5 : k < L.length ∧ 1 ≤ n := by simp at h; omega
  have h6 := key (by omega) (L.getD (k + 1 - 1).toNat 0)
  generalize (L.getD (k + 1 - 1).toNat 0).tmod n = x at *
  simp only [i64R]
  refine ⟨by omega, by omega, by omega, by omega, fun h => ⟨by simp at h; omega, (x + n, k + 1), ⟨⟨fun _ => ?_, fun _ => ?_, ?_, ?_⟩, by simp⟩⟩, fun h => ⟨(x, k + 1), ⟨⟨fun _ => ?_, fun _ => ?_, ?_, ?_⟩, by simp⟩⟩⟩
  all_goals (simp at h ⊢; omega)


set_option maxRecDepth 100000 in
theorem vc16 (L : List Int) (hx : True) : sRoll.vc (EV Try.prog [] noInv noInv) Try.f16 (L, ()) := by
  have e : (∃ (y : Unit), True ∧ L = L ∧ (0 : Int) = 0) = sRoll.vc (EV Try.prog [] noInv noInv) Try.f16 (L, ()) := by kernel_rfl
  rw [← e]
  clear e
  simp


set_option maxRecDepth 100000 in
theorem vc14 (L : List Int) (hx : True) : sLight.vc (EV Try.prog [] noInv noInv) Try.f14 (L, ()) := by
  have e : (∃ (y : Unit), True ∧ decide ((↑L.length : Int) ≤ 600) = decide ((↑L.length : Int) ≤ 600)) = sLight.vc (EV Try.prog [] noInv noInv) Try.f14 (L, ()) := by kernel_rfl
  rw [← e]
  clear e
  simp


set_option maxRecDepth 100000 in
theorem vc59 (L : List Int) (k n : Int) (hx : DOK (L, k) ∧ 1 ≤ n ∧ n ≤ 1000) : sBool.vc (EV Try.prog [(23, sNext.spec)] noInv noInv) Try.f59 ((L, k), n, ()) := by
  have e : ((DOK (L, k) ∧ n ≤ 4611686018427387904) ∧ (∀ (y : Int × Int), true = true) ∧ ∀ (y : Int × Int), (1 ≤ n → 0 ≤ y.fst ∧ y.fst < n) ∧ (n < 1 → y.fst = 0) ∧ k ≤ y.snd ∧ y.snd ≤ (↑L.length : Int) → i64R (n - 1) ∧ ∃ (y_1 : Bool × Int), (k ≤ y_1.snd ∧ y_1.snd ≤ (↑L.length : Int)) ∧ decide (y.fst = n - 1) = y_1.fst ∧ L = L ∧ y.snd = y_1.snd) = sBool.vc (EV Try.prog [(23, sNext.spec)] noInv noInv) Try.f59 ((L, k), n, ()) := by kernel_rfl
  rw [← e]
  clear e
  obtain ⟨h1, h2, h3⟩ := hx
  simp only [Prod.forall, Prod.exists, implies_true, true_and, i64R, Int.reduceNeg]
  refine ⟨⟨h1, by omega⟩, fun a b hy => ⟨by omega, _, _, hy.2.2, rfl, rfl⟩⟩


set_option maxRecDepth 100000 in
theorem vc72 (L : List Int) (k : Int) (hx : DOK (L, k)) : sWord.vc (EV Try.prog [(23, sNext.spec)] noInv noInv) Try.f72 ((L, k), ()) := by
  have e : ((DOK (L, k) ∧ (6 : Int) ≤ 4611686018427387904) ∧ (∀ (y : Int × Int), true = true) ∧ ∀ (y : Int × Int), ((1 : Int) ≤ 6 → 0 ≤ y.fst ∧ y.fst < 6) ∧ ((6 : Int) < 1 → y.fst = 0) ∧ k ≤ y.snd ∧ y.snd ≤ (↑L.length : Int) → (0 ≤ y.fst ∧ y.fst < (↑(by97 :: by98 :: { data := ((99 : UInt8) :: NilL UInt8).toArray : ByteArray } :: { data := ((119 : UInt8) :: (101 : UInt8) :: (98 : UInt8) :: NilL UInt8).toArray : ByteArray } :: { data := ((100 : UInt8) :: (98 : UInt8) :: (45 : UInt8) :: (49 : UInt8) :: NilL UInt8).toArray : ByteArray } :: { data := ((88 : UInt8) :: (95 : UInt8) :: (57 : UInt8) :: NilL UInt8).toArray : ByteArray } :: NilL ByteArray).length : Int)) ∧ ∃ (y_1 : ByteArray × Int), (y_1.fst ∈ wordsS ∧ k ≤ y_1.snd ∧ y_1.snd ≤ (↑L.length : Int)) ∧ (by97 :: by98 :: { data := ((99 : UInt8) :: NilL UInt8).toArray : ByteArray } :: { data := ((119 : UInt8) :: (101 : UInt8) :: (98 : UInt8) :: NilL UInt8).toArray : ByteArray } :: { data := ((100 : UInt8) :: (98 : UInt8) :: (45 : UInt8) :: (49 : UInt8) :: NilL UInt8).toArray : ByteArray } :: { data := ((88 : UInt8) :: (95 : UInt8) :: (57 : UInt8) :: NilL UInt8).toArray : ByteArray } :: NilL ByteArray).getD y.fst.toNat ByteArray.empty = y_1.fst ∧ L = L ∧ y.snd = y_1.snd) = sWord.vc (EV Try.prog [(23, sNext.spec)] noInv noInv) Try.f72 ((L, k), ()) := by kernel_rfl
  rw [← e]
  clear e
  delta by97 by98
  have hw : ({ data := ((97 : UInt8) :: NilL UInt8).toArray : ByteArray } :: { data := ((98 : UInt8) :: NilL UInt8).toArray : ByteArray } :: { data := ((99 : UInt8) :: NilL UInt8).toArray : ByteArray } :: { data := ((119 : UInt8) :: (101 : UInt8) :: (98 : UInt8) :: NilL UInt8).toArray : ByteArray } :: { data := ((100 : UInt8) :: (98 : UInt8) :: (45 : UInt8) :: (49 : UInt8) :: NilL UInt8).toArray : ByteArray } :: { data := ((88 : UInt8) :: (95 : UInt8) :: (57 : UInt8) :: NilL UInt8).toArray : ByteArray } :: NilL ByteArray) = wordsS := rfl
  rw [hw]
  simp only [Prod.forall, Prod.exists, implies_true, forall_const, true_and, and_true, Int.reduceLE, Int.reduceLT, false_implies]
  refine ⟨hx, fun a b hy => ?_⟩
  have hb := hy.1
  have hl : wordsS.length = 6 := rfl
  refine ⟨by rw [hl]; omega, _, _, ⟨?_, hy.2⟩, rfl, rfl⟩
  rw [List.getD_eq_getElem?_getD, List.getElem?_eq_getElem (by rw [hl]; omega)]
  exact List.getElem_mem _


set_option maxRecDepth 100000 in
theorem vc156 (c : Int) (hx : True) : sInner.vc (EV Try.prog [] noInv noInv) Try.f156 (c, ()) := by
  have e : ((decide (97 ≤ c) = true → decide (97 ≤ c) = true) ∧ (decide (97 ≤ c) = true → decide (97 ≤ c) = true) ∧ ((decide (97 ≤ c) && decide (c ≤ 122)) = false → (decide (97 ≤ c) && decide (c ≤ 122)) = false) ∧ ((decide (97 ≤ c) && decide (c ≤ 122)) = false → (decide (97 ≤ c) && decide (c ≤ 122)) = false) ∧ ((!(decide (97 ≤ c) && decide (c ≤ 122)) && decide (65 ≤ c)) = true → (!(decide (97 ≤ c) && decide (c ≤ 122)) && decide (65 ≤ c)) = true) ∧ ((decide (97 ≤ c) && decide (c ≤ 122)) = false → (decide (97 ≤ c) && decide (c ≤ 122)) = false) ∧ ((decide (97 ≤ c) && decide (c ≤ 122)) = false → decide (65 ≤ c) = true → (!(decide (97 ≤ c) && decide (c ≤ 122)) && decide (65 ≤ c)) = true) ∧ ((decide (97 ≤ c) && decide (c ≤ 122)) = false → (decide (97 ≤ c) && decide (c ≤ 122)) = false) ∧ ((decide (97 ≤ c) && decide (c ≤ 122) || decide (65 ≤ c) && decide (c ≤ 90)) = false → (decide (97 ≤ c) && decide (c ≤ 122) || decide (65 ≤ c) && decide (c ≤ 90)) = false) ∧ ((decide (97 ≤ c) && decide (c ≤ 122) || decide (65 ≤ c) && decide (c ≤ 90)) = false → (decide (97 ≤ c) && decide (c ≤ 122) || decide (65 ≤ c) && decide (c ≤ 90)) = false) ∧ ((!(decide (97 ≤ c) && decide (c ≤ 122) || decide (65 ≤ c) && decide (c ≤ 90)) && decide (48 ≤ c)) = true → (!(decide (97 ≤ c) && decide (c ≤ 122) || decide (65 ≤ c) && decide (c ≤ 90)) && decide (48 ≤ c)) = true) ∧ ((decide (97 ≤ c) && decide (c ≤ 122) || decide (65 ≤ c) && decide (c ≤ 90)) = false → (decide (97 ≤ c) && decide (c ≤ 122) || decide (65 ≤ c) && decide (c ≤ 90)) = false) ∧ ((decide (97 ≤ c) && decide (c ≤ 122) || decide (65 ≤ c) && decide (c ≤ 90)) = false → decide (48 ≤ c) = true → (!(decide (97 ≤ c) && decide (c ≤ 122) || decide (65 ≤ c) && decide (c ≤ 90)) && decide (48 ≤ c)) = true) ∧ ((decide (97 ≤ c) && decide (c ≤ 122) || decide (65 ≤ c) && decide (c ≤ 90)) = false → (decide (97 ≤ c) && decide (c ≤ 122) || decide (65 ≤ c) && decide (c ≤ 90)) = false) ∧ ((decide (97 ≤ c) && decide (c ≤ 122) || decide (65 ≤ c) && decide (c ≤ 90) || decide (48 ≤ c) && decide (c ≤ 57)) = false → (decide (97 ≤ c) && decide (c ≤ 122) || decide (65 ≤ c) && decide (c ≤ 90) || decide (48 ≤ c) && decide (c ≤ 57)) = false) ∧ ((decide (97 ≤ c) && decide (c ≤ 122) || decide (65 ≤ c) && decide (c ≤ 90) || decide (48 ≤ c) && decide (c ≤ 57)) = false → (decide (97 ≤ c) && decide (c ≤ 122) || decide (65 ≤ c) && decide (c ≤ 90) || decide (48 ≤ c) && decide (c ≤ 57)) = false) ∧ ((decide (97 ≤ c) && decide (c ≤ 122) || decide (65 ≤ c) && decide (c ≤ 90) || decide (48 ≤ c) && decide (c ≤ 57) || decide (c = 95)) = false → (decide (97 ≤ c) && decide (c ≤ 122) || decide (65 ≤ c) && decide (c ≤ 90) || decide (48 ≤ c) && decide (c ≤ 57) || decide (c = 95)) = false) ∧ ((decide (97 ≤ c) && decide (c ≤ 122) || decide (65 ≤ c) && decide (c ≤ 90) || decide (48 ≤ c) && decide (c ≤ 57) || decide (c = 95)) = false → (decide (97 ≤ c) && decide (c ≤ 122) || decide (65 ≤ c) && decide (c ≤ 90) || decide (48 ≤ c) && decide (c ≤ 57) || decide (c = 95)) = false) ∧ ∃ (y : Unit), True ∧ (decide (97 ≤ c) && decide (c ≤ 122) || decide (65 ≤ c) && decide (c ≤ 90) || decide (48 ≤ c) && decide (c ≤ 57) || decide (c = 95) || decide (c = 45)) = okB c) = sInner.vc (EV Try.prog [] noInv noInv) Try.f156 (c, ()) := by kernel_rfl
  rw [← e]
  clear e
  simp only [imp_self, true_and, exists_const, gd1]
  rfl

def inv79 (s : ByteArray) : Inv where
  X := Int
  ok := fun i => 0 ≤ i ∧ i ≤ (bytesOf s).length ∧ ∀ j : Nat, (j : Int) < i → okB ((bytesOf s).getD j 0) = true
  sl := fun i => [(3, .int .i64 i)]
  hp := fun _ => []
  keep := []
  me := fun i => ((bytesOf s).length - i).toNat
set_option maxRecDepth 100000 in
theorem vc79 (s : ByteArray) (hx : True) : sNameR.vc (EV Try.prog [] (invs [(4, inv79 s)]) noInv) Try.f79 (s, ()) := by
  have e : ((decide ((↑s.size : Int) = 0) = false → decide ((↑s.size : Int) = 0) = false) ∧ (decide ((↑s.size : Int) = 0) = false → decide ((↑s.size : Int) = 0) = false) ∧ (decide ((↑s.size : Int) = 0) = false → decide ((↑s.size : Int) = 0) = false) ∧ ((decide ((↑s.size : Int) = 0) || decide (32 < (↑s.size : Int))) = false → (decide ((↑s.size : Int) = 0) || decide (32 < (↑s.size : Int))) = false) ∧ ((decide ((↑s.size : Int) = 0) || decide (32 < (↑s.size : Int))) = false → (0 : Int) ≤ 0 ∧ 0 < (↑s.size : Int)) ∧ ((decide ((↑s.size : Int) = 0) || decide (32 < (↑s.size : Int))) = false → (decide ((↑s.size : Int) = 0) || decide (32 < (↑s.size : Int))) = false) ∧ ((decide ((↑s.size : Int) = 0) || decide (32 < (↑s.size : Int))) = false → (decide ((↑s.size : Int) = 0) || decide (32 < (↑s.size : Int))) = false) ∧ ((decide ((↑s.size : Int) = 0) || decide (32 < (↑s.size : Int)) || decide ((bytesOf s).getD (Int.toNat 0) (0 : Int) = 45)) = true → ∃ (y : Unit), True ∧ false = nameB s) ∧ ((decide ((↑s.size : Int) = 0) || decide (32 < (↑s.size : Int)) || decide ((bytesOf s).getD (Int.toNat 0) (0 : Int) = 45)) = false → (∃ (x : Int), (0 ≤ x ∧ x ≤ (↑(bytesOf s).length : Int) ∧ ∀ (j : Nat), (↑j : Int) < x → okB ((bytesOf s).getD j 0) = true) ∧ 0 = x) ∧ ∀ (x : Int), (0 ≤ x ∧ x ≤ (↑(bytesOf s).length : Int) ∧ ∀ (j : Nat), (↑j : Int) < x → okB ((bytesOf s).getD j 0) = true) → (decide (x < (↑s.size : Int)) = true → (0 ≤ x ∧ x < (↑s.size : Int)) ∧ (decide (97 ≤ (bytesOf s).getD x.toNat 0) = true → decide (97 ≤ (bytesOf s).getD x.toNat 0) = true) ∧ (decide (97 ≤ (bytesOf s).getD x.toNat 0) = true → decide (97 ≤ (bytesOf s).getD x.toNat 0) = true) ∧ ((decide (97 ≤ (bytesOf s).getD x.toNat 0) && decide ((bytesOf s).getD x.toNat (0 : Int) ≤ 122)) = false → (decide (97 ≤ (bytesOf s).getD x.toNat 0) && decide ((bytesOf s).getD x.toNat (0 : Int) ≤ 122)) = false) ∧ ((decide (97 ≤ (bytesOf s).getD x.toNat 0) && decide ((bytesOf s).getD x.toNat (0 : Int) ≤ 122)) = false → (decide (97 ≤ (bytesOf s).getD x.toNat 0) && decide ((bytesOf s).getD x.toNat (0 : Int) ≤ 122)) = false) ∧ ((!(decide (97 ≤ (bytesOf s).getD x.toNat 0) && decide ((bytesOf s).getD x.toNat (0 : Int) ≤ 122)) && decide (65 ≤ (bytesOf s).getD x.toNat 0)) = true → (!(decide (97 ≤ (bytesOf s).getD x.toNat 0) && decide ((bytesOf s).getD x.toNat (0 : Int) ≤ 122)) && decide (65 ≤ (bytesOf s).getD x.toNat 0)) = true) ∧ ((decide (97 ≤ (bytesOf s).getD x.toNat 0) && decide ((bytesOf s).getD x.toNat (0 : Int) ≤ 122)) = false → (decide (97 ≤ (bytesOf s).getD x.toNat 0) && decide ((bytesOf s).getD x.toNat (0 : Int) ≤ 122)) = false) ∧ ((decide (97 ≤ (bytesOf s).getD x.toNat 0) && decide ((bytesOf s).getD x.toNat (0 : Int) ≤ 122)) = false → decide (65 ≤ (bytesOf s).getD x.toNat 0) = true → (!(decide (97 ≤ (bytesOf s).getD x.toNat 0) && decide ((bytesOf s).getD x.toNat (0 : Int) ≤ 122)) && decide (65 ≤ (bytesOf s).getD x.toNat 0)) = true) ∧ ((decide (97 ≤ (bytesOf s).getD x.toNat 0) && decide ((bytesOf s).getD x.toNat (0 : Int) ≤ 122)) = false → (decide (97 ≤ (bytesOf s).getD x.toNat 0) && decide ((bytesOf s).getD x.toNat (0 : Int) ≤ 122)) = false) ∧ ((decide (97 ≤ (bytesOf s).getD x.toNat 0) && decide ((bytesOf s).getD x.toNat (0 : Int) ≤ 122) || decide (65 ≤ (bytesOf s).getD x.toNat 0) && decide ((bytesOf s).getD x.toNat (0 : Int) ≤ 90)) = false → (decide (97 ≤ (bytesOf s).getD x.toNat 0) && decide ((bytesOf s).getD x.toNat (0 : Int) ≤ 122) || decide (65 ≤ (bytesOf s).getD x.toNat 0) && decide ((bytesOf s).getD x.toNat (0 : Int) ≤ 90)) = false) ∧ ((decide (97 ≤ (bytesOf s).getD x.toNat 0) && decide ((bytesOf s).getD x.toNat (0 : Int) ≤ 122) || decide (65 ≤ (bytesOf s).getD x.toNat 0) && decide ((bytesOf s).getD x.toNat (0 : Int) ≤ 90)) = false → (decide (97 ≤ (bytesOf s).getD x.toNat 0) && decide ((bytesOf s).getD x.toNat (0 : Int) ≤ 122) || decide (65 ≤ (bytesOf s).getD x.toNat 0) && decide ((bytesOf s).getD x.toNat (0 : Int) ≤ 90)) = false) ∧ ((!(decide (97 ≤ (bytesOf s).getD x.toNat 0) && decide ((bytesOf s).getD x.toNat (0 : Int) ≤ 122) || decide (65 ≤ (bytesOf s).getD x.toNat 0) && decide ((bytesOf s).getD x.toNat (0 : Int) ≤ 90)) && decide (48 ≤ (bytesOf s).getD x.toNat 0)) = true → (!(decide (97 ≤ (bytesOf s).getD x.toNat 0) && decide ((bytesOf s).getD x.toNat (0 : Int) ≤ 122) || decide (65 ≤ (bytesOf s).getD x.toNat 0) && decide ((bytesOf s).getD x.toNat (0 : Int) ≤ 90)) && decide (48 ≤ (bytesOf s).getD x.toNat 0)) = true) ∧ ((decide (97 ≤ (bytesOf s).getD x.toNat 0) && decide ((bytesOf s).getD x.toNat (0 : Int) ≤ 122) || decide (65 ≤ (bytesOf s).getD x.toNat 0) && decide ((bytesOf s).getD x.toNat (0 : Int) ≤ 90)) = false → (decide (97 ≤ (bytesOf s).getD x.toNat 0) && decide ((bytesOf s).getD x.toNat (0 : Int) ≤ 122) || decide (65 ≤ (bytesOf s).getD x.toNat 0) && decide ((bytesOf s).getD x.toNat (0 : Int) ≤ 90)) = false) ∧ ((decide (97 ≤ (bytesOf s).getD x.toNat 0) && decide ((bytesOf s).getD x.toNat (0 : Int) ≤ 122) || decide (65 ≤ (bytesOf s).getD x.toNat 0) && decide ((bytesOf s).getD x.toNat (0 : Int) ≤ 90)) = false → decide (48 ≤ (bytesOf s).getD x.toNat 0) = true → (!(decide (97 ≤ (bytesOf s).getD x.toNat 0) && decide ((bytesOf s).getD x.toNat (0 : Int) ≤ 122) || decide (65 ≤ (bytesOf s).getD x.toNat 0) && decide ((bytesOf s).getD x.toNat (0 : Int) ≤ 90)) && decide (48 ≤ (bytesOf s).getD x.toNat 0)) = true) ∧ ((decide (97 ≤ (bytesOf s).getD x.toNat 0) && decide ((bytesOf s).getD x.toNat (0 : Int) ≤ 122) || decide (65 ≤ (bytesOf s).getD x.toNat 0) && decide ((bytesOf s).getD x.toNat (0 : Int) ≤ 90)) = false → (decide (97 ≤ (bytesOf s).getD x.toNat 0) && decide ((bytesOf s).getD x.toNat (0 : Int) ≤ 122) || decide (65 ≤ (bytesOf s).getD x.toNat 0) && decide ((bytesOf s).getD x.toNat (0 : Int) ≤ 90)) = false) ∧ ((decide (97 ≤ (bytesOf s).getD x.toNat 0) && decide ((bytesOf s).getD x.toNat (0 : Int) ≤ 122) || decide (65 ≤ (bytesOf s).getD x.toNat 0) && decide ((bytesOf s).getD x.toNat (0 : Int) ≤ 90) || decide (48 ≤ (bytesOf s).getD x.toNat 0) && decide ((bytesOf s).getD x.toNat (0 : Int) ≤ 57)) = false → (decide (97 ≤ (bytesOf s).getD x.toNat 0) && decide ((bytesOf s).getD x.toNat (0 : Int) ≤ 122) || decide (65 ≤ (bytesOf s).getD x.toNat 0) && decide ((bytesOf s).getD x.toNat (0 : Int) ≤ 90) || decide (48 ≤ (bytesOf s).getD x.toNat 0) && decide ((bytesOf s).getD x.toNat (0 : Int) ≤ 57)) = false) ∧ ((decide (97 ≤ (bytesOf s).getD x.toNat 0) && decide ((bytesOf s).getD x.toNat (0 : Int) ≤ 122) || decide (65 ≤ (bytesOf s).getD x.toNat 0) && decide ((bytesOf s).getD x.toNat (0 : Int) ≤ 90) || decide (48 ≤ (bytesOf s).getD x.toNat 0) && decide ((bytesOf s).getD x.toNat (0 : Int) ≤ 57)) = false → (decide (97 ≤ (bytesOf s).getD x.toNat 0) && decide ((bytesOf s).getD x.toNat (0 : Int) ≤ 122) || decide (65 ≤ (bytesOf s).getD x.toNat 0) && decide ((bytesOf s).getD x.toNat (0 : Int) ≤ 90) || decide (48 ≤ (bytesOf s).getD x.toNat 0) && decide ((bytesOf s).getD x.toNat (0 : Int) ≤ 57)) = false) ∧ ((decide (97 ≤ (bytesOf s).getD x.toNat 0) && decide ((bytesOf s).getD x.toNat (0 : Int) ≤ 122) || decide (65 ≤ (bytesOf s).getD x.toNat 0) && decide ((bytesOf s).getD x.toNat (0 : Int) ≤ 90) || decide (48 ≤ (bytesOf s).getD x.toNat 0) && decide ((bytesOf s).getD x.toNat (0 : Int) ≤ 57) || decide ((bytesOf s).getD x.toNat (0 : Int) = 95)) = false → (decide (97 ≤ (bytesOf s).getD x.toNat 0) && decide ((bytesOf s).getD x.toNat (0 : Int) ≤ 122) || decide (65 ≤ (bytesOf s).getD x.toNat 0) && decide ((bytesOf s).getD x.toNat (0 : Int) ≤ 90) || decide (48 ≤ (bytesOf s).getD x.toNat 0) && decide ((bytesOf s).getD x.toNat (0 : Int) ≤ 57) || decide ((bytesOf s).getD x.toNat (0 : Int) = 95)) = false) ∧ ((decide (97 ≤ (bytesOf s).getD x.toNat 0) && decide ((bytesOf s).getD x.toNat (0 : Int) ≤ 122) || decide (65 ≤ (bytesOf s).getD x.toNat 0) && decide ((bytesOf s).getD x.toNat (0 : Int) ≤ 90) || decide (48 ≤ (bytesOf s).getD x.toNat 0) && decide ((bytesOf s).getD x.toNat (0 : Int) ≤ 57) || decide ((bytesOf s).getD x.toNat (0 : Int) = 95)) = false → (decide (97 ≤ (bytesOf s).getD x.toNat 0) && decide ((bytesOf s).getD x.toNat (0 : Int) ≤ 122) || decide (65 ≤ (bytesOf s).getD x.toNat 0) && decide ((bytesOf s).getD x.toNat (0 : Int) ≤ 90) || decide (48 ≤ (bytesOf s).getD x.toNat 0) && decide ((bytesOf s).getD x.toNat (0 : Int) ≤ 57) || decide ((bytesOf s).getD x.toNat (0 : Int) = 95)) = false) ∧ ((!(decide (97 ≤ (bytesOf s).getD x.toNat 0) && decide ((bytesOf s).getD x.toNat (0 : Int) ≤ 122) || decide (65 ≤ (bytesOf s).getD x.toNat 0) && decide ((bytesOf s).getD x.toNat (0 : Int) ≤ 90) || decide (48 ≤ (bytesOf s).getD x.toNat 0) && decide ((bytesOf s).getD x.toNat (0 : Int) ≤ 57) || decide ((bytesOf s).getD x.toNat (0 : Int) = 95) || decide ((bytesOf s).getD x.toNat (0 : Int) = 45))) = true → ∃ (y : Unit), True ∧ false = nameB s) ∧ ((!(decide (97 ≤ (bytesOf s).getD x.toNat 0) && decide ((bytesOf s).getD x.toNat (0 : Int) ≤ 122) || decide (65 ≤ (bytesOf s).getD x.toNat 0) && decide ((bytesOf s).getD x.toNat (0 : Int) ≤ 90) || decide (48 ≤ (bytesOf s).getD x.toNat 0) && decide ((bytesOf s).getD x.toNat (0 : Int) ≤ 57) || decide ((bytesOf s).getD x.toNat (0 : Int) = 95) || decide ((bytesOf s).getD x.toNat (0 : Int) = 45))) = false → i64R (x + 1) ∧ ∃ (x' : Int), (0 ≤ x' ∧ x' ≤ (↑(bytesOf s).length : Int) ∧ ∀ (j : Nat), (↑j : Int) < x' → okB ((bytesOf s).getD j 0) = true) ∧ ((↑(bytesOf s).length : Int) - x').toNat < ((↑(bytesOf s).length : Int) - x).toNat ∧ x + 1 = x')) ∧ (decide (x < (↑s.size : Int)) = false → ∃ (y : Unit), True ∧ true = nameB s))) = sNameR.vc (EV Try.prog [] (invs [(4, inv79 s)]) noInv) Try.f79 (s, ()) := by kernel_rfl
  rw [← e]
  clear e
  simp only [okB_fold]
  simp only [imp_self, true_and, exists_const, gd1]
  simp only [size_bytes]
  simp only [true_and, i64R, Int.reduceLE, Int.reduceNeg, decide_eq_true_eq, decide_eq_false_iff_not, Bool.not_eq_true', Bool.not_eq_false', Bool.or_eq_true, Bool.or_eq_false_iff ]
  have nb := nameB_iff (s := s)
  have e0 : (Int.toNat 0) = 0 := rfl
  rw [e0]
  refine ⟨fun h => by omega, fun h => ?_, fun h => ⟨⟨0, ⟨by omega, by omega, fun j hj => by omega⟩, rfl⟩, fun x hx => ⟨fun hlt => ⟨by omega, fun hno => ?_, fun hyes => ⟨by omega, x + 1, ⟨by omega, by omega, fun j hj => ?_⟩, by omega, rfl⟩⟩, fun hge => ?_⟩⟩⟩
  · grind
  · grind
  · by_cases e : (j : Int) < x
    · exact hx.2.2 j e
    · have : j = x.toNat := by omega
      rw [this]; exact hyes
  · symm; rw [nb]; refine ⟨by omega, by omega, h.2, fun j hj => hx.2.2 j (by omega)⟩

def inv152 (s : ByteArray) : Inv where
  X := Int
  ok := fun i => 0 ≤ i ∧ i ≤ (bytesOf s).length ∧ ∀ j : Nat, (j : Int) < i → okB ((bytesOf s).getD j 0) = true
  sl := fun i => [(8, .int .i64 i)]
  hp := fun _ => []
  keep := []
  me := fun i => ((bytesOf s).length - i).toNat
set_option maxRecDepth 100000 in
theorem vc152 (s : ByteArray) (hx : (bytesOf s).length ≤ 9223372036854775807) : sNameP.vc (EV Try.prog [(156, sInner.spec)] (invs [(2, inv152 s)]) noInv) Try.f152 (s, ()) := by
  have e : ((∃ (x : Int), (0 ≤ x ∧ x ≤ (↑(bytesOf s).length : Int) ∧ ∀ (j : Nat), (↑j : Int) < x → okB ((bytesOf s).getD j 0) = true) ∧ 0 = x) ∧ ∀ (x : Int), (0 ≤ x ∧ x ≤ (↑(bytesOf s).length : Int) ∧ ∀ (j : Nat), (↑j : Int) < x → okB ((bytesOf s).getD j 0) = true) → (decide (x < (↑(bytesOf s).length : Int)) = true → (0 ≤ x ∧ x < (↑(bytesOf s).length : Int)) ∧ True ∧ ((!okB ((bytesOf s).getD x.toNat 0)) = true → ∃ (y : Unit), True ∧ false = nameB s) ∧ ((!okB ((bytesOf s).getD x.toNat 0)) = false → i64R (x + 1) ∧ ∃ (x' : Int), (0 ≤ x' ∧ x' ≤ (↑(bytesOf s).length : Int) ∧ ∀ (j : Nat), (↑j : Int) < x' → okB ((bytesOf s).getD j 0) = true) ∧ ((↑(bytesOf s).length : Int) - x').toNat < ((↑(bytesOf s).length : Int) - x).toNat ∧ x + 1 = x')) ∧ (decide (x < (↑(bytesOf s).length : Int)) = false → ((!decide (s = { data := (NilL UInt8).toArray : ByteArray })) = true → (!decide (s = { data := (NilL UInt8).toArray : ByteArray })) = true) ∧ ((!decide (s = { data := (NilL UInt8).toArray : ByteArray })) = true → (!decide (s = { data := (NilL UInt8).toArray : ByteArray })) = true) ∧ ((!decide (s = { data := (NilL UInt8).toArray : ByteArray })) = true → (!decide (s = { data := (NilL UInt8).toArray : ByteArray })) = true) ∧ ((!decide (s = { data := (NilL UInt8).toArray : ByteArray }) && decide ((↑s.size : Int) ≤ 32)) = true → (!decide (s = { data := (NilL UInt8).toArray : ByteArray }) && decide ((↑s.size : Int) ≤ 32)) = true) ∧ ((!decide (s = { data := (NilL UInt8).toArray : ByteArray }) && decide ((↑s.size : Int) ≤ 32)) = true → (0 : Int) ≤ 0 ∧ 0 < (↑s.size : Int)) ∧ ((!decide (s = { data := (NilL UInt8).toArray : ByteArray }) && decide ((↑s.size : Int) ≤ 32)) = true → (!decide (s = { data := (NilL UInt8).toArray : ByteArray }) && decide ((↑s.size : Int) ≤ 32)) = true) ∧ ((!decide (s = { data := (NilL UInt8).toArray : ByteArray }) && decide ((↑s.size : Int) ≤ 32)) = true → (!decide (s = { data := (NilL UInt8).toArray : ByteArray }) && decide ((↑s.size : Int) ≤ 32)) = true) ∧ ∃ (y : Unit), True ∧ (!decide (s = { data := (NilL UInt8).toArray : ByteArray }) && decide ((↑s.size : Int) ≤ 32) && !decide ((bytesOf s).getD (Int.toNat 0) (0 : Int) = 45)) = nameB s)) = sNameP.vc (EV Try.prog [(156, sInner.spec)] (invs [(2, inv152 s)]) noInv) Try.f152 (s, ()) := by kernel_rfl
  rw [← e]
  clear e
  simp only [str_empty]
  simp only [imp_self, true_and, exists_const]
  simp only [true_and, i64R, Int.reduceLE, Int.reduceNeg, decide_eq_true_eq, decide_eq_false_iff_not, Bool.not_eq_true', Bool.not_eq_false', Bool.and_eq_true]
  simp only [size_bytes]
  have nb := nameB_iff (s := s)
  have e0 : (Int.toNat 0) = 0 := rfl
  rw [e0]
  refine ⟨⟨0, ⟨by omega, by omega, fun j hj => by omega⟩, rfl⟩, fun x hx => ⟨fun hlt => ⟨by omega, fun hno => ?_, fun hyes => ⟨by omega, x + 1, ⟨by omega, by omega, fun j hj => ?_⟩, by omega, rfl⟩⟩, fun hge => ⟨fun h => by omega, ?_⟩⟩⟩
  · grind
  · by_cases e : (j : Int) < x
    · exact hx.2.2 j e
    · have : j = x.toNat := by omega
      rw [this]; exact hyes
  · rw [Bool.eq_iff_iff, nb]
    simp only [Bool.and_eq_true, Bool.not_eq_true', decide_eq_false_iff_not, decide_eq_true_eq]
    constructor
    · rintro ⟨⟨h1, h2⟩, h3⟩
      exact ⟨by omega, by omega, h3, fun j hj => hx.2.2 j (by omega)⟩
    · rintro ⟨h1, h2, h3, h4⟩
      exact ⟨⟨by omega, by omega⟩, h3⟩
end Go.Proofs.Ytemffnpliflkgaa
namespace Go.Proofs.Ytemffnpliflkgaa
open Go
set_option linter.unusedVariables false

def sNew : DS := ⟨_, Sig.nil, fun _ => True, fun _ => .agg [.own 101 3, .int .i64 2], fun _ => [(101, .rows 34 3 [⟨1, 0, ByteArray.empty, 0, 0, 0⟩])]⟩
def sNodeB : DS := ⟨_, two pkTree pkI, fun x => 0 ≤ x.2.1 ∧ x.2.1 < x.1.1.length ∧ x.1.1.length ≤ 64, fun x => .bool (nodB x.1.1 x.2.1.toNat), nou⟩
def sUp : DS := ⟨_, two pkTree pkI, fun x => x.1.1.length ≤ 64, fun _ => .own 101 0, fun x => [(101, .rows 3 0 (upT x.1.1 x.2.1))]⟩
def sChk : DS := ⟨_, one pkTree, fun _ => True, fun x => .bool (chkB x.1.1 x.1.2), nou⟩
def sFindR : DS := ⟨_, two pkTree pkI, fun _ => True, fun x => .tup [nodV (findR x.1.1 x.1.2 x.2.1), .bool (hasR x.1.1 x.1.2 x.2.1)], nou⟩
def sHas : DS := ⟨_, two pkTree pkI, fun _ => True, fun x => .bool (hasR x.1.1 x.1.2 x.2.1), nou⟩
def sAnc : DS := ⟨_, two pkTree pkI, fun _ => True, fun _ => .own 101 0, fun x => [(101, .rows 3 0 (ancR x.1.1 x.1.2 x.2.1))]⟩
def sChn : DS := ⟨_, two pkTree pkI, fun _ => True, fun _ => .own 101 0, fun x => [(101, .rows 3 0 (chnR x.1.1 x.1.2 x.2.1))]⟩
def sDepth : DS := ⟨_, two pkTree pkI, fun _ => True, fun x => .int .i64 ((ancR x.1.1 x.1.2 x.2.1).length - 1), nou⟩
def sCopyT : DS := ⟨_, one pkTree, fun x => x.1.1.length ≤ 64, fun x => .agg [.own 101 3, .int .i64 x.1.2], fun x => [(101, .rows 34 3 x.1.1)]⟩
def sAdd : DS := ⟨_, three pkTree pkI pkS, fun _ => True, fun x => .tup [.agg [.own 101 3, .int .i64 (addN x.1.1 x.1.2 x.2.1 x.2.2.1)], .int .i64 (addI x.1.1 x.1.2 x.2.1 x.2.2.1), .int .i64 (addE x.1.1 x.1.2 x.2.1 x.2.2.1)], fun x => [(101, .rows 34 3 (addL x.1.1 x.1.2 x.2.1 x.2.2.1))]⟩
def sRem : DS := ⟨_, two pkTree pkI, fun _ => True, fun x => .tup [.agg [.own 101 3, .int .i64 (rmN x.1.1 x.1.2 x.2.1)], .int .i64 (rmE x.1.1 x.1.2 x.2.1)], fun x => [(101, .rows 34 3 (rmL x.1.1 x.1.2 x.2.1))]⟩
theorem nd_fold (l : List Nod) (k : Nat) : l.getD k ⟨0, 0, ByteArray.empty, 0, 0, 0⟩ = nd l k := rfl


set_option maxRecDepth 100000 in
theorem vc70 (u : Unit) (hx : True) : sNew.vc (EV Try.prog [] noInv noInv) Try.f70 () := by
  have e : (∃ (y : Unit), True ∧ (2 : Int) = 2 ∧ { id := 1, parent := 0, name := { data := (NilL UInt8).toArray : ByteArray }, control := 0, kind := 0, owner := 0 : Nod } :: NilL Nod = nd1 :: NilL Nod) = sNew.vc (EV Try.prog [] noInv noInv) Try.f70 () := by kernel_rfl
  rw [← e]
  clear e
  delta nd1
  simp only [true_and, exists_const, NilL_eq ]
  rfl

def inv128 (l : List Nod) (i : Int) : Inv where
  X := Int
  ok := fun k => 0 ≤ k ∧ k ≤ i ∧ soleB l k.toNat (nd l i.toNat).parent (nd l i.toNat).name = true
  sl := fun k => [(7, .int .i64 k), (6, .bool (parB l k.toNat (nd l i.toNat).parent))]
  hp := fun _ => []
  keep := [10000, 20050]
  me := fun k => (i - k).toNat
set_option maxRecDepth 100000 in
theorem vc128 (l : List Nod) (n i : Int) (hx : 0 ≤ i ∧ i < l.length ∧ l.length ≤ 64) : sNodeB.vc (EV Try.prog [(79, sNameR.spec)] (invs [(10, inv128 l i)]) noInv) Try.f128 ((l, n), i, ()) := by
  have e : ((0 ≤ i ∧ i < (↑l.length : Int)) ∧ ((!decide ((l.getD i.toNat nd0).kind = 0)) = true → (!decide ((l.getD i.toNat nd0).kind = 0)) = true) ∧ ((!decide ((l.getD i.toNat nd0).kind = 0)) = true → (!decide ((l.getD i.toNat nd0).kind = 0)) = true) ∧ ((!decide ((l.getD i.toNat nd0).kind = 0)) = true → (!decide ((l.getD i.toNat nd0).kind = 0)) = true) ∧ ((!decide ((l.getD i.toNat nd0).kind = 0) && !decide ((l.getD i.toNat nd0).kind = 1)) = false → (!decide ((l.getD i.toNat nd0).kind = 0) && !decide ((l.getD i.toNat nd0).kind = 1)) = false) ∧ ((!decide ((l.getD i.toNat nd0).kind = 0) && !decide ((l.getD i.toNat nd0).kind = 1)) = false → (!decide ((l.getD i.toNat nd0).kind = 0) && !decide ((l.getD i.toNat nd0).kind = 1)) = false) ∧ ((!decide ((l.getD i.toNat nd0).kind = 0) && !decide ((l.getD i.toNat nd0).kind = 1)) = false → (!decide ((l.getD i.toNat nd0).kind = 0) && !decide ((l.getD i.toNat nd0).kind = 1)) = false) ∧ ((!decide ((l.getD i.toNat nd0).kind = 0) && !decide ((l.getD i.toNat nd0).kind = 1) || decide ((l.getD i.toNat nd0).control < 0)) = false → (!decide ((l.getD i.toNat nd0).kind = 0) && !decide ((l.getD i.toNat nd0).kind = 1) || decide ((l.getD i.toNat nd0).control < 0)) = false) ∧ ((!decide ((l.getD i.toNat nd0).kind = 0) && !decide ((l.getD i.toNat nd0).kind = 1) || decide ((l.getD i.toNat nd0).control < 0)) = false → (!decide ((l.getD i.toNat nd0).kind = 0) && !decide ((l.getD i.toNat nd0).kind = 1) || decide ((l.getD i.toNat nd0).control < 0)) = false) ∧ ((!decide ((l.getD i.toNat nd0).kind = 0) && !decide ((l.getD i.toNat nd0).kind = 1) || decide ((l.getD i.toNat nd0).control < 0)) = false → (!decide ((l.getD i.toNat nd0).kind = 0) && !decide ((l.getD i.toNat nd0).kind = 1) || decide ((l.getD i.toNat nd0).control < 0)) = false) ∧ ((!decide ((l.getD i.toNat nd0).kind = 0) && !decide ((l.getD i.toNat nd0).kind = 1) || decide ((l.getD i.toNat nd0).control < 0) || decide (31 < (l.getD i.toNat nd0).control)) = false → (!decide ((l.getD i.toNat nd0).kind = 0) && !decide ((l.getD i.toNat nd0).kind = 1) || decide ((l.getD i.toNat nd0).control < 0) || decide (31 < (l.getD i.toNat nd0).control)) = false) ∧ ((!decide ((l.getD i.toNat nd0).kind = 0) && !decide ((l.getD i.toNat nd0).kind = 1) || decide ((l.getD i.toNat nd0).control < 0) || decide (31 < (l.getD i.toNat nd0).control)) = false → (!decide ((l.getD i.toNat nd0).kind = 0) && !decide ((l.getD i.toNat nd0).kind = 1) || decide ((l.getD i.toNat nd0).control < 0) || decide (31 < (l.getD i.toNat nd0).control)) = false) ∧ ((!decide ((l.getD i.toNat nd0).kind = 0) && !decide ((l.getD i.toNat nd0).kind = 1) || decide ((l.getD i.toNat nd0).control < 0) || decide (31 < (l.getD i.toNat nd0).control)) = false → (!decide ((l.getD i.toNat nd0).kind = 0) && !decide ((l.getD i.toNat nd0).kind = 1) || decide ((l.getD i.toNat nd0).control < 0) || decide (31 < (l.getD i.toNat nd0).control)) = false) ∧ ((!decide ((l.getD i.toNat nd0).kind = 0) && !decide ((l.getD i.toNat nd0).kind = 1) || decide ((l.getD i.toNat nd0).control < 0) || decide (31 < (l.getD i.toNat nd0).control) || decide ((l.getD i.toNat nd0).owner < 0)) = false → (!decide ((l.getD i.toNat nd0).kind = 0) && !decide ((l.getD i.toNat nd0).kind = 1) || decide ((l.getD i.toNat nd0).control < 0) || decide (31 < (l.getD i.toNat nd0).control) || decide ((l.getD i.toNat nd0).owner < 0)) = false) ∧ ((!decide ((l.getD i.toNat nd0).kind = 0) && !decide ((l.getD i.toNat nd0).kind = 1) || decide ((l.getD i.toNat nd0).control < 0) || decide (31 < (l.getD i.toNat nd0).control) || decide ((l.getD i.toNat nd0).owner < 0)) = false → (!decide ((l.getD i.toNat nd0).kind = 0) && !decide ((l.getD i.toNat nd0).kind = 1) || decide ((l.getD i.toNat nd0).control < 0) || decide (31 < (l.getD i.toNat nd0).control) || decide ((l.getD i.toNat nd0).owner < 0)) = false) ∧ ((!decide ((l.getD i.toNat nd0).kind = 0) && !decide ((l.getD i.toNat nd0).kind = 1) || decide ((l.getD i.toNat nd0).control < 0) || decide (31 < (l.getD i.toNat nd0).control) || decide ((l.getD i.toNat nd0).owner < 0)) = false → (!decide ((l.getD i.toNat nd0).kind = 0) && !decide ((l.getD i.toNat nd0).kind = 1) || decide ((l.getD i.toNat nd0).control < 0) || decide (31 < (l.getD i.toNat nd0).control) || decide ((l.getD i.toNat nd0).owner < 0)) = false) ∧ ((!decide ((l.getD i.toNat nd0).kind = 0) && !decide ((l.getD i.toNat nd0).kind = 1) || decide ((l.getD i.toNat nd0).control < 0) || decide (31 < (l.getD i.toNat nd0).control) || decide ((l.getD i.toNat nd0).owner < 0) || decide (1048576 < (l.getD i.toNat nd0).owner)) = true → ∃ (y : Unit), True ∧ false = nodB l i.toNat) ∧ ((!decide ((l.getD i.toNat nd0).kind = 0) && !decide ((l.getD i.toNat nd0).kind = 1) || decide ((l.getD i.toNat nd0).control < 0) || decide (31 < (l.getD i.toNat nd0).control) || decide ((l.getD i.toNat nd0).owner < 0) || decide (1048576 < (l.getD i.toNat nd0).owner)) = false → (decide (i = 0) = true → (decide ((l.getD i.toNat nd0).id = 1) = true → decide ((l.getD i.toNat nd0).id = 1) = true) ∧ (decide ((l.getD i.toNat nd0).id = 1) = true → decide ((l.getD i.toNat nd0).id = 1) = true) ∧ (decide ((l.getD i.toNat nd0).id = 1) = true → decide ((l.getD i.toNat nd0).id = 1) = true) ∧ ((decide ((l.getD i.toNat nd0).id = 1) && decide ((l.getD i.toNat nd0).parent = 0)) = true → (decide ((l.getD i.toNat nd0).id = 1) && decide ((l.getD i.toNat nd0).parent = 0)) = true) ∧ ((decide ((l.getD i.toNat nd0).id = 1) && decide ((l.getD i.toNat nd0).parent = 0)) = true → (decide ((l.getD i.toNat nd0).id = 1) && decide ((l.getD i.toNat nd0).parent = 0)) = true) ∧ ((decide ((l.getD i.toNat nd0).id = 1) && decide ((l.getD i.toNat nd0).parent = 0)) = true → (decide ((l.getD i.toNat nd0).id = 1) && decide ((l.getD i.toNat nd0).parent = 0)) = true) ∧ ((decide ((l.getD i.toNat nd0).id = 1) && decide ((l.getD i.toNat nd0).parent = 0) && decide ((l.getD i.toNat nd0).name = { data := (NilL UInt8).toArray : ByteArray })) = true → (decide ((l.getD i.toNat nd0).id = 1) && decide ((l.getD i.toNat nd0).parent = 0) && decide ((l.getD i.toNat nd0).name = { data := (NilL UInt8).toArray : ByteArray })) = true) ∧ ((decide ((l.getD i.toNat nd0).id = 1) && decide ((l.getD i.toNat nd0).parent = 0) && decide ((l.getD i.toNat nd0).name = { data := (NilL UInt8).toArray : ByteArray })) = true → (decide ((l.getD i.toNat nd0).id = 1) && decide ((l.getD i.toNat nd0).parent = 0) && decide ((l.getD i.toNat nd0).name = { data := (NilL UInt8).toArray : ByteArray })) = true) ∧ ((decide ((l.getD i.toNat nd0).id = 1) && decide ((l.getD i.toNat nd0).parent = 0) && decide ((l.getD i.toNat nd0).name = { data := (NilL UInt8).toArray : ByteArray })) = true → (decide ((l.getD i.toNat nd0).id = 1) && decide ((l.getD i.toNat nd0).parent = 0) && decide ((l.getD i.toNat nd0).name = { data := (NilL UInt8).toArray : ByteArray })) = true) ∧ ∃ (y : Unit), True ∧ (decide ((l.getD i.toNat nd0).id = 1) && decide ((l.getD i.toNat nd0).parent = 0) && decide ((l.getD i.toNat nd0).name = { data := (NilL UInt8).toArray : ByteArray }) && decide ((l.getD i.toNat nd0).kind = 0)) = nodB l i.toNat) ∧ (decide (i = 0) = false → i64R (i - 1) ∧ (0 ≤ i - 1 ∧ i - 1 < (↑l.length : Int)) ∧ (decide ((l.getD i.toNat nd0).id ≤ (l.getD (i - 1).toNat nd0).id) = false → decide ((l.getD i.toNat nd0).id ≤ (l.getD (i - 1).toNat nd0).id) = false) ∧ (decide ((l.getD i.toNat nd0).id ≤ (l.getD (i - 1).toNat nd0).id) = false → decide ((l.getD i.toNat nd0).id ≤ (l.getD (i - 1).toNat nd0).id) = false) ∧ (decide ((l.getD i.toNat nd0).id ≤ (l.getD (i - 1).toNat nd0).id) = false → True) ∧ (decide ((l.getD i.toNat nd0).id ≤ (l.getD (i - 1).toNat nd0).id) = false → decide ((l.getD i.toNat nd0).id ≤ (l.getD (i - 1).toNat nd0).id) = false) ∧ (decide ((l.getD i.toNat nd0).id ≤ (l.getD (i - 1).toNat nd0).id) = false → decide ((l.getD i.toNat nd0).id ≤ (l.getD (i - 1).toNat nd0).id) = false) ∧ ((decide ((l.getD i.toNat nd0).id ≤ (l.getD (i - 1).toNat nd0).id) || !nameB (l.getD i.toNat nd0).name) = true → ∃ (y : Unit), True ∧ false = nodB l i.toNat) ∧ ((decide ((l.getD i.toNat nd0).id ≤ (l.getD (i - 1).toNat nd0).id) || !nameB (l.getD i.toNat nd0).name) = false → (∃ (x : Int), (0 ≤ x ∧ x ≤ i ∧ soleB l x.toNat (nd l i.toNat).parent (nd l i.toNat).name = true) ∧ 0 = x ∧ false = parB l x.toNat (nd l i.toNat).parent ∧ l = l ∧ n = n ∧ (l.getD i.toNat nd0).id = (l.getD i.toNat nd0).id ∧ (l.getD i.toNat nd0).parent = (l.getD i.toNat nd0).parent ∧ (l.getD i.toNat nd0).name = (l.getD i.toNat nd0).name ∧ (l.getD i.toNat nd0).control = (l.getD i.toNat nd0).control ∧ (l.getD i.toNat nd0).kind = (l.getD i.toNat nd0).kind ∧ (l.getD i.toNat nd0).owner = (l.getD i.toNat nd0).owner) ∧ ∀ (x : Int), 0 ≤ x ∧ x ≤ i ∧ soleB l x.toNat (nd l i.toNat).parent (nd l i.toNat).name = true → (decide (x < i) = true → (parB l x.toNat (nd l i.toNat).parent = false → parB l x.toNat (nd l i.toNat).parent = false) ∧ (parB l x.toNat (nd l i.toNat).parent = false → parB l x.toNat (nd l i.toNat).parent = false) ∧ (parB l x.toNat (nd l i.toNat).parent = false → parB l x.toNat (nd l i.toNat).parent = false) ∧ (parB l x.toNat (nd l i.toNat).parent = false → 0 ≤ x ∧ x < (↑l.length : Int)) ∧ (parB l x.toNat (nd l i.toNat).parent = false → parB l x.toNat (nd l i.toNat).parent = false) ∧ (parB l x.toNat (nd l i.toNat).parent = false → parB l x.toNat (nd l i.toNat).parent = false) ∧ (parB l x.toNat (nd l i.toNat).parent = false → parB l x.toNat (nd l i.toNat).parent = false) ∧ (parB l x.toNat (nd l i.toNat).parent = false → parB l x.toNat (nd l i.toNat).parent = false) ∧ (parB l x.toNat (nd l i.toNat).parent = false → parB l x.toNat (nd l i.toNat).parent = false) ∧ (parB l x.toNat (nd l i.toNat).parent = false → parB l x.toNat (nd l i.toNat).parent = false) ∧ (0 ≤ x ∧ x < (↑l.length : Int)) ∧ (decide ((l.getD x.toNat nd0).parent = (l.getD i.toNat nd0).parent) = true → decide ((l.getD x.toNat nd0).parent = (l.getD i.toNat nd0).parent) = true) ∧ (decide ((l.getD x.toNat nd0).parent = (l.getD i.toNat nd0).parent) = true → decide ((l.getD x.toNat nd0).parent = (l.getD i.toNat nd0).parent) = true) ∧ (decide ((l.getD x.toNat nd0).parent = (l.getD i.toNat nd0).parent) = true → decide ((l.getD x.toNat nd0).parent = (l.getD i.toNat nd0).parent) = true) ∧ (decide ((l.getD x.toNat nd0).parent = (l.getD i.toNat nd0).parent) = true → 0 ≤ x ∧ x < (↑l.length : Int)) ∧ (decide ((l.getD x.toNat nd0).parent = (l.getD i.toNat nd0).parent) = true → decide ((l.getD x.toNat nd0).parent = (l.getD i.toNat nd0).parent) = true) ∧ (decide ((l.getD x.toNat nd0).parent = (l.getD i.toNat nd0).parent) = true → decide ((l.getD x.toNat nd0).parent = (l.getD i.toNat nd0).parent) = true) ∧ (decide ((l.getD x.toNat nd0).parent = (l.getD i.toNat nd0).parent) = true → decide ((l.getD x.toNat nd0).parent = (l.getD i.toNat nd0).parent) = true) ∧ (decide ((l.getD x.toNat nd0).parent = (l.getD i.toNat nd0).parent) = true → decide ((l.getD x.toNat nd0).parent = (l.getD i.toNat nd0).parent) = true) ∧ (decide ((l.getD x.toNat nd0).parent = (l.getD i.toNat nd0).parent) = true → decide ((l.getD x.toNat nd0).parent = (l.getD i.toNat nd0).parent) = true) ∧ (decide ((l.getD x.toNat nd0).parent = (l.getD i.toNat nd0).parent) = true → decide ((l.getD x.toNat nd0).parent = (l.getD i.toNat nd0).parent) = true) ∧ ((decide ((l.getD x.toNat nd0).parent = (l.getD i.toNat nd0).parent) && decide ((l.getD x.toNat nd0).name = (l.getD i.toNat nd0).name)) = true → ∃ (y : Unit), True ∧ false = nodB l i.toNat) ∧ ((decide ((l.getD x.toNat nd0).parent = (l.getD i.toNat nd0).parent) && decide ((l.getD x.toNat nd0).name = (l.getD i.toNat nd0).name)) = false → i64R (x + 1) ∧ ∃ (x' : Int), (0 ≤ x' ∧ x' ≤ i ∧ soleB l x'.toNat (nd l i.toNat).parent (nd l i.toNat).name = true) ∧ (i - x').toNat < (i - x).toNat ∧ x + 1 = x' ∧ (parB l x.toNat (nd l i.toNat).parent || decide ((l.getD x.toNat nd0).id = (l.getD i.toNat nd0).parent)) = parB l x'.toNat (nd l i.toNat).parent ∧ l = l ∧ n = n ∧ (l.getD i.toNat nd0).id = (l.getD i.toNat nd0).id ∧ (l.getD i.toNat nd0).parent = (l.getD i.toNat nd0).parent ∧ (l.getD i.toNat nd0).name = (l.getD i.toNat nd0).name ∧ (l.getD i.toNat nd0).control = (l.getD i.toNat nd0).control ∧ (l.getD i.toNat nd0).kind = (l.getD i.toNat nd0).kind ∧ (l.getD i.toNat nd0).owner = (l.getD i.toNat nd0).owner)) ∧ (decide (x < i) = false → ∃ (y : Unit), True ∧ parB l x.toNat (nd l i.toNat).parent = nodB l i.toNat))))) = sNodeB.vc (EV Try.prog [(79, sNameR.spec)] (invs [(10, inv128 l i)]) noInv) Try.f128 ((l, n), i, ()) := by kernel_rfl
  rw [← e]
  clear e
  delta nd0
  have hX0 : l.getD i.toNat ⟨0, 0, ByteArray.empty, 0, 0, 0⟩ = nd l i.toNat := rfl
  generalize l.getD i.toNat ⟨0, 0, ByteArray.empty, 0, 0, 0⟩ = X at hX0 ⊢
  have hX := hX0.symm
  clear hX0
  have hroot : rootB X = (decide (X.id = 1) && decide (X.parent = 0) && decide (X.name = { data := (NilL UInt8).toArray : ByteArray }) && decide (X.kind = 0)) := rfl
  simp only [str_empty] at hroot ⊢
  simp only [imp_self, true_and, and_true, exists_const, implies_true]
  simp only [nd_fold, hX]
  obtain ⟨h0, h1, h2⟩ := hx
  have ei : i.toNat = 0 ↔ i = 0 := by omega
  have hnod : nodB l i.toNat = (ctlB X && (if i.toNat = 0 then rootB (nd l 0) else fineB l i.toNat)) := by unfold nodB; rw [hX]
  have hctl : ctlB X = !(!decide (X.kind = 0) && !decide (X.kind = 1) || decide (X.control < 0) || decide (31 < X.control) || decide (X.owner < 0) || decide (1048576 < X.owner)) := by
    unfold ctlB
    rw [Bool.eq_iff_iff]
    simp only [Bool.and_eq_true, Bool.or_eq_true, Bool.not_eq_true', Bool.or_eq_false_iff, Bool.and_eq_false_iff, decide_eq_true_eq, decide_eq_false_iff_not, Bool.not_eq_false']
    omega
  refine ⟨⟨h0, h1⟩, fun hb => ?_, fun hg => ⟨fun hi => ?_, fun hi => ?_⟩⟩
  · rw [hnod, hctl, hb]; rfl
  · have hi' : i = 0 := by simpa using hi
    subst hi'
    have e0 : Int.toNat 0 = 0 := rfl
    rw [e0] at hX hnod ⊢
    rw [hnod, hctl, hg, if_pos rfl, hX, hroot]
    rfl
  · have hi' : ¬ i = 0 := by simpa using hi
    have hf : nodB l i.toNat = (decide ((nd l (i.toNat - 1)).id < X.id) && nameB X.name && parB l i.toNat X.parent && soleB l i.toNat X.parent X.name) := by
      rw [hnod, hctl, hg, if_neg (by omega), fineB, hX]; rfl
    have e1 : (i - 1).toNat = i.toNat - 1 := by omega
    rw [e1]
    refine ⟨by simp only [i64R]; omega, by omega, fun hb0 => ?_, fun hg20 => ⟨⟨0, ⟨by omega, by omega, rfl⟩, rfl, rfl⟩, fun x hx => ⟨fun hlt => ?_, fun hge => ?_⟩⟩⟩
    · rw [hf]
      have hb : (decide (X.id ≤ (nd l (i.toNat - 1)).id) || !nameB X.name) = true := hb0
      simp only [Bool.or_eq_true, decide_eq_true_eq, Bool.not_eq_true'] at hb
      rcases hb with hb | hb
      · have : ¬ (nd l (i.toNat - 1)).id < X.id := by omega
        simp [this]
      · simp [hb]
    · have hlt' : x < i := by simpa using hlt
      refine ⟨fun _ => by omega, by omega, fun _ => by omega, fun hb0 => ?_, fun hb0 => ⟨by simp only [i64R]; omega, x + 1, ⟨by omega, by omega, ?_⟩, by omega, rfl, ?_⟩⟩
      · have hb : (decide ((nd l x.toNat).parent = X.parent) && decide ((nd l x.toNat).name = X.name)) = true := hb0
        rw [hf]
        have : soleB l i.toNat X.parent X.name = false := by
          rw [← Bool.not_eq_true, soleB_iff]
          intro hh
          simp only [Bool.and_eq_true, decide_eq_true_eq] at hb
          exact hh x.toNat (by omega) hb
        simp [this]
      · have hb : (decide ((nd l x.toNat).parent = X.parent) && decide ((nd l x.toNat).name = X.name)) = false := hb0
        have e2 : (x + 1).toNat = x.toNat + 1 := by omega
        rw [e2, soleB_succ, hx.2.2, hb]; rfl
      · have e2 : (x + 1).toNat = x.toNat + 1 := by omega
        rw [e2, parB_succ]; rfl
    · have hge' : ¬ x < i := by simpa using hge
      have e2 : x = i := by omega
      subst e2
      have hg2 : (decide (X.id ≤ (nd l (x.toNat - 1)).id) || !nameB X.name) = false := hg20
      simp only [Bool.or_eq_false_iff, decide_eq_false_iff_not, Bool.not_eq_false'] at hg2
      have : (nd l (x.toNat - 1)).id < X.id := by omega
      rw [hf, hx.2.2]
      simp [this, hg2.2]

def inv77 (l : List Nod) (g : Int) : Inv where
  X := List Int × Int × Int
  ok := fun x => -1 ≤ x.2.1 ∧ x.2.1 < l.length ∧ x.1 ++ up (l.take (x.2.1 + 1).toNat).reverse x.2.2 = upT l g ∧ x.1.length + x.2.1 + 1 ≤ l.length
  sl := fun x => [(5, .own 101 0), (6, .int .i64 x.2.1), (1, .int .i64 x.2.2)]
  hp := fun x => [(101, .rows 3 0 x.1)]
  keep := [10000]
  me := fun x => (x.2.1 + 1).toNat
set_option maxRecDepth 100000 in
theorem vc77 (l : List Nod) (n g : Int) (hx : l.length ≤ 64) : sUp.vc (EV Try.prog [] (invs [(3, inv77 l g)]) noInv) Try.f77 ((l, n), g, ()) := by
  have e : (i64R ((↑l.length : Int) - 1) ∧ (∃ (x : List Int × Int × Int), ((-1) ≤ x.snd.fst ∧ x.snd.fst < (↑l.length : Int) ∧ x.fst ++ up (List.take (x.snd.fst + 1).toNat l).reverse x.snd.snd = upT l g ∧ (↑x.fst.length : Int) + x.snd.fst + 1 ≤ (↑l.length : Int)) ∧ (↑l.length : Int) - 1 = x.snd.fst ∧ g = x.snd.snd ∧ NilL Int = x.fst ∧ l = l ∧ n = n) ∧ ∀ (x : List Int × Int × Int), (-1) ≤ x.snd.fst ∧ x.snd.fst < (↑l.length : Int) ∧ x.fst ++ up (List.take (x.snd.fst + 1).toNat l).reverse x.snd.snd = upT l g ∧ (↑x.fst.length : Int) + x.snd.fst + 1 ≤ (↑l.length : Int) → (decide (0 ≤ x.snd.fst) = true → (0 ≤ x.snd.fst ∧ x.snd.fst < (↑l.length : Int)) ∧ (decide ((l.getD x.snd.fst.toNat nd0).id = x.snd.snd) = true → x.fst.length + (x.snd.snd :: NilL Int).length ≤ (68719476736 : Nat) ∧ (0 ≤ x.snd.fst ∧ x.snd.fst < (↑l.length : Int)) ∧ i64R (x.snd.fst - 1) ∧ ∃ (x' : List Int × Int × Int), ((-1) ≤ x'.snd.fst ∧ x'.snd.fst < (↑l.length : Int) ∧ x'.fst ++ up (List.take (x'.snd.fst + 1).toNat l).reverse x'.snd.snd = upT l g ∧ (↑x'.fst.length : Int) + x'.snd.fst + 1 ≤ (↑l.length : Int)) ∧ (x'.snd.fst + 1).toNat < (x.snd.fst + 1).toNat ∧ x.snd.fst - 1 = x'.snd.fst ∧ (l.getD x.snd.fst.toNat nd0).parent = x'.snd.snd ∧ x.fst ++ x.snd.snd :: NilL Int = x'.fst ∧ l = l ∧ n = n) ∧ (decide ((l.getD x.snd.fst.toNat nd0).id = x.snd.snd) = false → i64R (x.snd.fst - 1) ∧ ∃ (x' : List Int × Int × Int), ((-1) ≤ x'.snd.fst ∧ x'.snd.fst < (↑l.length : Int) ∧ x'.fst ++ up (List.take (x'.snd.fst + 1).toNat l).reverse x'.snd.snd = upT l g ∧ (↑x'.fst.length : Int) + x'.snd.fst + 1 ≤ (↑l.length : Int)) ∧ (x'.snd.fst + 1).toNat < (x.snd.fst + 1).toNat ∧ x.snd.fst - 1 = x'.snd.fst ∧ x.snd.snd = x'.snd.snd ∧ x.fst = x'.fst ∧ l = l ∧ n = n)) ∧ (decide (0 ≤ x.snd.fst) = false → ∃ (y : Unit), True ∧ x.fst = upT l g)) = sUp.vc (EV Try.prog [] (invs [(3, inv77 l g)]) noInv) Try.f77 ((l, n), g, ()) := by kernel_rfl
  rw [← e]
  clear e
  delta nd0
  simp only [true_and, and_true, exists_const, NilL_eq ]
  simp only [Prod.forall, Prod.exists, i64R, Int.reduceNeg, decide_eq_true_eq, decide_eq_false_iff_not]
  simp only [nd_fold]
  refine ⟨by omega, ⟨[], l.length - 1, g, ⟨by omega, by omega, ?_, by simp⟩, rfl, rfl, rfl⟩, fun out i id hi => ⟨fun h0 => ⟨by omega, fun he => ⟨by simp; omega, by omega, by omega, _, _, _, ⟨by omega, by omega, ?_, by simp; omega⟩, by omega, rfl, rfl, rfl⟩, fun hne => ⟨by omega, _, _, _, ⟨by omega, by omega, ?_, by omega⟩, by omega, rfl, rfl, rfl⟩⟩, fun hlt => ?_⟩⟩
  · have e : ((l.length : Int) - 1 + 1).toNat = l.length := by omega
    rw [e, List.take_length]; rfl
  · rw [← hi.2.2.1]
    have e : (i + 1).toNat = i.toNat + 1 := by omega
    have e2 : (i - 1 + 1).toNat = i.toNat := by omega
    rw [e, e2, up_step (by omega), if_pos he, List.append_assoc]; rfl
  · rw [← hi.2.2.1]
    have e : (i + 1).toNat = i.toNat + 1 := by omega
    have e2 : (i - 1 + 1).toNat = i.toNat := by omega
    rw [e, e2, up_step (by omega), if_neg hne]
  · have h := hi.2.2.1
    have e : (i + 1).toNat = 0 := by omega
    rw [e] at h
    simpa [up] using h

def inv78a (l : List Nod) : Inv where
  X := Int
  ok := fun i => 0 ≤ i ∧ i ≤ l.length ∧ ∀ j : Nat, (j : Int) < i → nodB l j = true
  sl := fun i => [(4, .int .i64 i)]
  hp := fun _ => []
  keep := [10000]
  me := fun i => (l.length - i).toNat
def inv78b (l : List Nod) : Inv where
  X := Int
  ok := fun i => 0 ≤ i ∧ i ≤ l.length ∧ ∀ j : Nat, (j : Int) < i → (upT l (nd l j).id).length ≤ 9
  sl := fun i => [(5, .int .i64 i)]
  hp := fun _ => []
  keep := [10000]
  me := fun i => (l.length - i).toNat
set_option maxRecDepth 100000 in
theorem vc78 (l : List Nod) (n : Int) (hx : True) : sChk.vc (EV Try.prog [(128, sNodeB.spec), (77, sUp.spec)] (invs [(5, inv78a l), (10, inv78b l)]) noInv) Try.f78 ((l, n), ()) := by
  have e : ((decide ((↑l.length : Int) < 1) = false → decide ((↑l.length : Int) < 1) = false) ∧ (decide ((↑l.length : Int) < 1) = false → decide ((↑l.length : Int) < 1) = false) ∧ ((decide ((↑l.length : Int) < 1) || decide (64 < (↑l.length : Int))) = true → ∃ (y : Unit), True ∧ false = chkB l n) ∧ ((decide ((↑l.length : Int) < 1) || decide (64 < (↑l.length : Int))) = false → (∃ (x : Int), (0 ≤ x ∧ x ≤ (↑l.length : Int) ∧ ∀ (j : Nat), (↑j : Int) < x → nodB l j = true) ∧ 0 = x ∧ l = l ∧ n = n) ∧ ∀ (x : Int), (0 ≤ x ∧ x ≤ (↑l.length : Int) ∧ ∀ (j : Nat), (↑j : Int) < x → nodB l j = true) → (decide (x < (↑l.length : Int)) = true → (0 ≤ x ∧ x < (↑l.length : Int) ∧ l.length ≤ (64 : Nat)) ∧ ((!nodB l x.toNat) = true → ∃ (y : Unit), True ∧ false = chkB l n) ∧ ((!nodB l x.toNat) = false → i64R (x + 1) ∧ ∃ (x' : Int), (0 ≤ x' ∧ x' ≤ (↑l.length : Int) ∧ ∀ (j : Nat), (↑j : Int) < x' → nodB l j = true) ∧ ((↑l.length : Int) - x').toNat < ((↑l.length : Int) - x).toNat ∧ x + 1 = x' ∧ l = l ∧ n = n)) ∧ (decide (x < (↑l.length : Int)) = false → (∃ (x : Int), (0 ≤ x ∧ x ≤ (↑l.length : Int) ∧ ∀ (j : Nat), (↑j : Int) < x → (upT l (nd l j).id).length ≤ (9 : Nat)) ∧ 0 = x ∧ l = l ∧ n = n) ∧ ∀ (x : Int), (0 ≤ x ∧ x ≤ (↑l.length : Int) ∧ ∀ (j : Nat), (↑j : Int) < x → (upT l (nd l j).id).length ≤ (9 : Nat)) → (decide (x < (↑l.length : Int)) = true → (0 ≤ x ∧ x < (↑l.length : Int)) ∧ l.length ≤ (64 : Nat) ∧ (decide (9 < (↑(upT l (l.getD x.toNat nd0).id).length : Int)) = true → ∃ (y : Unit), True ∧ false = chkB l n) ∧ (decide (9 < (↑(upT l (l.getD x.toNat nd0).id).length : Int)) = false → i64R (x + 1) ∧ ∃ (x' : Int), (0 ≤ x' ∧ x' ≤ (↑l.length : Int) ∧ ∀ (j : Nat), (↑j : Int) < x' → (upT l (nd l j).id).length ≤ (9 : Nat)) ∧ ((↑l.length : Int) - x').toNat < ((↑l.length : Int) - x).toNat ∧ x + 1 = x' ∧ l = l ∧ n = n)) ∧ (decide (x < (↑l.length : Int)) = false → i64R ((↑l.length : Int) - 1) ∧ (0 ≤ (↑l.length : Int) - 1 ∧ (↑l.length : Int) - 1 < (↑l.length : Int)) ∧ (decide ((l.getD ((↑l.length : Int) - 1).toNat nd0).id < n) = true → decide ((l.getD ((↑l.length : Int) - 1).toNat nd0).id < n) = true) ∧ (decide ((l.getD ((↑l.length : Int) - 1).toNat nd0).id < n) = true → decide ((l.getD ((↑l.length : Int) - 1).toNat nd0).id < n) = true) ∧ (decide ((l.getD ((↑l.length : Int) - 1).toNat nd0).id < n) = true → decide ((l.getD ((↑l.length : Int) - 1).toNat nd0).id < n) = true) ∧ ∃ (y : Unit), True ∧ (decide ((l.getD ((↑l.length : Int) - 1).toNat nd0).id < n) && decide (n ≤ 2147483648)) = chkB l n)))) = sChk.vc (EV Try.prog [(128, sNodeB.spec), (77, sUp.spec)] (invs [(5, inv78a l), (10, inv78b l)]) noInv) Try.f78 ((l, n), ()) := by kernel_rfl
  rw [← e]
  clear e
  delta nd0
  simp only [imp_self, true_and, and_true, exists_const]
  simp only [i64R, Int.reduceNeg, decide_eq_true_eq, decide_eq_false_iff_not, Bool.not_eq_true', Bool.not_eq_false', Bool.or_eq_true, Bool.or_eq_false_iff ]
  simp only [nd_fold]
  have no : ∀ {P : Prop}, (chkB l n = true → P) → ¬ P → false = chkB l n := fun h1 h2 => by
    cases e : chkB l n
    · rfl
    · exact absurd (h1 e) h2
  refine ⟨fun h => no (P := 1 ≤ l.length ∧ l.length ≤ 64) (fun h => ⟨(chkB_alt.1 h).1, (chkB_alt.1 h).2.1⟩) (by omega), fun h => ⟨⟨0, ⟨by omega, by omega, fun j hj => by omega⟩, rfl⟩, fun x hx => ⟨fun hlt => ⟨by omega, fun hno => ?_, fun hyes => ⟨by omega, x + 1, ⟨by omega, by omega, fun j hj => ?_⟩, by omega, rfl⟩⟩, fun hge => ⟨⟨0, ⟨by omega, by omega, fun j hj => by omega⟩, rfl⟩, fun y hy => ⟨fun hlt => ⟨by omega, by omega, fun hno => ?_, fun hyes => ⟨by omega, y + 1, ⟨by omega, by omega, fun j hj => ?_⟩, by omega, rfl⟩⟩, fun hge2 => ⟨by omega, by omega, ?_⟩⟩⟩⟩⟩⟩
  · exact no (fun h => (chkB_alt.1 h).2.2.1 x.toNat (by omega)) (by rw [hno]; simp)
  · by_cases e : (j : Int) < x
    · exact hx.2.2 j e
    · have : j = x.toNat := by omega
      rw [this]; exact hyes
  · exact no (fun h => (chkB_alt.1 h).2.2.2.1 y.toNat (by omega)) (by omega)
  · by_cases e : (j : Int) < y
    · exact hy.2.2 j e
    · have : j = y.toNat := by omega
      rw [this]; omega
  · rw [Bool.eq_iff_iff, chkB_alt]
    have e : ((l.length : Int) - 1).toNat = l.length - 1 := by omega
    simp only [Bool.and_eq_true, decide_eq_true_eq, e]
    exact ⟨fun hh => ⟨by omega, by omega, fun i hi => hx.2.2 i (by omega), fun i hi => hy.2.2 i (by omega), hh.1, hh.2⟩, fun hh => hh.2.2.2.2⟩

def inv127 (l : List Nod) (g : Int) : Inv where
  X := Int
  ok := fun i => 0 ≤ i ∧ i ≤ l.length ∧ ∀ j : Nat, (j : Int) < i → ¬ (nd l j).id = g
  sl := fun i => [(6, .int .i64 i)]
  hp := fun _ => []
  keep := [10000, 10010]
  me := fun i => (l.length - i).toNat
set_option maxRecDepth 100000 in
theorem vc127 (l : List Nod) (n g : Int) (hx : True) : sFindR.vc (EV Try.prog [(78, sChk.spec)] (invs [(4, inv127 l g)]) noInv) Try.f127 ((l, n), g, ()) := by
  have e : (True ∧ ((!chkB l n) = true → ∃ (y : Unit), True ∧ 0 = (findR l n g).id ∧ 0 = (findR l n g).parent ∧ { data := (NilL UInt8).toArray : ByteArray } = (findR l n g).name ∧ 0 = (findR l n g).control ∧ 0 = (findR l n g).kind ∧ 0 = (findR l n g).owner ∧ false = hasR l n g) ∧ ((!chkB l n) = false → (∃ (x : Int), (0 ≤ x ∧ x ≤ (↑l.length : Int) ∧ ∀ (j : Nat), (↑j : Int) < x → ¬(nd l j).id = g) ∧ 0 = x ∧ l = l ∧ n = n ∧ (0 : Int) = 0 ∧ (0 : Int) = 0 ∧ { data := (NilL UInt8).toArray : ByteArray } = { data := (NilL UInt8).toArray : ByteArray } ∧ (0 : Int) = 0 ∧ (0 : Int) = 0 ∧ (0 : Int) = 0) ∧ ∀ (x : Int), (0 ≤ x ∧ x ≤ (↑l.length : Int) ∧ ∀ (j : Nat), (↑j : Int) < x → ¬(nd l j).id = g) → (decide (x < (↑l.length : Int)) = true → (0 ≤ x ∧ x < (↑l.length : Int)) ∧ (decide ((l.getD x.toNat nd0).id = g) = true → (0 ≤ x ∧ x < (↑l.length : Int)) ∧ ∃ (y : Unit), True ∧ (l.getD x.toNat nd0).id = (findR l n g).id ∧ (l.getD x.toNat nd0).parent = (findR l n g).parent ∧ (l.getD x.toNat nd0).name = (findR l n g).name ∧ (l.getD x.toNat nd0).control = (findR l n g).control ∧ (l.getD x.toNat nd0).kind = (findR l n g).kind ∧ (l.getD x.toNat nd0).owner = (findR l n g).owner ∧ true = hasR l n g) ∧ (decide ((l.getD x.toNat nd0).id = g) = false → i64R (x + 1) ∧ ∃ (x' : Int), (0 ≤ x' ∧ x' ≤ (↑l.length : Int) ∧ ∀ (j : Nat), (↑j : Int) < x' → ¬(nd l j).id = g) ∧ ((↑l.length : Int) - x').toNat < ((↑l.length : Int) - x).toNat ∧ x + 1 = x' ∧ l = l ∧ n = n ∧ (0 : Int) = 0 ∧ (0 : Int) = 0 ∧ { data := (NilL UInt8).toArray : ByteArray } = { data := (NilL UInt8).toArray : ByteArray } ∧ (0 : Int) = 0 ∧ (0 : Int) = 0 ∧ (0 : Int) = 0)) ∧ (decide (x < (↑l.length : Int)) = false → ∃ (y : Unit), True ∧ 0 = (findR l n g).id ∧ 0 = (findR l n g).parent ∧ { data := (NilL UInt8).toArray : ByteArray } = (findR l n g).name ∧ 0 = (findR l n g).control ∧ 0 = (findR l n g).kind ∧ 0 = (findR l n g).owner ∧ false = hasR l n g))) = sFindR.vc (EV Try.prog [(78, sChk.spec)] (invs [(4, inv127 l g)]) noInv) Try.f127 ((l, n), g, ()) := by kernel_rfl
  rw [← e]
  clear e
  delta nd0
  simp only [true_and, and_true, exists_const, NilL_eq ]
  simp only [i64R, Int.reduceNeg, decide_eq_true_eq, decide_eq_false_iff_not, Bool.not_eq_true', Bool.not_eq_false']
  simp only [nd_fold]
  have z : findR l n g = nz → 0 = (findR l n g).id ∧ 0 = (findR l n g).parent ∧ { data := #[] } = (findR l n g).name ∧ 0 = (findR l n g).control ∧ 0 = (findR l n g).kind ∧ 0 = (findR l n g).owner := fun h => by
    rw [h]; exact ⟨rfl, rfl, rfl, rfl, rfl, rfl⟩
  have hl : chkB l n = true → l.length ≤ 64 := fun h => (chkB_iff.1 h).len2
  refine ⟨fun h => ?_, fun h => ⟨⟨0, ⟨by omega, by omega, fun j hj => by omega⟩, rfl⟩, fun x hx => ⟨fun hlt => ⟨by omega, fun he => ⟨by omega, ?_⟩, fun hne => ⟨by have := hl h; omega, x + 1, ⟨by omega, by omega, fun j hj => ?_⟩, by omega, rfl⟩⟩, fun hge => ?_⟩⟩⟩
  · have h1 : findR l n g = nz := by rw [findR, h]; rfl
    have h2 : hasR l n g = false := by rw [hasR, h]; rfl
    have := z h1
    rw [h2]
    exact ⟨this.1, this.2.1, this.2.2.1, this.2.2.2.1, this.2.2.2.2.1, this.2.2.2.2.2, rfl⟩
  · obtain ⟨f1, f2⟩ := find_first (i := x.toNat) (fun j hj => hx.2.2 j (by omega)) (by omega) he
    have h1 : findR l n g = nd l x.toNat := by rw [findR, if_pos h, f1]; rfl
    have h2 : hasR l n g = true := by rw [hasR, h, f2]; rfl
    rw [h1, h2]
    exact ⟨rfl, rfl, rfl, rfl, rfl, rfl, rfl⟩
  · by_cases e : (j : Int) < x
    · exact hx.2.2 j e
    · have : j = x.toNat := by omega
      rw [this]; exact hne
  · obtain ⟨f1, f2⟩ := find_all (l := l) (g := g) (fun j hj => hx.2.2 j (by omega))
    have h1 : findR l n g = nz := by rw [findR, if_pos h, f1]; rfl
    have h2 : hasR l n g = false := by rw [hasR, h, f2]; rfl
    have := z h1
    rw [h2]
    exact ⟨this.1, this.2.1, this.2.2.1, this.2.2.2.1, this.2.2.2.2.1, this.2.2.2.2.2, rfl⟩


set_option maxRecDepth 100000 in
theorem vc76 (l : List Nod) (n g : Int) (hx : True) : sHas.vc (EV Try.prog [(127, sFindR.spec)] noInv noInv) Try.f76 ((l, n), g, ()) := by
  have e : (True ∧ ∃ (y : Unit), True ∧ hasR l n g = hasR l n g) = sHas.vc (EV Try.prog [(127, sFindR.spec)] noInv noInv) Try.f76 ((l, n), g, ()) := by kernel_rfl
  rw [← e]
  clear e
  simp only [and_true, exists_const]


set_option maxRecDepth 100000 in
theorem vc21 (l : List Nod) (n g : Int) (hx : True) : sAnc.vc (EV Try.prog [(76, sHas.spec), (77, sUp.spec)] noInv noInv) Try.f21 ((l, n), g, ()) := by
  have e : (True ∧ ((!hasR l n g) = true → ∃ (y : Unit), True ∧ NilL Int = ancR l n g) ∧ ((!hasR l n g) = false → l.length ≤ (64 : Nat) ∧ ∃ (y : Unit), True ∧ upT l g = ancR l n g)) = sAnc.vc (EV Try.prog [(76, sHas.spec), (77, sUp.spec)] noInv noInv) Try.f21 ((l, n), g, ()) := by kernel_rfl
  rw [← e]
  clear e
  simp only [true_and, exists_const, NilL_eq ]
  simp only [Bool.not_eq_true', Bool.not_eq_false']
  refine ⟨fun h => by rw [ancR, if_neg (by rw [h]; simp)], fun h => ⟨?_, by rw [ancR, if_pos h]⟩⟩
  rw [hasR, Bool.and_eq_true] at h
  exact (chkB_iff.1 h.1).len2

def inv82 (l : List Nod) (g : Int) : Inv where
  X := Int
  ok := fun i => 0 ≤ i ∧ i ≤ l.length
  sl := fun i => [(6, .int .i64 i), (5, .own 101 0)]
  hp := fun i => [(101, .rows 3 0 (chn (l.take i.toNat) g))]
  keep := [10000]
  me := fun i => (l.length - i).toNat
set_option maxRecDepth 100000 in
theorem vc82 (l : List Nod) (n g : Int) (hx : True) : sChn.vc (EV Try.prog [(76, sHas.spec)] (invs [(5, inv82 l g)]) noInv) Try.f82 ((l, n), g, ()) := by
  have e : (True ∧ ((!hasR l n g) = true → ∃ (y : Unit), True ∧ NilL Int = chnR l n g) ∧ ((!hasR l n g) = false → (∃ (x : Int), (0 ≤ x ∧ x ≤ (↑l.length : Int)) ∧ 0 = x ∧ NilL Int = chn (List.take x.toNat l) g ∧ l = l ∧ n = n) ∧ ∀ (x : Int), 0 ≤ x ∧ x ≤ (↑l.length : Int) → (decide (x < (↑l.length : Int)) = true → (0 ≤ x ∧ x < (↑l.length : Int)) ∧ (decide ((l.getD x.toNat nd0).parent = g) = true → (0 ≤ x ∧ x < (↑l.length : Int)) ∧ (chn (List.take x.toNat l) g).length + ((l.getD x.toNat nd0).id :: NilL Int).length ≤ (68719476736 : Nat) ∧ i64R (x + 1) ∧ ∃ (x' : Int), (0 ≤ x' ∧ x' ≤ (↑l.length : Int)) ∧ ((↑l.length : Int) - x').toNat < ((↑l.length : Int) - x).toNat ∧ x + 1 = x' ∧ chn (List.take x.toNat l) g ++ (l.getD x.toNat nd0).id :: NilL Int = chn (List.take x'.toNat l) g ∧ l = l ∧ n = n) ∧ (decide ((l.getD x.toNat nd0).parent = g) = false → i64R (x + 1) ∧ ∃ (x' : Int), (0 ≤ x' ∧ x' ≤ (↑l.length : Int)) ∧ ((↑l.length : Int) - x').toNat < ((↑l.length : Int) - x).toNat ∧ x + 1 = x' ∧ chn (List.take x.toNat l) g = chn (List.take x'.toNat l) g ∧ l = l ∧ n = n)) ∧ (decide (x < (↑l.length : Int)) = false → ∃ (y : Unit), True ∧ chn (List.take x.toNat l) g = chnR l n g))) = sChn.vc (EV Try.prog [(76, sHas.spec)] (invs [(5, inv82 l g)]) noInv) Try.f82 ((l, n), g, ()) := by kernel_rfl
  rw [← e]
  clear e
  delta nd0
  simp only [true_and, and_true, exists_const, NilL_eq ]
  simp only [i64R, Int.reduceNeg, decide_eq_true_eq, decide_eq_false_iff_not, Bool.not_eq_true', Bool.not_eq_false']
  simp only [nd_fold]
  refine ⟨fun h => by rw [chnR, if_neg (by rw [h]; simp)], fun h => ?_⟩
  have hl : l.length ≤ 64 := by
    rw [hasR, Bool.and_eq_true] at h
    exact (chkB_iff.1 h.1).len2
  have hc : ∀ k : Nat, (chn (l.take k) g).length ≤ 64 := fun k => by
    have := chn_len (l := l.take k) g
    simp at this; omega
  refine ⟨⟨0, by omega, rfl, by simp [chn]⟩, fun x hx => ⟨fun hlt => ⟨by omega, fun he => ⟨by omega, by have := hc x.toNat; simp; omega, by omega, x + 1, by omega, by omega, rfl, ?_⟩, fun hne => ⟨by omega, x + 1, by omega, by omega, rfl, ?_⟩⟩, fun hge => ?_⟩⟩
  · have e : (x + 1).toNat = x.toNat + 1 := by omega
    rw [e, chn_take (by omega), if_pos he]
  · have e : (x + 1).toNat = x.toNat + 1 := by omega
    rw [e, chn_take (by omega), if_neg hne, List.append_nil]
  · rw [chnR, if_pos h, List.take_of_length_le (by omega)]


set_option maxRecDepth 100000 in
theorem vc80 (l : List Nod) (n g : Int) (hx : True) : sDepth.vc (EV Try.prog [(21, sAnc.spec)] noInv noInv) Try.f80 ((l, n), g, ()) := by
  have e : (True ∧ i64R ((↑(ancR l n g).length : Int) - 1) ∧ ∃ (y : Unit), True ∧ (↑(ancR l n g).length : Int) - 1 = (↑(ancR l n g).length : Int) - 1) = sDepth.vc (EV Try.prog [(21, sAnc.spec)] noInv noInv) Try.f80 ((l, n), g, ()) := by kernel_rfl
  rw [← e]
  clear e
  simp only [true_and, and_true, exists_const]
  have h : (ancR l n g).length ≤ 64 := by
    unfold ancR
    split
    · rename_i h
      rw [hasR, Bool.and_eq_true, hasB_iff] at h
      obtain ⟨i, hi, e⟩ := ids_mem.1 h.2
      have := (chkB_iff.1 h.1).up_len hi
      rw [e] at this; omega
    · simp
  simp only [i64R]
  omega


set_option maxRecDepth 100000 in
theorem vc81 (l : List Nod) (n : Int) (hx : l.length ≤ 64) : sCopyT.vc (EV Try.prog [] noInv noInv) Try.f81 ((l, n), ()) := by
  have e : (l.length ≤ (68719476736 : Nat) ∧ ∃ (y : Unit), True ∧ n = n ∧ l = l) = sCopyT.vc (EV Try.prog [] noInv noInv) Try.f81 ((l, n), ()) := by kernel_rfl
  rw [← e]
  clear e
  simp only [and_true, exists_const]
  omega

def inv22 (l : List Nod) (p : Int) (s : ByteArray) : Inv where
  X := Int
  ok := fun i => 0 ≤ i ∧ i ≤ l.length ∧ soleB l i.toNat p s = true
  sl := fun i => [(9, .int .i64 i)]
  hp := fun _ => []
  keep := [10000, 10010]
  me := fun i => (l.length - i).toNat
set_option maxRecDepth 100000 in
theorem vc22 (l : List Nod) (n p : Int) (s : ByteArray) (hx : True) : sAdd.vc (EV Try.prog [(78, sChk.spec), (79, sNameR.spec), (76, sHas.spec), (80, sDepth.spec), (81, sCopyT.spec)] (invs [(6, inv22 l p s)]) noInv) Try.f22 ((l, n), p, s, ()) := by
  have e : (True ∧ ((!chkB l n) = false → (!chkB l n) = false) ∧ ((!chkB l n) = false → True) ∧ ((!chkB l n) = false → (!chkB l n) = false) ∧ ((!chkB l n) = false → (!chkB l n) = false) ∧ ((!chkB l n || !nameB s) = true → ∃ (y : Unit), True ∧ 0 = addN l n p s ∧ 0 = addI l n p s ∧ 1 = addE l n p s ∧ NilL Nod = addL l n p s) ∧ ((!chkB l n || !nameB s) = false → True ∧ ((!hasR l n p) = true → ∃ (y : Unit), True ∧ 0 = addN l n p s ∧ 0 = addI l n p s ∧ 4 = addE l n p s ∧ NilL Nod = addL l n p s) ∧ ((!hasR l n p) = false → (∃ (x : Int), (0 ≤ x ∧ x ≤ (↑l.length : Int) ∧ soleB l x.toNat p s = true) ∧ 0 = x ∧ l = l ∧ n = n ∧ (0 : Int) = 0) ∧ ∀ (x : Int), 0 ≤ x ∧ x ≤ (↑l.length : Int) ∧ soleB l x.toNat p s = true → (decide (x < (↑l.length : Int)) = true → (0 ≤ x ∧ x < (↑l.length : Int)) ∧ (decide ((l.getD x.toNat nd0).parent = p) = true → decide ((l.getD x.toNat nd0).parent = p) = true) ∧ (decide ((l.getD x.toNat nd0).parent = p) = true → decide ((l.getD x.toNat nd0).parent = p) = true) ∧ (decide ((l.getD x.toNat nd0).parent = p) = true → decide ((l.getD x.toNat nd0).parent = p) = true) ∧ (decide ((l.getD x.toNat nd0).parent = p) = true → 0 ≤ x ∧ x < (↑l.length : Int)) ∧ (decide ((l.getD x.toNat nd0).parent = p) = true → decide ((l.getD x.toNat nd0).parent = p) = true) ∧ (decide ((l.getD x.toNat nd0).parent = p) = true → decide ((l.getD x.toNat nd0).parent = p) = true) ∧ (decide ((l.getD x.toNat nd0).parent = p) = true → decide ((l.getD x.toNat nd0).parent = p) = true) ∧ (decide ((l.getD x.toNat nd0).parent = p) = true → decide ((l.getD x.toNat nd0).parent = p) = true) ∧ (decide ((l.getD x.toNat nd0).parent = p) = true → decide ((l.getD x.toNat nd0).parent = p) = true) ∧ ((decide ((l.getD x.toNat nd0).parent = p) && decide ((l.getD x.toNat nd0).name = s)) = true → ∃ (y : Unit), True ∧ 0 = addN l n p s ∧ 0 = addI l n p s ∧ 5 = addE l n p s ∧ NilL Nod = addL l n p s) ∧ ((decide ((l.getD x.toNat nd0).parent = p) && decide ((l.getD x.toNat nd0).name = s)) = false → i64R (x + 1) ∧ ∃ (x' : Int), (0 ≤ x' ∧ x' ≤ (↑l.length : Int) ∧ soleB l x'.toNat p s = true) ∧ ((↑l.length : Int) - x').toNat < ((↑l.length : Int) - x).toNat ∧ x + 1 = x' ∧ l = l ∧ n = n ∧ (0 : Int) = 0)) ∧ (decide (x < (↑l.length : Int)) = false → True ∧ (decide (8 ≤ (↑(ancR l n p).length : Int) - 1) = false → decide (8 ≤ (↑(ancR l n p).length : Int) - 1) = false) ∧ (decide (8 ≤ (↑(ancR l n p).length : Int) - 1) = false → decide (8 ≤ (↑(ancR l n p).length : Int) - 1) = false) ∧ (decide (8 ≤ (↑(ancR l n p).length : Int) - 1) = false → decide (8 ≤ (↑(ancR l n p).length : Int) - 1) = false) ∧ (decide (8 ≤ (↑(ancR l n p).length : Int) - 1) = false → decide (8 ≤ (↑(ancR l n p).length : Int) - 1) = false) ∧ ((decide (8 ≤ (↑(ancR l n p).length : Int) - 1) || decide (64 ≤ (↑l.length : Int))) = false → (decide (8 ≤ (↑(ancR l n p).length : Int) - 1) || decide (64 ≤ (↑l.length : Int))) = false) ∧ ((decide (8 ≤ (↑(ancR l n p).length : Int) - 1) || decide (64 ≤ (↑l.length : Int))) = false → (decide (8 ≤ (↑(ancR l n p).length : Int) - 1) || decide (64 ≤ (↑l.length : Int))) = false) ∧ ((decide (8 ≤ (↑(ancR l n p).length : Int) - 1) || decide (64 ≤ (↑l.length : Int))) = false → (decide (8 ≤ (↑(ancR l n p).length : Int) - 1) || decide (64 ≤ (↑l.length : Int))) = false) ∧ ((decide (8 ≤ (↑(ancR l n p).length : Int) - 1) || decide (64 ≤ (↑l.length : Int)) || decide (2147483647 < n)) = true → ∃ (y : Unit), True ∧ 0 = addN l n p s ∧ 0 = addI l n p s ∧ 7 = addE l n p s ∧ NilL Nod = addL l n p s) ∧ ((decide (8 ≤ (↑(ancR l n p).length : Int) - 1) || decide (64 ≤ (↑l.length : Int)) || decide (2147483647 < n)) = false → l.length ≤ (64 : Nat) ∧ l.length + ({ id := n, parent := p, name := s, control := 0, kind := 0, owner := 0 : Nod } :: NilL Nod).length ≤ (68719476736 : Nat) ∧ i64R (n + 1) ∧ ∃ (y : Unit), True ∧ n + 1 = addN l n p s ∧ n = addI l n p s ∧ 0 = addE l n p s ∧ l ++ { id := n, parent := p, name := s, control := 0, kind := 0, owner := 0 : Nod } :: NilL Nod = addL l n p s))))) = sAdd.vc (EV Try.prog [(78, sChk.spec), (79, sNameR.spec), (76, sHas.spec), (80, sDepth.spec), (81, sCopyT.spec)] (invs [(6, inv22 l p s)]) noInv) Try.f22 ((l, n), p, s, ()) := by kernel_rfl
  rw [← e]
  clear e
  delta nd0
  simp only [imp_self, true_and, and_true, exists_const, implies_true, NilL_eq ]
  simp only [i64R, Int.reduceNeg, decide_eq_true_eq, decide_eq_false_iff_not, Bool.not_eq_true', Bool.not_eq_false', Bool.and_eq_true, Bool.or_eq_true, Bool.and_eq_false_iff, Bool.or_eq_false_iff ]
  simp only [nd_fold]
  have bad : ∀ k : Int, k ≠ 0 → addE l n p s = k → 0 = addN l n p s ∧ 0 = addI l n p s ∧ k = addE l n p s ∧ [] = addL l n p s := fun k hk h => by
    refine ⟨?_, ?_, h.symm, ?_⟩
    · rw [addN, if_neg (by rw [h]; exact hk)]
    · rw [addI, if_neg (by rw [h]; exact hk)]
    · rw [addL, if_neg (by rw [h]; exact hk)]
  refine ⟨fun h => bad 1 (by omega) (by rw [addE, if_pos h]), fun h => ?_⟩
  have n1 : ¬ (chkB l n = false ∨ nameB s = false) := by rw [h.1, h.2]; simp
  have hl : l.length ≤ 64 := (chkB_iff.1 h.1).len2
  refine ⟨fun h2 => bad 4 (by omega) (by rw [addE, if_neg n1, if_pos h2]), fun h2 => ⟨⟨0, ⟨by omega, by omega, rfl⟩, rfl⟩, fun x hx => ⟨fun hlt => ⟨by omega, fun _ => by omega, fun hd => ?_, fun hd => ⟨by omega, x + 1, ⟨by omega, by omega, ?_⟩, by omega, rfl⟩⟩, fun hge => ?_⟩⟩⟩
  · refine bad 5 (by omega) ?_
    have : soleB l l.length p s = false := by
      rw [← Bool.not_eq_true, soleB_iff]
      intro hh
      exact hh x.toNat (by omega) hd
    rw [addE, if_neg n1, if_neg (by rw [h2]; simp), if_pos this]
  · have e2 : (x + 1).toNat = x.toNat + 1 := by omega
    rw [e2, soleB_succ, hx.2.2]
    have : (decide ((nd l x.toNat).parent = p) && decide ((nd l x.toNat).name = s)) = false := by
      rw [Bool.and_eq_false_iff, decide_eq_false_iff_not, decide_eq_false_iff_not]; exact hd
    rw [this]; rfl
  · have e2 : x.toNat = l.length := by omega
    have hs := hx.2.2
    rw [e2] at hs
    have n3 : ¬ soleB l l.length p s = false := by rw [hs]; simp
    refine ⟨fun hb => bad 7 (by omega) (by rw [addE, if_neg n1, if_neg (by rw [h2]; simp), if_neg n3, if_pos (by omega)]), fun hg => ?_⟩
    have e0 : addE l n p s = 0 := by rw [addE, if_neg n1, if_neg (by rw [h2]; simp), if_neg n3, if_neg (by omega)]
    have hn := (chkB_iff.1 h.1).nx2
    have hn1 := (chkB_iff.1 h.1).nx1
    have hp := (chkB_iff.1 h.1).asc.pos (i := l.length - 1) (by have := (chkB_iff.1 h.1).len1; omega)
    refine ⟨hl, by simp; omega, by omega, ?_, ?_, e0.symm, ?_⟩
    · rw [addN, if_pos e0]
    · rw [addI, if_pos e0]
    · rw [addL, if_pos e0]

def inv24 (l : List Nod) (n g : Int) : Inv where
  X := Int
  ok := fun i => 0 ≤ i ∧ i ≤ l.length
  sl := fun i => [(7, .int .i64 i)]
  hp := fun i => [(100030, .cells 29 [.own 101 3, .int .i64 n]), (101, .rows 34 3 ((l.take i.toNat).filter fun x => !decide (x.id = g)))]
  keep := [10000, 10010]
  me := fun i => (l.length - i).toNat
set_option maxRecDepth 100000 in
theorem vc24 (l : List Nod) (n g : Int) (hx : True) : sRem.vc (EV Try.prog [(78, sChk.spec), (76, sHas.spec), (82, sChn.spec)] (invs [(11, inv24 l n g)]) noInv) Try.f24 ((l, n), g, ()) := by
  have e : (True ∧ ((!chkB l n) = true → ∃ (y : Unit), True ∧ 0 = rmN l n g ∧ 1 = rmE l n g ∧ NilL Nod = rmL l n g) ∧ ((!chkB l n) = false → True ∧ ((!hasR l n g) = true → ∃ (y : Unit), True ∧ 0 = rmN l n g ∧ 4 = rmE l n g ∧ NilL Nod = rmL l n g) ∧ ((!hasR l n g) = false → (decide (g = 1) = true → ∃ (y : Unit), True ∧ 0 = rmN l n g ∧ 9 = rmE l n g ∧ NilL Nod = rmL l n g) ∧ (decide (g = 1) = false → True ∧ (decide (0 < (↑(chnR l n g).length : Int)) = true → ∃ (y : Unit), True ∧ 0 = rmN l n g ∧ 6 = rmE l n g ∧ NilL Nod = rmL l n g) ∧ (decide (0 < (↑(chnR l n g).length : Int)) = false → (∃ (x : Int), (0 ≤ x ∧ x ≤ (↑l.length : Int)) ∧ 0 = x ∧ n = n ∧ NilL Nod = List.filter (fun (x : Nod) ↦ !decide (x.id = g)) (List.take x.toNat l) ∧ l = l ∧ n = n ∧ (0 : Int) = 0) ∧ ∀ (x : Int), 0 ≤ x ∧ x ≤ (↑l.length : Int) → (decide (x < (↑l.length : Int)) = true → (0 ≤ x ∧ x < (↑l.length : Int)) ∧ ((!decide ((l.getD x.toNat nd0).id = g)) = true → (0 ≤ x ∧ x < (↑l.length : Int)) ∧ (List.filter (fun (x : Nod) ↦ !decide (x.id = g)) (List.take x.toNat l)).length + (l.getD x.toNat nd0 :: NilL Nod).length ≤ (68719476736 : Nat) ∧ i64R (x + 1) ∧ ∃ (x' : Int), (0 ≤ x' ∧ x' ≤ (↑l.length : Int)) ∧ ((↑l.length : Int) - x').toNat < ((↑l.length : Int) - x).toNat ∧ x + 1 = x' ∧ n = n ∧ List.filter (fun (x : Nod) ↦ !decide (x.id = g)) (List.take x.toNat l) ++ l.getD x.toNat nd0 :: NilL Nod = List.filter (fun (x : Nod) ↦ !decide (x.id = g)) (List.take x'.toNat l) ∧ l = l ∧ n = n ∧ (0 : Int) = 0) ∧ ((!decide ((l.getD x.toNat nd0).id = g)) = false → i64R (x + 1) ∧ ∃ (x' : Int), (0 ≤ x' ∧ x' ≤ (↑l.length : Int)) ∧ ((↑l.length : Int) - x').toNat < ((↑l.length : Int) - x).toNat ∧ x + 1 = x' ∧ n = n ∧ List.filter (fun (x : Nod) ↦ !decide (x.id = g)) (List.take x.toNat l) = List.filter (fun (x : Nod) ↦ !decide (x.id = g)) (List.take x'.toNat l) ∧ l = l ∧ n = n ∧ (0 : Int) = 0)) ∧ (decide (x < (↑l.length : Int)) = false → ∃ (y : Unit), True ∧ n = rmN l n g ∧ 0 = rmE l n g ∧ List.filter (fun (x : Nod) ↦ !decide (x.id = g)) (List.take x.toNat l) = rmL l n g)))))) = sRem.vc (EV Try.prog [(78, sChk.spec), (76, sHas.spec), (82, sChn.spec)] (invs [(11, inv24 l n g)]) noInv) Try.f24 ((l, n), g, ()) := by kernel_rfl
  rw [← e]
  clear e
  delta nd0
  simp only [true_and, and_true, exists_const, NilL_eq ]
  simp only [i64R, Int.reduceNeg, decide_eq_true_eq, decide_eq_false_iff_not, Bool.not_eq_true', Bool.not_eq_false']
  simp only [nd_fold]
  have bad : ∀ k : Int, k ≠ 0 → rmE l n g = k → 0 = rmN l n g ∧ k = rmE l n g ∧ [] = rmL l n g := fun k hk h => by
    refine ⟨?_, h.symm, ?_⟩
    · rw [rmN, if_neg (by rw [h]; exact hk)]
    · rw [rmL, if_neg (by rw [h]; exact hk)]
  refine ⟨fun h => bad 1 (by omega) (by rw [rmE, if_pos h]), fun h => ?_⟩
  have n1 : ¬ chkB l n = false := by rw [h]; simp
  have hl : l.length ≤ 64 := (chkB_iff.1 h).len2
  refine ⟨fun h2 => bad 4 (by omega) (by rw [rmE, if_neg n1, if_pos h2]), fun h2 => ?_⟩
  have n2 : ¬ hasR l n g = false := by rw [h2]; simp
  refine ⟨fun h3 => bad 9 (by omega) (by rw [rmE, if_neg n1, if_neg n2, if_pos h3]), fun h3 => ⟨fun h4 => bad 6 (by omega) (by rw [rmE, if_neg n1, if_neg n2, if_neg h3, if_pos h4]), fun h4 => ?_⟩⟩
  have e0 : rmE l n g = 0 := by rw [rmE, if_neg n1, if_neg n2, if_neg h3, if_neg h4]
  have hc : ∀ k : Nat, ((l.take k).filter (fun x => !decide (x.id = g))).length ≤ 64 := fun k => by
    have h1 := List.length_filter_le (fun x : Nod => !decide (x.id = g)) (l.take k)
    simp only [List.length_take] at h1; omega
  refine ⟨⟨0, by omega, rfl, by simp⟩, fun x hx => ⟨fun hlt => ⟨by omega, fun hne => ⟨by omega, by have := hc x.toNat; simp only [List.length_cons, List.length_nil]; omega, by omega, x + 1, by omega, by omega, rfl, ?_⟩, fun he => ⟨by omega, x + 1, by omega, by omega, rfl, ?_⟩⟩, fun hge => ⟨by rw [rmN, if_pos e0], e0.symm, ?_⟩⟩⟩
  · have e : (x + 1).toNat = x.toNat + 1 := by omega
    rw [e, filter_take (by omega), if_neg hne]
  · have e : (x + 1).toNat = x.toNat + 1 := by omega
    rw [e, filter_take (by omega), if_pos he, List.append_nil]
  · rw [rmL, if_pos e0, List.take_of_length_le (by omega)]
end Go.Proofs.Ytemffnpliflkgaa
namespace Go.Proofs.Ytemffnpliflkgaa
open Go Go.RowKit

theorem hasR_iff {l : List Nod} {n g : Int} : hasR l n g = true ↔ ChkP l n ∧ g ∈ ids l := by
  rw [hasR, Bool.and_eq_true, chkB_iff, hasB_iff]
theorem add_ok {l : List Nod} {n p : Int} {s : ByteArray} (h : addE l n p s = 0) : ChkP l n ∧ nameB s = true ∧ p ∈ ids l ∧ (∀ i, i < l.length → ¬ ((nd l i).parent = p ∧ (nd l i).name = s)) ∧ (upT l p).length ≤ 8 ∧ l.length < 64 ∧ n ≤ 2147483647 := by
  unfold addE at h
  split at h
  · omega
  rename_i h1
  split at h
  · omega
  rename_i h2
  split at h
  · omega
  rename_i h3
  split at h
  · omega
  rename_i h4
  simp only [not_or, Bool.not_eq_false] at h1 h2 h3 h4
  obtain ⟨h5, h6⟩ := hasR_iff.1 h2
  have e : ancR l n p = upT l p := by rw [ancR, if_pos h2]
  rw [e] at h4
  exact ⟨h5, h1.2, h6, soleB_iff.1 h3, by omega, by omega, by omega⟩
theorem rm_ok {l : List Nod} {n g : Int} (h : rmE l n g = 0) : ChkP l n ∧ g ∈ ids l ∧ g ≠ 1 ∧ chn l g = [] := by
  unfold rmE at h
  split at h
  · omega
  rename_i h1
  split at h
  · omega
  rename_i h2
  split at h
  · omega
  rename_i h3
  split at h
  · omega
  rename_i h4
  simp only [Bool.not_eq_false] at h1 h2
  obtain ⟨h5, h6⟩ := hasR_iff.1 h2
  have e : chnR l n g = chn l g := by rw [chnR, if_pos h2]
  rw [e] at h4
  exact ⟨h5, h6, h3, List.eq_nil_of_length_eq_zero (by omega)⟩
theorem add_chk {l : List Nod} {n p : Int} {s : ByteArray} (h : addE l n p s = 0) : ChkP (addL l n p s) (addN l n p s) := by
  obtain ⟨h1, h2, h3, h4, h5, h6, h7⟩ := add_ok h
  rw [addL, addN, if_pos h, if_pos h]
  exact h1.add h3 h2 h4 h5 h6 h7
theorem rm_erase {l : List Nod} {n g : Int} (h : rmE l n g = 0) : ∃ r, 0 < r ∧ r < l.length ∧ (nd l r).id = g ∧ rmL l n g = l.eraseIdx r ∧ rmN l n g = n ∧ ChkP (l.eraseIdx r) n := by
  obtain ⟨h1, h2, h3, h4⟩ := rm_ok h
  obtain ⟨r, hr, e⟩ := ids_mem.1 h2
  have h0 : 0 < r := by
    rcases Nat.eq_zero_or_pos r with e0 | e0
    · subst e0
      have := (h1.asc.root (by omega)).1
      omega
    · exact e0
  refine ⟨r, h0, hr, e, ?_, by rw [rmN, if_pos h], h1.remove hr h0 (by rw [e]; exact h4)⟩
  rw [rmL, if_pos h, ← filter_erase h1.asc hr, e]
theorem rm_chk {l : List Nod} {n g : Int} (h : rmE l n g = 0) : ChkP (rmL l n g) (rmN l n g) := by
  obtain ⟨r, _, _, _, e1, e2, h3⟩ := rm_erase h
  rw [e1, e2]; exact h3
theorem tree_root : TreeP [⟨1, 0, ByteArray.empty, 0, 0, 0⟩] 2 := ⟨chkB_iff.1 (by decide), fun x hx => by simp at hx; subst hx; exact .inl rfl⟩
theorem tree_add {l : List Nod} {n p : Int} {s : ByteArray} (t : TreeP l n) (hs : s ∈ wordsS) (h : addE l n p s = 0) : TreeP (addL l n p s) (addN l n p s) ∧ (addL l n p s).length = l.length + 1 := by
  refine ⟨⟨add_chk h, fun x hx => ?_⟩, by rw [addL, if_pos h]; simp⟩
  rw [addL, if_pos h] at hx
  rcases List.mem_append.1 hx with hx | hx
  · exact t.word x hx
  · simp at hx; subst hx; exact .inr hs
theorem tree_rm {l : List Nod} {n g : Int} (t : TreeP l n) (h : rmE l n g = 0) : TreeP (rmL l n g) (rmN l n g) ∧ (rmL l n g).length ≤ l.length := by
  obtain ⟨r, _, _, _, e1, e2, h3⟩ := rm_erase h
  rw [e1, e2]
  refine ⟨⟨h3, fun x hx => t.word x ((List.eraseIdx_sublist l r).subset hx)⟩, (List.eraseIdx_sublist l r).length_le⟩
/-- Nodes whose numbers and names are those of a machine. -/
structure WfN (l : List Nod) : Prop where
  name : ∀ i, i < l.length → (bytesOf (nd l i).name).length ≤ 9223372036854775807
  ctl : ∀ i, i < l.length → (nd l i).control ≤ 9223372036854775807
  len : l.length ≤ 9223372036854775807
theorem ChkP.wf {l : List Nod} {n : Int} (h : ChkP l n) : WfN l where
  name := fun i hi => by
    by_cases e : i = 0
    · subst e
      rw [((h.nod 0 hi).root rfl).name]
      decide
    · have := (nameB_iff.1 ((h.nod i hi).fine (by omega)).name).2.1
      omega
  ctl := fun i hi => by have := (h.nod i hi).ctl.c1; omega
  len := by have := h.len2; omega
def idxN (l : List Nod) (g : Int) : Int := match l.findIdx? (fun x => decide (x.id = g)) with
  | some k => k
  | none => -1
theorem idx_first {l : List Nod} {g : Int} {i : Nat} (h : ∀ j, j < i → ¬ (nd l j).id = g) (hi : i < l.length) (e : (nd l i).id = g) : idxN l g = i := by
  have : l.findIdx? (fun x => decide (x.id = g)) = some i := by
    rw [List.findIdx?_eq_some_iff_getElem]
    have e1 : ∀ j (hj : j < l.length), nd l j = l[j] := fun j hj => by simp [nd, List.getD_eq_getElem?_getD, hj]
    refine ⟨hi, by rw [← e1 i hi]; simpa using e, fun j hj => ?_⟩
    have := h j hj
    rw [e1 j (by omega)] at this
    simpa using this
  rw [idxN, this]
theorem idx_all {l : List Nod} {g : Int} (h : ∀ j, j < l.length → ¬ (nd l j).id = g) : idxN l g = -1 := by
  have : l.findIdx? (fun x => decide (x.id = g)) = none := by
    rw [List.findIdx?_eq_none_iff]
    intro x hx
    obtain ⟨i, hi, e⟩ := mem_nd hx
    simpa [e] using h i hi
  rw [idxN, this]
theorem idx_cases (l : List Nod) (g : Int) : (∃ i : Nat, i < l.length ∧ (nd l i).id = g ∧ (∀ j, j < i → ¬ (nd l j).id = g) ∧ idxN l g = i) ∨ ((∀ j, j < l.length → ¬ (nd l j).id = g) ∧ idxN l g = -1) := by
  by_cases h : ∀ j, j < l.length → ¬ (nd l j).id = g
  · exact .inr ⟨h, idx_all h⟩
  · left
    have hex : ∃ i, i < l.length ∧ (nd l i).id = g := by
      apply Classical.byContradiction
      intro hn
      exact h fun j hj e => hn ⟨j, hj, e⟩
    obtain ⟨i, hi, e, hmin⟩ : ∃ i, i < l.length ∧ (nd l i).id = g ∧ ∀ j, j < i → ¬ (nd l j).id = g := by
      obtain ⟨i0, h0⟩ := hex
      induction i0 using Nat.strongRecOn with
      | _ i ih =>
        by_cases c : ∃ j, j < i ∧ (nd l j).id = g
        · obtain ⟨j, hj, ej⟩ := c
          exact ih j hj ⟨by omega, ej⟩
        · exact ⟨i, h0.1, h0.2, fun j hj e => c ⟨j, hj, e⟩⟩
    exact ⟨i, hi, e, hmin, idx_first hmin hi e⟩
theorem sub_ex {l : List Nod} (h : Asc l) (g : Int) : ∃ s, Sub l g s := by
  refine ⟨(ids l).filter fun x => decide (g ∈ upT l x), h.nodup.sublist List.filter_sublist, fun x => ?_⟩
  rw [List.mem_filter, decide_eq_true_eq]
  refine ⟨fun hh => hh.2, fun hh => ⟨?_, hh⟩⟩
  by_cases c : x ∈ ids l
  · exact c
  · rw [upT_none c] at hh; cases hh
/-- The depth of a group, in the first ones of a list; 0 for others. -/
def dpt (l : List Nod) (i : Nat) (g : Int) : Int := (((up (l.take i).reverse g).length - 1 : Nat) : Int)
theorem bits31 {c : Int} (h0 : 0 ≤ c) (h1 : c ≤ 9223372036854775807) : bitI .andNot .i64 c 31 = 0 ↔ c ≤ 31 := by
  obtain ⟨n, rfl⟩ := Int.eq_ofNat_of_zero_le h0
  have hn : n < 2 ^ 64 := by omega
  have key : BitVec.ofInt 64 (n : Int) &&& ~~~BitVec.ofInt 64 31 = 0#64 ↔ n ≤ 31 := by
    have e1 : BitVec.ofInt 64 (n : Int) = BitVec.ofNat 64 n := by simp
    have e2 : BitVec.ofInt 64 31 = BitVec.ofNat 64 (2 ^ 5 - 1) := by decide
    rw [e1, e2]
    constructor
    · intro h
      have h5 : n / 2 ^ 5 = 0 := by
        apply Nat.eq_of_testBit_eq
        intro i
        have hb := congrArg (fun v => BitVec.getLsbD v (5 + i)) h
        simp only [BitVec.getLsbD_and, BitVec.getLsbD_not, BitVec.getLsbD_ofNat, Nat.testBit_two_pow_sub_one] at hb
        rw [Nat.testBit_div_two_pow, Nat.zero_testBit, Nat.add_comm i 5]
        by_cases c : 5 + i < 64
        · have c2 : ¬ 5 + i < 5 := by omega
          simpa [c, c2] using hb
        · exact Nat.testBit_lt_two_pow (Nat.lt_of_lt_of_le hn (Nat.pow_le_pow_right (by omega) (by omega)))
      omega
    · intro h
      apply BitVec.eq_of_getLsbD_eq
      intro i hi
      simp only [BitVec.getLsbD_and, BitVec.getLsbD_not, BitVec.getLsbD_ofNat, Nat.testBit_two_pow_sub_one]
      by_cases c : i < 5
      · simp [c]
      · have : n.testBit i = false := Nat.testBit_lt_two_pow (by
          have : 2 ^ 5 ≤ 2 ^ i := Nat.pow_le_pow_right (by omega) (by omega)
          omega)
        simp [this]
  have hz : ∀ v : BitVec 64, IntKind.i64.wrap (v.toNat : Int) = 0 ↔ v = 0#64 := fun v => by
    have hv := v.isLt
    constructor
    · intro h
      simp only [IntKind.wrap, IntKind.bits, IntKind.signed] at h
      apply BitVec.eq_of_toNat_eq
      simp at h ⊢
      omega
    · intro h; subst h; rfl
  show IntKind.i64.wrap ((BitVec.ofInt 64 (n : Int) &&& ~~~BitVec.ofInt 64 31).toNat : Int) = 0 ↔ _
  rw [hz, key]
  omega
/-- The group with a number, an empty one if there is none. -/
def findD (l : List Nod) (g : Int) : Nod := (findN l g).getD nz
theorem findD_at {l : List Nod} {i : Nat} {g : Int} (h : ∀ j, j < i → ¬ (nd l j).id = g) (hi : i < l.length) (e : (nd l i).id = g) : findD l g = nd l i := by
  rw [findD, (find_first h hi e).1]; rfl
theorem findD_none {l : List Nod} {g : Int} (h : ∀ j, j < l.length → ¬ (nd l j).id = g) : findD l g = nz := by
  rw [findD, (find_all h).1]; rfl
theorem nd_snoc {l : List Nod} {x : Nod} : nd (l ++ [x]) l.length = x := nd_last
theorem parB_app {l m : List Nod} {i : Nat} {g : Int} (h : i ≤ l.length) : parB (l ++ m) i g = parB l i g := by
  unfold parB
  rw [Bool.eq_iff_iff, List.any_eq_true, List.any_eq_true]
  have e : ∀ k, k < i → nd (l ++ m) k = nd l k := fun k hk => by simp [nd, List.getD_eq_getElem?_getD, List.getElem?_append_left (show k < l.length by omega)]
  constructor
  · rintro ⟨k, hk, h1⟩
    rw [e k (by simpa using hk)] at h1
    exact ⟨k, hk, h1⟩
  · rintro ⟨k, hk, h1⟩
    exact ⟨k, hk, by rw [e k (by simpa using hk)]; exact h1⟩
theorem soleB_app {l m : List Nod} {i : Nat} {p : Int} {s : ByteArray} (h : i ≤ l.length) : soleB (l ++ m) i p s = soleB l i p s := by
  rw [Bool.eq_iff_iff, soleB_iff, soleB_iff]
  have e : ∀ k, k < i → nd (l ++ m) k = nd l k := fun k hk => by simp [nd, List.getD_eq_getElem?_getD, List.getElem?_append_left (show k < l.length by omega)]
  constructor
  · intro h1 k hk; rw [← e k hk]; exact h1 k hk
  · intro h1 k hk; rw [e k hk]; exact h1 k hk
theorem fineB_app {l m : List Nod} {i : Nat} (h : i < l.length) : fineB (l ++ m) i = fineB l i := by
  unfold fineB
  have e : ∀ k, k ≤ i → nd (l ++ m) k = nd l k := fun k hk => by simp [nd, List.getD_eq_getElem?_getD, List.getElem?_append_left (show k < l.length by omega)]
  rw [e i (Nat.le_refl _), e (i - 1) (by omega), parB_app (by omega), soleB_app (by omega)]
theorem take_snoc {l : List Nod} {i : Nat} (h : i < l.length) : l.take i ++ [nd l i] = l.take (i + 1) := by
  rw [List.take_add_one, List.getElem?_eq_getElem h]
  simp [nd, List.getD_eq_getElem?_getD, List.getElem?_eq_getElem h]
theorem fineB_take {l : List Nod} {i : Nat} (h : i < l.length) : fineB (l.take i ++ [nd l i]) i = fineB l i := by
  rw [take_snoc h]
  have := fineB_app (l := l.take (i + 1)) (m := l.drop (i + 1)) (i := i) (by simp; omega)
  rw [List.take_append_drop] at this
  exact this.symm

theorem bad_nod {l : List Nod} {x : Int} (h0 : 0 ≤ x) (h1 : x < l.length) (hw : WfN l) (hr : rootB (nd l 0) = true) :
    (decide ((nd l x.toNat).control < 0) || !decide (bitI .andNot .i64 (nd l x.toNat).control 31 = 0) || decide ((nd l x.toNat).owner < 0) || decide (1048576 < (nd l x.toNat).owner) || decide (0 < x) && !(fineB (l.take x.toNat ++ [nd l x.toNat]) (l.take x.toNat).length && (decide ((nd l x.toNat).kind = 0) || decide ((nd l x.toNat).kind = 1)))) = !nodB l x.toNat := by
  have hc := hw.ctl x.toNat (by omega)
  have hlen : (l.take x.toNat).length = x.toNat := by simp; omega
  rw [hlen, fineB_take (by omega)]
  have e1 : (decide ((nd l x.toNat).control < 0) || !decide (bitI .andNot .i64 (nd l x.toNat).control 31 = 0)) = !(decide (0 ≤ (nd l x.toNat).control) && decide ((nd l x.toNat).control ≤ 31)) := by
    by_cases c : 0 ≤ (nd l x.toNat).control
    · have := bits31 c hc
      have c2 : ¬ (nd l x.toNat).control < 0 := by omega
      by_cases d : (nd l x.toNat).control ≤ 31
      · simp [c2, this.2 d, c, d]
      · have d2 : ¬ bitI .andNot .i64 (nd l x.toNat).control 31 = 0 := fun e => d (this.1 e)
        simp [c2, d2, d]
    · have c2 : (nd l x.toNat).control < 0 := by omega
      simp [c, c2]
  have e2 : decide ((nd l x.toNat).owner < 0) = !decide (0 ≤ (nd l x.toNat).owner) := by
    by_cases c : 0 ≤ (nd l x.toNat).owner
    · have : ¬ (nd l x.toNat).owner < 0 := by omega
      simp [c, this]
    · have : (nd l x.toNat).owner < 0 := by omega
      simp [c, this]
  have e3 : decide (1048576 < (nd l x.toNat).owner) = !decide ((nd l x.toNat).owner ≤ 1048576) := by
    by_cases c : (nd l x.toNat).owner ≤ 1048576
    · have : ¬ 1048576 < (nd l x.toNat).owner := by omega
      simp [c, this]
    · have : 1048576 < (nd l x.toNat).owner := by omega
      simp [c, this]
  rw [e1, e2, e3]
  unfold nodB ctlB
  by_cases hx : x = 0
  · subst hx
    have k := (rootB_iff.1 hr).kind
    have e0 : Int.toNat 0 = 0 := rfl
    rw [e0, if_pos rfl, hr, k]
    have e4 : decide ((0 : Int) < 0) = false := rfl
    have e5 : decide ((0 : Int) = 0) = true := rfl
    rw [e4, e5]
    generalize decide (0 ≤ (nd l 0).control) = a1
    generalize decide ((nd l 0).control ≤ 31) = a2
    generalize decide (0 ≤ (nd l 0).owner) = a3
    generalize decide ((nd l 0).owner ≤ 1048576) = a4
    generalize fineB l 0 = a5
    generalize decide ((0 : Int) = 1) = a6
    revert a1 a2 a3 a4 a5 a6; decide
  · have e4 : decide (0 < x) = true := by rw [decide_eq_true_eq]; omega
    rw [if_neg (by omega), e4]
    generalize decide (0 ≤ (nd l x.toNat).control) = a1
    generalize decide ((nd l x.toNat).control ≤ 31) = a2
    generalize decide (0 ≤ (nd l x.toNat).owner) = a3
    generalize decide ((nd l x.toNat).owner ≤ 1048576) = a4
    generalize decide ((nd l x.toNat).kind = 0) = a5
    generalize decide ((nd l x.toNat).kind = 1) = a6
    generalize fineB l x.toNat = a7
    revert a1 a2 a3 a4 a5 a6 a7; decide
theorem dpt_zero (l : List Nod) : dpt l 0 = fun _ => 0 := rfl
theorem dpt_succ {l : List Nod} {i : Nat} (h : i < l.length) (g : Int) : dpt l (i + 1) g = if (nd l i).id = g then ((up (l.take i).reverse (nd l i).parent).length : Int) else dpt l i g := by
  unfold dpt
  rw [up_step h]
  by_cases c : (nd l i).id = g
  · rw [if_pos c, if_pos c]; simp
  · rw [if_neg c, if_neg c]
theorem up_has : ∀ {l : List Nod} {g : Int}, g ∈ l.map (·.id) → 1 ≤ (up l g).length
  | x :: r, g, h => by
    rw [up]
    split
    · simp
    · rename_i c
      rcases List.mem_cons.1 h with e | h
      · exact absurd e.symm c
      · exact up_has h
theorem dpt_par {l : List Nod} {i : Nat} (h : i < l.length) (hf : FineAt l i) : dpt l i (nd l i).parent + 1 = ((up (l.take i).reverse (nd l i).parent).length : Int) := by
  obtain ⟨k, hk, e⟩ := hf.par
  have : 1 ≤ (up (l.take i).reverse (nd l i).parent).length := by
    apply up_has
    rw [List.map_reverse, List.mem_reverse, List.mem_map]
    refine ⟨nd (l.take i) k, nd_mem (by simp; omega), ?_⟩
    rw [nd_take hk]; exact e
  unfold dpt
  omega
theorem dep_len {l : List Nod} {i : Nat} (h : i < l.length) : depB l i = decide ((up (l.take i).reverse (nd l i).parent).length ≤ 8) := by
  unfold depB
  rw [up_step h, if_pos rfl, decide_eq_decide]
  simp
end Go.Proofs.Ytemffnpliflkgaa
namespace Go.Proofs.Ytemffnpliflkgaa
open Go
set_option linter.unusedVariables false

/-- A number that a closure looks at. -/
def getPeek : AV → Option Int
  | .ipt false [.int .i64 a] 0 => some a
  | _ => none
def pkPeek : PK Int where
  get := getPeek
  put := fun a => .ipt false [.int .i64 a] 0
  ok := fun v a h w S μ x _ hx => by
    unfold getPeek at h
    split at h
    · cases h; exact hx
    · cases h
def getFn97 : AV → Option Int
  | .fn (.func 155) [] [.ipt false [.int .i64 a] 0] => some a
  | _ => none
def pkFn97 : PK Int where
  get := getFn97
  put := fun a => .fn (.func 155) [] [.ipt false [.int .i64 a] 0]
  ok := fun v a h w S μ x _ hx => by
    unfold getFn97 at h
    split at h
    · cases h; exact hx
    · cases h
def sRootB : DS := ⟨_, one pkNod, fun _ => True, fun x => .bool (rootB x.1), nou⟩
def sFine : DS := ⟨_, two pkNods pkNod, fun x => 1 ≤ x.1.length ∧ x.1.length ≤ 64 ∧ (bytesOf x.2.1.name).length ≤ 9223372036854775807, fun x => .bool (fineB (x.1 ++ [x.2.1]) x.1.length && (decide (x.2.1.kind = 0) || decide (x.2.1.kind = 1))), nou⟩
def sChkP : DS := ⟨_, one pkTree, fun x => WfN x.1.1, fun x => .bool (chkB x.1.1 x.1.2), nou⟩
def sAt1 : DS := ⟨_, two pkNod pkPeek, fun _ => True, fun x => .bool (decide (x.1.id = x.2.1)), nou⟩
def sIdxN : DS := ⟨_, two pkNods pkFn97, fun x => x.1.length ≤ 9223372036854775807, fun x => .int .i64 (idxN x.1 x.2.1), nou⟩
def sAt : DS := ⟨_, two pkTree pkI, fun x => x.1.1.length ≤ 9223372036854775807, fun x => .int .i64 (idxN x.1.1 x.2.1), nou⟩
def sFFind : DS := ⟨_, two pkTree pkI, fun x => x.1.1.length ≤ 9223372036854775807, fun x => .tup [nodV (findD x.1.1 x.2.1), .bool (hasB x.1.1 x.2.1)], nou⟩
def sFChn : DS := ⟨_, two pkTree pkI, fun x => x.1.1.length ≤ 64, fun _ => .own 101 0, fun x => [(101, .rows 3 0 (chn x.1.1 x.2.1))]⟩
def sFAnc : DS := ⟨_, two pkTree pkI, fun x => ChkP x.1.1 x.1.2, fun _ => .own 101 0, fun x => [(101, .rows 3 0 (upT x.1.1 x.2.1))]⟩
def sFSub : FSp := ⟨_, two pkTree pkI, fun x => ChkP x.1.1 x.1.2, List Int, fun x y => Sub x.1.1 x.2.1 y, fun _ _ => .own 101 0, fun _ y => [(101, .rows 3 0 y)], fun x h => sub_ex h.asc x.2.1⟩


set_option maxRecDepth 100000 in
theorem vc129 (x : Nod) (hx : True) : sRootB.vc (EV Try.prog [] noInv noInv) Try.f129 (x, ()) := by
  have e : ((decide (x.id = 1) = true → decide (x.id = 1) = true) ∧ (decide (x.id = 1) = true → decide (x.id = 1) = true) ∧ (decide (x.id = 1) = true → decide (x.id = 1) = true) ∧ ((decide (x.id = 1) && decide (x.parent = 0)) = true → (decide (x.id = 1) && decide (x.parent = 0)) = true) ∧ ((decide (x.id = 1) && decide (x.parent = 0)) = true → (decide (x.id = 1) && decide (x.parent = 0)) = true) ∧ ((decide (x.id = 1) && decide (x.parent = 0)) = true → (decide (x.id = 1) && decide (x.parent = 0)) = true) ∧ ((decide (x.id = 1) && decide (x.parent = 0) && decide (x.name = { data := (NilL UInt8).toArray : ByteArray })) = true → (decide (x.id = 1) && decide (x.parent = 0) && decide (x.name = { data := (NilL UInt8).toArray : ByteArray })) = true) ∧ ((decide (x.id = 1) && decide (x.parent = 0) && decide (x.name = { data := (NilL UInt8).toArray : ByteArray })) = true → (decide (x.id = 1) && decide (x.parent = 0) && decide (x.name = { data := (NilL UInt8).toArray : ByteArray })) = true) ∧ ((decide (x.id = 1) && decide (x.parent = 0) && decide (x.name = { data := (NilL UInt8).toArray : ByteArray })) = true → (decide (x.id = 1) && decide (x.parent = 0) && decide (x.name = { data := (NilL UInt8).toArray : ByteArray })) = true) ∧ ∃ (y : Unit), True ∧ (decide (x.id = 1) && decide (x.parent = 0) && decide (x.name = { data := (NilL UInt8).toArray : ByteArray }) && decide (x.kind = 0)) = rootB x) = sRootB.vc (EV Try.prog [] noInv noInv) Try.f129 (x, ()) := by kernel_rfl
  rw [← e]
  clear e
  simp only [imp_self, true_and, exists_const, NilL_eq ]
  rfl

def inv130 (l : List Nod) (x : Nod) : Inv where
  X := Int
  ok := fun k => 0 ≤ k ∧ k ≤ l.length ∧ soleB l k.toNat x.parent x.name = true
  sl := fun k => [(36, .int .i64 k), (5, .bool (parB l k.toNat x.parent))]
  hp := fun _ => []
  keep := [10000]
  me := fun k => (l.length - k).toNat
set_option maxRecDepth 100000 in
theorem vc130 (l : List Nod) (x : Nod) (hx : 1 ≤ l.length ∧ l.length ≤ 64 ∧ (bytesOf x.name).length ≤ 9223372036854775807) : sFine.vc (EV Try.prog [(152, sNameP.spec)] (invs [(5, inv130 l x)]) noInv) Try.f130 (l, x, ()) := by
  have e : (i64R ((↑l.length : Int) - 1) ∧ (0 ≤ (↑l.length : Int) - 1 ∧ (↑l.length : Int) - 1 < (↑l.length : Int)) ∧ (decide (x.id ≤ (l.getD ((↑l.length : Int) - 1).toNat nd0).id) = false → decide (x.id ≤ (l.getD ((↑l.length : Int) - 1).toNat nd0).id) = false) ∧ (decide (x.id ≤ (l.getD ((↑l.length : Int) - 1).toNat nd0).id) = false → decide (x.id ≤ (l.getD ((↑l.length : Int) - 1).toNat nd0).id) = false) ∧ (decide (x.id ≤ (l.getD ((↑l.length : Int) - 1).toNat nd0).id) = false → (bytesOf x.name).length ≤ (9223372036854775807 : Nat)) ∧ (decide (x.id ≤ (l.getD ((↑l.length : Int) - 1).toNat nd0).id) = false → decide (x.id ≤ (l.getD ((↑l.length : Int) - 1).toNat nd0).id) = false) ∧ (decide (x.id ≤ (l.getD ((↑l.length : Int) - 1).toNat nd0).id) = false → decide (x.id ≤ (l.getD ((↑l.length : Int) - 1).toNat nd0).id) = false) ∧ ((decide (x.id ≤ (l.getD ((↑l.length : Int) - 1).toNat nd0).id) || !nameB x.name) = false → (decide (x.id ≤ (l.getD ((↑l.length : Int) - 1).toNat nd0).id) || !nameB x.name) = false) ∧ ((decide (x.id ≤ (l.getD ((↑l.length : Int) - 1).toNat nd0).id) || !nameB x.name) = false → (decide (x.id ≤ (l.getD ((↑l.length : Int) - 1).toNat nd0).id) || !nameB x.name) = false) ∧ ((decide (x.id ≤ (l.getD ((↑l.length : Int) - 1).toNat nd0).id) || !nameB x.name) = false → (decide (x.id ≤ (l.getD ((↑l.length : Int) - 1).toNat nd0).id) || !nameB x.name) = false) ∧ ((!(decide (x.id ≤ (l.getD ((↑l.length : Int) - 1).toNat nd0).id) || !nameB x.name) && !decide (x.kind = 0)) = true → (!(decide (x.id ≤ (l.getD ((↑l.length : Int) - 1).toNat nd0).id) || !nameB x.name) && !decide (x.kind = 0)) = true) ∧ ((!(decide (x.id ≤ (l.getD ((↑l.length : Int) - 1).toNat nd0).id) || !nameB x.name) && !decide (x.kind = 0)) = true → (!(decide (x.id ≤ (l.getD ((↑l.length : Int) - 1).toNat nd0).id) || !nameB x.name) && !decide (x.kind = 0)) = true) ∧ ((decide (x.id ≤ (l.getD ((↑l.length : Int) - 1).toNat nd0).id) || !nameB x.name) = false → (decide (x.id ≤ (l.getD ((↑l.length : Int) - 1).toNat nd0).id) || !nameB x.name) = false) ∧ ((decide (x.id ≤ (l.getD ((↑l.length : Int) - 1).toNat nd0).id) || !nameB x.name) = false → (!decide (x.kind = 0)) = true → (!(decide (x.id ≤ (l.getD ((↑l.length : Int) - 1).toNat nd0).id) || !nameB x.name) && !decide (x.kind = 0)) = true) ∧ ((decide (x.id ≤ (l.getD ((↑l.length : Int) - 1).toNat nd0).id) || !nameB x.name) = false → (decide (x.id ≤ (l.getD ((↑l.length : Int) - 1).toNat nd0).id) || !nameB x.name) = false) ∧ ((decide (x.id ≤ (l.getD ((↑l.length : Int) - 1).toNat nd0).id) || !nameB x.name || !decide (x.kind = 0) && !decide (x.kind = 1)) = true → ∃ (y : Unit), True ∧ false = (fineB (l ++ x :: NilL Nod) l.length && (decide (x.kind = 0) || decide (x.kind = 1)))) ∧ ((decide (x.id ≤ (l.getD ((↑l.length : Int) - 1).toNat nd0).id) || !nameB x.name || !decide (x.kind = 0) && !decide (x.kind = 1)) = false → (∃ (x_1 : Int), (0 ≤ x_1 ∧ x_1 ≤ (↑l.length : Int) ∧ soleB l x_1.toNat x.parent x.name = true) ∧ 0 = x_1 ∧ false = parB l x_1.toNat x.parent ∧ x.id = x.id ∧ x.parent = x.parent ∧ x.name = x.name ∧ x.control = x.control ∧ x.kind = x.kind ∧ x.owner = x.owner) ∧ ∀ (x_1 : Int), 0 ≤ x_1 ∧ x_1 ≤ (↑l.length : Int) ∧ soleB l x_1.toNat x.parent x.name = true → (decide (x_1 < (↑l.length : Int)) = true → (0 ≤ x_1 ∧ x_1 < (↑l.length : Int)) ∧ (parB l x_1.toNat x.parent = false → parB l x_1.toNat x.parent = false) ∧ (parB l x_1.toNat x.parent = false → parB l x_1.toNat x.parent = false) ∧ (parB l x_1.toNat x.parent = false → parB l x_1.toNat x.parent = false) ∧ (parB l x_1.toNat x.parent = false → parB l x_1.toNat x.parent = false) ∧ (parB l x_1.toNat x.parent = false → parB l x_1.toNat x.parent = false) ∧ (decide ((l.getD x_1.toNat nd0).parent = x.parent) = true → decide ((l.getD x_1.toNat nd0).parent = x.parent) = true) ∧ (decide ((l.getD x_1.toNat nd0).parent = x.parent) = true → decide ((l.getD x_1.toNat nd0).parent = x.parent) = true) ∧ (decide ((l.getD x_1.toNat nd0).parent = x.parent) = true → decide ((l.getD x_1.toNat nd0).parent = x.parent) = true) ∧ (decide ((l.getD x_1.toNat nd0).parent = x.parent) = true → decide ((l.getD x_1.toNat nd0).parent = x.parent) = true) ∧ (decide ((l.getD x_1.toNat nd0).parent = x.parent) = true → decide ((l.getD x_1.toNat nd0).parent = x.parent) = true) ∧ ((decide ((l.getD x_1.toNat nd0).parent = x.parent) && decide ((l.getD x_1.toNat nd0).name = x.name)) = true → ∃ (y : Unit), True ∧ false = (fineB (l ++ x :: NilL Nod) l.length && (decide (x.kind = 0) || decide (x.kind = 1)))) ∧ ((decide ((l.getD x_1.toNat nd0).parent = x.parent) && decide ((l.getD x_1.toNat nd0).name = x.name)) = false → i64R (x_1 + 1) ∧ ∃ (x' : Int), (0 ≤ x' ∧ x' ≤ (↑l.length : Int) ∧ soleB l x'.toNat x.parent x.name = true) ∧ ((↑l.length : Int) - x').toNat < ((↑l.length : Int) - x_1).toNat ∧ x_1 + 1 = x' ∧ (parB l x_1.toNat x.parent || decide ((l.getD x_1.toNat nd0).id = x.parent)) = parB l x'.toNat x.parent ∧ x.id = x.id ∧ x.parent = x.parent ∧ x.name = x.name ∧ x.control = x.control ∧ x.kind = x.kind ∧ x.owner = x.owner)) ∧ (decide (x_1 < (↑l.length : Int)) = false → ∃ (y : Unit), True ∧ parB l x_1.toNat x.parent = (fineB (l ++ x :: NilL Nod) l.length && (decide (x.kind = 0) || decide (x.kind = 1)))))) = sFine.vc (EV Try.prog [(152, sNameP.spec)] (invs [(5, inv130 l x)]) noInv) Try.f130 (l, x, ()) := by kernel_rfl
  rw [← e]
  clear e
  delta nd0
  simp only [imp_self, true_and, and_true, exists_const, gd1, NilL_eq ]
  simp only [nd_fold]
  obtain ⟨h0, h1, h2⟩ := hx
  have hn : ((l.length : Int) - 1).toNat = l.length - 1 := by omega
  rw [hn]
  have hf : fineB (l ++ [x]) l.length = (decide ((nd l (l.length - 1)).id < x.id) && nameB x.name && parB l l.length x.parent && soleB l l.length x.parent x.name) := by
    unfold fineB
    rw [nd_snoc, parB_app (Nat.le_refl _), soleB_app (Nat.le_refl _)]
    have : nd (l ++ [x]) (l.length - 1) = nd l (l.length - 1) := nd_append (by omega)
    rw [this]
  refine ⟨by simp only [i64R]; omega, by omega, fun _ => h2, fun hb0 => ?_, fun hg0 => ⟨⟨0, ⟨by omega, by omega, rfl⟩, rfl, rfl⟩, fun y hy => ⟨fun hlt => ?_, fun hge => ?_⟩⟩⟩
  · have hb : (decide (x.id ≤ (nd l (l.length - 1)).id) || !nameB x.name || !decide (x.kind = 0) && !decide (x.kind = 1)) = true := hb0
    rw [hf]
    simp only [Bool.or_eq_true, decide_eq_true_eq, Bool.not_eq_true', Bool.and_eq_true, decide_eq_false_iff_not] at hb
    rcases hb with (hb | hb) | hb
    · have : ¬ (nd l (l.length - 1)).id < x.id := by omega
      simp [this]
    · simp [hb]
    · simp [hb.1, hb.2]
  · have hlt' : y < l.length := by simpa using hlt
    refine ⟨by omega, fun hb0 => ?_, fun hb0 => ⟨by simp only [i64R]; omega, y + 1, ⟨by omega, by omega, ?_⟩, by omega, rfl, ?_⟩⟩
    · have hb : (decide ((nd l y.toNat).parent = x.parent) && decide ((nd l y.toNat).name = x.name)) = true := hb0
      rw [hf]
      have : soleB l l.length x.parent x.name = false := by
        rw [← Bool.not_eq_true, soleB_iff]
        intro hh
        simp only [Bool.and_eq_true, decide_eq_true_eq] at hb
        exact hh y.toNat (by omega) hb
      simp [this]
    · have hb : (decide ((nd l y.toNat).parent = x.parent) && decide ((nd l y.toNat).name = x.name)) = false := hb0
      have e2 : (y + 1).toNat = y.toNat + 1 := by omega
      rw [e2, soleB_succ, hy.2.2, hb]; rfl
    · have e2 : (y + 1).toNat = y.toNat + 1 := by omega
      rw [e2, parB_succ]; rfl
  · have hge' : ¬ y < l.length := by simpa using hge
    have e2 : y.toNat = l.length := by omega
    have hg : (decide (x.id ≤ (nd l (l.length - 1)).id) || !nameB x.name || !decide (x.kind = 0) && !decide (x.kind = 1)) = false := hg0
    simp only [Bool.or_eq_false_iff, decide_eq_false_iff_not, Bool.not_eq_false', Bool.and_eq_false_iff, decide_eq_true_eq] at hg
    have h3 := hy.2.2
    rw [e2] at h3 ⊢
    have : (nd l (l.length - 1)).id < x.id := by omega
    have hk : (decide (x.kind = 0) || decide (x.kind = 1)) = true := by
      rw [Bool.or_eq_true, decide_eq_true_eq, decide_eq_true_eq]; exact hg.2
    rw [hf, h3, hk]
    simp [this, hg.1.2]

def inv83 (l : List Nod) : Inv where
  X := Int
  ok := fun i => 0 ≤ i ∧ i ≤ l.length ∧ ∀ j : Nat, (j : Int) < i → nodB l j = true ∧ depB l j = true
  sl := fun i => [(28, .int .i64 i)]
  hp := fun i => [(40000, .imap false 0 (dpt l i.toNat))]
  keep := [10000]
  me := fun i => (l.length - i).toNat
set_option maxRecDepth 100000 in
theorem vc83 (l : List Nod) (n : Int) (hx : WfN l) : sChkP.vc (EV Try.prog [(129, sRootB.spec), (130, sFine.spec)] (invs [(5, inv83 l)]) noInv) Try.f83 ((l, n), ()) := by
  have e : ((decide ((↑l.length : Int) < (1 : Int)) = false → decide ((↑l.length : Int) < (1 : Int)) = false) ∧ (decide ((↑l.length : Int) < (1 : Int)) = false → decide ((↑l.length : Int) < (1 : Int)) = false) ∧ (decide ((↑l.length : Int) < (1 : Int)) = false → decide ((↑l.length : Int) < (1 : Int)) = false) ∧ (decide ((↑l.length : Int) < (1 : Int)) = false → decide ((↑l.length : Int) < (1 : Int)) = false) ∧ ((decide ((↑l.length : Int) < (1 : Int)) || decide ((64 : Int) < (↑l.length : Int))) = false → (decide ((↑l.length : Int) < (1 : Int)) || decide ((64 : Int) < (↑l.length : Int))) = false) ∧ ((decide ((↑l.length : Int) < (1 : Int)) || decide ((64 : Int) < (↑l.length : Int))) = false → (decide ((↑l.length : Int) < (1 : Int)) || decide ((64 : Int) < (↑l.length : Int))) = false) ∧ ((decide ((↑l.length : Int) < (1 : Int)) || decide ((64 : Int) < (↑l.length : Int))) = false → (0 : Int) ≤ (0 : Int) ∧ (0 : Int) < (↑l.length : Int)) ∧ ((decide ((↑l.length : Int) < (1 : Int)) || decide ((64 : Int) < (↑l.length : Int))) = false → (decide ((↑l.length : Int) < (1 : Int)) || decide ((64 : Int) < (↑l.length : Int))) = false) ∧ ((decide ((↑l.length : Int) < (1 : Int)) || decide ((64 : Int) < (↑l.length : Int))) = false → (decide ((↑l.length : Int) < (1 : Int)) || decide ((64 : Int) < (↑l.length : Int))) = false) ∧ ((decide ((↑l.length : Int) < (1 : Int)) || decide ((64 : Int) < (↑l.length : Int))) = false → True) ∧ ((decide ((↑l.length : Int) < (1 : Int)) || decide ((64 : Int) < (↑l.length : Int))) = false → (decide ((↑l.length : Int) < (1 : Int)) || decide ((64 : Int) < (↑l.length : Int))) = false) ∧ ((decide ((↑l.length : Int) < (1 : Int)) || decide ((64 : Int) < (↑l.length : Int))) = false → (decide ((↑l.length : Int) < (1 : Int)) || decide ((64 : Int) < (↑l.length : Int))) = false) ∧ ((decide ((↑l.length : Int) < (1 : Int)) || decide ((64 : Int) < (↑l.length : Int)) || !rootB (l.getD (Int.toNat (0 : Int)) nd0)) = true → ∃ (y : Unit), True ∧ false = chkB l n) ∧ ((decide ((↑l.length : Int) < (1 : Int)) || decide ((64 : Int) < (↑l.length : Int)) || !rootB (l.getD (Int.toNat (0 : Int)) nd0)) = false → (∃ (x : Int), ((0 : Int) ≤ x ∧ x ≤ (↑l.length : Int) ∧ ∀ (j : Nat), (↑j : Int) < x → nodB l j = true ∧ depB l j = true) ∧ (0 : Int) = x ∧ (fun (x : Int) ↦ (0 : Int)) = dpt l x.toNat ∧ l = l ∧ n = n) ∧ ∀ (x : Int), ((0 : Int) ≤ x ∧ x ≤ (↑l.length : Int) ∧ ∀ (j : Nat), (↑j : Int) < x → nodB l j = true ∧ depB l j = true) → (decide (x < (↑l.length : Int)) = true → ((0 : Int) ≤ x ∧ x < (↑l.length : Int)) ∧ (decide ((l.getD x.toNat nd0).control < (0 : Int)) = false → decide ((l.getD x.toNat nd0).control < (0 : Int)) = false) ∧ (decide ((l.getD x.toNat nd0).control < (0 : Int)) = false → decide ((l.getD x.toNat nd0).control < (0 : Int)) = false) ∧ (decide ((l.getD x.toNat nd0).control < (0 : Int)) = false → decide ((l.getD x.toNat nd0).control < (0 : Int)) = false) ∧ (decide ((l.getD x.toNat nd0).control < (0 : Int)) = false → decide ((l.getD x.toNat nd0).control < (0 : Int)) = false) ∧ ((decide ((l.getD x.toNat nd0).control < (0 : Int)) || !decide (bitI Go.BinOp.andNot Go.IntKind.i64 (l.getD x.toNat nd0).control (31 : Int) = (0 : Int))) = false → (decide ((l.getD x.toNat nd0).control < (0 : Int)) || !decide (bitI Go.BinOp.andNot Go.IntKind.i64 (l.getD x.toNat nd0).control (31 : Int) = (0 : Int))) = false) ∧ ((decide ((l.getD x.toNat nd0).control < (0 : Int)) || !decide (bitI Go.BinOp.andNot Go.IntKind.i64 (l.getD x.toNat nd0).control (31 : Int) = (0 : Int))) = false → (decide ((l.getD x.toNat nd0).control < (0 : Int)) || !decide (bitI Go.BinOp.andNot Go.IntKind.i64 (l.getD x.toNat nd0).control (31 : Int) = (0 : Int))) = false) ∧ ((decide ((l.getD x.toNat nd0).control < (0 : Int)) || !decide (bitI Go.BinOp.andNot Go.IntKind.i64 (l.getD x.toNat nd0).control (31 : Int) = (0 : Int))) = false → (decide ((l.getD x.toNat nd0).control < (0 : Int)) || !decide (bitI Go.BinOp.andNot Go.IntKind.i64 (l.getD x.toNat nd0).control (31 : Int) = (0 : Int))) = false) ∧ ((decide ((l.getD x.toNat nd0).control < (0 : Int)) || !decide (bitI Go.BinOp.andNot Go.IntKind.i64 (l.getD x.toNat nd0).control (31 : Int) = (0 : Int)) || decide ((l.getD x.toNat nd0).owner < (0 : Int))) = false → (decide ((l.getD x.toNat nd0).control < (0 : Int)) || !decide (bitI Go.BinOp.andNot Go.IntKind.i64 (l.getD x.toNat nd0).control (31 : Int) = (0 : Int)) || decide ((l.getD x.toNat nd0).owner < (0 : Int))) = false) ∧ ((decide ((l.getD x.toNat nd0).control < (0 : Int)) || !decide (bitI Go.BinOp.andNot Go.IntKind.i64 (l.getD x.toNat nd0).control (31 : Int) = (0 : Int)) || decide ((l.getD x.toNat nd0).owner < (0 : Int))) = false → (decide ((l.getD x.toNat nd0).control < (0 : Int)) || !decide (bitI Go.BinOp.andNot Go.IntKind.i64 (l.getD x.toNat nd0).control (31 : Int) = (0 : Int)) || decide ((l.getD x.toNat nd0).owner < (0 : Int))) = false) ∧ ((decide ((l.getD x.toNat nd0).control < (0 : Int)) || !decide (bitI Go.BinOp.andNot Go.IntKind.i64 (l.getD x.toNat nd0).control (31 : Int) = (0 : Int)) || decide ((l.getD x.toNat nd0).owner < (0 : Int))) = false → (decide ((l.getD x.toNat nd0).control < (0 : Int)) || !decide (bitI Go.BinOp.andNot Go.IntKind.i64 (l.getD x.toNat nd0).control (31 : Int) = (0 : Int)) || decide ((l.getD x.toNat nd0).owner < (0 : Int))) = false) ∧ ((decide ((l.getD x.toNat nd0).control < (0 : Int)) || !decide (bitI Go.BinOp.andNot Go.IntKind.i64 (l.getD x.toNat nd0).control (31 : Int) = (0 : Int)) || decide ((l.getD x.toNat nd0).owner < (0 : Int)) || decide ((1048576 : Int) < (l.getD x.toNat nd0).owner)) = false → (decide ((l.getD x.toNat nd0).control < (0 : Int)) || !decide (bitI Go.BinOp.andNot Go.IntKind.i64 (l.getD x.toNat nd0).control (31 : Int) = (0 : Int)) || decide ((l.getD x.toNat nd0).owner < (0 : Int)) || decide ((1048576 : Int) < (l.getD x.toNat nd0).owner)) = false) ∧ ((decide ((l.getD x.toNat nd0).control < (0 : Int)) || !decide (bitI Go.BinOp.andNot Go.IntKind.i64 (l.getD x.toNat nd0).control (31 : Int) = (0 : Int)) || decide ((l.getD x.toNat nd0).owner < (0 : Int)) || decide ((1048576 : Int) < (l.getD x.toNat nd0).owner)) = false → (decide ((l.getD x.toNat nd0).control < (0 : Int)) || !decide (bitI Go.BinOp.andNot Go.IntKind.i64 (l.getD x.toNat nd0).control (31 : Int) = (0 : Int)) || decide ((l.getD x.toNat nd0).owner < (0 : Int)) || decide ((1048576 : Int) < (l.getD x.toNat nd0).owner)) = false) ∧ ((!(decide ((l.getD x.toNat nd0).control < (0 : Int)) || !decide (bitI Go.BinOp.andNot Go.IntKind.i64 (l.getD x.toNat nd0).control (31 : Int) = (0 : Int)) || decide ((l.getD x.toNat nd0).owner < (0 : Int)) || decide ((1048576 : Int) < (l.getD x.toNat nd0).owner)) && decide ((0 : Int) < x)) = true → (!(decide ((l.getD x.toNat nd0).control < (0 : Int)) || !decide (bitI Go.BinOp.andNot Go.IntKind.i64 (l.getD x.toNat nd0).control (31 : Int) = (0 : Int)) || decide ((l.getD x.toNat nd0).owner < (0 : Int)) || decide ((1048576 : Int) < (l.getD x.toNat nd0).owner)) && decide ((0 : Int) < x)) = true) ∧ ((!(decide ((l.getD x.toNat nd0).control < (0 : Int)) || !decide (bitI Go.BinOp.andNot Go.IntKind.i64 (l.getD x.toNat nd0).control (31 : Int) = (0 : Int)) || decide ((l.getD x.toNat nd0).owner < (0 : Int)) || decide ((1048576 : Int) < (l.getD x.toNat nd0).owner)) && decide ((0 : Int) < x)) = true → (!(decide ((l.getD x.toNat nd0).control < (0 : Int)) || !decide (bitI Go.BinOp.andNot Go.IntKind.i64 (l.getD x.toNat nd0).control (31 : Int) = (0 : Int)) || decide ((l.getD x.toNat nd0).owner < (0 : Int)) || decide ((1048576 : Int) < (l.getD x.toNat nd0).owner)) && decide ((0 : Int) < x)) = true) ∧ ((!(decide ((l.getD x.toNat nd0).control < (0 : Int)) || !decide (bitI Go.BinOp.andNot Go.IntKind.i64 (l.getD x.toNat nd0).control (31 : Int) = (0 : Int)) || decide ((l.getD x.toNat nd0).owner < (0 : Int)) || decide ((1048576 : Int) < (l.getD x.toNat nd0).owner)) && decide ((0 : Int) < x)) = true → (!(decide ((l.getD x.toNat nd0).control < (0 : Int)) || !decide (bitI Go.BinOp.andNot Go.IntKind.i64 (l.getD x.toNat nd0).control (31 : Int) = (0 : Int)) || decide ((l.getD x.toNat nd0).owner < (0 : Int)) || decide ((1048576 : Int) < (l.getD x.toNat nd0).owner)) && decide ((0 : Int) < x)) = true) ∧ ((!(decide ((l.getD x.toNat nd0).control < (0 : Int)) || !decide (bitI Go.BinOp.andNot Go.IntKind.i64 (l.getD x.toNat nd0).control (31 : Int) = (0 : Int)) || decide ((l.getD x.toNat nd0).owner < (0 : Int)) || decide ((1048576 : Int) < (l.getD x.toNat nd0).owner)) && decide ((0 : Int) < x)) = true → (0 : Int) ≤ x ∧ x ≤ (↑l.length : Int)) ∧ ((!(decide ((l.getD x.toNat nd0).control < (0 : Int)) || !decide (bitI Go.BinOp.andNot Go.IntKind.i64 (l.getD x.toNat nd0).control (31 : Int) = (0 : Int)) || decide ((l.getD x.toNat nd0).owner < (0 : Int)) || decide ((1048576 : Int) < (l.getD x.toNat nd0).owner)) && decide ((0 : Int) < x)) = true → (!(decide ((l.getD x.toNat nd0).control < (0 : Int)) || !decide (bitI Go.BinOp.andNot Go.IntKind.i64 (l.getD x.toNat nd0).control (31 : Int) = (0 : Int)) || decide ((l.getD x.toNat nd0).owner < (0 : Int)) || decide ((1048576 : Int) < (l.getD x.toNat nd0).owner)) && decide ((0 : Int) < x)) = true) ∧ ((!(decide ((l.getD x.toNat nd0).control < (0 : Int)) || !decide (bitI Go.BinOp.andNot Go.IntKind.i64 (l.getD x.toNat nd0).control (31 : Int) = (0 : Int)) || decide ((l.getD x.toNat nd0).owner < (0 : Int)) || decide ((1048576 : Int) < (l.getD x.toNat nd0).owner)) && decide ((0 : Int) < x)) = true → (!(decide ((l.getD x.toNat nd0).control < (0 : Int)) || !decide (bitI Go.BinOp.andNot Go.IntKind.i64 (l.getD x.toNat nd0).control (31 : Int) = (0 : Int)) || decide ((l.getD x.toNat nd0).owner < (0 : Int)) || decide ((1048576 : Int) < (l.getD x.toNat nd0).owner)) && decide ((0 : Int) < x)) = true) ∧ ((!(decide ((l.getD x.toNat nd0).control < (0 : Int)) || !decide (bitI Go.BinOp.andNot Go.IntKind.i64 (l.getD x.toNat nd0).control (31 : Int) = (0 : Int)) || decide ((l.getD x.toNat nd0).owner < (0 : Int)) || decide ((1048576 : Int) < (l.getD x.toNat nd0).owner)) && decide ((0 : Int) < x)) = true → (1 : Nat) ≤ (List.take x.toNat l).length ∧ (List.take x.toNat l).length ≤ (64 : Nat) ∧ (bytesOf (l.getD x.toNat nd0).name).length ≤ (9223372036854775807 : Nat)) ∧ ((!(decide ((l.getD x.toNat nd0).control < (0 : Int)) || !decide (bitI Go.BinOp.andNot Go.IntKind.i64 (l.getD x.toNat nd0).control (31 : Int) = (0 : Int)) || decide ((l.getD x.toNat nd0).owner < (0 : Int)) || decide ((1048576 : Int) < (l.getD x.toNat nd0).owner)) && decide ((0 : Int) < x)) = true → (!(decide ((l.getD x.toNat nd0).control < (0 : Int)) || !decide (bitI Go.BinOp.andNot Go.IntKind.i64 (l.getD x.toNat nd0).control (31 : Int) = (0 : Int)) || decide ((l.getD x.toNat nd0).owner < (0 : Int)) || decide ((1048576 : Int) < (l.getD x.toNat nd0).owner)) && decide ((0 : Int) < x)) = true) ∧ ((decide ((l.getD x.toNat nd0).control < (0 : Int)) || !decide (bitI Go.BinOp.andNot Go.IntKind.i64 (l.getD x.toNat nd0).control (31 : Int) = (0 : Int)) || decide ((l.getD x.toNat nd0).owner < (0 : Int)) || decide ((1048576 : Int) < (l.getD x.toNat nd0).owner)) = false → (decide ((l.getD x.toNat nd0).control < (0 : Int)) || !decide (bitI Go.BinOp.andNot Go.IntKind.i64 (l.getD x.toNat nd0).control (31 : Int) = (0 : Int)) || decide ((l.getD x.toNat nd0).owner < (0 : Int)) || decide ((1048576 : Int) < (l.getD x.toNat nd0).owner)) = false) ∧ ((decide ((l.getD x.toNat nd0).control < (0 : Int)) || !decide (bitI Go.BinOp.andNot Go.IntKind.i64 (l.getD x.toNat nd0).control (31 : Int) = (0 : Int)) || decide ((l.getD x.toNat nd0).owner < (0 : Int)) || decide ((1048576 : Int) < (l.getD x.toNat nd0).owner)) = false → decide ((0 : Int) < x) = true → (!(decide ((l.getD x.toNat nd0).control < (0 : Int)) || !decide (bitI Go.BinOp.andNot Go.IntKind.i64 (l.getD x.toNat nd0).control (31 : Int) = (0 : Int)) || decide ((l.getD x.toNat nd0).owner < (0 : Int)) || decide ((1048576 : Int) < (l.getD x.toNat nd0).owner)) && decide ((0 : Int) < x)) = true) ∧ ((decide ((l.getD x.toNat nd0).control < (0 : Int)) || !decide (bitI Go.BinOp.andNot Go.IntKind.i64 (l.getD x.toNat nd0).control (31 : Int) = (0 : Int)) || decide ((l.getD x.toNat nd0).owner < (0 : Int)) || decide ((1048576 : Int) < (l.getD x.toNat nd0).owner)) = false → (decide ((l.getD x.toNat nd0).control < (0 : Int)) || !decide (bitI Go.BinOp.andNot Go.IntKind.i64 (l.getD x.toNat nd0).control (31 : Int) = (0 : Int)) || decide ((l.getD x.toNat nd0).owner < (0 : Int)) || decide ((1048576 : Int) < (l.getD x.toNat nd0).owner)) = false) ∧ ((decide ((l.getD x.toNat nd0).control < (0 : Int)) || !decide (bitI Go.BinOp.andNot Go.IntKind.i64 (l.getD x.toNat nd0).control (31 : Int) = (0 : Int)) || decide ((l.getD x.toNat nd0).owner < (0 : Int)) || decide ((1048576 : Int) < (l.getD x.toNat nd0).owner) || decide ((0 : Int) < x) && !(fineB (List.take x.toNat l ++ l.getD x.toNat nd0 :: NilL Nod) (List.take x.toNat l).length && (decide ((l.getD x.toNat nd0).kind = (0 : Int)) || decide ((l.getD x.toNat nd0).kind = (1 : Int))))) = true → ∃ (y : Unit), True ∧ false = chkB l n) ∧ ((decide ((l.getD x.toNat nd0).control < (0 : Int)) || !decide (bitI Go.BinOp.andNot Go.IntKind.i64 (l.getD x.toNat nd0).control (31 : Int) = (0 : Int)) || decide ((l.getD x.toNat nd0).owner < (0 : Int)) || decide ((1048576 : Int) < (l.getD x.toNat nd0).owner) || decide ((0 : Int) < x) && !(fineB (List.take x.toNat l ++ l.getD x.toNat nd0 :: NilL Nod) (List.take x.toNat l).length && (decide ((l.getD x.toNat nd0).kind = (0 : Int)) || decide ((l.getD x.toNat nd0).kind = (1 : Int))))) = false → (decide ((0 : Int) < x) = true → (0 : Int) = (0 : Int) ∧ i64R (dpt l x.toNat (l.getD x.toNat nd0).parent + (1 : Int)) ∧ (0 : Int) = (0 : Int) ∧ (decide ((8 : Int) < updF (0 : Nat) (dpt l x.toNat) (l.getD x.toNat nd0).id (dpt l x.toNat (l.getD x.toNat nd0).parent + (1 : Int)) (l.getD x.toNat nd0).id) = true → ∃ (y : Unit), True ∧ false = chkB l n) ∧ (decide ((8 : Int) < updF (0 : Nat) (dpt l x.toNat) (l.getD x.toNat nd0).id (dpt l x.toNat (l.getD x.toNat nd0).parent + (1 : Int)) (l.getD x.toNat nd0).id) = false → i64R (x + (1 : Int)) ∧ ∃ (x' : Int), ((0 : Int) ≤ x' ∧ x' ≤ (↑l.length : Int) ∧ ∀ (j : Nat), (↑j : Int) < x' → nodB l j = true ∧ depB l j = true) ∧ ((↑l.length : Int) - x').toNat < ((↑l.length : Int) - x).toNat ∧ x + (1 : Int) = x' ∧ updF (0 : Nat) (dpt l x.toNat) (l.getD x.toNat nd0).id (dpt l x.toNat (l.getD x.toNat nd0).parent + (1 : Int)) = dpt l x'.toNat ∧ l = l ∧ n = n)) ∧ (decide ((0 : Int) < x) = false → (0 : Int) = (0 : Int) ∧ (decide ((8 : Int) < dpt l x.toNat (l.getD x.toNat nd0).id) = true → ∃ (y : Unit), True ∧ false = chkB l n) ∧ (decide ((8 : Int) < dpt l x.toNat (l.getD x.toNat nd0).id) = false → i64R (x + (1 : Int)) ∧ ∃ (x' : Int), ((0 : Int) ≤ x' ∧ x' ≤ (↑l.length : Int) ∧ ∀ (j : Nat), (↑j : Int) < x' → nodB l j = true ∧ depB l j = true) ∧ ((↑l.length : Int) - x').toNat < ((↑l.length : Int) - x).toNat ∧ x + (1 : Int) = x' ∧ dpt l x.toNat = dpt l x'.toNat ∧ l = l ∧ n = n)))) ∧ (decide (x < (↑l.length : Int)) = false → i64R ((↑l.length : Int) - (1 : Int)) ∧ ((0 : Int) ≤ (↑l.length : Int) - (1 : Int) ∧ (↑l.length : Int) - (1 : Int) < (↑l.length : Int)) ∧ (decide ((l.getD ((↑l.length : Int) - (1 : Int)).toNat nd0).id < n) = true → decide ((l.getD ((↑l.length : Int) - (1 : Int)).toNat nd0).id < n) = true) ∧ (decide ((l.getD ((↑l.length : Int) - (1 : Int)).toNat nd0).id < n) = true → decide ((l.getD ((↑l.length : Int) - (1 : Int)).toNat nd0).id < n) = true) ∧ (decide ((l.getD ((↑l.length : Int) - (1 : Int)).toNat nd0).id < n) = true → decide ((l.getD ((↑l.length : Int) - (1 : Int)).toNat nd0).id < n) = true) ∧ ∃ (y : Unit), True ∧ (decide ((l.getD ((↑l.length : Int) - (1 : Int)).toNat nd0).id < n) && decide (n ≤ (2147483648 : Int))) = chkB l n))) = sChkP.vc (EV Try.prog [(129, sRootB.spec), (130, sFine.spec)] (invs [(5, inv83 l)]) noInv) Try.f83 ((l, n), ()) := by kernel_rfl
  rw [← e]
  clear e
  delta nd0
  simp only [imp_self, true_and, and_true, exists_const, implies_true, gd1, NilL_eq ]
  simp only [nd_fold]
  have e0 : Int.toNat 0 = 0 := rfl
  rw [e0]
  have no : ∀ {P : Prop}, (chkB l n = true → P) → ¬ P → false = chkB l n := fun h1 h2 => by
    cases e : chkB l n
    · rfl
    · exact absurd (h1 e) h2
  refine ⟨fun h => ⟨Int.le_refl 0, ?_⟩, fun h => ?_, fun h => ?_⟩
  · simp only [Bool.or_eq_false_iff, decide_eq_false_iff_not] at h
    omega
  · by_cases hc : chkB l n = true
    · have := chkB_iff.1 hc
      have hr := rootB_iff.2 ((this.nod 0 (by have := this.len1; omega)).root rfl)
      simp only [Bool.or_eq_true, decide_eq_true_eq, hr, Bool.not_true, Bool.false_eq_true, or_false] at h
      have h1 := this.len1
      have h2 := this.len2
      omega
    · rw [Bool.not_eq_true] at hc; exact hc.symm
  · simp only [Bool.or_eq_false_iff, decide_eq_false_iff_not, Bool.not_eq_false'] at h
    obtain ⟨⟨l1, l2⟩, hr⟩ := h
    refine ⟨⟨0, ⟨by omega, by omega, fun j hj => by omega⟩, rfl, (dpt_zero l).symm⟩, fun x hi => ⟨fun hlt0 => ?_, fun hge0 => ?_⟩⟩
    · have hlt : x < l.length := of_decide_eq_true hlt0
      have hbn := bad_nod hi.1 hlt hx hr
      have e2 : (x + 1).toNat = x.toNat + 1 := by omega
      have next : nodB l x.toNat = true → depB l x.toNat = true → ∀ j : Nat, (j : Int) < x + 1 → nodB l j = true ∧ depB l j = true := fun h1 h2 j hj => by
        by_cases e : (j : Int) < x
        · exact hi.2.2 j e
        · have : j = x.toNat := by omega
          rw [this]; exact ⟨h1, h2⟩
      have chkn : chkB l n = true → nodB l x.toNat = true ∧ depB l x.toNat = true := fun hc => by
        have := chkB_iff.1 hc
        exact ⟨nodB_iff.2 (this.nod _ (by omega)), depB_iff.2 (this.dep _ (by omega))⟩
      refine ⟨by omega, fun _ => by omega, fun hb => ⟨?_, ?_, hx.name _ (by omega)⟩, fun hb => ?_, fun hb => ?_⟩
      · simp only [Bool.and_eq_true] at hb
        have : 0 < x := of_decide_eq_true hb.2
        simp; omega
      · simp; omega
      · have hb2 := hbn.symm.trans hb
        exact no (fun hc => (chkn hc).1) (by simpa using hb2)
      · have hb2 := hbn.symm.trans hb
        have hn : nodB l x.toNat = true := by simpa using hb2
        refine ⟨fun hp0 => ?_, fun hp0 => ?_⟩
        · have hp : 0 < x := of_decide_eq_true hp0
          have hf := (nodB_iff.1 hn).fine (by omega)
          have hd := dpt_par (by omega) hf
          have hl := dep_len (l := l) (i := x.toNat) (by omega)
          have hlen : (up (l.take x.toNat).reverse (nd l x.toNat).parent).length ≤ 64 := by
            have h3 : ∀ (l : List Nod) (g : Int), (up l g).length ≤ l.length := by
              intro l
              induction l with
              | nil => intro g; simp [up]
              | cons a r ih =>
                intro g
                rw [up]
                split
                · have := ih a.parent; simp; omega
                · have := ih g; simp; omega
            have := h3 (l.take x.toNat).reverse (nd l x.toNat).parent
            simp only [List.length_reverse, List.length_take] at this
            omega
          have hu : updF 0 (dpt l x.toNat) (nd l x.toNat).id (dpt l x.toNat (nd l x.toNat).parent + 1) (nd l x.toNat).id = ((up (l.take x.toNat).reverse (nd l x.toNat).parent).length : Int) := by
            unfold updF; rw [if_pos rfl]; exact hd
          refine ⟨by simp only [i64R]; omega, fun hb3 => ?_, fun hb3 => ⟨by simp only [i64R]; omega, x + 1, ⟨by omega, by omega, next hn ?_⟩, by omega, rfl, ?_⟩⟩
          · have hb4 := of_decide_eq_true hb3
            rw [hu] at hb4
            refine no (fun hc => (chkn hc).2) ?_
            rw [hl, decide_eq_true_eq]; omega
          · have hb4 := of_decide_eq_false hb3
            rw [hu] at hb4
            rw [hl, decide_eq_true_eq]; omega
          · funext g
            rw [e2, dpt_succ (by omega)]
            unfold updF
            rw [hd]
            by_cases c : g = (nd l x.toNat).id
            · rw [if_pos c, if_pos c.symm]
            · rw [if_neg c, if_neg fun e => c e.symm]
        · have hp : ¬ 0 < x := of_decide_eq_false hp0
          have hx0 : x = 0 := by omega
          subst hx0
          have e1 : Int.toNat (0 + 1) = 1 := rfl
          have hd : depB l 0 = true := by rw [dep_len (by omega), decide_eq_true_eq]; simp [up]
          refine ⟨fun hb3 => ?_, fun hb3 => ⟨by simp only [i64R]; omega, 0 + 1, ⟨by omega, by omega, next hn hd⟩, by omega, rfl, ?_⟩⟩
          · have hb4 := of_decide_eq_true hb3
            rw [e0, dpt_zero] at hb4
            have hb5 : (8 : Int) < 0 := hb4
            omega
          · funext g
            rw [e0, e1, dpt_succ (by omega), dpt_zero]
            split
            · simp [up]
            · rfl
    · have hge : ¬ x < l.length := of_decide_eq_false hge0
      refine ⟨by simp only [i64R]; omega, by omega, ?_⟩
      have e : ((l.length : Int) - 1).toNat = l.length - 1 := by omega
      rw [e]
      rw [Bool.eq_iff_iff, chkB_iff]
      constructor
      · intro hh
        have hh2 : (nd l (l.length - 1)).id < n ∧ n ≤ 2147483648 := by
          rw [Bool.and_eq_true] at hh
          exact ⟨of_decide_eq_true hh.1, of_decide_eq_true hh.2⟩
        exact ⟨by omega, by omega, fun i hi2 => nodB_iff.1 (hi.2.2 i (by omega)).1, fun i hi2 => depB_iff.1 (hi.2.2 i (by omega)).2, hh2.1, hh2.2⟩
      · intro hh
        rw [Bool.and_eq_true]
        exact ⟨decide_eq_true hh.nx1, decide_eq_true hh.nx2⟩


set_option maxRecDepth 100000 in
theorem vc155 (x : Nod) (g : Int) (hx : True) : sAt1.vc (EV Try.prog [] noInv noInv) Try.f155 (x, g, ()) := by
  have e : (∃ (y : Unit), True ∧ decide (x.id = g) = decide (x.id = g)) = sAt1.vc (EV Try.prog [] noInv noInv) Try.f155 (x, g, ()) := by kernel_rfl
  rw [← e]
  clear e
  simp only [and_true, exists_const]

def inv154 (l : List Nod) (g : Int) : Inv where
  X := Int
  ok := fun i => 0 ≤ i ∧ i ≤ l.length ∧ ∀ j : Nat, (j : Int) < i → ¬ (nd l j).id = g
  sl := fun i => [(8, .int .i64 i)]
  hp := fun _ => []
  keep := []
  me := fun i => (l.length - i).toNat
set_option maxRecDepth 100000 in
theorem vc154 (l : List Nod) (g : Int) (hx : l.length ≤ 9223372036854775807) : sIdxN.vc (EV Try.prog [(155, sAt1.spec)] (invs [(2, inv154 l g)]) noInv) Try.f154 (l, g, ()) := by
  have e : ((∃ (x : Int), (0 ≤ x ∧ x ≤ (↑l.length : Int) ∧ ∀ (j : Nat), (↑j : Int) < x → ¬(nd l j).id = g) ∧ 0 = x) ∧ ∀ (x : Int), (0 ≤ x ∧ x ≤ (↑l.length : Int) ∧ ∀ (j : Nat), (↑j : Int) < x → ¬(nd l j).id = g) → (decide (x < (↑l.length : Int)) = true → (0 ≤ x ∧ x < (↑l.length : Int)) ∧ True ∧ (decide ((l.getD x.toNat nd0).id = g) = true → ∃ (y : Unit), True ∧ x = idxN l g) ∧ (decide ((l.getD x.toNat nd0).id = g) = false → i64R (x + 1) ∧ ∃ (x' : Int), (0 ≤ x' ∧ x' ≤ (↑l.length : Int) ∧ ∀ (j : Nat), (↑j : Int) < x' → ¬(nd l j).id = g) ∧ ((↑l.length : Int) - x').toNat < ((↑l.length : Int) - x).toNat ∧ x + 1 = x')) ∧ (decide (x < (↑l.length : Int)) = false → ∃ (y : Unit), True ∧ (-1) = idxN l g)) = sIdxN.vc (EV Try.prog [(155, sAt1.spec)] (invs [(2, inv154 l g)]) noInv) Try.f154 (l, g, ()) := by kernel_rfl
  rw [← e]
  clear e
  delta nd0
  simp only [true_and, exists_const]
  simp only [i64R, Int.reduceNeg, decide_eq_true_eq, decide_eq_false_iff_not]
  simp only [nd_fold]
  refine ⟨⟨0, ⟨by omega, by omega, fun j hj => by omega⟩, rfl⟩, fun x hx1 => ⟨fun hlt => ⟨by omega, fun he => ?_, fun hne => ⟨by omega, x + 1, ⟨by omega, by omega, fun j hj => ?_⟩, by omega, rfl⟩⟩, fun hge => ?_⟩⟩
  · rw [idx_first (i := x.toNat) (fun j hj => hx1.2.2 j (by omega)) (by omega) he]; omega
  · by_cases e : (j : Int) < x
    · exact hx1.2.2 j e
    · have : j = x.toNat := by omega
      rw [this]; exact hne
  · rw [idx_all fun j hj => hx1.2.2 j (by omega)]


set_option maxRecDepth 100000 in
theorem vc151 (l : List Nod) (n g : Int) (hx : l.length ≤ 9223372036854775807) : sAt.vc (EV Try.prog [(154, sIdxN.spec)] noInv noInv) Try.f151 ((l, n), g, ()) := by
  have e : (l.length ≤ (9223372036854775807 : Nat) ∧ ∃ (y : Unit), True ∧ idxN l g = idxN l g) = sAt.vc (EV Try.prog [(154, sIdxN.spec)] noInv noInv) Try.f151 ((l, n), g, ()) := by kernel_rfl
  rw [← e]
  clear e
  simp only [and_true, exists_const]
  exact hx


set_option maxRecDepth 100000 in
theorem vc122 (l : List Nod) (n g : Int) (hx : l.length ≤ 9223372036854775807) : sFFind.vc (EV Try.prog [(151, sAt.spec)] noInv noInv) Try.f122 ((l, n), g, ()) := by
  have e : (l.length ≤ (9223372036854775807 : Nat) ∧ (decide (idxN l g < 0) = true → ∃ (y : Unit), True ∧ 0 = (findD l g).id ∧ 0 = (findD l g).parent ∧ { data := (NilL UInt8).toArray : ByteArray } = (findD l g).name ∧ 0 = (findD l g).control ∧ 0 = (findD l g).kind ∧ 0 = (findD l g).owner ∧ false = hasB l g) ∧ (decide (idxN l g < 0) = false → (0 ≤ idxN l g ∧ idxN l g < (↑l.length : Int)) ∧ ∃ (y : Unit), True ∧ (l.getD (idxN l g).toNat nd0).id = (findD l g).id ∧ (l.getD (idxN l g).toNat nd0).parent = (findD l g).parent ∧ (l.getD (idxN l g).toNat nd0).name = (findD l g).name ∧ (l.getD (idxN l g).toNat nd0).control = (findD l g).control ∧ (l.getD (idxN l g).toNat nd0).kind = (findD l g).kind ∧ (l.getD (idxN l g).toNat nd0).owner = (findD l g).owner ∧ true = hasB l g)) = sFFind.vc (EV Try.prog [(151, sAt.spec)] noInv noInv) Try.f122 ((l, n), g, ()) := by kernel_rfl
  rw [← e]
  clear e
  delta nd0
  simp only [true_and, exists_const, NilL_eq ]
  simp only [decide_eq_true_eq, decide_eq_false_iff_not]
  simp only [nd_fold]
  refine ⟨hx, fun h => ?_, fun h => ?_⟩
  · rcases idx_cases l g with ⟨i, h1, h2, h3, h4⟩ | ⟨h1, h2⟩
    · omega
    · rw [findD_none h1, (find_all h1).2]
      exact ⟨rfl, rfl, rfl, rfl, rfl, rfl, rfl⟩
  · rcases idx_cases l g with ⟨i, h1, h2, h3, h4⟩ | ⟨h1, h2⟩
    · have e : (idxN l g).toNat = i := by omega
      rw [findD_at h3 h1 h2, (find_first h3 h1 h2).2, e]
      exact ⟨by omega, rfl, rfl, rfl, rfl, rfl, rfl, rfl⟩
    · omega

def inv73 (l : List Nod) (g : Int) : Inv where
  X := Int × Int × List Int
  ok := fun x => 0 ≤ x.1 ∧ x.1 ≤ l.length ∧ x.2.2 ++ anc l (l.length - x.1).toNat x.2.1 = anc l l.length g ∧ x.2.2.length ≤ x.1
  sl := fun x => [(11, .int .i64 x.1), (1, .int .i64 x.2.1), (5, .own 101 0)]
  hp := fun x => [(101, .rows 3 0 x.2.2)]
  keep := [10000]
  me := fun x => (l.length - x.1).toNat
set_option maxRecDepth 100000 in
theorem vc73 (l : List Nod) (n g : Int) (hx : ChkP l n) : sFAnc.vc (EV Try.prog [(122, sFFind.spec)] (invs [(3, inv73 l g)]) noInv) Try.f73 ((l, n), g, ()) := by
  have e : ((∃ (x : Int × Int × List Int), (0 ≤ x.fst ∧ x.fst ≤ (↑l.length : Int) ∧ x.snd.snd ++ anc l ((↑l.length : Int) - x.fst).toNat x.snd.fst = anc l l.length g ∧ (↑x.snd.snd.length : Int) ≤ x.fst) ∧ 0 = x.fst ∧ g = x.snd.fst ∧ NilL Int = x.snd.snd ∧ l = l ∧ n = n) ∧ ∀ (x : Int × Int × List Int), 0 ≤ x.fst ∧ x.fst ≤ (↑l.length : Int) ∧ x.snd.snd ++ anc l ((↑l.length : Int) - x.fst).toNat x.snd.fst = anc l l.length g ∧ (↑x.snd.snd.length : Int) ≤ x.fst → (decide (x.fst < (↑l.length : Int)) = true → l.length ≤ (9223372036854775807 : Nat) ∧ ((!hasB l x.snd.fst) = true → ∃ (y : Unit), True ∧ x.snd.snd = upT l g) ∧ ((!hasB l x.snd.fst) = false → x.snd.snd.length + (x.snd.fst :: NilL Int).length ≤ (68719476736 : Nat) ∧ i64R (x.fst + 1) ∧ ∃ (x' : Int × Int × List Int), (0 ≤ x'.fst ∧ x'.fst ≤ (↑l.length : Int) ∧ x'.snd.snd ++ anc l ((↑l.length : Int) - x'.fst).toNat x'.snd.fst = anc l l.length g ∧ (↑x'.snd.snd.length : Int) ≤ x'.fst) ∧ ((↑l.length : Int) - x'.fst).toNat < ((↑l.length : Int) - x.fst).toNat ∧ x.fst + 1 = x'.fst ∧ (findD l x.snd.fst).parent = x'.snd.fst ∧ x.snd.snd ++ x.snd.fst :: NilL Int = x'.snd.snd ∧ l = l ∧ n = n)) ∧ (decide (x.fst < (↑l.length : Int)) = false → ∃ (y : Unit), True ∧ x.snd.snd = upT l g)) = sFAnc.vc (EV Try.prog [(122, sFFind.spec)] (invs [(3, inv73 l g)]) noInv) Try.f73 ((l, n), g, ()) := by kernel_rfl
  rw [← e]
  clear e
  simp only [true_and, and_true, exists_const, NilL_eq ]
  simp only [Prod.forall, Prod.exists, i64R, Int.reduceNeg, decide_eq_true_eq, decide_eq_false_iff_not, Bool.not_eq_true', Bool.not_eq_false']
  have hl := hx.len2
  rw [← hx.asc.anc_eq]
  refine ⟨⟨0, g, [], ⟨by omega, by omega, by simp, by simp⟩, rfl, rfl, rfl⟩, fun i id out hi => ⟨fun hlt => ?_, fun hge => ?_⟩⟩
  · have e : ((l.length : Int) - i).toNat = ((l.length : Int) - (i + 1)).toNat + 1 := by omega
    have h3 := hi.2.2.1
    rw [e, anc] at h3
    refine ⟨by omega, fun hno => ?_, fun hyes => ⟨by simp; omega, by omega, i + 1, _, _, ⟨by omega, by omega, ?_, by simp; omega⟩, by omega, rfl, rfl, rfl⟩⟩
    · have : findN l id = none := find_none (by rw [← hasB_iff, hno]; simp)
      rw [this] at h3
      simpa using h3
    · obtain ⟨k, hk, ek⟩ := ids_mem.1 (hasB_iff.1 hyes)
      have hf := hx.asc.find_at hk
      rw [ek] at hf
      rw [hf] at h3
      have hd : findD l id = nd l k := by rw [findD, hf]; rfl
      rw [hd, List.append_assoc]
      exact h3
  · have e : ((l.length : Int) - i).toNat = 0 := by omega
    have h3 := hi.2.2.1
    rw [e, anc] at h3
    simpa using h3
end Go.Proofs.Ytemffnpliflkgaa
namespace Go.Proofs.Ytemffnpliflkgaa
open Go
set_option linter.unusedVariables false

def memB (l : List Int) (x : Int) : Bool := l.contains x
theorem memB_iff {l : List Int} {x : Int} : memB l x = true ↔ x ∈ l := by simp [memB]
theorem memB_at {l : List Int} {x : Int} {i : Nat} (h : i < l.length) (e : l.getD i 0 = x) : memB l x = true := by
  rw [memB_iff, ← e, List.getD_eq_getElem?_getD, List.getElem?_eq_getElem h]
  exact List.getElem_mem h
theorem memB_not {l : List Int} {x : Int} (h : ∀ i, i < l.length → ¬ l.getD i 0 = x) : memB l x = false := by
  rw [← Bool.not_eq_true, memB_iff]
  intro hm
  obtain ⟨i, hi, e⟩ := List.getElem_of_mem hm
  refine h i hi ?_
  rw [List.getD_eq_getElem?_getD, List.getElem?_eq_getElem hi]
  exact e
def idxI (l : List Int) (x : Int) : Int := match l.findIdx? (fun y => decide (y = x)) with
  | some k => k
  | none => -1
theorem idxI_first {l : List Int} {x : Int} {i : Nat} (h : ∀ j, j < i → ¬ l.getD j 0 = x) (hi : i < l.length) (e : l.getD i 0 = x) : idxI l x = i := by
  have : l.findIdx? (fun y => decide (y = x)) = some i := by
    rw [List.findIdx?_eq_some_iff_getElem]
    have e1 : ∀ j (hj : j < l.length), l.getD j 0 = l[j] := fun j hj => by simp [List.getD_eq_getElem?_getD, hj]
    refine ⟨hi, by rw [← e1 i hi]; simpa using e, fun j hj => ?_⟩
    have := h j hj
    rw [e1 j (by omega)] at this
    simpa using this
  rw [idxI, this]
theorem idxI_all {l : List Int} {x : Int} (h : ∀ j, j < l.length → ¬ l.getD j 0 = x) : idxI l x = -1 := by
  have : l.findIdx? (fun y => decide (y = x)) = none := by
    rw [List.findIdx?_eq_none_iff]
    intro y hy
    obtain ⟨i, hi, e⟩ := List.getElem_of_mem hy
    have := h i hi
    rw [List.getD_eq_getElem?_getD, List.getElem?_eq_getElem hi, Option.getD_some, e] at this
    simpa using this
  rw [idxI, this]
theorem idxI_mem (l : List Int) (x : Int) : decide (0 ≤ idxI l x) = memB l x := by
  by_cases h : ∀ j, j < l.length → ¬ l.getD j 0 = x
  · rw [idxI_all h, memB_not h]; rfl
  · have hm : memB l x = true := by
      cases e : memB l x
      · exfalso
        refine h fun j hj ej => ?_
        rw [memB_at hj ej] at e; cases e
      · rfl
    rw [hm, decide_eq_true_eq]
    unfold idxI
    split
    · omega
    · rename_i hn
      rw [List.findIdx?_eq_none_iff] at hn
      have := hn x (memB_iff.1 hm)
      simp at this
theorem root_names {l : List Nod} {n : Int} (h : TreeP l n) : 1 ≤ l.length ∧ l.length ≤ 64 := ⟨h.chk.len1, h.chk.len2⟩
theorem ids_bound {l : List Nod} {n g : Int} (h : ChkP l n) (hg : g ∈ ids l) : 1 ≤ g ∧ g ≤ 2147483648 := by
  obtain ⟨i, hi, e⟩ := ids_mem.1 hg
  have h1 := h.asc.pos hi
  have h2 := h.lt_next hi
  have h3 := h.nx2
  omega
/-- Candidates that are valid for a tree. -/
def sHasI : DS := ⟨_, two pkInts pkI, fun x => x.1.length ≤ 9223372036854775807, fun x => .bool (memB x.1 x.2.1), nou⟩
def sIdxI : DS := ⟨_, two pkInts pkI, fun x => x.1.length ≤ 9223372036854775807, fun x => .int .i64 (idxI x.1 x.2.1), nou⟩
def sGroup : FSp := ⟨_, Sig.dice (one pkTree) (fun _ => rfl), fun x => DOK x.1 ∧ 1 ≤ x.2.1.1.length ∧ x.2.1.1.length ≤ 64, Int × Int, fun x y => (y.1 ∈ ids x.2.1.1 ∨ (-1 ≤ y.1 ∧ y.1 ≤ 7)) ∧ x.1.2 ≤ y.2 ∧ y.2 ≤ x.1.1.length, fun _ y => .int .i64 y.1, fun x y => [(0, diceO (x.1.1, y.2))], fun x h => ⟨(0, x.1.2), .inr ⟨(by show (-1 : Int) ≤ 0; omega), (by show (0 : Int) ≤ 7; omega)⟩, Int.le_refl _, h.1.hi⟩⟩
def sSome : FSp := ⟨_, Sig.dice Sig.nil (fun _ => rfl), fun x => DOK x.1, List Int × Int, fun x y => (y.1.length ≤ 5 ∧ ∀ z ∈ y.1, -2 ≤ z ∧ z ≤ 9) ∧ x.1.2 ≤ y.2 ∧ y.2 ≤ x.1.1.length, fun _ _ => .own 101 0, fun x y => [(0, diceO (x.1.1, y.2)), (101, .rows 3 0 y.1)], fun x h => ⟨([], x.1.2), ⟨Nat.zero_le _, fun z hz => by cases hz⟩, Int.le_refl _, h.hi⟩⟩
def sTree : FSp := ⟨_, Sig.dice (one pkI) (fun _ => rfl), fun x => DOK x.1 ∧ 0 ≤ x.2.1 ∧ x.2.1 ≤ 20, (List Nod × Int) × Int, fun x y => (TreeP y.1.1 y.1.2 ∧ y.1.1.length ≤ x.2.1 + 1) ∧ x.1.2 ≤ y.2 ∧ y.2 ≤ x.1.1.length, fun _ y => .agg [.own 101 3, .int .i64 y.1.2], fun x y => [(0, diceO (x.1.1, y.2)), (101, .rows 34 3 y.1.1)], fun x h => ⟨(([⟨1, 0, ByteArray.empty, 0, 0, 0⟩], 2), x.1.2), ⟨tree_root, by show ((1 : Nat) : Int) ≤ x.2.1 + 1; have := h.2.1; omega⟩, Int.le_refl _, h.1.hi⟩⟩

def inv64 (l : List Int) (g : Int) : Inv where
  X := Int
  ok := fun i => 0 ≤ i ∧ i ≤ l.length ∧ ∀ j : Nat, (j : Int) < i → ¬ l.getD j 0 = g
  sl := fun i => [(5, .int .i64 i)]
  hp := fun _ => []
  keep := []
  me := fun i => (l.length - i).toNat
set_option maxRecDepth 100000 in
theorem vc64 (l : List Int) (g : Int) (hx : l.length ≤ 9223372036854775807) : sHasI.vc (EV Try.prog [] (invs [(2, inv64 l g)]) noInv) Try.f64 (l, g, ()) := by
  have e : ((∃ (x : Int), (0 ≤ x ∧ x ≤ (↑l.length : Int) ∧ ∀ (j : Nat), (↑j : Int) < x → ¬l.getD j 0 = g) ∧ 0 = x) ∧ ∀ (x : Int), (0 ≤ x ∧ x ≤ (↑l.length : Int) ∧ ∀ (j : Nat), (↑j : Int) < x → ¬l.getD j 0 = g) → (decide (x < (↑l.length : Int)) = true → (0 ≤ x ∧ x < (↑l.length : Int)) ∧ (decide (l.getD x.toNat 0 = g) = true → ∃ (y : Unit), True ∧ true = memB l g) ∧ (decide (l.getD x.toNat 0 = g) = false → i64R (x + 1) ∧ ∃ (x' : Int), (0 ≤ x' ∧ x' ≤ (↑l.length : Int) ∧ ∀ (j : Nat), (↑j : Int) < x' → ¬l.getD j 0 = g) ∧ ((↑l.length : Int) - x').toNat < ((↑l.length : Int) - x).toNat ∧ x + 1 = x')) ∧ (decide (x < (↑l.length : Int)) = false → ∃ (y : Unit), True ∧ false = memB l g)) = sHasI.vc (EV Try.prog [] (invs [(2, inv64 l g)]) noInv) Try.f64 (l, g, ()) := by kernel_rfl
  rw [← e]
  clear e
  simp only [true_and, exists_const]
  simp only [i64R, Int.reduceNeg, decide_eq_true_eq, decide_eq_false_iff_not]
  refine ⟨⟨0, ⟨by omega, by omega, fun j hj => by omega⟩, rfl⟩, fun x hi => ⟨fun hlt => ⟨by omega, fun he => (memB_at (i := x.toNat) (by omega) he).symm, fun hne => ⟨by omega, x + 1, ⟨by omega, by omega, fun j hj => ?_⟩, by omega, rfl⟩⟩, fun hge => (memB_not fun j hj => hi.2.2 j (by omega)).symm⟩⟩
  by_cases e : (j : Int) < x
  · exact hi.2.2 j e
  · have : j = x.toNat := by omega
    rw [this]; exact hne

def inv145 (l : List Int) (g : Int) : Inv where
  X := Int
  ok := fun i => 0 ≤ i ∧ i ≤ l.length ∧ ∀ j : Nat, (j : Int) < i → ¬ l.getD j 0 = g
  sl := fun i => [(8, .int .i64 i)]
  hp := fun _ => []
  keep := []
  me := fun i => (l.length - i).toNat
set_option maxRecDepth 100000 in
theorem vc145 (l : List Int) (g : Int) (hx : l.length ≤ 9223372036854775807) : sIdxI.vc (EV Try.prog [] (invs [(2, inv145 l g)]) noInv) Try.f145 (l, g, ()) := by
  have e : ((∃ (x : Int), (0 ≤ x ∧ x ≤ (↑l.length : Int) ∧ ∀ (j : Nat), (↑j : Int) < x → ¬l.getD j 0 = g) ∧ 0 = x) ∧ ∀ (x : Int), (0 ≤ x ∧ x ≤ (↑l.length : Int) ∧ ∀ (j : Nat), (↑j : Int) < x → ¬l.getD j 0 = g) → (decide (x < (↑l.length : Int)) = true → (0 ≤ x ∧ x < (↑l.length : Int)) ∧ (decide (g = l.getD x.toNat 0) = true → ∃ (y : Unit), True ∧ x = idxI l g) ∧ (decide (g = l.getD x.toNat 0) = false → i64R (x + 1) ∧ ∃ (x' : Int), (0 ≤ x' ∧ x' ≤ (↑l.length : Int) ∧ ∀ (j : Nat), (↑j : Int) < x' → ¬l.getD j 0 = g) ∧ ((↑l.length : Int) - x').toNat < ((↑l.length : Int) - x).toNat ∧ x + 1 = x')) ∧ (decide (x < (↑l.length : Int)) = false → ∃ (y : Unit), True ∧ (-1) = idxI l g)) = sIdxI.vc (EV Try.prog [] (invs [(2, inv145 l g)]) noInv) Try.f145 (l, g, ()) := by kernel_rfl
  rw [← e]
  clear e
  simp only [true_and, exists_const]
  simp only [i64R, Int.reduceNeg, decide_eq_true_eq, decide_eq_false_iff_not]
  refine ⟨⟨0, ⟨by omega, by omega, fun j hj => by omega⟩, rfl⟩, fun x hi => ⟨fun hlt => ⟨by omega, fun he => ?_, fun hne => ⟨by omega, x + 1, ⟨by omega, by omega, fun j hj => ?_⟩, by omega, rfl⟩⟩, fun hge => (idxI_all fun j hj => hi.2.2 j (by omega)).symm⟩⟩
  · rw [idxI_first (i := x.toNat) (fun j hj => hi.2.2 j (by omega)) (by omega) he.symm]; omega
  · by_cases e : (j : Int) < x
    · exact hi.2.2 j e
    · have : j = x.toNat := by omega
      rw [this]; exact fun e => hne e.symm


set_option maxRecDepth 100000 in
theorem vc112 (l : List Int) (g : Int) (hx : l.length ≤ 9223372036854775807) : sHasI.vc (EV Try.prog [(145, sIdxI.spec)] noInv noInv) Try.f112 (l, g, ()) := by
  have e : (l.length ≤ (9223372036854775807 : Nat) ∧ ∃ (y : Unit), True ∧ decide (0 ≤ idxI l g) = memB l g) = sHasI.vc (EV Try.prog [(145, sIdxI.spec)] noInv noInv) Try.f112 (l, g, ()) := by kernel_rfl
  rw [← e]
  clear e
  simp only [true_and, exists_const]
  exact ⟨hx, idxI_mem l g⟩


set_option maxRecDepth 100000 in
theorem vc41 (L : List Int) (k : Int) (l : List Nod) (n : Int) (hx : DOK (L, k) ∧ 1 ≤ l.length ∧ l.length ≤ 64) : sGroup.vc (EV Try.prog [(23, sNext.spec), (59, sBool.spec)] noInv noInv) Try.f41 ((L, k), (l, n), ()) := by
  have e : ((DOK (L, k) ∧ (1 : Int) ≤ 15 ∧ (15 : Int) ≤ 1000) ∧ (∀ (y : Bool × Int), true = true) ∧ ∀ (y : Bool × Int), k ≤ y.snd ∧ y.snd ≤ (↑L.length : Int) → (y.fst = false → y.fst = false) ∧ (y.fst = false → y.fst = false) ∧ (y.fst = false → y.fst = false) ∧ (y.fst = false → y.fst = false) ∧ ((y.fst || decide ((↑l.length : Int) = 0)) = true → (DOK (L, y.snd) ∧ (9 : Int) ≤ 4611686018427387904) ∧ (∀ (y : Int × Int), true = true) ∧ ∀ (y_1 : Int × Int), ((1 : Int) ≤ 9 → 0 ≤ y_1.fst ∧ y_1.fst < 9) ∧ ((9 : Int) < 1 → y_1.fst = 0) ∧ y.snd ≤ y_1.snd ∧ y_1.snd ≤ (↑L.length : Int) → i64R (y_1.fst - 1) ∧ ∃ (y : Int × Int), ((y.fst ∈ ids l ∨ (-1) ≤ y.fst ∧ y.fst ≤ 7) ∧ k ≤ y.snd ∧ y.snd ≤ (↑L.length : Int)) ∧ y_1.fst - 1 = y.fst ∧ L = L ∧ y_1.snd = y.snd) ∧ ((y.fst || decide ((↑l.length : Int) = 0)) = false → (DOK (L, y.snd) ∧ (↑l.length : Int) ≤ 4611686018427387904) ∧ (∀ (y : Int × Int), true = true) ∧ ∀ (y_1 : Int × Int), (1 ≤ (↑l.length : Int) → 0 ≤ y_1.fst ∧ y_1.fst < (↑l.length : Int)) ∧ ((↑l.length : Int) < 1 → y_1.fst = 0) ∧ y.snd ≤ y_1.snd ∧ y_1.snd ≤ (↑L.length : Int) → (0 ≤ y_1.fst ∧ y_1.fst < (↑l.length : Int)) ∧ ∃ (y : Int × Int), ((y.fst ∈ ids l ∨ (-1) ≤ y.fst ∧ y.fst ≤ 7) ∧ k ≤ y.snd ∧ y.snd ≤ (↑L.length : Int)) ∧ (l.getD y_1.fst.toNat nd0).id = y.fst ∧ L = L ∧ y_1.snd = y.snd)) = sGroup.vc (EV Try.prog [(23, sNext.spec), (59, sBool.spec)] noInv noInv) Try.f41 ((L, k), (l, n), ()) := by kernel_rfl
  rw [← e]
  clear e
  delta nd0
  simp only [imp_self, true_and, implies_true]
  simp only [Prod.forall, Prod.exists, forall_const, true_and, and_true, i64R, Int.reduceLE, Int.reduceLT, Int.reduceNeg, false_implies, decide_eq_true_eq, decide_eq_false_iff_not, Bool.or_eq_true, Bool.or_eq_false_iff ]
  simp only [nd_fold]
  obtain ⟨hk, l1, l2⟩ := hx
  have k0 : 0 ≤ k := hk.lo
  have hd : ∀ j : Int, 0 ≤ j → j ≤ L.length → DOK (L, j) := fun j h1 h2 => ⟨h1, h2, hk.len⟩
  refine ⟨hk, fun b j hj => ⟨fun _ => ⟨hd j (by omega) (by omega), fun a j2 h2 => ⟨by omega, _, _, ⟨.inr (by omega), by omega, h2.2.2⟩, rfl, rfl⟩⟩, fun _ => ⟨⟨hd j (by omega) (by omega), by omega⟩, fun a j2 h2 => ?_⟩⟩⟩
  have ha := h2.1 (by omega)
  exact ⟨ha, _, _, ⟨.inl (ids_mem.2 ⟨a.toNat, by omega, rfl⟩), by omega, h2.2.2.2⟩, rfl, rfl⟩

def inv47 (L : List Int) (k : Int) : Inv where
  X := List Int × Int × Int
  ok := fun x => 0 ≤ x.2.1 ∧ x.1.length + x.2.1 ≤ 5 ∧ (∀ z ∈ x.1, -2 ≤ z ∧ z ≤ 9) ∧ DOK (L, x.2.2) ∧ k ≤ x.2.2
  sl := fun x => [(4, .int .i64 x.2.1), (3, .own 101 0)]
  hp := fun x => [(0, diceO (L, x.2.2)), (101, .rows 3 0 x.1)]
  keep := []
  me := fun x => x.2.1.toNat
set_option maxRecDepth 100000 in
theorem vc47 (L : List Int) (k : Int) (hx : DOK (L, k)) : sSome.vc (EV Try.prog [(23, sNext.spec)] (invs [(3, inv47 L k)]) noInv) Try.f47 ((L, k), ()) := by
  have e : ((DOK (L, k) ∧ (6 : Int) ≤ 4611686018427387904) ∧ (∀ (y : Int × Int), true = true) ∧ ∀ (y : Int × Int), ((1 : Int) ≤ 6 → 0 ≤ y.fst ∧ y.fst < 6) ∧ ((6 : Int) < 1 → y.fst = 0) ∧ k ≤ y.snd ∧ y.snd ≤ (↑L.length : Int) → (∃ (x : List Int × Int × Int), (0 ≤ x.snd.fst ∧ (↑x.fst.length : Int) + x.snd.fst ≤ 5 ∧ (∀ (z : Int), z ∈ x.fst → (-2) ≤ z ∧ z ≤ 9) ∧ DOK (L, x.snd.snd) ∧ k ≤ x.snd.snd) ∧ y.fst = x.snd.fst ∧ L = L ∧ y.snd = x.snd.snd ∧ NilL Int = x.fst) ∧ ∀ (x : List Int × Int × Int), 0 ≤ x.snd.fst ∧ (↑x.fst.length : Int) + x.snd.fst ≤ 5 ∧ (∀ (z : Int), z ∈ x.fst → (-2) ≤ z ∧ z ≤ 9) ∧ DOK (L, x.snd.snd) ∧ k ≤ x.snd.snd → (decide (0 < x.snd.fst) = true → (DOK (L, x.snd.snd) ∧ (12 : Int) ≤ 4611686018427387904) ∧ (∀ (y : Int × Int), true = true) ∧ ∀ (y : Int × Int), ((1 : Int) ≤ 12 → 0 ≤ y.fst ∧ y.fst < 12) ∧ ((12 : Int) < 1 → y.fst = 0) ∧ x.snd.snd ≤ y.snd ∧ y.snd ≤ (↑L.length : Int) → i64R (y.fst - 2) ∧ x.fst.length + ((y.fst - 2) :: NilL Int).length ≤ (68719476736 : Nat) ∧ i64R (x.snd.fst - 1) ∧ ∃ (x' : List Int × Int × Int), (0 ≤ x'.snd.fst ∧ (↑x'.fst.length : Int) + x'.snd.fst ≤ 5 ∧ (∀ (z : Int), z ∈ x'.fst → (-2) ≤ z ∧ z ≤ 9) ∧ DOK (L, x'.snd.snd) ∧ k ≤ x'.snd.snd) ∧ x'.snd.fst.toNat < x.snd.fst.toNat ∧ x.snd.fst - 1 = x'.snd.fst ∧ L = L ∧ y.snd = x'.snd.snd ∧ x.fst ++ (y.fst - 2) :: NilL Int = x'.fst) ∧ (decide (0 < x.snd.fst) = false → ∃ (y : List Int × Int), ((y.fst.length ≤ (5 : Nat) ∧ ∀ (z : Int), z ∈ y.fst → (-2) ≤ z ∧ z ≤ 9) ∧ k ≤ y.snd ∧ y.snd ≤ (↑L.length : Int)) ∧ L = L ∧ x.snd.snd = y.snd ∧ x.fst = y.fst)) = sSome.vc (EV Try.prog [(23, sNext.spec)] (invs [(3, inv47 L k)]) noInv) Try.f47 ((L, k), ()) := by kernel_rfl
  rw [← e]
  clear e
  simp only [true_and, implies_true, NilL_eq ]
  simp only [Prod.forall, Prod.exists, forall_const, true_and, and_true, i64R, Int.reduceLE, Int.reduceLT, Int.reduceNeg, false_implies, decide_eq_true_eq, decide_eq_false_iff_not]
  have k0 : 0 ≤ k := hx.lo
  have hd : ∀ j : Int, 0 ≤ j → j ≤ L.length → DOK (L, j) := fun j h1 h2 => ⟨h1, h2, hx.len⟩
  refine ⟨hx, fun a j hj => ⟨⟨[], a, j, ⟨by omega, by simp; omega, by simp, hd _ (by omega) (by omega), by omega⟩, rfl, rfl, rfl⟩, fun out i j2 hi => ⟨fun hp => ⟨hi.2.2.2.1, fun b j3 h3 => ⟨by omega, by simp; omega, by omega, _, _, _, ⟨by omega, by simp; omega, fun z hz => ?_, hd _ (by omega) (by omega), by omega⟩, by omega, rfl, rfl, rfl⟩⟩, fun hp => ⟨_, _, ⟨⟨by omega, hi.2.2.1⟩, by omega, hi.2.2.2.1.hi⟩, rfl, rfl⟩⟩⟩⟩
  rcases List.mem_append.1 hz with hz | hz
  · exact hi.2.2.1 z hz
  · simp at hz; subst hz; omega

def inv17 (L : List Int) (n k : Int) : Inv where
  X := List Nod × Int × Int × Int
  ok := fun x => TreeP x.1 x.2.1 ∧ 0 ≤ x.2.2.1 ∧ x.1.length + x.2.2.1 ≤ n + 1 ∧ DOK (L, x.2.2.2) ∧ k ≤ x.2.2.2
  sl := fun x => [(6, .int .i64 x.2.2.1)]
  hp := fun x => [(0, diceO (L, x.2.2.2)), (20010, .cells 29 [.own 101 3, .int .i64 x.2.1]), (101, .rows 34 3 x.1)]
  keep := [10000]
  me := fun x => x.2.2.1.toNat
set_option maxRecDepth 100000 in
theorem vc17 (L : List Int) (k n : Int) (hx : DOK (L, k) ∧ 0 ≤ n ∧ n ≤ 20) : sTree.vc (EV Try.prog [(70, sNew.spec), (23, sNext.spec), (72, sWord.spec), (22, sAdd.spec), (59, sBool.spec), (24, sRem.spec)] (invs [(3, inv17 L n k)]) noInv) Try.f17 ((L, k), n, ()) := by
  have e : (True ∧ i64R (n + 1) ∧ (DOK (L, k) ∧ n + (1 : Int) ≤ 4611686018427387904) ∧ (∀ (y : Int × Int), true = true) ∧ ∀ (y : Int × Int), (1 ≤ n + 1 → 0 ≤ y.fst ∧ y.fst < n + 1) ∧ (n + (1 : Int) < 1 → y.fst = 0) ∧ k ≤ y.snd ∧ y.snd ≤ (↑L.length : Int) → (∃ (x : List Nod × Int × Int × Int), (TreeP x.fst x.snd.fst ∧ 0 ≤ x.snd.snd.fst ∧ (↑x.fst.length : Int) + x.snd.snd.fst ≤ n + 1 ∧ DOK (L, x.snd.snd.snd) ∧ k ≤ x.snd.snd.snd) ∧ y.fst = x.snd.snd.fst ∧ L = L ∧ y.snd = x.snd.snd.snd ∧ 2 = x.snd.fst ∧ nd1 :: NilL Nod = x.fst ∧ (0 : Int) = 0) ∧ ∀ (x : List Nod × Int × Int × Int), TreeP x.fst x.snd.fst ∧ 0 ≤ x.snd.snd.fst ∧ (↑x.fst.length : Int) + x.snd.snd.fst ≤ n + 1 ∧ DOK (L, x.snd.snd.snd) ∧ k ≤ x.snd.snd.snd → (decide (0 < x.snd.snd.fst) = true → (DOK (L, x.snd.snd.snd) ∧ (↑x.fst.length : Int) ≤ 4611686018427387904) ∧ (∀ (y : Int × Int), true = true) ∧ ∀ (y : Int × Int), (1 ≤ (↑x.fst.length : Int) → 0 ≤ y.fst ∧ y.fst < (↑x.fst.length : Int)) ∧ ((↑x.fst.length : Int) < 1 → y.fst = 0) ∧ x.snd.snd.snd ≤ y.snd ∧ y.snd ≤ (↑L.length : Int) → (0 ≤ y.fst ∧ y.fst < (↑x.fst.length : Int)) ∧ DOK (L, y.snd) ∧ (∀ (y : ByteArray × Int), true = true) ∧ ∀ (y_1 : ByteArray × Int), y_1.fst ∈ wordsS ∧ y.snd ≤ y_1.snd ∧ y_1.snd ≤ (↑L.length : Int) → True ∧ (decide (addE x.fst x.snd.fst (x.fst.getD y.fst.toNat nd0).id y_1.fst = 0) = true → (DOK (L, y_1.snd) ∧ (1 : Int) ≤ 6 ∧ (6 : Int) ≤ 1000) ∧ (∀ (y : Bool × Int), true = true) ∧ ∀ (y_2 : Bool × Int), y_1.snd ≤ y_2.snd ∧ y_2.snd ≤ (↑L.length : Int) → (y_2.fst = true → (DOK (L, y_2.snd) ∧ (↑(addL x.fst x.snd.fst (x.fst.getD y.fst.toNat nd0).id y_1.fst).length : Int) ≤ 4611686018427387904) ∧ (∀ (y : Int × Int), true = true) ∧ ∀ (y_3 : Int × Int), (1 ≤ (↑(addL x.fst x.snd.fst (x.fst.getD y.fst.toNat nd0).id y_1.fst).length : Int) → 0 ≤ y_3.fst ∧ y_3.fst < (↑(addL x.fst x.snd.fst (x.fst.getD y.fst.toNat nd0).id y_1.fst).length : Int)) ∧ ((↑(addL x.fst x.snd.fst (x.fst.getD y.fst.toNat nd0).id y_1.fst).length : Int) < 1 → y_3.fst = 0) ∧ y_2.snd ≤ y_3.snd ∧ y_3.snd ≤ (↑L.length : Int) → (0 ≤ y_3.fst ∧ y_3.fst < (↑(addL x.fst x.snd.fst (x.fst.getD y.fst.toNat nd0).id y_1.fst).length : Int)) ∧ True ∧ (decide (rmE (addL x.fst x.snd.fst (x.fst.getD y.fst.toNat nd0).id y_1.fst) (addN x.fst x.snd.fst (x.fst.getD y.fst.toNat nd0).id y_1.fst) ((addL x.fst x.snd.fst (x.fst.getD y.fst.toNat nd0).id y_1.fst).getD y_3.fst.toNat nd0).id = 0) = true → i64R (x.snd.snd.fst - 1) ∧ ∃ (x' : List Nod × Int × Int × Int), (TreeP x'.fst x'.snd.fst ∧ 0 ≤ x'.snd.snd.fst ∧ (↑x'.fst.length : Int) + x'.snd.snd.fst ≤ n + 1 ∧ DOK (L, x'.snd.snd.snd) ∧ k ≤ x'.snd.snd.snd) ∧ x'.snd.snd.fst.toNat < x.snd.snd.fst.toNat ∧ x.snd.snd.fst - 1 = x'.snd.snd.fst ∧ L = L ∧ y_3.snd = x'.snd.snd.snd ∧ rmN (addL x.fst x.snd.fst (x.fst.getD y.fst.toNat nd0).id y_1.fst) (addN x.fst x.snd.fst (x.fst.getD y.fst.toNat nd0).id y_1.fst) ((addL x.fst x.snd.fst (x.fst.getD y.fst.toNat nd0).id y_1.fst).getD y_3.fst.toNat nd0).id = x'.snd.fst ∧ rmL (addL x.fst x.snd.fst (x.fst.getD y.fst.toNat nd0).id y_1.fst) (addN x.fst x.snd.fst (x.fst.getD y.fst.toNat nd0).id y_1.fst) ((addL x.fst x.snd.fst (x.fst.getD y.fst.toNat nd0).id y_1.fst).getD y_3.fst.toNat nd0).id = x'.fst ∧ (0 : Int) = 0) ∧ (decide (rmE (addL x.fst x.snd.fst (x.fst.getD y.fst.toNat nd0).id y_1.fst) (addN x.fst x.snd.fst (x.fst.getD y.fst.toNat nd0).id y_1.fst) ((addL x.fst x.snd.fst (x.fst.getD y.fst.toNat nd0).id y_1.fst).getD y_3.fst.toNat nd0).id = 0) = false → i64R (x.snd.snd.fst - 1) ∧ ∃ (x' : List Nod × Int × Int × Int), (TreeP x'.fst x'.snd.fst ∧ 0 ≤ x'.snd.snd.fst ∧ (↑x'.fst.length : Int) + x'.snd.snd.fst ≤ n + 1 ∧ DOK (L, x'.snd.snd.snd) ∧ k ≤ x'.snd.snd.snd) ∧ x'.snd.snd.fst.toNat < x.snd.snd.fst.toNat ∧ x.snd.snd.fst - 1 = x'.snd.snd.fst ∧ L = L ∧ y_3.snd = x'.snd.snd.snd ∧ addN x.fst x.snd.fst (x.fst.getD y.fst.toNat nd0).id y_1.fst = x'.snd.fst ∧ addL x.fst x.snd.fst (x.fst.getD y.fst.toNat nd0).id y_1.fst = x'.fst ∧ (0 : Int) = 0)) ∧ (y_2.fst = false → i64R (x.snd.snd.fst - 1) ∧ ∃ (x' : List Nod × Int × Int × Int), (TreeP x'.fst x'.snd.fst ∧ 0 ≤ x'.snd.snd.fst ∧ (↑x'.fst.length : Int) + x'.snd.snd.fst ≤ n + 1 ∧ DOK (L, x'.snd.snd.snd) ∧ k ≤ x'.snd.snd.snd) ∧ x'.snd.snd.fst.toNat < x.snd.snd.fst.toNat ∧ x.snd.snd.fst - 1 = x'.snd.snd.fst ∧ L = L ∧ y_2.snd = x'.snd.snd.snd ∧ addN x.fst x.snd.fst (x.fst.getD y.fst.toNat nd0).id y_1.fst = x'.snd.fst ∧ addL x.fst x.snd.fst (x.fst.getD y.fst.toNat nd0).id y_1.fst = x'.fst ∧ (0 : Int) = 0)) ∧ (decide (addE x.fst x.snd.fst (x.fst.getD y.fst.toNat nd0).id y_1.fst = 0) = false → (DOK (L, y_1.snd) ∧ (1 : Int) ≤ 6 ∧ (6 : Int) ≤ 1000) ∧ (∀ (y : Bool × Int), true = true) ∧ ∀ (y : Bool × Int), y_1.snd ≤ y.snd ∧ y.snd ≤ (↑L.length : Int) → (y.fst = true → (DOK (L, y.snd) ∧ (↑x.fst.length : Int) ≤ 4611686018427387904) ∧ (∀ (y : Int × Int), true = true) ∧ ∀ (y_2 : Int × Int), (1 ≤ (↑x.fst.length : Int) → 0 ≤ y_2.fst ∧ y_2.fst < (↑x.fst.length : Int)) ∧ ((↑x.fst.length : Int) < 1 → y_2.fst = 0) ∧ y.snd ≤ y_2.snd ∧ y_2.snd ≤ (↑L.length : Int) → (0 ≤ y_2.fst ∧ y_2.fst < (↑x.fst.length : Int)) ∧ True ∧ (decide (rmE x.fst x.snd.fst (x.fst.getD y_2.fst.toNat nd0).id = 0) = true → i64R (x.snd.snd.fst - 1) ∧ ∃ (x' : List Nod × Int × Int × Int), (TreeP x'.fst x'.snd.fst ∧ 0 ≤ x'.snd.snd.fst ∧ (↑x'.fst.length : Int) + x'.snd.snd.fst ≤ n + 1 ∧ DOK (L, x'.snd.snd.snd) ∧ k ≤ x'.snd.snd.snd) ∧ x'.snd.snd.fst.toNat < x.snd.snd.fst.toNat ∧ x.snd.snd.fst - 1 = x'.snd.snd.fst ∧ L = L ∧ y_2.snd = x'.snd.snd.snd ∧ rmN x.fst x.snd.fst (x.fst.getD y_2.fst.toNat nd0).id = x'.snd.fst ∧ rmL x.fst x.snd.fst (x.fst.getD y_2.fst.toNat nd0).id = x'.fst ∧ (0 : Int) = 0) ∧ (decide (rmE x.fst x.snd.fst (x.fst.getD y_2.fst.toNat nd0).id = 0) = false → i64R (x.snd.snd.fst - 1) ∧ ∃ (x' : List Nod × Int × Int × Int), (TreeP x'.fst x'.snd.fst ∧ 0 ≤ x'.snd.snd.fst ∧ (↑x'.fst.length : Int) + x'.snd.snd.fst ≤ n + 1 ∧ DOK (L, x'.snd.snd.snd) ∧ k ≤ x'.snd.snd.snd) ∧ x'.snd.snd.fst.toNat < x.snd.snd.fst.toNat ∧ x.snd.snd.fst - 1 = x'.snd.snd.fst ∧ L = L ∧ y_2.snd = x'.snd.snd.snd ∧ x.snd.fst = x'.snd.fst ∧ x.fst = x'.fst ∧ (0 : Int) = 0)) ∧ (y.fst = false → i64R (x.snd.snd.fst - 1) ∧ ∃ (x' : List Nod × Int × Int × Int), (TreeP x'.fst x'.snd.fst ∧ 0 ≤ x'.snd.snd.fst ∧ (↑x'.fst.length : Int) + x'.snd.snd.fst ≤ n + 1 ∧ DOK (L, x'.snd.snd.snd) ∧ k ≤ x'.snd.snd.snd) ∧ x'.snd.snd.fst.toNat < x.snd.snd.fst.toNat ∧ x.snd.snd.fst - 1 = x'.snd.snd.fst ∧ L = L ∧ y.snd = x'.snd.snd.snd ∧ x.snd.fst = x'.snd.fst ∧ x.fst = x'.fst ∧ (0 : Int) = 0))) ∧ (decide (0 < x.snd.snd.fst) = false → ∃ (y : (List Nod × Int) × Int), ((TreeP y.fst.fst y.fst.snd ∧ (↑y.fst.fst.length : Int) ≤ n + 1) ∧ k ≤ y.snd ∧ y.snd ≤ (↑L.length : Int)) ∧ x.snd.fst = y.fst.snd ∧ L = L ∧ x.snd.snd.snd = y.snd ∧ x.fst = y.fst.fst)) = sTree.vc (EV Try.prog [(70, sNew.spec), (23, sNext.spec), (72, sWord.spec), (22, sAdd.spec), (59, sBool.spec), (24, sRem.spec)] (invs [(3, inv17 L n k)]) noInv) Try.f17 ((L, k), n, ()) := by kernel_rfl
  rw [← e]
  clear e
  delta nd0 nd1
  simp only [true_and, and_true, implies_true, NilL_eq ]
  simp only [Prod.forall, Prod.exists, and_true, i64R, Int.reduceLE, Int.reduceNeg, decide_eq_true_eq, decide_eq_false_iff_not]
  simp only [nd_fold]
  obtain ⟨hk, n0, n1⟩ := hx
  have k0 : 0 ≤ k := hk.lo
  have hd : ∀ j : Int, 0 ≤ j → j ≤ L.length → DOK (L, j) := fun j h1 h2 => ⟨h1, h2, hk.len⟩
  refine ⟨by omega, ⟨hk, by omega⟩, fun a j hj => ⟨⟨_, _, a, j, ⟨tree_root, by omega, by simp; omega, hd _ (by omega) (by omega), by omega⟩, rfl, rfl, rfl, rfl⟩, fun l m i j1 hi => ⟨fun hp => ?_, fun hp => ⟨_, _, _, ⟨⟨hi.1, by omega⟩, by omega, hi.2.2.2.1.hi⟩, rfl, rfl, rfl⟩⟩⟩⟩
  obtain ⟨ht, i0, i1, hd1, hkj⟩ := hi
  have hl := root_names ht
  refine ⟨⟨hd1, by omega⟩, fun p j2 h2 => ⟨h2.1 (by omega), hd _ (by omega) (by omega), fun s j3 h3 => ?_⟩⟩
  -- behind the adding: a tree that is made, and what comes then
  have rest : ∀ (l2 : List Nod) (m2 : Int), TreeP l2 m2 → (l2.length : Int) ≤ l.length + 1 → ∀ (r : Int) (j5 : Int), 0 ≤ j5 → k ≤ j5 → j5 ≤ L.length → rmE l2 m2 r = 0 → (-9223372036854775808 ≤ i - 1 ∧ i - 1 ≤ 9223372036854775807) ∧ ∃ a b c d, (TreeP a b ∧ 0 ≤ c ∧ a.length + c ≤ n + 1 ∧ DOK (L, d) ∧ k ≤ d) ∧ c.toNat < i.toNat ∧ i - 1 = c ∧ j5 = d ∧ rmN l2 m2 r = b ∧ rmL l2 m2 r = a := fun l2 m2 t2 hl2 r j5 h0 h1 h2 hr => by
    obtain ⟨t3, hl3⟩ := tree_rm t2 hr
    exact ⟨by omega, _, _, _, _, ⟨t3, by omega, by omega, hd _ h0 h2, h1⟩, by omega, rfl, rfl, rfl, rfl⟩
  have stay : ∀ (l2 : List Nod) (m2 : Int), TreeP l2 m2 → (l2.length : Int) ≤ l.length + 1 → ∀ j5 : Int, 0 ≤ j5 → k ≤ j5 → j5 ≤ L.length → (-9223372036854775808 ≤ i - 1 ∧ i - 1 ≤ 9223372036854775807) ∧ ∃ a b c d, (TreeP a b ∧ 0 ≤ c ∧ a.length + c ≤ n + 1 ∧ DOK (L, d) ∧ k ≤ d) ∧ c.toNat < i.toNat ∧ i - 1 = c ∧ j5 = d ∧ m2 = b ∧ l2 = a := fun l2 m2 t2 hl2 j5 h0 h1 h2 =>
    ⟨by omega, _, _, _, _, ⟨t2, by omega, by omega, hd _ h0 h2, h1⟩, by omega, rfl, rfl, rfl, rfl⟩
  refine ⟨fun he => ?_, fun he => ?_⟩
  · obtain ⟨t2, hl2⟩ := tree_add ht h3.1 he
    have hl4 := root_names t2
    refine ⟨hd _ (by omega) (by omega), fun b j4 h4 => ⟨fun _ => ⟨⟨hd _ (by omega) (by omega), by omega⟩, fun q j5 h5 => ⟨h5.1 (by omega), fun hr => rest _ _ t2 (by omega) _ _ (by omega) (by omega) (by omega) hr, fun _ => stay _ _ t2 (by omega) _ (by omega) (by omega) (by omega)⟩⟩, fun _ => stay _ _ t2 (by omega) _ (by omega) (by omega) (by omega)⟩⟩
  · refine ⟨hd _ (by omega) (by omega), fun b j4 h4 => ⟨fun _ => ⟨⟨hd _ (by omega) (by omega), by omega⟩, fun q j5 h5 => ⟨h5.1 (by omega), fun hr => rest _ _ ht (by omega) _ _ (by omega) (by omega) (by omega) hr, fun _ => stay _ _ ht (by omega) _ (by omega) (by omega) (by omega)⟩⟩, fun _ => stay _ _ ht (by omega) _ (by omega) (by omega) (by omega)⟩⟩
end Go.Proofs.Ytemffnpliflkgaa
namespace Go.Proofs.Ytemffnpliflkgaa
open Go
set_option linter.unusedVariables false
theorem getD_mem {l : List Int} {i : Nat} (h : i < l.length) : l.getD i 0 ∈ l := by
  rw [List.getD_eq_getElem?_getD, List.getElem?_eq_getElem h]
  exact List.getElem_mem h

theorem Asc.chn_gt {l : List Nod} (h : Asc l) {g c : Int} (hg : g ∈ ids l) (hc : c ∈ chn l g) : c ∈ ids l ∧ g < c ∧ upT l c = c :: upT l g := by
  obtain ⟨i, hi, e1, e2⟩ := chn_mem.1 hc
  refine ⟨ids_mem.2 ⟨i, hi, e1⟩, ?_, by rw [← e1, h.upT_par hi, e2]⟩
  by_cases i0 : i = 0
  · subst i0
    rw [(h.root (by omega)).2] at e2
    rw [← e2] at hg
    exact absurd hg h.notzero
  · obtain ⟨q, hq, eq⟩ := h.par i (by omega) hi
    have h3 := h.lt q i hq hi
    rw [eq, e2, e1] at h3
    exact h3
/-- Of two children of a group, at most one is above another group. -/
theorem Asc.one_way {l : List Nod} (h : Asc l) {g c d : Int} (hg : g ∈ ids l) (hc : c ∈ chn l g) (hd : d ∈ chn l g) : ∀ i, i < l.length → c ∈ upT l (nd l i).id → d ∈ upT l (nd l i).id → c = d := by
  obtain ⟨c1, c2, c3⟩ := h.chn_gt hg hc
  obtain ⟨d1, d2, d3⟩ := h.chn_gt hg hd
  obtain ⟨k, hk, ek⟩ := ids_mem.1 hg
  have no : ∀ a, g < a → ¬ a ∈ upT l g := fun a ha hm => by
    have := h.le_of_up k hk a (by rw [ek]; exact hm)
    omega
  intro i
  induction i using Nat.strongRecOn with
  | _ i ih =>
    intro hi hci hdi
    by_cases e1 : (nd l i).id = c
    · rw [e1, c3] at hdi
      rcases List.mem_cons.1 hdi with e | e
      · exact e.symm
      · exact absurd e (no d d2)
    · by_cases e2 : (nd l i).id = d
      · rw [e2, d3] at hci
        rcases List.mem_cons.1 hci with e | e
        · exact e
        · exact absurd e (no c c2)
      · rw [h.upT_par hi] at hci hdi
        rcases List.mem_cons.1 hci with e | hci
        · exact absurd e.symm e1
        rcases List.mem_cons.1 hdi with e | hdi
        · exact absurd e.symm e2
        by_cases i0 : i = 0
        · subst i0
          rw [(h.root (by omega)).2, upT_none h.notzero] at hci; cases hci
        · obtain ⟨q, hq, eq⟩ := h.par i (by omega) hi
          rw [← eq] at hci hdi
          exact ih q hq (by omega) hci hdi
def cn_ (l : List Nod) (g : Int) (k : Nat) : Int := (chn l g).getD k 0
theorem cn__mem {l : List Nod} {g : Int} {k : Nat} (h : k < (chn l g).length) : cn_ l g k ∈ chn l g := getD_mem h
theorem cn__ne {l : List Nod} (ha : Asc l) {g : Int} {j k : Nat} (h : k < (chn l g).length) (hj : j < k) : cn_ l g j ≠ cn_ l g k := by
  have hn := ha.chn_nodup g
  rw [List.nodup_iff_pairwise_ne, List.pairwise_iff_getElem] at hn
  have := hn j k (by omega) h hj
  simpa [cn_, List.getD_eq_getElem?_getD, h, show j < (chn l g).length by omega] using this
/-- What the walk from child to child has gathered. -/
def SubK (l : List Nod) (g : Int) (k : Nat) (s : List Int) : Prop := s.Nodup ∧ ∀ x, x ∈ s ↔ x = g ∨ ∃ j, j < k ∧ cn_ l g j ∈ upT l x
theorem subK_zero (l : List Nod) (g : Int) : SubK l g 0 [g] := ⟨by simp, fun x => by simp⟩
theorem subK_step {l : List Nod} (h : Asc l) {g : Int} (hg : g ∈ ids l) {k : Nat} {s y : List Int} (hk : k < (chn l g).length) (H : SubK l g k s) (S : Sub l (cn_ l g k) y) : SubK l g (k + 1) (s ++ y) := by
  have hck := cn__mem hk
  obtain ⟨c1, c2, c3⟩ := h.chn_gt hg hck
  refine ⟨?_, fun x => ?_⟩
  · rw [List.nodup_append]
    refine ⟨H.1, S.1, fun a ha b hb e => ?_⟩
    subst e
    have hb2 := (S.2 a).1 hb
    rcases (H.2 a).1 ha with e | ⟨j, hj, hja⟩
    · subst e
      obtain ⟨q, hq, eq⟩ := ids_mem.1 hg
      have := h.le_of_up q hq _ (by rw [eq]; exact hb2)
      omega
    · have hm : a ∈ ids l := by
        by_cases hx : a ∈ ids l
        · exact hx
        · rw [upT_none hx] at hb2; cases hb2
      obtain ⟨i, hi, ei⟩ := ids_mem.1 hm
      rw [← ei] at hja hb2
      exact cn__ne h hk hj (h.one_way hg (cn__mem (by omega)) hck i hi hja hb2)
  · rw [List.mem_append, H.2, S.2]
    constructor
    · rintro ((e | ⟨j, hj, hm⟩) | hm)
      · exact .inl e
      · exact .inr ⟨j, by omega, hm⟩
      · exact .inr ⟨k, by omega, hm⟩
    · rintro (e | ⟨j, hj, hm⟩)
      · exact .inl (.inl e)
      · by_cases e : j = k
        · subst e; exact .inr hm
        · exact .inl (.inr ⟨j, by omega, hm⟩)
theorem subK_fin {l : List Nod} (h : Asc l) {g : Int} (hg : g ∈ ids l) {s : List Int} (H : SubK l g (chn l g).length s) : Sub l g s := by
  refine ⟨H.1, fun x => ?_⟩
  rw [H.2]
  have W := (Walk.start h hg).step h
  constructor
  · rintro (e | ⟨j, hj, hm⟩)
    · subst e; exact h.self_mem hg
    · have hx : x ∈ ids l := by
        by_cases hx : x ∈ ids l
        · exact hx
        · rw [upT_none hx] at hm; cases hm
      obtain ⟨i, hi, ei⟩ := ids_mem.1 hx
      rw [← ei] at hm ⊢
      refine h.up_trans i hi _ g hm ?_
      rw [(h.chn_gt hg (cn__mem hj)).2.2]
      exact List.mem_cons_of_mem _ (h.self_mem hg)
  · intro hm
    rcases W.cover x hm with e | ⟨a, ha, h2⟩
    · left; simpa using e
    · right
      have ha : a ∈ chn l g := by simpa using ha
      obtain ⟨j, hj, ej⟩ := List.getElem_of_mem ha
      exact ⟨j, hj, by rw [cn_, List.getD_eq_getElem?_getD, List.getElem?_eq_getElem hj, Option.getD_some, ej]; exact h2⟩
theorem subK_len {l : List Nod} {g : Int} (hg : g ∈ ids l) {k : Nat} {s : List Int} (H : SubK l g k s) : s.length ≤ l.length := by
  have h1 : s ⊆ ids l := fun x hx => by
    rcases (H.2 x).1 hx with e | ⟨j, hj, hm⟩
    · subst e; exact hg
    · by_cases hx : x ∈ ids l
      · exact hx
      · rw [upT_none hx] at hm; cases hm
  have := nodup_le H.1 h1
  simpa [ids] using this
theorem sub_len {l : List Nod} {g : Int} {s : List Int} (H : Sub l g s) : s.length ≤ l.length := by
  have h1 : s ⊆ ids l := fun x hx => by
    have hm := (H.2 x).1 hx
    by_cases hx : x ∈ ids l
    · exact hx
    · rw [upT_none hx] at hm; cases hm
  have := nodup_le H.1 h1
  simpa [ids] using this
theorem sub_nil {l : List Nod} {g : Int} (hg : g ∉ ids l) : Sub l g [] := by
  refine ⟨by simp, fun x => ?_⟩
  constructor
  · intro h; cases h
  · intro hm; exact absurd (upT_sub hm) hg
/-- How many groups have greater numbers. -/
def abv (l : List Nod) (g : Int) : Nat := (ids l).countP fun x => decide (g < x)
theorem cnt_lt {c g : Int} (h : g < c) : ∀ {L : List Int}, c ∈ L → L.countP (fun x => decide (c < x)) < L.countP (fun x => decide (g < x))
  | a :: L, hm => by
    have le : L.countP (fun x => decide (c < x)) ≤ L.countP (fun x => decide (g < x)) := List.countP_mono_left fun x _ hx => by
      simp only [decide_eq_true_eq] at hx ⊢
      omega
    rw [List.countP_cons, List.countP_cons]
    by_cases e : a = c
    · subst e
      simp [h]
      omega
    · have hm2 : c ∈ L := by
        rcases List.mem_cons.1 hm with e2 | e2
        · exact absurd e2.symm e
        · exact e2
      have := cnt_lt h hm2
      by_cases x1 : c < a
      · have x2 : g < a := by omega
        simp [x1, x2]; omega
      · simp [x1]; omega
theorem abv_lt {l : List Nod} (h : Asc l) {g c : Int} (hg : g ∈ ids l) (hc : c ∈ chn l g) : abv l c < abv l g := by
  obtain ⟨c1, c2, _⟩ := h.chn_gt hg hc
  exact cnt_lt c2 c1
end Go.Proofs.Ytemffnpliflkgaa
namespace Go.Proofs.Ytemffnpliflkgaa
open Go
set_option linter.unusedVariables false

theorem sum_take_succ (l : List Int) (i : Nat) (h : i < l.length) : (l.take (i + 1)).sum = (l.take i).sum + l.getD i 0 := by
  rw [List.take_add_one, List.sum_append]
  simp [List.getD_eq_getElem?_getD, h]
theorem sum_take_nonneg {l : List Int} (h : ∀ x ∈ l, 0 ≤ x) (i : Nat) : 0 ≤ (l.take i).sum := by
  induction l generalizing i with
  | nil => simp
  | cons a r ih =>
    cases i with
    | zero => simp
    | succ i =>
      have := ih (fun x hx => h x (by simp [hx])) i
      have := h a (by simp)
      simp only [List.take_succ_cons, List.sum_cons]; omega
theorem sum_take_le {l : List Int} (h : ∀ x ∈ l, 0 ≤ x) (i : Nat) : (l.take i).sum ≤ l.sum := by
  induction l generalizing i with
  | nil => simp
  | cons a r ih =>
    have hr : ∀ x ∈ r, 0 ≤ x := fun x hx => h x (by simp [hx])
    have h0 := h a (by simp)
    cases i with
    | zero =>
      have := sum_take_nonneg hr r.length
      rw [List.take_length] at this
      simp only [List.take_zero, List.sum_nil, List.sum_cons]; omega
    | succ i =>
      have := ih hr i
      simp only [List.take_succ_cons, List.sum_cons]; omega
theorem get_nonneg {l : List Int} (h : ∀ x ∈ l, 0 ≤ x) (i : Nat) : 0 ≤ l.getD i 0 := by
  rw [List.getD_eq_getElem?_getD]
  cases e : l[i]? with
  | none => simp
  | some x => simpa using h x (List.mem_of_getElem? e)
theorem sum_nonneg {l : List Int} (h : ∀ x ∈ l, 0 ≤ x) : 0 ≤ l.sum := by
  have := sum_take_nonneg h l.length
  rwa [List.take_length] at this
theorem ex_zero (n : Nat) : ∃ x : Nat, x ≤ n ∧ (0 : Int) = x := ⟨0, by omega, rfl⟩
theorem ex_next (n : Nat) : ∀ i : Nat, i < n → ∃ x : Nat, x ≤ n ∧ n - x < n - i ∧ (i : Int) + 1 = x := fun i h => ⟨i + 1, by omega, by omega, by omega⟩
theorem Good.rates {p : Pool} (h : Good p) : Rates p := by
  rcases h.lim with ⟨h1, h2, _⟩ | ⟨h1, h2, h3, h4, h5, _⟩
  · exact .inl ⟨h1, h2⟩
  · exact .inr ⟨h1, h2, h3, h4, h5⟩
theorem sum_zero {l : List Int} (h : ∀ x ∈ l, x = 0) : l.sum = 0 := by
  induction l with
  | nil => rfl
  | cons a l ih => rw [List.sum_cons, h a (by simp), ih fun x hx => h x (by simp [hx])]; rfl
theorem get_le_sum {l : List Int} (h : ∀ x ∈ l, 0 ≤ x) (i : Nat) : l.getD i 0 ≤ l.sum := by
  by_cases hi : i < l.length
  · have h1 := sum_take_succ l i hi
    have h2 := sum_take_le h (i + 1)
    have h3 := sum_take_nonneg h i
    omega
  · have := sum_take_nonneg h l.length
    rw [List.take_length] at this
    rw [List.getD_eq_getElem?_getD, List.getElem?_eq_none (by omega)]
    simpa using this
/-- What the code knows of a good pool: m is what it may hold. -/
theorem Good.most {p : Pool} (h : Good p) : ∃ m, ((p.q = 4611686018427387904 ∧ m = 0 ∧ p.bu = 0 ∧ p.le = 0) ∨ (¬ p.q = 4611686018427387904 ∧ 1 ≤ p.q ∧ p.q ≤ 1000000 ∧ 0 ≤ p.bu ∧ p.bu ≤ p.q ∧ m = p.q + p.bu)) ∧ 0 ≤ p.le ∧ (∀ x ∈ p.l, 0 ≤ x) ∧ p.le + p.l.sum ≤ m ∧ m ≤ 2000000 := by
  rcases h.lim with ⟨h1, h2, h3, h4⟩ | ⟨h1, h2, h3, h4, h5, h6, h7, h8⟩
  · exact ⟨0, .inl ⟨h1, rfl, h2, h3⟩, by omega, fun x hx => by rw [h4 x hx]; omega, by rw [sum_zero h4]; omega, by omega⟩
  · exact ⟨p.q + p.bu, .inr ⟨h1, h2, h3, h4, h5, rfl⟩, h6, h7, h8, by omega⟩
theorem Good.small {p : Pool} (h : Good p) : Small p.le p.l := by
  obtain ⟨m, _, h1, h2, h3, h4⟩ := h.most
  have := h.n1
  exact ⟨h1, h2, by omega, by omega⟩
theorem Good.cell_le {p : Pool} (h : Good p) (i : Nat) : 0 ≤ (p.le :: p.l).getD i 0 ∧ (p.le :: p.l).getD i 0 ≤ p.le + p.l.sum := by
  obtain ⟨m, _, h1, h2, h3, h4⟩ := h.most
  have h5 : ∀ x ∈ p.le :: p.l, 0 ≤ x := fun x hx => by
    rcases List.mem_cons.1 hx with e | hx
    · omega
    · exact h2 x hx
  have := get_nonneg h5 i
  have := get_le_sum h5 i
  rw [List.sum_cons] at this
  omega
theorem Good.room {p : Pool} (h : Good p) {c : Int} (_ : 0 ≤ c) (_ : c < p.l.length) : 0 ≤ p.l.getD c.toNat 0 ∧ p.le + p.l.getD c.toNat 0 ≤ 2000000 ∧ 0 ≤ p.le := by
  obtain ⟨m, _, h1, h2, h3, h4⟩ := h.most
  have := get_nonneg h2 c.toNat
  have := get_le_sum h2 c.toNat
  omega
theorem sum_set {l : List Int} {i : Nat} (h : i < l.length) (v : Int) : (l.set i v).sum = l.sum - l.getD i 0 + v := by
  induction l generalizing i with
  | nil => simp at h
  | cons a r ih =>
    cases i with
    | zero => simp only [List.set_cons_zero, List.sum_cons, List.getD_cons_zero]; omega
    | succ i =>
      have := ih (i := i) (by simpa using h)
      simp only [List.set_cons_succ, List.sum_cons, List.getD_cons_succ]; omega
theorem all_zero {l : List Int} (h : ∀ x ∈ l, 0 ≤ x) (hs : l.sum ≤ 0) : ∀ x ∈ l, x = 0 := fun x hx => by
  obtain ⟨i, hi, rfl⟩ := List.getElem_of_mem hx
  have h1 := get_le_sum h i
  have h2 := h _ hx
  rw [List.getD_eq_getElem?_getD, List.getElem?_eq_getElem hi] at h1
  simp only [Option.getD_some] at h1
  omega

def mostI (p : Pool) : Int := if p.q = 4611686018427387904 then 0 else p.q + p.bu
def ratesI (q bu : Int) : Bool := if q = 4611686018427387904 then decide (bu = 0) else (decide (1 ≤ q) && decide (q ≤ 1000000)) && (decide (0 ≤ bu) && decide (bu ≤ q))
def cellB (m x : Int) : Bool := decide (0 ≤ x) && decide (x ≤ m)
def heldB (p : Pool) : Bool := (p.le :: p.l).all (cellB (mostI p)) && decide (p.le + p.l.sum ≤ mostI p)
def countB (p : Pool) : Bool := ((decide (0 ≤ p.sp) && decide (p.sp ≤ 1099511627776)) && (decide (0 ≤ p.pe) && decide (p.pe ≤ 1099511627776)) && (decide (0 ≤ p.th) && decide (p.th ≤ 1099511627776))) && decide (p.th ≤ if p.em then p.pe else p.pe - 1)
def goodB (p : Pool) : Bool := (decide (1 ≤ p.g) && decide (p.g ≤ 2147483647)) && ratesI p.q p.bu && (decide (1 ≤ p.s) && decide (p.s ≤ 1000000)) && (decide (1 ≤ (p.l.length : Int)) && decide ((p.l.length : Int) ≤ 16)) && heldB p && countB p
theorem ratesI_iff {q bu : Int} : ratesI q bu = true ↔ (q = 4611686018427387904 ∧ bu = 0) ∨ (q ≠ 4611686018427387904 ∧ 1 ≤ q ∧ q ≤ 1000000 ∧ 0 ≤ bu ∧ bu ≤ q) := by
  unfold ratesI
  split
  · simp only [decide_eq_true_eq]; omega
  · simp only [Bool.and_eq_true, decide_eq_true_eq]; omega
theorem heldB_iff {p : Pool} : heldB p = true ↔ (0 ≤ p.le ∧ p.le ≤ mostI p) ∧ (∀ x ∈ p.l, 0 ≤ x ∧ x ≤ mostI p) ∧ p.le + p.l.sum ≤ mostI p := by
  simp only [heldB, cellB, Bool.and_eq_true, List.all_eq_true, decide_eq_true_eq, List.mem_cons, forall_eq_or_imp, and_assoc]
theorem countB_iff {p : Pool} : countB p = true ↔ (0 ≤ p.sp ∧ p.sp ≤ 1099511627776) ∧ (0 ≤ p.pe ∧ p.pe ≤ 1099511627776) ∧ 0 ≤ p.th ∧ p.th ≤ 1099511627776 ∧ p.th ≤ if p.em then p.pe else p.pe - 1 := by
  simp only [countB, Bool.and_eq_true, decide_eq_true_eq, and_assoc]
theorem mem_le_sum {l : List Int} (h : ∀ x ∈ l, 0 ≤ x) {x : Int} (hx : x ∈ l) : x ≤ l.sum := by
  obtain ⟨i, hi, rfl⟩ := List.getElem_of_mem hx
  have h1 := get_le_sum h i
  rw [List.getD_eq_getElem?_getD, List.getElem?_eq_getElem hi] at h1
  simpa using h1
theorem goodB_iff {p : Pool} : goodB p = true ↔ Good p := by
  simp only [goodB, Bool.and_eq_true, decide_eq_true_eq, ratesI_iff, heldB_iff, countB_iff]
  constructor
  · rintro ⟨⟨⟨⟨⟨h1, h2⟩, h3⟩, h4⟩, h5⟩, h6, h7, h8, h9, h10⟩
    obtain ⟨h5a, h5b, h5c⟩ := h5
    have hl : ∀ x ∈ p.l, 0 ≤ x := fun x hx => (h5b x hx).1
    have hs := sum_nonneg hl
    refine ⟨h1.1, h1.2, ?_, h3.1, h3.2, by omega, by omega, h6.1, h6.2, h7.1, h7.2, h8, h10⟩
    rcases h2 with ⟨q1, q2⟩ | ⟨q1, q2, q3, q4, q5⟩
    · rw [mostI, if_pos q1] at h5c h5a
      exact .inl ⟨q1, q2, by omega, all_zero hl (by omega)⟩
    · rw [mostI, if_neg q1] at h5c
      exact .inr ⟨q1, q2, q3, q4, q5, h5a.1, hl, by omega⟩
  · intro h
    obtain ⟨m, hm, h0, h1, h2, h3⟩ := h.most
    have hs := sum_nonneg h1
    have em : mostI p = m := by
      unfold mostI
      rcases hm with ⟨a, b, _⟩ | ⟨a, _, _, _, _, b⟩
      · rw [if_pos a, b]
      · rw [if_neg a, b]
    have n0 := h.n0
    have n1 := h.n1
    have t1 := h.th1
    have p1 := h.pe1
    refine ⟨⟨⟨⟨⟨⟨h.g0, h.g1⟩, h.rates⟩, h.s0, h.s1⟩, by omega, by omega⟩, ⟨h0, by omega⟩, fun x hx => ⟨h1 x hx, ?_⟩, by omega⟩, ⟨h.sp0, h.sp1⟩, ⟨h.pe0, h.pe1⟩, h.th0, ?_, t1⟩
    · have := mem_le_sum h1 hx
      omega
    · cases e : p.em
      · rw [e] at t1; simp only [Bool.false_eq_true, if_false] at t1; omega
      · rw [e] at t1; simp only [if_true] at t1; omega
/-- What the code may meet: not every pool is good, but its numbers are not huge. -/
structure Tame (p : Pool) : Prop where
  bu0 : -1152921504606846976 ≤ p.bu
  bu1 : p.bu ≤ 1152921504606846976
  th : p.th ≤ 1152921504606846976
  pe : -1152921504606846976 ≤ p.pe
  th0 : -1152921504606846976 ≤ p.th
  pe1 : p.pe ≤ 1152921504606846976
  len : p.l.length ≤ 1048576
theorem Good.tame {p : Pool} (h : Good p) : Tame p := by
  obtain ⟨m, hm, h0, h1, h2, h3⟩ := h.most
  have n1 := h.n1
  have p1 := h.pe1
  have p0 := h.pe0
  have t1 := h.th1
  have t0 := h.th0
  refine ⟨by omega, by omega, ?_, by omega, by omega, by omega, by omega⟩
  cases e : p.em
  · rw [e] at t1; simp only [Bool.false_eq_true, if_false] at t1; omega
  · rw [e] at t1; simp only [if_true] at t1; omega
end Go.Proofs.Ytemffnpliflkgaa
