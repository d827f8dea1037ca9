/-
  Lemmas and contracts on the way to the laws of this seat; each theorem states its own conditions, and there are no others.
-/
import Derived.Test.YtemffnpliflkgaaTS
import Derived.Test.YtemffnpliflkgaaPB
namespace Go.Proofs.Ytemffnpliflkgaa
open Go Go.RowKit
set_option linter.unusedVariables false
set_option linter.unusedSimpArgs false
set_option linter.unusedVariables false

theorem up64 {l : List Nod} {n : Int} (hc : ChkP l n) (g : Int) : (upT l g).length ≤ 64 := by
  by_cases c : g ∈ ids l
  · obtain ⟨i, hi, e⟩ := ids_mem.1 c
    have := hc.up_len hi
    rw [e] at this; omega
  · rw [upT_none c]; simp
/-- Settings: the cells; the slices are told apart. -/
def stgAV (s : Stg) (a b c : AV) : AV := .agg [.int .i64 s.pids, .int .i64 s.weight, .int .i64 s.quota, .int .i64 s.period, .int .i64 s.burst, .int .i64 s.cmin, .int .i64 s.cmax, a, b, .int .i64 s.part, .int .i64 s.mmin, .int .i64 s.mlow, .int .i64 s.mhigh, .int .i64 s.mmax, .int .i64 s.mswap, .bool s.mtog, c]
def getStg : AV → Option Stg
  | .agg [.int .i64 a0, .int .i64 a1, .int .i64 a2, .int .i64 a3, .int .i64 a4, .int .i64 a5, .int .i64 a6, A, B, .int .i64 a9, .int .i64 a10, .int .i64 a11, .int .i64 a12, .int .i64 a13, .int .i64 a14, t, C] => match getL 0 A, getL 0 B, t.asB, getL 5 C with
    | some a, some b, some t, some c => some ⟨a0, a1, a2, a3, a4, a5, a6, a, b, a9, a10, a11, a12, a13, a14, t, c⟩
    | _, _, _, _ => none
  | _ => none
def pkStg : PK Stg where
  get := getStg
  put := fun s => stgAV s (.irec false 0 s.cpus) (.irec false 0 s.mems) (.irec false 5 s.devs)
  ok := fun v p h w S μ x hS hx => by
    unfold getStg at h
    split at h
    · rename_i a0 a1 a2 a3 a4 a5 a6 A B a9 a10 a11 a12 a13 a14 t C
      split at h
      · rename_i a b t' c h1 h2 h3 h4
        cases h
        refine rel_get (by rfl) (fun i hi y hy => ?_) hx
        match i, hi with
        | 0, _ => exact hy
        | 1, _ => exact hy
        | 2, _ => exact hy
        | 3, _ => exact hy
        | 4, _ => exact hy
        | 5, _ => exact hy
        | 6, _ => exact hy
        | 7, _ => exact getL_rel h1 hS hy
        | 8, _ => exact getL_rel h2 hS hy
        | 9, _ => exact hy
        | 10, _ => exact hy
        | 11, _ => exact hy
        | 12, _ => exact hy
        | 13, _ => exact hy
        | 14, _ => exact hy
        | 15, _ =>
          have hy' : VRel w S μ t y := hy
          have := asB_rel hy' h3
          subst this
          exact .bool t'
        | 16, _ => exact getL_rel h4 hS hy
        | k + 17, h => exact absurd h (by simp)
      · cases h
    · cases h
/-- Settings for memory. -/
abbrev Mem := Int × Int × Int × Int × Int × Bool
def memAV (m : Mem) : AV := .agg [.int .i64 m.1, .int .i64 m.2.1, .int .i64 m.2.2.1, .int .i64 m.2.2.2.1, .int .i64 m.2.2.2.2.1, .bool m.2.2.2.2.2]
def getMem : AV → Option Mem
  | .agg [.int .i64 a0, .int .i64 a1, .int .i64 a2, .int .i64 a3, .int .i64 a4, t] => match t.asB with
    | some t => some (a0, a1, a2, a3, a4, t)
    | _ => none
  | _ => none
def pkMem : PK Mem where
  get := getMem
  put := memAV
  ok := fun v p h w S μ x hS hx => by
    unfold getMem at h
    split at h
    · rename_i a0 a1 a2 a3 a4 t
      split at h
      · rename_i t' h3
        cases h
        refine rel_get (by rfl) (fun i hi y hy => ?_) hx
        match i, hi with
        | 0, _ => exact hy
        | 1, _ => exact hy
        | 2, _ => exact hy
        | 3, _ => exact hy
        | 4, _ => exact hy
        | 5, _ =>
          have hy' : VRel w S μ t y := hy
          have := asB_rel hy' h3
          subst this
          exact .bool t'
      · cases h
    · cases h
abbrev pkDevs : PK (List Dev) := pkL 5
abbrev pkCfgs : PK (List Cfg) := pkL 6
/-- A group and its settings. -/
def cfgAV (c : Cfg) (a b d : AV) : AV := .agg [.int .i64 c.grp, .int .i64 c.pids, .int .i64 c.weight, .int .i64 c.quota, .int .i64 c.period, .int .i64 c.burst, .int .i64 c.cmin, .int .i64 c.cmax, a, b, .int .i64 c.part, .int .i64 c.mmin, .int .i64 c.mlow, .int .i64 c.mhigh, .int .i64 c.mmax, .int .i64 c.mswap, .bool c.mtog, d]
def getCfg : AV → Option Cfg
  | .agg [.int .i64 g, .int .i64 a0, .int .i64 a1, .int .i64 a2, .int .i64 a3, .int .i64 a4, .int .i64 a5, .int .i64 a6, A, B, .int .i64 a9, .int .i64 a10, .int .i64 a11, .int .i64 a12, .int .i64 a13, .int .i64 a14, t, C] => match getL 0 A, getL 0 B, t.asB, getL 5 C with
    | some a, some b, some t, some c => some ⟨g, a0, a1, a2, a3, a4, a5, a6, a, b, a9, a10, a11, a12, a13, a14, t, c⟩
    | _, _, _, _ => none
  | _ => none
def pkCfg : PK Cfg where
  get := getCfg
  put := fun s => cfgAV s (.irec false 0 s.cpus) (.irec false 0 s.mems) (.irec false 5 s.devs)
  ok := fun v p h w S μ x hS hx => by
    unfold getCfg at h
    split at h
    · rename_i g a0 a1 a2 a3 a4 a5 a6 A B a9 a10 a11 a12 a13 a14 t C
      split at h
      · rename_i a b t' c h1 h2 h3 h4
        cases h
        refine rel_get (by rfl) (fun i hi y hy => ?_) hx
        match i, hi with
        | 0, _ => exact hy
        | 1, _ => exact hy
        | 2, _ => exact hy
        | 3, _ => exact hy
        | 4, _ => exact hy
        | 5, _ => exact hy
        | 6, _ => exact hy
        | 7, _ => exact hy
        | 8, _ => exact getL_rel h1 hS hy
        | 9, _ => exact getL_rel h2 hS hy
        | 10, _ => exact hy
        | 11, _ => exact hy
        | 12, _ => exact hy
        | 13, _ => exact hy
        | 14, _ => exact hy
        | 15, _ => exact hy
        | 16, _ =>
          have hy' : VRel w S μ t y := hy
          have := asB_rel hy' h3
          subst this
          exact .bool t'
        | 17, _ => exact getL_rel h4 hS hy
        | k + 18, h => exact absurd h (by simp)
      · cases h
    · cases h
/-- Settings that are returned: the rows are fixed for good. -/
def retS (s : Stg) : AV := stgAV s (.irec true 0 s.cpus) (.irec true 0 s.mems) (.irec true 5 s.devs)
def rowS (s : Stg) : List (Nat × OB) := []

def cst (c : Cfg) : Stg := ⟨c.pids, c.weight, c.quota, c.period, c.burst, c.cmin, c.cmax, c.cpus, c.mems, c.part, c.mmin, c.mlow, c.mhigh, c.mmax, c.mswap, c.mtog, c.devs⟩
def cfgS (g : Int) (s : Stg) : Cfg := ⟨g, s.pids, s.weight, s.quota, s.period, s.burst, s.cmin, s.cmax, s.cpus, s.mems, s.part, s.mmin, s.mlow, s.mhigh, s.mmax, s.mswap, s.mtog, s.devs⟩
theorem cst_cfg (g : Int) (s : Stg) : cst (cfgS g s) = s := rfl
theorem cfg_cst (c : Cfg) : cfgS c.grp (cst c) = c := rfl
/-- The settings of a new group, and no settings at all. -/
def dS : Stg := ⟨4611686018427387904, 100, 4611686018427387904, 100000, 0, 0, 10000, [], [], 0, 0, 0, 4611686018427387904, 4611686018427387904, 4611686018427387904, false, []⟩
def zS : Stg := ⟨0, 0, 0, 0, 0, 0, 0, [], [], 0, 0, 0, 0, 0, 0, false, []⟩
def zC : Cfg := cfgS 0 zS
def inB (n a b : Int) : Bool := decide (a ≤ n) && decide (n ≤ b)
def amB (n a b : Int) : Bool := decide (a ≤ n) && decide (n ≤ b) || decide (n = 4611686018427387904)
def mmB (m : Mem) : Bool := amB m.1 0 1099511627776 && amB m.2.1 0 1099511627776 && amB m.2.2.1 0 1099511627776 && amB m.2.2.2.1 0 1099511627776 && amB m.2.2.2.2.1 0 1099511627776
def set1 (l : List Int) (n : Int) (i : Nat) : Bool := decide (0 ≤ l.getD i 0) && decide (l.getD i 0 < n) && (decide (i = 0) || decide (l.getD (i - 1) 0 < l.getD i 0))
def setB (l : List Int) (n : Int) : Bool := (List.range l.length).all (set1 l n)
theorem setB_iff {l : List Int} {n : Int} : setB l n = true ↔ ∀ i, i < l.length → set1 l n i = true := by simp [setB]
theorem setB_no {l : List Int} {n : Int} {i : Nat} (hi : i < l.length) (h : ¬ set1 l n i = true) : false = setB l n := by
  cases e : setB l n
  · rfl
  · exact absurd (setB_iff.1 e i hi) h
def zD : Dev := ⟨0, 0, 0, 0, 0, 0, 0⟩
def dn (l : List Dev) (i : Nat) : Dev := l.getD i zD
theorem dn_fold (l : List Dev) (k : Nat) : l.getD k ⟨0, 0, 0, 0, 0, 0, 0⟩ = dn l k := rfl
def dev1 (l : List Dev) (i : Nat) : Bool := decide (0 ≤ (dn l i).dev) && decide ((dn l i).dev < 8) && (decide (i = 0) || decide ((dn l (i - 1)).dev < (dn l i).dev)) && inB (dn l i).weight 1 10000 && amB (dn l i).rp 1 1073741824 && amB (dn l i).wp 1 1073741824 && amB (dn l i).ro 1 1073741824 && amB (dn l i).wo 1 1073741824 && inB (dn l i).tgt 0 1048576
def devB (l : List Dev) : Bool := (List.range l.length).all (dev1 l) && decide (l.length ≤ 8)
theorem devB_iff {l : List Dev} : devB l = true ↔ (∀ i, i < l.length → dev1 l i = true) ∧ l.length ≤ 8 := by simp [devB]
theorem devB_no {l : List Dev} {i : Nat} (hi : i < l.length) (h : ¬ dev1 l i = true) : false = devB l := by
  cases e : devB l
  · rfl
  · exact absurd ((devB_iff.1 e).1 i hi) h
def bandB (s : Stg) : Bool := inB s.period 1 1000000 && (if s.quota = 4611686018427387904 then decide (s.burst = 0) else inB s.quota 1 1000000 && inB s.burst 0 s.quota)
def chkS (s : Stg) : Bool := (decide (s.pids = 4611686018427387904) || inB s.pids 0 1099511627776) && inB s.weight 1 10000 && bandB s && inB s.cmin 0 10000 && inB s.cmax 0 10000 && setB s.cpus 16 && setB s.mems 8 && inB s.part 0 1 && mmB (s.mmin, s.mlow, s.mhigh, s.mmax, s.mswap, s.mtog) && devB s.devs
def eqI (a b : List Int) : Bool := decide (a = b)
def eqD (a b : List Dev) : Bool := decide (a = b)
def eqM (a b : Mem) : Bool := decide (a.1 = b.1) && (decide (a.2.1 = b.2.1) && (decide (a.2.2.1 = b.2.2.1) && (decide (a.2.2.2.1 = b.2.2.2.1) && (decide (a.2.2.2.2.1 = b.2.2.2.2.1) && (decide (a.2.2.2.2.2 = b.2.2.2.2.2) && true)))))
def eqS (a b : Stg) : Bool := decide (a.pids = b.pids) && decide (a.weight = b.weight) && decide (a.quota = b.quota) && decide (a.period = b.period) && decide (a.burst = b.burst) && decide (a.cmin = b.cmin) && decide (a.cmax = b.cmax) && eqI a.cpus b.cpus && eqI a.mems b.mems && decide (a.part = b.part) && eqM (a.mmin, a.mlow, a.mhigh, a.mmax, a.mswap, a.mtog) (b.mmin, b.mlow, b.mhigh, b.mmax, b.mswap, b.mtog) && eqD a.devs b.devs
theorem eqS_iff {a b : Stg} : eqS a b = true ↔ a = b := by
  cases a; cases b
  simp only [eqS, eqI, eqD, eqM, Bool.and_eq_true, decide_eq_true_eq, and_true, Stg.mk.injEq]
  constructor
  · rintro ⟨⟨⟨⟨⟨⟨⟨⟨⟨⟨⟨h1, h2⟩, h3⟩, h4⟩, h5⟩, h6⟩, h7⟩, h8⟩, h9⟩, h10⟩, h11, h12, h13, h14, h15, h16⟩, h17⟩
    exact ⟨h1, h2, h3, h4, h5, h6, h7, h8, h9, h10, h11, h12, h13, h14, h15, h16, h17⟩
  · rintro ⟨h1, h2, h3, h4, h5, h6, h7, h8, h9, h10, h11, h12, h13, h14, h15, h16, h17⟩
    exact ⟨⟨⟨⟨⟨⟨⟨⟨⟨⟨⟨h1, h2⟩, h3⟩, h4⟩, h5⟩, h6⟩, h7⟩, h8⟩, h9⟩, h10⟩, h11, h12, h13, h14, h15, h16⟩, h17⟩
theorem eqS_refl (a : Stg) : eqS a a = true := eqS_iff.2 rfl
theorem nx {P : Nat → Prop} {x : Int} (h0 : 0 ≤ x) (h : ∀ j : Nat, (j : Int) < x → P j) (hx : P x.toNat) : ∀ j : Nat, (j : Int) < x + 1 → P j := fun j hj => by
  by_cases e : (j : Int) < x
  · exact h j e
  · have : j = x.toNat := by omega
    rw [this]; exact hx
theorem eqI_no {a b : List Int} (h : ¬ a = b) : false = eqI a b := by simp [eqI, h]
theorem eqI_yes {a b : List Int} (h1 : a.length = b.length) (h : ∀ j : Nat, j < a.length → a.getD j 0 = b.getD j 0) : true = eqI a b := by
  have : a = b := by
    apply List.ext_getElem h1
    intro i h2 h3
    have := h i h2
    simpa [List.getD_eq_getElem?_getD, h2, h3] using this
  simp [eqI, this]
theorem dn_get {l : List Dev} {i : Nat} (h : i < l.length) : dn l i = l[i] := by simp [dn, List.getD_eq_getElem?_getD, h]
theorem eqD_no {a b : List Dev} (h : ¬ a = b) : false = eqD a b := by simp [eqD, h]
theorem eqD_yes {a b : List Dev} (h1 : a.length = b.length) (h : ∀ j : Nat, j < a.length → dn a j = dn b j) : true = eqD a b := by
  have : a = b := by
    apply List.ext_getElem h1
    intro i h2 h3
    have := h i h2
    rwa [dn_get h2, dn_get h3] at this
  simp [eqD, this]
theorem dev_ext {a b : Dev} (h : a.dev = b.dev ∧ a.weight = b.weight ∧ a.rp = b.rp ∧ a.wp = b.wp ∧ a.ro = b.ro ∧ a.wo = b.wo ∧ a.tgt = b.tgt) : a = b := by
  cases a; cases b; simpa using h
/-- Lists are short enough for Go. -/
def SOk (s : Stg) : Prop := s.cpus.length ≤ 1048576 ∧ s.mems.length ≤ 1048576 ∧ s.devs.length ≤ 1048576
def CL (l : List Cfg) : Prop := (∀ c ∈ l, SOk (cst c)) ∧ l.length ≤ 1048576
theorem SOk.dS : SOk dS := by simp [SOk, Go.Proofs.Ytemffnpliflkgaa.dS]
theorem SOk.zS : SOk zS := by simp [SOk, Go.Proofs.Ytemffnpliflkgaa.zS]
def cn (l : List Cfg) (i : Nat) : Cfg := l.getD i zC
theorem cn_fold (l : List Cfg) (k : Nat) : l.getD k ⟨0, 0, 0, 0, 0, 0, 0, 0, [], [], 0, 0, 0, 0, 0, 0, false, []⟩ = cn l k := rfl
theorem cn_get {l : List Cfg} {i : Nat} (h : i < l.length) : cn l i = l[i] := by simp [cn, List.getD_eq_getElem?_getD, h]
theorem cn_mem {l : List Cfg} {i : Nat} (h : i < l.length) : cn l i ∈ l := by rw [cn_get h]; exact List.getElem_mem h
theorem mem_cn {l : List Cfg} {x : Cfg} (h : x ∈ l) : ∃ i, i < l.length ∧ cn l i = x := by
  obtain ⟨i, hi, e⟩ := List.getElem_of_mem h
  exact ⟨i, hi, by rw [cn_get hi, e]⟩
theorem take_cn {l : List Cfg} {i : Nat} (h : i < l.length) : l.take (i + 1) = l.take i ++ [cn l i] := by
  rw [List.take_add_one, List.getElem?_eq_getElem h, cn_get h]; rfl
def idxC (l : List Cfg) (g : Int) : Int := match l.findIdx? (fun x => decide (x.grp = g)) with
  | some i => i
  | none => -1
theorem idxC_first {l : List Cfg} {g : Int} {i : Nat} (h : ∀ j, j < i → ¬ (cn l j).grp = g) (hi : i < l.length) (e : (cn l i).grp = g) : idxC l g = i := by
  have : l.findIdx? (fun x => decide (x.grp = g)) = some i := by
    rw [List.findIdx?_eq_some_iff_getElem]
    refine ⟨hi, by rw [← cn_get hi]; simpa using e, fun j hj => ?_⟩
    have := h j hj
    rw [cn_get (by omega)] at this
    simpa using this
  rw [idxC, this]
theorem idxC_all {l : List Cfg} {g : Int} (h : ∀ j, j < l.length → ¬ (cn l j).grp = g) : idxC l g = -1 := by
  have : l.findIdx? (fun x => decide (x.grp = g)) = none := by
    rw [List.findIdx?_eq_none_iff]
    intro x hx
    obtain ⟨i, hi, e⟩ := mem_cn hx
    have := h i hi
    rw [e] at this
    simpa using this
  rw [idxC, this]
theorem idxC_cases (l : List Cfg) (g : Int) : (∃ i : Nat, i < l.length ∧ (cn l i).grp = g ∧ (∀ j, j < i → ¬ (cn l j).grp = g) ∧ idxC l g = i) ∨ ((∀ j, j < l.length → ¬ (cn l j).grp = g) ∧ idxC l g = -1) := by
  by_cases h : ∃ i, i < l.length ∧ (cn l i).grp = g
  · obtain ⟨i, hi, e⟩ := h
    have key : ∀ n i, i = n → i < l.length → (cn l i).grp = g → ∃ k, k < l.length ∧ (cn l k).grp = g ∧ ∀ j, j < k → ¬ (cn l j).grp = g := by
      intro n
      induction n using Nat.strongRecOn with
      | _ n ih =>
        intro i hin hi e
        by_cases h2 : ∃ j, j < i ∧ (cn l j).grp = g
        · obtain ⟨j, hj, ej⟩ := h2
          exact ih j (by omega) j rfl (by omega) ej
        · exact ⟨i, hi, e, fun j hj ej => h2 ⟨j, hj, ej⟩⟩
    obtain ⟨k, hk, ek, h2⟩ := key i i rfl hi e
    exact .inl ⟨k, hk, ek, h2, idxC_first h2 hk ek⟩
  · have h2 : ∀ j, j < l.length → ¬ (cn l j).grp = g := fun j hj e => h ⟨j, hj, e⟩
    exact .inr ⟨h2, idxC_all h2⟩
/-- The settings of a group. -/
def getC (l : List Cfg) (g : Int) : Stg := if idxC l g < 0 then dS else cst (cn l (idxC l g).toNat)
theorem getC_at {l : List Cfg} {g : Int} {i : Nat} (h : ∀ j, j < i → ¬ (cn l j).grp = g) (hi : i < l.length) (e : (cn l i).grp = g) : getC l g = cst (cn l i) := by
  rw [getC, idxC_first h hi e, if_neg (by omega)]; rfl
theorem getC_none {l : List Cfg} {g : Int} (h : ∀ j, j < l.length → ¬ (cn l j).grp = g) : getC l g = dS := by
  rw [getC, idxC_all h, if_pos (by omega)]
theorem getC_ok {l : List Cfg} (h : CL l) (g : Int) : SOk (getC l g) := by
  rcases idxC_cases l g with ⟨i, hi, e, h1, _⟩ | ⟨h1, _⟩
  · rw [getC_at h1 hi e]; exact h.1 _ (cn_mem hi)
  · rw [getC_none h1]; exact .dS
/-- Settings fit a tree. -/
def fit1 (l : List Nod) (c : List Cfg) (i : Nat) : Bool := decide ((cn c i).grp = (nd l i).id) && chkS (cst (cn c i))
def fitB (l : List Nod) (n : Int) (c : List Cfg) : Bool := chkB l n && decide (c.length = l.length) && (List.range l.length).all (fit1 l c)
theorem fitB_iff {l : List Nod} {n : Int} {c : List Cfg} : fitB l n c = true ↔ (chkB l n = true ∧ c.length = l.length) ∧ ∀ i, i < l.length → fit1 l c i = true := by
  simp [fitB]
def setE (l : List Nod) (n : Int) (c : List Cfg) (g : Int) (s : Stg) : Int := if fitB l n c = false then 1 else if idxC c g < 0 then 4 else if chkS s = false then 3 else 0
def setL (l : List Nod) (n : Int) (c : List Cfg) (g : Int) (s : Stg) : List Cfg := if setE l n c g s = 0 then c.set (idxC c g).toNat (cfgS (cn c (idxC c g).toNat).grp s) else []
def adjF (c : List Cfg) (x : Nod) : Cfg := cfgS x.id (getC c x.id)
def adjL (l : List Nod) (n : Int) (c : List Cfg) : List Cfg := if chkB l n = true then l.map (adjF c) else []
/-- The limits of those above. -/
def minS (s x : Stg) : Stg := { s with pids := min s.pids x.pids, quota := min s.quota x.quota, cmax := min s.cmax x.cmax }
def lowF (c : List Cfg) (s : Stg) (up : List Int) : Stg := up.foldl (fun s g => minS s (getC c g)) s
theorem lowF_step {c : List Cfg} {s : Stg} {up : List Int} {i : Nat} (h : i < up.length) : lowF c s (up.take (i + 1)) = minS (lowF c s (up.take i)) (getC c (up.getD i 0)) := by
  have e : up.take (i + 1) = up.take i ++ [up.getD i 0] := by
    rw [List.take_add_one, List.getElem?_eq_getElem h, List.getD_eq_getElem?_getD, List.getElem?_eq_getElem h]; rfl
  rw [e, lowF, List.foldl_append]; rfl
theorem lowF_keep (c : List Cfg) : ∀ (up : List Int) (s : Stg), (lowF c s up).cpus = s.cpus ∧ (lowF c s up).mems = s.mems ∧ (lowF c s up).devs = s.devs
  | [], s => ⟨rfl, rfl, rfl⟩
  | g :: r, s => by
    have := lowF_keep c r (minS s (getC c g))
    exact this
theorem fit1_no {l : List Nod} {n : Int} {c : List Cfg} {i : Nat} (hi : i < l.length) (h : ¬ fit1 l c i = true) : false = fitB l n c := by
  cases e : fitB l n c
  · rfl
  · exact absurd ((fitB_iff.1 e).2 i hi) h
def lowE (s : Stg) : Stg := { s with cmin := min s.cmin s.cmax }
def lowS (l : List Nod) (n : Int) (c : List Cfg) (g : Int) : Stg := if hasR l n g = true ∧ fitB l n c = true then lowE (lowF c (getC c g) (upT l g)) else zS
end Go.Proofs.Ytemffnpliflkgaa
