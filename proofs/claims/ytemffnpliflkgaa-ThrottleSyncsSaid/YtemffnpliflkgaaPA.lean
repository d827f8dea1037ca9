/-
  Lemmas and contracts on the way to the laws of this seat; each theorem states its own conditions, and there are no others.
-/
import Derived.Test.YtemffnpliflkgaaE29
import Derived.Test.YtemffnpliflkgaaT2
namespace Go.Proofs.Ytemffnpliflkgaa
open Go Go.RowKit
set_option linter.unusedVariables false
set_option linter.unusedSimpArgs false

def pkInts : PK (List Int) := pkL 0
def pkIntsP : PK (List Int) := pkLP 0
/-- Dice: the numbers, and the place. -/
def diceO (d : List Int × Int) : OB := .cells 93 [.irec true 0 d.1, .int .i64 d.2]
def getDice : OB → Option (List Int × Int)
  | .cells t [.irec true 0 l, .int .i64 n] => bif Nat.beq t 93 then some (l, n) else none
  | _ => none
theorem getDice_spec (o : OB) (d : List Int × Int) (h : getDice o = some d) : o = diceO d := by
  unfold getDice at h
  split at h
  · rename_i t l n
    by_cases e : Nat.beq t 93 = true
    · rw [e, cond_true] at h
      cases h
      rw [Nat.eq_of_beq_eq_true e]
      rfl
    · simp only [Bool.not_eq_true] at e
      rw [e, cond_false] at h
      cases h
  · cases h
def Sig.dice {X : Type} (s : Sig X) (hs : ∀ x, s.boxes x = []) : Sig ((List Int × Int) × X) := Sig.box getDice diceO getDice_spec s hs
abbrev one {α : Type} (k : PK α) : Sig (α × Unit) := Sig.cons k Sig.nil
abbrev two {α β : Type} (k : PK α) (k' : PK β) : Sig (α × β × Unit) := Sig.cons k (one k')
abbrev three {α β γ : Type} (k : PK α) (k' : PK β) (k'' : PK γ) : Sig (α × β × γ × Unit) := Sig.cons k (two k' k'')
abbrev four {α β γ δ : Type} (k : PK α) (k' : PK β) (k'' : PK γ) (k3 : PK δ) : Sig (α × β × γ × δ × Unit) := Sig.cons k (three k' k'' k3)
abbrev five {α β γ δ ε : Type} (k : PK α) (k' : PK β) (k'' : PK γ) (k3 : PK δ) (k4 : PK ε) : Sig (α × β × γ × δ × ε × Unit) := Sig.cons k (four k' k'' k3 k4)
abbrev nou {X : Type} : X → List (Nat × OB) := fun _ => []

/-- A tree. -/
def treeV (t : List Nod × Int) : AV := .agg [.irec false 3 t.1, .int .i64 t.2]
def getTree : AV → Option (List Nod × Int)
  | .agg [v, .int .i64 n] => (match getL 3 v with
    | some l => some (l, n)
    | none => none)
  | _ => none
def pkTree : PK (List Nod × Int) where
  get := getTree
  put := treeV
  ok := fun v a h w S μ x hS hx => by
    unfold getTree at h
    split at h
    · rename_i u n
      split at h
      · rename_i l hl
        cases h
        obtain ⟨vs, h1, h2, rfl⟩ := hx.agg_inv
        refine .agg (by simpa using h1) fun i hi => ?_
        match i, hi with
        | 0, _ => exact getL_rel hl hS (h2 0 (by simp))
        | 1, _ => exact h2 1 (by simp)
        | k + 2, h => exact absurd h (by simp)
      · cases h
    · cases h
/-- A node. -/
def nodV (x : Nod) : AV := .agg [.int .i64 x.id, .int .i64 x.parent, .str x.name, .int .i64 x.control, .int .i64 x.kind, .int .i64 x.owner]
def getNod : AV → Option Nod
  | .agg [.int .i64 a, .int .i64 b, .str c, .int .i64 d, .int .i64 e, .int .i64 f] => some ⟨a, b, c, d, e, f⟩
  | _ => none
def pkNod : PK Nod where
  get := getNod
  put := nodV
  ok := fun v a h w S μ x _ hx => by
    unfold getNod at h
    split at h
    · cases h; exact hx
    · cases h
abbrev pkNods : PK (List Nod) := pkL 3

/-- Dice that can be thrown. -/
structure DOK (d : List Int × Int) : Prop where
  lo : 0 ≤ d.2
  hi : d.2 ≤ d.1.length
  len : d.1.length ≤ 600

/-- Results of the functions on trees. -/
def findR (l : List Nod) (n g : Int) : Nod := if chkB l n = true then (findN l g).getD nz else nz
def hasR (l : List Nod) (n g : Int) : Bool := chkB l n && hasB l g
def ancR (l : List Nod) (n g : Int) : List Int := if hasR l n g = true then upT l g else []
def chnR (l : List Nod) (n g : Int) : List Int := if hasR l n g = true then chn l g else []
def addE (l : List Nod) (n p : Int) (s : ByteArray) : Int :=
  if chkB l n = false ∨ nameB s = false then 1 else if hasR l n p = false then 4 else if soleB l l.length p s = false then 5 else if ((ancR l n p).length : Int) - 1 ≥ 8 ∨ (l.length : Int) ≥ 64 ∨ n > 2147483647 then 7 else 0
def addL (l : List Nod) (n p : Int) (s : ByteArray) : List Nod := if addE l n p s = 0 then l ++ [⟨n, p, s, 0, 0, 0⟩] else []
def addN (l : List Nod) (n p : Int) (s : ByteArray) : Int := if addE l n p s = 0 then n + 1 else 0
def addI (l : List Nod) (n p : Int) (s : ByteArray) : Int := if addE l n p s = 0 then n else 0
def rmE (l : List Nod) (n g : Int) : Int := if chkB l n = false then 1 else if hasR l n g = false then 4 else if g = 1 then 9 else if ((chnR l n g).length : Int) > 0 then 6 else 0
def rmL (l : List Nod) (n g : Int) : List Nod := if rmE l n g = 0 then l.filter (fun x => !decide (x.id = g)) else []
def rmN (l : List Nod) (n g : Int) : Int := if rmE l n g = 0 then n else 0
/-- The names that are made. -/
def wordsS : List ByteArray := [⟨#[97]⟩, ⟨#[98]⟩, ⟨#[99]⟩, ⟨#[119, 101, 98]⟩, ⟨#[100, 98, 45, 49]⟩, ⟨#[88, 95, 57]⟩]
theorem words_name : ∀ s ∈ wordsS, nameB s = true := by decide
/-- A tree that is made. -/
structure TreeP (l : List Nod) (n : Int) : Prop where
  chk : ChkP l n
  word : ∀ x ∈ l, x.name = ByteArray.empty ∨ x.name ∈ wordsS

theorem bytes_nil {s : ByteArray} : (bytesOf s).length = 0 ↔ s = { data := (NilL UInt8).toArray : ByteArray } := by
  constructor
  · intro h
    rw [← size_bytes] at h
    have h2 : s.data.size = 0 := h
    obtain ⟨d⟩ := s
    simp at h2
    rw [h2]; rfl
  · intro h; rw [h]; rfl
theorem str_empty (s : ByteArray) : decide (s = { data := (NilL UInt8).toArray : ByteArray }) = decide ((bytesOf s).length = 0) := by
  rw [decide_eq_decide]
  exact bytes_nil.symm
/-- A pool's cells; its slice is told apart. -/
def poolAV (p : Pool) (sl : AV) : AV := .agg [.int .i64 p.g, .int .i64 p.q, .int .i64 p.bu, .int .i64 p.s, .int .i64 p.le, sl, .int .i64 p.sp, .int .i64 p.pe, .int .i64 p.th, .bool p.em]
def getPool : AV → Option Pool
  | .agg [.int .i64 g, .int .i64 q, .int .i64 bu, .int .i64 s, .int .i64 le, L, .int .i64 sp, .int .i64 pe, .int .i64 th, em] => match getL 0 L, em.asB with
    | some l, some em => some ⟨g, q, bu, s, le, l, sp, pe, th, em⟩
    | _, _ => none
  | _ => none
theorem rel_get {w : World} {S S' : SS} {μ : MM} {l l' : List AV} {x : Value} (hl : l.length = l'.length) (h : ∀ i, i < l.length → ∀ y, VRel w S μ (l.getD i .undef) y → VRel w S' μ (l'.getD i .undef) y) (hx : VRel w S μ (.agg l) x) : VRel w S' μ (.agg l') x := by
  obtain ⟨vs, h1, h2, rfl⟩ := hx.agg_inv
  exact .agg (by omega) fun i hi => h i (by omega) _ (h2 i (by omega))
def pkPool : PK Pool where
  get := getPool
  put := fun p => poolAV p (.irec false 0 p.l)
  ok := fun v p h w S μ x hS hx => by
    unfold getPool at h
    split at h
    · rename_i g q bu s le L sp pe th em
      split at h
      · rename_i l em' h1 h2
        cases h
        refine rel_get (by rfl) (fun i hi y hy => ?_) hx
        match i, hi with
        | 0, _ => exact hy
        | 1, _ => exact hy
        | 2, _ => exact hy
        | 3, _ => exact hy
        | 4, _ => exact hy
        | 5, _ => exact getL_rel h1 hS hy
        | 6, _ => exact hy
        | 7, _ => exact hy
        | 8, _ => exact hy
        | 9, _ =>
          have hy' : VRel w S μ em y := hy
          have := asB_rel hy' h2
          subst this
          exact .bool em'
      · cases h
    · cases h

/-- A well-formed pool. -/
structure Good (p : Pool) : Prop where
  g0 : 1 ≤ p.g
  g1 : p.g ≤ 2147483647
  lim : (p.q = 4611686018427387904 ∧ p.bu = 0 ∧ p.le = 0 ∧ (∀ x ∈ p.l, x = 0)) ∨ (p.q ≠ 4611686018427387904 ∧ 1 ≤ p.q ∧ p.q ≤ 1000000 ∧ 0 ≤ p.bu ∧ p.bu ≤ p.q ∧ 0 ≤ p.le ∧ (∀ x ∈ p.l, 0 ≤ x) ∧ p.le + p.l.sum ≤ p.q + p.bu)
  s0 : 1 ≤ p.s
  s1 : p.s ≤ 1000000
  n0 : 1 ≤ p.l.length
  n1 : p.l.length ≤ 16
  sp0 : 0 ≤ p.sp
  sp1 : p.sp ≤ 1099511627776
  pe0 : 0 ≤ p.pe
  pe1 : p.pe ≤ 1099511627776
  th0 : 0 ≤ p.th
  th1 : p.th ≤ if p.em then p.pe else p.pe - 1
/-- What sums need. -/
structure Small (n : Int) (l : List Int) : Prop where
  n0 : 0 ≤ n
  l0 : ∀ x ∈ l, 0 ≤ x
  up : n + l.sum ≤ 1152921504606846976
  len : l.length ≤ 1099511627776
/-- Quota and burst are as they must be. -/
def Rates (p : Pool) : Prop := (p.q = 4611686018427387904 ∧ p.bu = 0) ∨ (p.q ≠ 4611686018427387904 ∧ 1 ≤ p.q ∧ p.q ≤ 1000000 ∧ 0 ≤ p.bu ∧ p.bu ≤ p.q)


/-- A pool that is returned has a row of its own. -/
def ret (p : Pool) : AV := poolAV p (.own 101 0)
def row (p : Pool) : List (Nat × OB) := [(101, .rows 3 0 p.l)]
abbrev pkPools : PK (List Pool) := pkL 4
end Go.Proofs.Ytemffnpliflkgaa
