/-
  Lemmas and contracts on the way to the laws of this seat; each theorem states its own conditions, and there are no others.
-/
import Derived.Test.YtenfpjponaaolaaE28
namespace Go.Proofs.Ytenfpjponaaolaa
open Go Go.RowKit
set_option linter.unusedVariables false
set_option linter.unusedSimpArgs false

/-- A pool's cells; its slice is told apart. -/
def poolAV (p : Pool) (sl : AV) : AV := .agg [.int .i64 p.g, .int .i64 p.q, .int .i64 p.bu, .int .i64 p.s, .int .i64 p.le, sl, .int .i64 p.sp, .int .i64 p.pe, .int .i64 p.th, .bool p.em]
def getPool : AV → Option Pool
  | .agg [.int .i64 g, .int .i64 q, .int .i64 bu, .int .i64 s, .int .i64 le, L, .int .i64 sp, .int .i64 pe, .int .i64 th, em] => match getL 0 L, em.asB with
    | some l, some em => some ⟨g, q, bu, s, le, l, sp, pe, th, em⟩
    | _, _ => none
  | _ => none
theorem rel_get {w : World} {S S' : SS} {μ : MM} {l l' : List AV} {x : Value} (hl : l.length = l'.length) (h : ∀ i, i < l.length → ∀ y, VRel w S μ (l.getD i .undef) y → VRel w S' μ (l'.getD i .undef) y) (hx : VRel w S μ (.agg l) x) : VRel w S' μ (.agg l') x := by
  obtain ⟨vs, h1, h2, rfl⟩ := hx.agg_inv
  exact .agg (by omega) fun i hi => h i (by omega) _ (h2 i (by omega))
def pkPool : PK Pool where
  get := getPool
  put := fun p => poolAV p (.irec false 0 p.l)
  ok := fun v p h w S μ x hS hx => by
    unfold getPool at h
    split at h
    · rename_i g q bu s le L sp pe th em
      split at h
      · rename_i l em' h1 h2
        cases h
        refine rel_get (by rfl) (fun i hi y hy => ?_) hx
        match i, hi with
        | 0, _ => exact hy
        | 1, _ => exact hy
        | 2, _ => exact hy
        | 3, _ => exact hy
        | 4, _ => exact hy
        | 5, _ => exact getL_rel h1 hS hy
        | 6, _ => exact hy
        | 7, _ => exact hy
        | 8, _ => exact hy
        | 9, _ =>
          have hy' : VRel w S μ em y := hy
          have := asB_rel hy' h2
          subst this
          exact .bool em'
      · cases h
    · cases h

def pkInts : PK (List Int) := pkL 0
def pkIntsP : PK (List Int) := pkLP 0
/-- Dice: the numbers, and the place. -/
def diceO (d : List Int × Int) : OB := .cells 43 [.irec true 0 d.1, .int .i64 d.2]
def getDice : OB → Option (List Int × Int)
  | .cells t [.irec true 0 l, .int .i64 n] => bif Nat.beq t 43 then some (l, n) else none
  | _ => none
theorem getDice_spec (o : OB) (d : List Int × Int) (h : getDice o = some d) : o = diceO d := by
  unfold getDice at h
  split at h
  · rename_i t l n
    by_cases e : Nat.beq t 43 = true
    · rw [e, cond_true] at h
      cases h
      rw [Nat.eq_of_beq_eq_true e]
      rfl
    · simp only [Bool.not_eq_true] at e
      rw [e, cond_false] at h
      cases h
  · cases h
def Sig.dice {X : Type} (s : Sig X) (hs : ∀ x, s.boxes x = []) : Sig ((List Int × Int) × X) := Sig.box getDice diceO getDice_spec s hs



/-- A well-formed pool. -/
structure Good (p : Pool) : Prop where
  g0 : 1 ≤ p.g
  g1 : p.g ≤ 2147483647
  lim : (p.q = 4611686018427387904 ∧ p.bu = 0 ∧ p.le = 0 ∧ (∀ x ∈ p.l, x = 0)) ∨ (p.q ≠ 4611686018427387904 ∧ 1 ≤ p.q ∧ p.q ≤ 1000000 ∧ 0 ≤ p.bu ∧ p.bu ≤ p.q ∧ 0 ≤ p.le ∧ (∀ x ∈ p.l, 0 ≤ x) ∧ p.le + p.l.sum ≤ p.q + p.bu)
  s0 : 1 ≤ p.s
  s1 : p.s ≤ 1000000
  n0 : 1 ≤ p.l.length
  n1 : p.l.length ≤ 16
  sp0 : 0 ≤ p.sp
  sp1 : p.sp ≤ 1099511627776
  pe0 : 0 ≤ p.pe
  pe1 : p.pe ≤ 1099511627776
  th0 : 0 ≤ p.th
  th1 : p.th ≤ if p.em then p.pe else p.pe - 1
/-- What sums need. -/
structure Small (n : Int) (l : List Int) : Prop where
  n0 : 0 ≤ n
  l0 : ∀ x ∈ l, 0 ≤ x
  up : n + l.sum ≤ 1152921504606846976
  len : l.length ≤ 1099511627776
/-- Quota and burst are as they must be. -/
def Rates (p : Pool) : Prop := (p.q = 4611686018427387904 ∧ p.bu = 0) ∨ (p.q ≠ 4611686018427387904 ∧ 1 ≤ p.q ∧ p.q ≤ 1000000 ∧ 0 ≤ p.bu ∧ p.bu ≤ p.q)


abbrev one {α : Type} (k : PK α) : Sig (α × Unit) := Sig.cons k Sig.nil
abbrev two {α β : Type} (k : PK α) (k' : PK β) : Sig (α × β × Unit) := Sig.cons k (one k')
abbrev three {α β γ : Type} (k : PK α) (k' : PK β) (k'' : PK γ) : Sig (α × β × γ × Unit) := Sig.cons k (two k' k'')
abbrev nou {X : Type} : X → List (Nat × OB) := fun _ => []
/-- A pool that is returned has a row of its own. -/
def ret (p : Pool) : AV := poolAV p (.own 101 0)
def row (p : Pool) : List (Nat × OB) := [(101, .rows 3 0 p.l)]

def sWithin : DS := ⟨_, (three pkI pkI pkI), (fun _ => True), (fun x => .bool (decide (x.2.1 ≤ x.1) && decide (x.1 ≤ x.2.2.1))), nou⟩
def sLimited : DS := ⟨_, (one pkPool), (fun _ => True), (fun x => .bool (!decide (x.1.q = 4611686018427387904))), nou⟩
def sRates : DS := ⟨_, (one pkPool), (fun x => Rates x.1), (fun _ => .bool true), nou⟩
def sSum : DS := ⟨_, (two pkI pkInts), (fun x => Small x.1 x.2.1), (fun x => .int .i64 (x.1 + x.2.1.sum)), nou⟩
def sHeld : DS := ⟨_, (one pkPool), (fun x => Small x.1.le x.1.l), (fun x => .int .i64 (x.1.le + x.1.l.sum)), nou⟩
def sGood : DS := ⟨_, (one pkPool), (fun x => Good x.1), (fun _ => .bool true), nou⟩
def sUsable : DS := ⟨_, (two pkPool pkI), (fun x => Good x.1 ∧ 0 ≤ x.2.1 ∧ x.2.1 < x.1.l.length), (fun _ => .int .i64 0), nou⟩
def sRoom : DS := ⟨_, (two pkPool pkI), (fun x => Good x.1 ∧ 0 ≤ x.2.1 ∧ x.2.1 < x.1.l.length), (fun x => .int .i64 (if x.1.q = 4611686018427387904 then 1099511627776 else x.1.le + x.1.l.getD x.2.1.toNat 0)), nou⟩
def sClone : DS := ⟨_, (one pkInts), (fun x => x.1.length ≤ 1048576), (fun _ => .own 101 0), (fun x => [(101, .rows 3 0 x.1)])⟩
def sCopied : DS := ⟨_, (one pkPool), (fun x => x.1.l.length ≤ 1048576), (fun x => ret x.1), (fun x => row x.1)⟩
end Go.Proofs.Ytenfpjponaaolaa
