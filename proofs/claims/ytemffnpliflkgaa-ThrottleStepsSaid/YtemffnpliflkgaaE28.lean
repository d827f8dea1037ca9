/-
  Lemmas and contracts on the way to the laws of this seat; each theorem states its own conditions, and there are no others.
-/
import Derived.Test.YtemffnpliflkgaaE27
namespace Go.Proofs.Ytemffnpliflkgaa
open Go Go.RowKit
set_option linter.unusedVariables false
set_option linter.unusedSimpArgs false

/-- A kind of parameter: how it is read, and the form in which a function is shown it. -/
structure PK (α : Type) where
  get : AV → Option α
  put : α → AV
  ok : ∀ v a, get v = some a → ∀ (w : World) (S : SS) (μ : MM) (x : Value), (∀ b, S true b → S false b) → VRel w S μ v x → VRel w S μ (put a) x

def getInt (k : IntKind) : AV → Option Int
  | .int k' n => bif kindEq k k' then some n else none
  | _ => none
def pkK (k : IntKind) : PK Int where
  get := getInt k
  put := .int k
  ok := fun v a h w S μ x _ hx => by
    unfold getInt at h
    split at h
    · rename_i k' n
      by_cases hk : kindEq k k' = true
      · simp only [hk, cond_true, Option.some.injEq] at h
        subst h
        rw [kindEq_spec hk]
        exact hx
      · simp only [hk, cond_false] at h; cases h
    · cases h
def pkI : PK Int := pkK .i64
def pkB : PK Bool where
  get := AV.asB
  put := .bool
  ok := fun v a h w S μ x _ hx => by
    have := asB_rel hx h
    subst this
    exact .bool a
def getStr : AV → Option ByteArray
  | .str s => some s
  | _ => none
def pkS : PK ByteArray where
  get := getStr
  put := .str
  ok := fun v a h w S μ x _ hx => by
    unfold getStr at h
    split at h
    · cases h; exact hx
    · cases h

/-- A slice that is read. -/
def getL (c : Nat) : AV → Option (List (den c))
  | .nsl => some []
  | .irec _ c' l => castL l c
  | _ => none
theorem getL_rel {c : Nat} {v : AV} {l : List (den c)} (h : getL c v = some l) {w : World} {S : SS} {μ : MM} {x : Value} (hS : ∀ b, S true b → S false b) (hx : VRel w S μ v x) : VRel w S μ (.irec false c l) x := by
  unfold getL at h
  split at h
  · cases h; cases hx; exact .irec0 none 0
  · rename_i p c' l'
    obtain ⟨e, h2⟩ := castL_spec h
    subst e
    subst h2
    rcases hx.irec_inv with ⟨u, b, off, cap, h1, h2, h3, h4, rfl⟩ | ⟨rfl, q, cap, rfl⟩
    · exact .irec u (by cases p <;> first | exact h1 | exact hS b h1) h2 h3 h4
    · exact .irec0 q cap
  · cases h
def pkL (c : Nat) : PK (List (den c)) where
  get := getL c
  put := .irec false c
  ok := fun _ _ h _ _ _ _ hS hx => getL_rel h hS hx
/-- A slice that is fixed for good. -/
def getLP (c : Nat) : AV → Option (List (den c))
  | .nsl => some []
  | .irec true c' l => castL l c
  | _ => none
theorem getLP_rel {c : Nat} {v : AV} {l : List (den c)} (h : getLP c v = some l) {w : World} {S : SS} {μ : MM} {x : Value} (hx : VRel w S μ v x) : VRel w S μ (.irec true c l) x := by
  unfold getLP at h
  split at h
  · cases h; cases hx; exact .irec0 none 0
  · rename_i c' l'
    obtain ⟨e, h2⟩ := castL_spec h
    subst e
    subst h2
    exact hx
  · cases h
def pkLP (c : Nat) : PK (List (den c)) where
  get := getLP c
  put := .irec true c
  ok := fun _ _ h _ _ _ _ _ hx => getLP_rel h hx

/-- The parameters of a function. -/
structure Sig (X : Type) where
  inst : List AV → (Nat → Option OB) → Option X
  args : X → List AV
  boxes : X → List OB
  ok : ∀ avs h x, inst avs h = some x → Reads avs h (args x) (boxes x)

def nilInst : List AV → (Nat → Option OB) → Option Unit
  | [], _ => some ()
  | _, _ => none
def Sig.nil : Sig Unit where
  inst := nilInst
  args := fun _ => []
  boxes := fun _ => []
  ok := fun avs h x hx => by
    unfold nilInst at hx
    split at hx
    · exact ⟨fun _ _ _ _ _ h => h, fun i o hi => by simp [numb, heapOf] at hi⟩
    · cases hx
def consInst {α X : Type} (g : AV → Option α) (f : List AV → (Nat → Option OB) → Option X) : List AV → (Nat → Option OB) → Option (α × X)
  | v :: vs, h => match g v, f vs h with
    | some a, some x => some (a, x)
    | _, _ => none
  | [], _ => none
def Sig.cons {α X : Type} (k : PK α) (s : Sig X) : Sig (α × X) where
  inst := consInst k.get s.inst
  args := fun x => k.put x.1 :: s.args x.2
  boxes := fun x => s.boxes x.2
  ok := fun avs h x hx => by
    unfold consInst at hx
    split at hx
    · rename_i v vs
      split at hx
      · rename_i a y h1 h2
        cases hx
        obtain ⟨r1, r2⟩ := s.ok _ _ _ h2
        refine ⟨fun w S μ xs hS hv => ?_, r2⟩
        cases hv with
        | cons hv t => exact .cons (k.ok v a h1 w S μ _ hS hv) (r1 w S μ _ hS t)
      · cases hx
    · cases hx
/-- A box that is handed over by its address, as the first parameter, with plain ones behind it. -/
def boxInst {α X : Type} (g : OB → Option α) (f : List AV → (Nat → Option OB) → Option X) : List AV → (Nat → Option OB) → Option (α × X)
  | .ptr 0 0 :: vs, h => match h 0 with
    | some o => match g o, f vs h with
      | some a, some x => some (a, x)
      | _, _ => none
    | none => none
  | _, _ => none
def Sig.box {α X : Type} (g : OB → Option α) (p : α → OB) (hg : ∀ o a, g o = some a → o = p a) (s : Sig X) (hs : ∀ x, s.boxes x = []) : Sig (α × X) where
  inst := boxInst g s.inst
  args := fun x => .ptr 0 0 :: s.args x.2
  boxes := fun x => [p x.1]
  ok := fun avs h x hx => by
    unfold boxInst at hx
    split at hx
    · rename_i vs
      split at hx
      · rename_i o ho
        split at hx
        · rename_i a y h1 h2
          cases hx
          obtain ⟨r1, r2⟩ := s.ok _ _ _ h2
          refine ⟨fun w S μ xs hS hv => ?_, fun i o' hi => ?_⟩
          · cases hv with
            | cons hv t => exact .cons hv (r1 w S μ _ hS t)
          · simp only [numb, heapOf] at hi
            by_cases e : i = 0
            · subst e
              simp only [nbeq_same, cond_true, Option.some.injEq] at hi
              rw [ho, hg _ _ h1, hi]
            · rw [nbeq_ne e, cond_false] at hi; cases hi
        · cases hx
      · cases hx
    · cases hx

/-- What a function does, by its parameters. -/
structure DS where
  X : Type
  sig : Sig X
  pre : X → Prop
  res : X → AV
  upd : X → List (Nat × OB)
structure FSp where
  X : Type
  sig : Sig X
  pre : X → Prop
  Y : Type
  post : X → Y → Prop
  res : X → Y → AV
  upd : X → Y → List (Nat × OB)
  feas : ∀ x, pre x → ∃ y, post x y
def DS.spec (D : DS) : Spec := .d ⟨D.X, D.sig.inst, D.pre, D.res, D.upd⟩
def FSp.spec (D : FSp) : Spec := .f ⟨D.X, D.sig.inst, D.pre, D.Y, D.post, D.res, D.upd, D.feas⟩
@[irreducible] def DS.vc (D : DS) (E : Env) (fn : Func) (x : D.X) : Prop := fnVC E fn (D.sig.args x) (D.sig.boxes x) Unit (fun _ => True) (fun _ => D.res x) (fun _ => D.upd x)
@[irreducible] def FSp.vc (D : FSp) (E : Env) (fn : Func) (x : D.X) : Prop := fnVC E fn (D.sig.args x) (D.sig.boxes x) D.Y (D.post x) (D.res x) (D.upd x)

theorem DS.vc_iff {D : DS} {E : Env} {fn : Func} {x : D.X} : D.vc E fn x ↔ fnVC E fn (D.sig.args x) (D.sig.boxes x) Unit (fun _ => True) (fun _ => D.res x) (fun _ => D.upd x) := by unfold DS.vc; exact Iff.rfl
theorem FSp.vc_iff {D : FSp} {E : Env} {fn : Func} {x : D.X} : D.vc E fn x ↔ fnVC E fn (D.sig.args x) (D.sig.boxes x) D.Y (D.post x) (D.res x) (D.upd x) := by unfold FSp.vc; exact Iff.rfl

/-- The empty list, with its type. -/
def NilL (α : Type) : List α := []
@[simp] theorem NilL_eq (α : Type) : NilL α = [] := rfl
/-- Specs that are met. -/
def look : List (FuncId × Spec) → FuncId → Option Spec
  | [], _ => none
  | (g, s) :: r, f => bif Nat.beq f g then some s else look r f
def AllOK (P : Program) (l : List (FuncId × Spec)) : Prop := ∀ f s, look l f = some s → Callable P f ∧ Valid P f s
theorem AllOK.nil (P : Program) : AllOK P [] := fun f s h => by cases h
theorem AllOK.cons {P : Program} {l : List (FuncId × Spec)} (hl : AllOK P l) {f : FuncId} {s : Spec} (hc : Callable P f) (hv : Valid P f s) : AllOK P ((f, s) :: l) := fun g t h => by
  simp only [look] at h
  by_cases e : g = f
  · subst e
    rw [nbeq_same, cond_true] at h
    cases h
    exact ⟨hc, hv⟩
  · rw [nbeq_ne e, cond_false] at h
    exact hl g t h

/-- A program with the specs of some of its functions, and what is known at its loops. -/
def EV (P : Program) (l : List (FuncId × Spec)) (inv join : Nat → St → Option Inv) : Env := ⟨P, 0, look l, inv, join, false, []⟩
/-- Differences may leave the range. -/
def EVW (P : Program) (l : List (FuncId × Spec)) (inv join : Nat → St → Option Inv) : Env := ⟨P, 0, look l, inv, join, true, []⟩
/-- With element types whose slices are kept deep. -/
def EVD (P : Program) (l : List (FuncId × Spec)) (inv join : Nat → St → Option Inv) (dp : List Nat) : Env := ⟨P, 0, look l, inv, join, false, dp⟩
def noInv : Nat → St → Option Inv := fun _ _ => none
def invs (l : List (Nat × Inv)) : Nat → St → Option Inv := fun n s => match l with
  | [] => none
  | (k, i) :: r => bif Nat.beq n k then some i else invs r n s
/-- The same, of what stands at the head for the first time. -/
def invsS (l : List (Nat × (St → Inv))) : Nat → St → Option Inv := fun n s => match l with
  | [] => none
  | (k, i) :: r => bif Nat.beq n k then some (i s) else invsS r n s
def slotI (s : St) (n : Nat) : Int := match s.t n with
  | .int _ x => x
  | _ => 0
def rowI (s : St) (n : Nat) : List Int := match s.h n with
  | some (.rows _ 0 l) => l
  | _ => []
def cellsAt (s : St) (n : Nat) : List AV := match s.h n with
  | some (.cells _ l) => l
  | _ => []
def intAt (l : List AV) (n : Nat) : Int := match l[n]? with
  | some (.int _ x) => x
  | _ => 0
def contI (s : St) (v : AV) : List Int := match v with
  | .nsl => []
  | v => match contentA s.h v with
    | some ⟨0, l⟩ => l
    | _ => []

theorem AllOK.d {P : Program} (hmix : P.follows .mixedOrders = true) {l : List (FuncId × Spec)} (hl : AllOK P l) {f : FuncId} {fn : Func} (hf : P.funcs[f]? = some fn) (hn : ((fn.name == "runtime.NumGoroutine") || fn.body.isNone) = false) (D : DS) (inv join : D.X → Nat → St → Option Inv)
    (hvc : ∀ x, D.pre x → D.vc (EV P l (inv x) (join x)) fn x) : AllOK P ((f, D.spec) :: l) := by
  rw [Bool.or_eq_false_iff] at hn
  exact hl.cons ⟨fn, hf, hn.1, hn.2⟩ fun avs h x hx hp => ((meets_of_vc (EV P l (inv x) (join x)) hl hmix hf (D.sig.ok avs h x hx).2 (D.vc_iff.1 (hvc x hp))).of (D.sig.ok avs h x hx).1).mono fun r u ⟨_, _, h1, h2⟩ => ⟨h1, h2⟩
theorem AllOK.f {P : Program} (hmix : P.follows .mixedOrders = true) {l : List (FuncId × Spec)} (hl : AllOK P l) {f : FuncId} {fn : Func} (hf : P.funcs[f]? = some fn) (hn : ((fn.name == "runtime.NumGoroutine") || fn.body.isNone) = false) (D : FSp) (inv join : D.X → Nat → St → Option Inv)
    (hvc : ∀ x, D.pre x → D.vc (EV P l (inv x) (join x)) fn x) : AllOK P ((f, D.spec) :: l) := by
  rw [Bool.or_eq_false_iff] at hn
  exact hl.cons ⟨fn, hf, hn.1, hn.2⟩ fun avs h x hx hp => (meets_of_vc (EV P l (inv x) (join x)) hl hmix hf (D.sig.ok avs h x hx).2 (D.vc_iff.1 (hvc x hp))).of (D.sig.ok avs h x hx).1

/-- The same where slices of some types are kept deep. -/
theorem AllOK.dD {P : Program} (hmix : P.follows .mixedOrders = true) {l : List (FuncId × Spec)} (hl : AllOK P l) {f : FuncId} {fn : Func} (hf : P.funcs[f]? = some fn) (hn : ((fn.name == "runtime.NumGoroutine") || fn.body.isNone) = false) (D : DS) (dp : List Nat) (inv join : D.X → Nat → St → Option Inv)
    (hvc : ∀ x, D.pre x → D.vc (EVD P l (inv x) (join x) dp) fn x) : AllOK P ((f, D.spec) :: l) := by
  rw [Bool.or_eq_false_iff] at hn
  exact hl.cons ⟨fn, hf, hn.1, hn.2⟩ fun avs h x hx hp => ((meets_of_vc (EVD P l (inv x) (join x) dp) hl hmix hf (D.sig.ok avs h x hx).2 (D.vc_iff.1 (hvc x hp))).of (D.sig.ok avs h x hx).1).mono fun r u ⟨_, _, h1, h2⟩ => ⟨h1, h2⟩
theorem AllOK.fD {P : Program} (hmix : P.follows .mixedOrders = true) {l : List (FuncId × Spec)} (hl : AllOK P l) {f : FuncId} {fn : Func} (hf : P.funcs[f]? = some fn) (hn : ((fn.name == "runtime.NumGoroutine") || fn.body.isNone) = false) (D : FSp) (dp : List Nat) (inv join : D.X → Nat → St → Option Inv)
    (hvc : ∀ x, D.pre x → D.vc (EVD P l (inv x) (join x) dp) fn x) : AllOK P ((f, D.spec) :: l) := by
  rw [Bool.or_eq_false_iff] at hn
  exact hl.cons ⟨fn, hf, hn.1, hn.2⟩ fun avs h x hx hp => (meets_of_vc (EVD P l (inv x) (join x) dp) hl hmix hf (D.sig.ok avs h x hx).2 (D.vc_iff.1 (hvc x hp))).of (D.sig.ok avs h x hx).1

/-- A spec for data below a bound: for functions that call themselves. -/
def DS.lim (D : DS) (m : D.X → Nat) (k : Nat) : DS := ⟨D.X, D.sig, fun x => D.pre x ∧ m x < k, D.res, D.upd⟩
def FSp.lim (D : FSp) (m : D.X → Nat) (k : Nat) : FSp := ⟨D.X, D.sig, fun x => D.pre x ∧ m x < k, D.Y, D.post, D.res, D.upd, fun x h => D.feas x h.1⟩
theorem AllOK.dr {P : Program} (hmix : P.follows .mixedOrders = true) {l : List (FuncId × Spec)} (hl : AllOK P l) {f : FuncId} {fn : Func} (hf : P.funcs[f]? = some fn) (hn : ((fn.name == "runtime.NumGoroutine") || fn.body.isNone) = false) (D : DS) (m : D.X → Nat) (inv join : D.X → Nat → St → Option Inv)
    (hvc : ∀ k x, D.pre x → m x ≤ k → D.vc (EV P ((f, (D.lim m k).spec) :: l) (inv x) (join x)) fn x) : AllOK P ((f, D.spec) :: l) := by
  rw [Bool.or_eq_false_iff] at hn
  have hc : Callable P f := ⟨fn, hf, hn.1, hn.2⟩
  have key : ∀ k, Valid P f (D.lim m k).spec := by
    intro k
    induction k with
    | zero => exact fun avs h x hx hp => absurd hp.2 (Nat.not_lt_zero _)
    | succ k ih =>
      intro avs h x hx hp
      exact ((meets_of_vc (EV P ((f, (D.lim m k).spec) :: l) (inv x) (join x)) (hl.cons hc ih) hmix hf (D.sig.ok avs h x hx).2 (D.vc_iff.1 (hvc k x hp.1 (Nat.le_of_lt_succ hp.2)))).of (D.sig.ok avs h x hx).1).mono fun r u ⟨_, _, h1, h2⟩ => ⟨h1, h2⟩
  exact hl.cons hc fun avs h x hx hp => key (m x + 1) avs h x hx ⟨hp, Nat.lt_succ_self _⟩
theorem AllOK.fr {P : Program} (hmix : P.follows .mixedOrders = true) {l : List (FuncId × Spec)} (hl : AllOK P l) {f : FuncId} {fn : Func} (hf : P.funcs[f]? = some fn) (hn : ((fn.name == "runtime.NumGoroutine") || fn.body.isNone) = false) (D : FSp) (m : D.X → Nat) (inv join : D.X → Nat → St → Option Inv)
    (hvc : ∀ k x, D.pre x → m x ≤ k → D.vc (EV P ((f, (D.lim m k).spec) :: l) (inv x) (join x)) fn x) : AllOK P ((f, D.spec) :: l) := by
  rw [Bool.or_eq_false_iff] at hn
  have hc : Callable P f := ⟨fn, hf, hn.1, hn.2⟩
  have key : ∀ k, Valid P f (D.lim m k).spec := by
    intro k
    induction k with
    | zero => exact fun avs h x hx hp => absurd hp.2 (Nat.not_lt_zero _)
    | succ k ih =>
      intro avs h x hx hp
      exact (meets_of_vc (EV P ((f, (D.lim m k).spec) :: l) (inv x) (join x)) (hl.cons hc ih) hmix hf (D.sig.ok avs h x hx).2 (D.vc_iff.1 (hvc k x hp.1 (Nat.le_of_lt_succ hp.2)))).of (D.sig.ok avs h x hx).1
  exact hl.cons hc fun avs h x hx hp => key (m x + 1) avs h x hx ⟨hp, Nat.lt_succ_self _⟩
end Go.Proofs.Ytemffnpliflkgaa
