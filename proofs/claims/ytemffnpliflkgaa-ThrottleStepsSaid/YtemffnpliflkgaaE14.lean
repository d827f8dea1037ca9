/-
  Lemmas and contracts on the way to the laws of this seat; each theorem states its own conditions, and there are no others.
-/
import Derived.Test.YtemffnpliflkgaaEM
namespace Go.Proofs.Ytemffnpliflkgaa
open Go
set_option linter.unusedVariables false
set_option linter.unusedSimpArgs false

/-- What a callee may read: what is fixed for good, and all that is not its own. -/
def ZL (w : World) (Z : Nat → Prop) (μ : MM) (h : Nat → Option OB) : SS := fun p b => if p then Z b else b < w.heap.size ∧ ∀ i o m, h i = some o → μ i = some m → ¬ holds w m o b
def trS (S : SS) : SS := fun p b => p = true ∧ S true b

/-- A call with these data ends, and gives what R says. -/
def Meets (P : Program) (f : FuncId) (avs : List AV) (h : Nat → Option OB) (R : AV → List (Nat × OB) → Prop) : Prop :=
  ∀ (w : World) (Z : Nat → Prop) (μ : MM) (xs : List Value), (∀ i, 100 ≤ i → μ i = none) → (∀ b, Z b → ZL w Z μ h false b) → HRel w (ZL w Z μ h) μ h → VRs w (ZL w Z μ h) μ avs xs →
    Calls P f xs.toArray w fun e w' => ∃ r u v S' μ', R r u ∧ e = .returned v ∧ Evo w (ZL w Z μ h) μ w' S' μ' ∧ VRel w' (trS S') μ' r v ∧ HRel w' (trS S') μ' (heapOf u) ∧
      (∀ i o m b, heapOf u i = some o → μ' i = some m → holds w' m o b → ¬ S' false b) ∧ (∀ i, μ' i ≠ none → μ i ≠ none ∨ (100 ≤ i ∧ i < 110))

def Valid (P : Program) (f : FuncId) : Spec → Prop
  | .d S => ∀ avs h x, S.inst avs h = some x → S.pre x → Meets P f avs h fun r u => r = S.res x ∧ u = S.upd x
  | .f S => ∀ avs h x, S.inst avs h = some x → S.pre x → Meets P f avs h fun r u => ∃ y, S.post x y ∧ r = S.res x y ∧ u = S.upd x y

/-- The function is there, with a body. -/
def Callable (P : Program) (f : FuncId) : Prop := ∃ fn, P.funcs[f]? = some fn ∧ (fn.name == "runtime.NumGoroutine") = false ∧ fn.body.isNone = false

section
variable {P : Program} {a : Act} {o : Oper} {w : World} {S : SS} {μ : MM} {h : Nat → Option OB} {base : Nat}

/-- Where nothing is named, the names do not matter. -/
theorem VRel.weaken {S' : SS} {μ' : MM} (hS : ∀ p b, S p b → S' p b) (hμ : ∀ i m, μ i = some m → μ' i = some m) {v : AV} {x : Value} (hv : VRel w S μ v x) : VRel w S' μ' v x := by
  induction hv with
  | undef v => exact .undef v
  | int k n => exact .int k n
  | tt => exact .tt
  | ff => exact .ff
  | bool b => exact .bool b
  | str s => exact .str s
  | nilp => exact .nilp
  | ptr hm hb => exact .ptr (hμ _ _ hm) hb
  | ept hm hb hr => exact .ept (hμ _ _ hm) hb hr
  | ipt u hs hc _ ih => exact .ipt u (hS _ _ hs) hc ih
  | pix hm hb hi => exact .pix (hμ _ _ hm) hb hi
  | sel h => exact .sel h
  | nfn => exact .nfn
  | nsl => exact .nsl
  | zsl a => exact .zsl a
  | own hm hb => exact .own (hμ _ _ hm) hb
  | own0 a hm h0 => exact .own0 a (hμ _ _ hm) h0
  | sub hm hb he hr hc => exact .sub (hμ _ _ hm) hb he hr hc
  | sub0 a cap => exact .sub0 a cap
  | irec u hs hn hc _ ih => exact .irec u (hS _ _ hs) hn hc ih
  | irec0 a cap => exact .irec0 a cap
  | mp hm hb => exact .mp (hμ _ _ hm) hb
  | imp u hs hh hm hu _ ih => exact .imp u (hS _ _ hs) hh hm hu ih
  | agg hl _ ih => exact .agg hl ih
  | tup hl _ ih => exact .tup hl ih
  | fn hl _ hl' _ ih ih' => exact .fn hl ih hl' ih'
  | opt _ h' ih => exact .opt ih h'

theorem own_any {S' : SS} {id c : Nat} {x : Value} (hv : VRel w S μ (.own id c) x) : VRel w S' μ (.own id c) x := by
  cases hv with
  | own hm hb => exact .own hm hb
  | own0 a hm h0 => exact .own0 a hm h0
theorem INN.weak {S' : SS} {μ' : MM} (hS : ∀ b, S true b → S' true b) {et c : Nat} {l : List (den c)} {x : Value} (h : INN w S μ et c l x) : INN w S' μ' et c l x := by
  rcases h with h | ⟨b, cap, cur, h0, h1, h2, h3, h4, h5, h6⟩
  · exact .inl h
  · exact .inr ⟨b, cap, cur, h0, h1, h2, h3, h4, h5, fun i hi j hj => enc_clean hS hj (h6 i hi j hj) μ'⟩
theorem DC.weak {S' : SS} {μ' : MM} (hS : ∀ b, S true b → S' true b) {et c : Nat} {l : List (den c)} {i j : Nat} {y : Value} (h : DC w S μ et ((rowAV c l i).getD j .undef) y) (hj : j < ncell c) : DC w S' μ' et ((rowAV c l i).getD j .undef) y := by
  have hc := enc_cel c (l.getD i (dfl c)) j hj
  unfold rowAV at h ⊢
  generalize (enc c (l.getD i (dfl c))).getD j .undef = v at hc h ⊢
  cases hc with
  | int k n => exact ⟨by cases h.1; exact .int _ _, h.2⟩
  | bool b => exact ⟨by cases h.1; exact .bool _, h.2⟩
  | str s => exact ⟨by cases h.1; exact .str _, h.2⟩
  | lst c' l' hlt => exact INN.weak hS h

theorem irec_free {p : Bool} {c : Nat} {l : List (den c)} {x : Value} (hv : VRel w S μ (.irec p c l) x) (μ' : MM) : VRel w S μ' (.irec p c l) x := by
  rcases hv.irec_inv with ⟨u, b, off, cap, hS, hn, hc, hrel, rfl⟩ | ⟨h0, q, cap, rfl⟩
  · exact .irec u hS hn hc fun i hi j hj => enc_free hj (hrel i hi j hj) μ'
  · subst h0; exact .irec0 q cap

theorem imp_free {p g : Bool} {c : Nat} {f : Int → den c} {x : Value} (hv : VRel w S μ (.imp p g c f) x) (μ' : MM) : VRel w S μ' (.imp p g c f) x := by
  obtain ⟨b, clock, es, u, hS, hh, hm, hu, hrel, rfl⟩ := hv.imp_inv
  exact .imp u hS hh hm hu fun k hk j hj => enc_free hj (hrel k hk j hj) μ'

theorem free1 {v : AV} {x : Value} (hi : idfree1 v = true) (hv : VRel w S μ v x) (μ' : MM) : VRel w S μ' v x := by
  cases v
  case irec => exact irec_free hv μ'
  case imp => exact imp_free hv μ'
  case fn f a c =>
    simp only [idfree1, Bool.and_eq_true, List.isEmpty_iff] at hi
    obtain ⟨rfl, rfl⟩ := hi
    cases hv with
    | fn hl h hl' h' => exact .fn hl (fun i hi => (by simp at hi)) hl' (fun i hi => (by simp at hi))
  all_goals first
    | (simp [idfree1] at hi; done)
    | (cases hv <;> first | exact .undef _ | exact .int _ _ | exact .tt | exact .ff | exact .bool _ | exact .str _ | exact .nilp | exact .nsl | exact .nfn | exact .zsl _)
theorem freeL {l : List AV} (hi : idfreeL l = true) : ∀ i, i < l.length → idfree1 (l.getD i .undef) = true := by
  induction l with
  | nil => intro i hi; simp at hi
  | cons v r ih =>
    simp only [idfreeL, Bool.and_eq_true] at hi
    intro i hlt
    cases i with
    | zero => exact hi.1
    | succ i => exact ih hi.2 i (by simpa using hlt)

theorem ipt_free {p : Bool} {cs : List AV} {off : Nat} {x : Value} (hi : idfreeL cs = true) (hv : VRel w S μ (.ipt p cs off) x) (μ' : MM) : VRel w S μ' (.ipt p cs off) x := by
  obtain ⟨u, b, o, hs, hc, hr, rfl⟩ := hv.ipt_inv
  exact .ipt u hs hc fun j hj => free1 (freeL hi _ hj) (hr j hj) μ'
theorem capsOk_get {l : List AV} (hi : capsOk l = true) : ∀ i, i < l.length → capOk (l.getD i .undef) = true := by
  induction l with
  | nil => intro i hi; simp at hi
  | cons v r ih =>
    simp only [capsOk, Bool.and_eq_true] at hi
    intro i hlt
    cases i with
    | zero => exact hi.1
    | succ i => exact ih hi.2 i (by simpa using hlt)

/-- A slice of one's own is lent. -/
theorem content_lent (H : HRel w S μ h) {S' : SS} (hS : ∀ p b, S p b → S' p b) (hown : ∀ id et c l, h id = some (.rows et c l) → ∀ m b, μ id = some m → m.b = some b → S' false b) {v : AV} {r : Rows} (hc : contentA h v = some r) (hnl : ∀ p c l, v ≠ .irec p c l) {x : Value} (hx : VRel w S μ v x) (μ' : MM) : VRel w S' μ' (.irec false r.c r.l) x := by
  have fin : VRel w S' μ (.irec false r.c r.l) x := by
    unfold contentA at hc
    split at hc
    · rename_i id c'
      split at hc
      · rename_i et c l hh
        simp only [Option.some.injEq] at hc; subst hc
        obtain ⟨m, hm, hcase⟩ := hx.own_inv
        obtain ⟨h1, h2, h3⟩ := H.rows hh hm
        rcases hcase with ⟨b, hb, rfl⟩ | ⟨h0, q, rfl⟩
        · obtain ⟨cur, hcur, hcsz, hlen, hmax, hrel⟩ := h3 b hb
          rw [h1]
          show VRel w S' μ (.irec false c l) _
          refine .irec (fun i j => cur.getD (i * ncell c + j) Go.undef) (hown id et c l hh m b hm hb) hlen (fun i hi j hj => ?_) (fun i hi j hj => (hrel i hi j hj).weaken hS fun _ _ h => h)
          rw [Nat.zero_add]
          refine cell_at hcur ?_
          have := row_le hi hj
          have h4 : l.length * ncell c ≤ m.cap * ncell c := Nat.mul_le_mul_right _ hlen
          omega
        · have : l = [] := List.eq_nil_of_length_eq_zero (by omega)
          subst this
          exact .irec0 q 0
      · cases hc
    · rename_i id c' lo n
      split at hc
      · rename_i et c l hh
        simp only [Option.some.injEq] at hc; subst hc
        rcases hx.sub_inv with ⟨m, b, cap, hm, hb, hmc, hrn, hcap, rfl⟩ | ⟨h0, q, cap, rfl⟩
        · obtain ⟨h1, h2, h3⟩ := H.rows hh hm
          obtain ⟨cur, hcur, hcsz, hlen, hmax, hrel⟩ := h3 b hb
          have hl' : ((l.drop lo).take n).length = n := by simp; omega
          have e2 : c' = c := by rw [← hmc, h2]
          rw [e2]
          have := VRel.irec (w := w) (S := S') (μ := μ) (p := false) (c := c) (l := (l.drop lo).take n) (b := b) (o := lo * ncell c) (cap := cap) (fun i j => cur.getD ((lo + i) * ncell c + j) Go.undef) (hown id et c l hh m b hm hb) (by omega) (fun i hi j hj => by
            have hi' : lo + i < l.length := by rw [hl'] at hi; omega
            have e3 : lo * ncell c + i * ncell c + j = (lo + i) * ncell c + j := by rw [Nat.add_mul]
            rw [e3]
            refine cell_at hcur ?_
            have := row_le hi' hj
            have h4 : l.length * ncell c ≤ m.cap * ncell c := Nat.mul_le_mul_right _ hlen
            omega) (fun i hi j hj => by
            have hi' : i < n := by rw [hl'] at hi; exact hi
            have e4 : rowAV c ((l.drop lo).take n) i = rowAV c l (lo + i) := by
              unfold rowAV
              simp [List.getD_eq_getElem?_getD, List.getElem?_take_of_lt hi', List.getElem?_drop]
            rw [e4]
            exact (hrel (lo + i) (by omega) j hj).weaken hS fun _ _ h => h)
          rw [hl'] at this
          exact this
        · subst h0
          have : (l.drop lo).take 0 = [] := by simp
          simp only [this]
          exact .irec0 q _
      · cases hc
    · exact absurd rfl (hnl _ _ _)
    · cases hc
  exact irec_free fin μ'

/-- A map of one's own is lent. -/
theorem map_lent (H : HRel w S μ h) {S' : SS} (hS : ∀ p b, S p b → S' p b) {id : Nat} {g : Bool} {c : Nat} {f : Int → den c} (hh : h id = some (.imap g c f)) (hown : ∀ m b, μ id = some m → m.b = some b → S' false b) {x : Value} (hx : VRel w S μ (.mp id) x) (μ' : MM) : VRel w S' μ' (.imp false g c f) x := by
  obtain ⟨m, b, hm, hb, rfl⟩ := hx.mp_inv
  obtain ⟨m2, hm2, b2, clock, es, u, g1, g2, g3, g4, g5⟩ := H.blk id _ hh
  rw [hm] at hm2; cases hm2
  rw [hb] at g1; cases g1
  exact imp_free (μ := μ) (.imp u (hown m b hm hb) g2 g3 g4 fun k hk j hj => (g5 k hk j hj).weaken hS fun _ _ h => h) μ'

/-- A slice of one's own, read by others from now on. -/
theorem own_lent (H : HRel w S μ h) {id c c' : Nat} {et : TypeId} {l : List (den c)} (hh : h id = some (.rows et c l)) {x : Value} (hx : VRel w S μ (.own id c') x) {S' : SS} (hS : ∀ p b, S p b → S' p b) (p : Bool) (hs : ∀ m b, μ id = some m → m.b = some b → S' p b) : VRel w S' μ (.irec p c l) x := by
  obtain ⟨m, hm, hcase⟩ := hx.own_inv
  obtain ⟨h1, h2, h3⟩ := H.rows hh hm
  rcases hcase with ⟨b, hb, rfl⟩ | ⟨h0, q, rfl⟩
  · obtain ⟨cur, hcur, hcsz, hlen, hmax, hrel⟩ := h3 b hb
    rw [h1]
    refine .irec (fun i j => cur.getD (i * ncell c + j) Go.undef) (hs m b hm hb) hlen (fun i hi j hj => ?_) (fun i hi j hj => (hrel i hi j hj).weaken hS fun _ _ h => h)
    rw [Nat.zero_add]
    refine cell_at hcur ?_
    have := row_le hi hj
    have h4 : l.length * ncell c ≤ m.cap * ncell c := Nat.mul_le_mul_right _ hlen
    omega
  · have : l = [] := List.eq_nil_of_length_eq_zero (by omega)
    subst this
    exact .irec0 q 0

theorem sub_lent (H : HRel w S μ h) {id c c' lo n : Nat} {et : TypeId} {l : List (den c)} (hh : h id = some (.rows et c l)) {x : Value} (hx : VRel w S μ (.sub id c' lo n) x) {S' : SS} (hS : ∀ p b, S p b → S' p b) (p : Bool) (hs : ∀ m b, μ id = some m → m.b = some b → S' p b) : VRel w S' μ (.irec p c ((l.drop lo).take n)) x := by
  rcases hx.sub_inv with ⟨m, b, cap, hm, hb, hmc, hrn, hcap, rfl⟩ | ⟨h0, q, cap, rfl⟩
  · obtain ⟨h1, h2, h3⟩ := H.rows hh hm
    obtain ⟨cur, hcur, hcsz, hlen, hmax, hrel⟩ := h3 b hb
    have hl' : ((l.drop lo).take n).length = n := by simp; omega
    have e2 : c' = c := by rw [← hmc, h2]
    rw [e2]
    have := VRel.irec (w := w) (S := S') (μ := μ) (p := p) (c := c) (l := (l.drop lo).take n) (b := b) (o := lo * ncell c) (cap := cap) (fun i j => cur.getD ((lo + i) * ncell c + j) Go.undef) (hs m b hm hb) (by omega) (fun i hi j hj => by
      have hi' : lo + i < l.length := by rw [hl'] at hi; omega
      have e3 : lo * ncell c + i * ncell c + j = (lo + i) * ncell c + j := by rw [Nat.add_mul]
      rw [e3]
      refine cell_at hcur ?_
      have := row_le hi' hj
      have h4 : l.length * ncell c ≤ m.cap * ncell c := Nat.mul_le_mul_right _ hlen
      omega) (fun i hi j hj => by
      have hi' : i < n := by rw [hl'] at hi; exact hi
      have e4 : rowAV c ((l.drop lo).take n) i = rowAV c l (lo + i) := by
        unfold rowAV
        simp [List.getD_eq_getElem?_getD, List.getElem?_take_of_lt hi', List.getElem?_drop]
      rw [e4]
      exact (hrel (lo + i) (by omega) j hj).weaken hS fun _ _ h => h)
    rw [hl'] at this
    exact this
  · subst h0
    have : (l.drop lo).take 0 = [] := by simp
    simp only [this]
    exact .irec0 q _

theorem nub_mem {x : Nat} : ∀ {l : List Nat}, x ∈ nub l ↔ x ∈ l := by
  intro l
  induction l with
  | nil => simp [nub]
  | cons y r ih =>
    simp only [nub, List.mem_cons, List.mem_filter, ih]
    by_cases e : x = y
    · subst e; simp
    · have : Nat.beq y x = false := nbeq_ne (Ne.symm e)
      simp [e, this]
theorem nub_nodup : ∀ l : List Nat, (nub l).Nodup
  | [] => by simp [nub]
  | y :: r => by
    simp only [nub, List.nodup_cons, List.mem_filter]
    exact ⟨by simp, (nub_nodup r).filter _⟩
theorem pos_get {x : Nat} : ∀ {l : List Nat}, x ∈ l → l[pos x l]? = some x ∧ pos x l < l.length := by
  intro l
  induction l with
  | nil => intro h; simp at h
  | cons y r ih =>
    intro h
    by_cases e : x = y
    · subst e; simp [pos]
    · have hr : x ∈ r := by simpa [e] using h
      have := ih hr
      refine ⟨?_, ?_⟩
      · simp only [pos, nbeq_ne e, cond_false, List.getElem?_cons_succ]; exact this.1
      · simp only [pos, nbeq_ne e, cond_false, List.length_cons]; omega

theorem lendC_other {v : AV} (hn : ∀ id off, v ≠ .ptr id off) : lendC h v = lend1 h v := by
  cases v <;> first | rfl | exact absurd rfl (hn _ _)
theorem capOk_lend1 {v : AV} (hn : ∀ p cs off, v ≠ .ipt p cs off) (hc : capOk (lend1 h v) = true) : idfree1 (lend1 h v) = true := by
  cases v
  case ipt => exact absurd rfl (hn _ _ _)
  case own =>
    simp only [lend1] at hc ⊢
    split
    · rfl
    · rename_i he; rw [he] at hc; exact hc
  case sub =>
    simp only [lend1] at hc ⊢
    split
    · rfl
    · rename_i he; rw [he] at hc; exact hc
  case mp =>
    simp only [lend1] at hc ⊢
    split
    · rfl
    · rfl
  all_goals exact hc
/-- The value that a callee gets. -/
theorem arg_rel (H : HRel w S μ h) {ids : List Nat} {S' : SS} {μ' : MM} (hS : ∀ p b, S p b → S' p b) (hown : ∀ id et c l, h id = some (.rows et c l) → ∀ m b, μ id = some m → m.b = some b → S' false b)
    (hmap : ∀ id g c f, h id = some (.imap g c f) → ∀ m b, μ id = some m → m.b = some b → S' false b)
    (hcap : ∀ id et cs, h id = some (.cells et cs) → id ∉ ids → ∀ m b, μ id = some m → m.b = some b → S' false b)
    (hμ : ∀ id ∈ ids, μ' (pos id ids) = μ id) {v : AV} {x : Value} (hids : ∀ id, id ∈ ptrId1 v → id ∈ ids) (hcids : ∀ id, id ∈ capIds v → id ∉ ids) (hok : argOk (ren1 (pos · ids) (lend h v)) = true) (hx : VRel w S μ v x) : VRel w S' μ' (ren1 (pos · ids) (lend h v)) x := by
  have leaf : ∀ {v : AV} {x : Value}, idfree1 (lend1 h v) = true → VRel w S μ v x → VRel w S' μ' (lend1 h v) x := fun {v x} hi hx => by
    cases v
    case own id c =>
      simp only [lend1] at hi ⊢
      split
      · rename_i r hr
        exact content_lent H hS hown hr (by simp) hx μ'
      · exact .undef _
    case sub id c lo n =>
      simp only [lend1] at hi ⊢
      split
      · rename_i r hr
        exact content_lent H hS hown hr (by simp) hx μ'
      · exact .undef _
    case mp id =>
      simp only [lend1] at hi ⊢
      split
      · rename_i g c f hh
        exact map_lent H hS hh (hmap id g c f hh) hx μ'
      · exact .undef _
    all_goals exact free1 hi (hx.weaken hS fun _ _ h => h) μ'
  have capv : ∀ {v : AV} {x : Value}, (∀ id, id ∈ capIds.ptrId1' v → id ∉ ids) → capOk (lendC h v) = true → VRel w S μ v x → VRel w S' μ' (lendC h v) x := fun {v x} hn hi hx => by
    cases v
    case ptr id off =>
      simp only [lendC] at hi ⊢
      split
      · rename_i et cs hh
        simp only [hh, capOk] at hi
        obtain ⟨m, b, hm, hb, rfl⟩ := hx.ptr_inv
        obtain ⟨m2, hm2, b2, cur, g1, g2, g3, g4⟩ := H.blk id _ hh
        rw [hm] at hm2; cases hm2
        rw [hb] at g1; cases g1
        refine .ipt (fun j => cur.getD (off + j) Go.undef) (hcap id et cs hh (hn id (by simp [capIds.ptrId1'])) m b hm hb) (fun j hj => ?_) fun j hj => free1 (freeL hi _ hj) ((g4 (off + j) hj).weaken hS fun _ _ h => h) μ'
        exact cell_at g2 (by omega)
      · exact .undef _
    case ipt p cs off =>
      exact ipt_free hi (hx.weaken hS fun _ _ h => h) μ'
    all_goals (rw [lendC_other (by intros; simp)] at hi ⊢; exact leaf (capOk_lend1 (by intros; simp) hi) hx)
  cases v
  case ptr id off =>
    obtain ⟨m, b, hm, hb, rfl⟩ := hx.ptr_inv
    have : id ∈ ids := hids id (by simp [ptrId1])
    exact .ptr (by rw [hμ id this]; exact hm) hb
  case agg l =>
    simp only [lend, ren1] at hok ⊢
    obtain ⟨vs, hl, hrel, rfl⟩ := hx.agg_inv
    refine .agg (by simpa using hl) fun i hi => ?_
    have hi' : i < l.length := by simpa using hi
    have hf := freeL hok i (by simpa using hi')
    have e : (l.map (lend1 h)).getD i .undef = lend1 h (l.getD i .undef) := by simp [List.getD_eq_getElem?_getD, hi']
    rw [e] at hf ⊢
    exact leaf hf (hrel i hi')
  case fn f a c =>
    simp only [lend, ren1, argOk, Bool.and_eq_true] at hok ⊢
    have part : ∀ {l : List AV} {ys : Array Value}, (∀ v ∈ l, ∀ id, id ∈ capIds.ptrId1' v → id ∉ ids) → capsOk (l.map (lendC h)) = true → l.length = ys.size → (∀ i, i < l.length → VRel w S μ (l.getD i .undef) (ys.getD i Go.undef)) → ∀ i, i < (l.map (lendC h)).length → VRel w S' μ' ((l.map (lendC h)).getD i .undef) (ys.getD i Go.undef) := fun {l ys} hn hf hl hr i hi => by
      have hi' : i < l.length := by simpa using hi
      have hf := capsOk_get hf i (by simpa using hi')
      have e : (l.map (lendC h)).getD i .undef = lendC h (l.getD i .undef) := by simp [List.getD_eq_getElem?_getD, hi']
      rw [e] at hf ⊢
      refine capv (hn _ ?_) hf (hr i hi')
      rw [List.getD_eq_getElem?_getD, List.getElem?_eq_getElem hi', Option.getD_some]
      exact List.getElem_mem hi'
    cases hx with
    | fn hl h1 hl' h2 => exact .fn (by simpa using hl) (part (fun v hv id hid => hcids id (List.mem_append_left _ (List.mem_flatMap.2 ⟨v, hv, hid⟩))) hok.1 hl h1) (by simpa using hl') (part (fun v hv id hid => hcids id (List.mem_append_right _ (List.mem_flatMap.2 ⟨v, hv, hid⟩))) hok.2 hl' h2)
  case ipt p cs off =>
    exact ipt_free (by simpa [lend, lend1, ren1, argOk, capOk] using hok) (hx.weaken hS fun _ _ h => h) μ'
  case own id c =>
    simp only [lend, lend1] at hok ⊢
    split
    · rename_i r hr
      simp only [ren1]
      exact content_lent H hS hown hr (by simp) hx μ'
    · exact .undef _
  case sub id c lo n =>
    simp only [lend, lend1] at hok ⊢
    split
    · rename_i r hr
      simp only [ren1]
      exact content_lent H hS hown hr (by simp) hx μ'
    · exact .undef _
  case mp id =>
    simp only [lend, lend1] at hok ⊢
    split
    · rename_i g c f hh
      simp only [ren1]
      exact map_lent H hS hh (hmap id g c f hh) hx μ'
    · exact .undef _
  all_goals first
    | (simp [lend, lend1, ren1, argOk, capOk, idfree1] at hok; done)
    | exact leaf (by simpa [lend, lend1, ren1, argOk, capOk] using hok) hx

/-- Arguments in one form. -/
theorem nrm1_rel {v : AV} {x : Value} (hx : VRel w S μ v x) : VRel w S μ (nrm1 v) x := by
  cases v
  case tt => cases hx; exact .bool true
  case ff => cases hx; exact .bool false
  all_goals exact hx
theorem nrm_rel {v : AV} {x : Value} (hx : VRel w S μ v x) : VRel w S μ (nrm v) x := by
  cases v
  case agg l =>
    obtain ⟨vs, hl, hrel, rfl⟩ := hx.agg_inv
    refine .agg (by simpa using hl) fun i hi => ?_
    have hi' : i < l.length := by simpa using hi
    have e : (l.map nrm1).getD i .undef = nrm1 (l.getD i .undef) := by simp [List.getD_eq_getElem?_getD, hi']
    rw [e]
    exact nrm1_rel (hrel i hi')
  case fn f a c =>
    have part : ∀ {l : List AV} {ys : Array Value}, (∀ i, i < l.length → VRel w S μ (l.getD i .undef) (ys.getD i Go.undef)) → ∀ i, i < (l.map nrm1).length → VRel w S μ ((l.map nrm1).getD i .undef) (ys.getD i Go.undef) := fun {l ys} hr i hi => by
      have hi' : i < l.length := by simpa using hi
      have e : (l.map nrm1).getD i .undef = nrm1 (l.getD i .undef) := by simp [List.getD_eq_getElem?_getD, hi']
      rw [e]
      exact nrm1_rel (hr i hi')
    cases hx with
    | fn hl h1 hl' h2 => exact .fn (by simpa using hl) (part h1) (by simpa using hl') (part h2)
  all_goals exact nrm1_rel hx

/-- A result, with the caller's names. -/
theorem ren1_rel {S' : SS} {μ' : MM} {ρ : Nat → Nat} (hS : ∀ p b, S p b → S' p b) (hμ : ∀ i m, μ i = some m → μ' (ρ i) = some m) {v : AV} {x : Value} (hs : shallow1 v = true) (hx : VRel w S μ v x) : VRel w S' μ' (ren1 ρ v) x := by
  cases v
  case ptr => obtain ⟨m, b, hm, hb, rfl⟩ := hx.ptr_inv; exact .ptr (hμ _ _ hm) hb
  case ept => obtain ⟨m, b, hm, hb, hr, rfl⟩ := hx.ept_inv; exact .ept (hμ _ _ hm) hb hr
  case own =>
    obtain ⟨m, hm, hc⟩ := hx.own_inv
    rcases hc with ⟨b, hb, rfl⟩ | ⟨h0, q, rfl⟩
    · exact .own (hμ _ _ hm) hb
    · exact .own0 q (hμ _ _ hm) h0
  case sub =>
    rcases hx.sub_inv with ⟨m, b, cap, hm, hb, hmc, hrn, hcap, rfl⟩ | ⟨h0, q, cap, rfl⟩
    · exact .sub (hμ _ _ hm) hb hmc hrn hcap
    · subst h0; exact .sub0 q cap
  case mp => obtain ⟨m, b, hm, hb, rfl⟩ := hx.mp_inv; exact .mp (hμ _ _ hm) hb
  case irec => exact irec_free (hx.weaken hS fun _ _ h => h) μ'
  case imp => exact imp_free (hx.weaken hS fun _ _ h => h) μ'
  case fn f a c =>
    simp only [shallow1, Bool.and_eq_true, List.isEmpty_iff] at hs
    obtain ⟨rfl, rfl⟩ := hs
    exact free1 (by simp [idfree1]) (hx.weaken hS fun _ _ h => h) μ'
  all_goals first
    | (simp [shallow1] at hs; done)
    | exact free1 (by simp [idfree1]) (hx.weaken hS fun _ _ h => h) μ'
theorem all1_get {l : List AV} (hi : all1 l = true) : ∀ i, i < l.length → shallow1 (l.getD i .undef) = true := by
  induction l with
  | nil => intro i hi; simp at hi
  | cons v r ih =>
    simp only [all1, Bool.and_eq_true] at hi
    intro i hlt
    cases i with
    | zero => exact hi.1
    | succ i => exact ih hi.2 i (by simpa using hlt)
theorem all2_get {l : List AV} (hi : all2 l = true) : ∀ i, i < l.length → shallow2 (l.getD i .undef) = true := by
  induction l with
  | nil => intro i hi; simp at hi
  | cons v r ih =>
    simp only [all2, Bool.and_eq_true] at hi
    intro i hlt
    cases i with
    | zero => exact hi.1
    | succ i => exact ih hi.2 i (by simpa using hlt)
theorem ren2_rel {S' : SS} {μ' : MM} {ρ : Nat → Nat} (hS : ∀ p b, S p b → S' p b) (hμ : ∀ i m, μ i = some m → μ' (ρ i) = some m) {v : AV} {x : Value} (hs : shallow2 v = true) (hx : VRel w S μ v x) : VRel w S' μ' (ren2 ρ v) x := by
  cases v
  case agg l =>
    obtain ⟨vs, hl, hrel, rfl⟩ := hx.agg_inv
    refine .agg (by simpa using hl) fun i hi => ?_
    have hi' : i < l.length := by simpa using hi
    have e : (l.map (ren1 ρ)).getD i .undef = ren1 ρ (l.getD i .undef) := by simp [List.getD_eq_getElem?_getD, hi']
    rw [e]
    exact ren1_rel hS hμ (all1_get hs i hi') (hrel i hi')
  all_goals exact ren1_rel (ρ := ρ) hS hμ (by simpa [shallow2] using hs) hx
end
end Go.Proofs.Ytemffnpliflkgaa
