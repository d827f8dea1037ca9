/-
  Lemmas and contracts on the way to the laws of this seat; each theorem states its own conditions, and there are no others.
-/
import Derived.Test.YtemffnpliflkgaaED5
import Derived.Laws.Cover3
namespace Go.Proofs.Ytemffnpliflkgaa
open Go
set_option linter.unusedVariables false
set_option linter.unusedSimpArgs false
section
variable {a : Act} {o : Oper} {w : World} {S : SS} {μ : MM} {h : Nat → Option OB} {base : Nat}

theorem VRs.one {v : AV} {x : Value} (h : VRs w S μ [v] [x]) : VRel w S μ v x := by cases h; assumption
theorem VRs.two {v1 v2 : AV} {x1 x2 : Value} (h : VRs w S μ [v1, v2] [x1, x2]) : VRel w S μ v1 x1 ∧ VRel w S μ v2 x2 := by
  cases h with
  | cons h t => exact ⟨h, t.one⟩
theorem VRs.three {v1 v2 v3 : AV} {x1 x2 x3 : Value} (h : VRs w S μ [v1, v2, v3] [x1, x2, x3]) : VRel w S μ v1 x1 ∧ VRel w S μ v2 x2 ∧ VRel w S μ v3 x3 := by
  cases h with
  | cons h t => exact ⟨h, t.two⟩

theorem desc_ok0 (E : Env) (henv : ∀ f s, E.spec f = some s → Callable E.P f ∧ Valid E.P f s) (H : HRel w S μ h) (hf : ∀ id, base ≤ id → id < base + 10 → μ id = none) {vals : List AV} (hv : VRs w S μ vals (o.op.operands.toList.map a.eval)) : DescOK E.P a o w S μ h base (descV0 E h base o.op vals) := by
  obtain ⟨op, ho⟩ : ∃ op, o.op = op := ⟨_, rfl⟩
  rw [ho] at hv ⊢
  unfold descV0
  split
  · rename_i x v
    have hv' : VRs w S μ [v] [a.eval x] := hv
    exact ok_move H ho hv'.one
  · rename_i x v
    have hv' : VRs w S μ [v] [a.eval x] := hv
    exact ok_assign H ho hv'.one
  · rename_i x y z c p q
    have hv' : VRs w S μ [c, p, q] [a.eval x, a.eval y, a.eval z] := hv
    exact ok_pick H ho hv'.three.1 hv'.three.2.1 hv'.three.2.2
  · exact ok_alloc H hf ho
  · rename_i e x v
    have hv' : VRs w S μ [v] [a.eval x] := hv
    exact ok_box H hf ho hv'.one
  · rename_i t parts
    have hv' : VRs w S μ vals (parts.toList.map fun p => a.eval p.2) := by
      have : (Op.operands (.build t parts)).toList.map a.eval = parts.toList.map fun p => a.eval p.2 := by simp [Op.operands]
      rw [this] at hv; exact hv
    exact ok_build H ho hv'
  · rename_i t n parts
    have hv' : VRs w S μ vals (parts.toList.map fun p => a.eval p.2) := by
      have : (Op.operands (.buildSlice t n parts)).toList.map a.eval = parts.toList.map fun p => a.eval p.2 := by simp [Op.operands]
      rw [this] at hv; exact hv
    exact ok_buildSlice H hf ho hv'
  · rename_i t x v
    have hv' : VRs w S μ [v] [a.eval x] := hv
    exact ok_load H ho hv'.one
  · rename_i t x y v u
    have hv' : VRs w S μ [v, u] [a.eval x, a.eval y] := hv
    exact ok_store H ho hv'.two.1 hv'.two.2
  · rename_i x v
    have hv' : VRs w S μ [v] [a.eval x] := hv
    exact ok_nilCheck H ho hv'.one
  · rename_i op t x y ty v u
    have hv' : VRs w S μ [v, u] [a.eval x, a.eval y] := hv
    exact ok_binW H ho hv'.two.1 hv'.two.2
  · rename_i t x v
    have hv' : VRs w S μ [v] [a.eval x] := hv
    exact ok_not H ho hv'.one
  · rename_i t x v
    have hv' : VRs w S μ [v] [a.eval x] := hv
    exact ok_neg H ho hv'.one
  · rename_i s d x v
    have hv' : VRs w S μ [v] [a.eval x] := hv
    exact ok_convS H ho hv'.one
  · rename_i t x y v u
    have hv' : VRs w S μ [v, u] [a.eval x, a.eval y] := hv
    exact ok_makeSlice H hf ho hv'.two.1 hv'.two.2
  · exact ok_makeFunc H ho hv
  · rename_i ty xo l hi m x vs
    cases hv0 : (Op.operands (.slice ty xo l hi m)).toList.map a.eval with
    | nil => rw [hv0] at hv; cases hv
    | cons y ys =>
      rw [hv0] at hv
      cases hv with
      | cons hx ht =>
        cases l <;> cases hi <;> cases m <;> simp [Op.operands] at hv0
        all_goals (obtain ⟨rfl, rfl⟩ := hv0; unfold sliceD; simp only [isNone])
        · cases ht with
          | nil => exact ok_slice (lo := none) (hi := none) (mx := none) (vl := none) (vh := none) (vm := none) H ho hx trivial trivial trivial
        · trivial
        · cases ht with
          | cons h1 t => cases t with
            | nil => exact ok_slice H ho hx (lo := none) (vl := none) (hi := some _) (vh := some _) (mx := none) (vm := none) trivial h1 trivial
        · cases ht with
          | cons h1 t => cases t with
            | cons h2 t => cases t with
              | nil => exact ok_slice H ho hx (lo := none) (vl := none) (hi := some _) (vh := some _) (mx := some _) (vm := some _) trivial h1 h2
        · cases ht with
          | cons h1 t => cases t with
            | nil => exact ok_slice H ho hx (lo := some _) (vl := some _) (hi := none) (vh := none) (mx := none) (vm := none) h1 trivial trivial
        · trivial
        · cases ht with
          | cons h1 t => cases t with
            | cons h2 t => cases t with
              | nil => exact ok_slice H ho hx (lo := some _) (vl := some _) (hi := some _) (vh := some _) (mx := none) (vm := none) h1 h2 trivial
        · cases ht with
          | cons h1 t => cases t with
            | cons h2 t => cases t with
              | cons h3 t => cases t with
                | nil => exact ok_slice H ho hx (lo := some _) (vl := some _) (hi := some _) (vh := some _) (mx := some _) (vm := some _) h1 h2 h3
  · rename_i s x f v
    have hv' : VRs w S μ [v] [a.eval x] := hv
    exact ok_fieldAddr H ho hv'.one
  · rename_i s x f v
    have hv' : VRs w S μ [v] [a.eval x] := hv
    exact ok_field H ho hv'.one
  · rename_i t x y v u
    have hv' : VRs w S μ [v, u] [a.eval x, a.eval y] := hv
    exact ok_indexAddr H ho hv'.two.1 hv'.two.2
  · rename_i x i v
    have hv' : VRs w S μ [v] [a.eval x] := hv
    exact ok_extract H ho hv'.one
  · rename_i c
    have bi : ∀ b, c.callee = .builtin b → VRs w S μ vals (c.args.toList.map a.eval) := fun b hb => by
      have : (Op.operands (.call c)).toList.map a.eval = c.args.toList.map a.eval := by simp [Op.operands, Call.operands, hb]
      rw [this] at hv; exact hv
    have args1 : ∀ {v : AV}, VRs w S μ [v] (c.args.toList.map a.eval) → ∃ x, c.args.toList = [x] ∧ VRel w S μ v (a.eval x) := fun {v} hh => by
      cases hc : c.args.toList with
      | nil => rw [hc] at hh; cases hh
      | cons x r =>
        rw [hc] at hh
        cases r with
        | nil => exact ⟨x, rfl, VRs.one hh⟩
        | cons y r => cases hh with | cons _ t => cases t
    have args2 : ∀ {v u : AV}, VRs w S μ [v, u] (c.args.toList.map a.eval) → ∃ x y, c.args.toList = [x, y] ∧ VRel w S μ v (a.eval x) ∧ VRel w S μ u (a.eval y) := fun {v u} hh => by
      cases hc : c.args.toList with
      | nil => rw [hc] at hh; cases hh
      | cons x r =>
        rw [hc] at hh
        cases r with
        | nil => cases hh with | cons _ t => cases t
        | cons y r =>
          cases r with
          | nil => exact ⟨x, y, rfl, (VRs.two hh).1, (VRs.two hh).2⟩
          | cons z r => cases hh with | cons _ t => cases t with | cons _ t => cases t
    split
    · rename_i hcal
      split
      · obtain ⟨x, h1, h2⟩ := args1 (bi _ hcal)
        exact ok_len H ho hcal h1 h2
      · trivial
    · rename_i hcal
      split
      · obtain ⟨x, y, h1, h2, h3⟩ := args2 (bi _ hcal)
        exact ok_min H ho hcal h1 h2 h3
      · trivial
    · rename_i hcal
      split
      · obtain ⟨x, y, h1, h2, h3⟩ := args2 (bi _ hcal)
        exact ok_max H ho hcal h1 h2 h3
      · trivial
    · rename_i hcal
      split
      · obtain ⟨x, y, h1, h2, h3⟩ := args2 (bi _ hcal)
        exact ok_append H hf ho hcal h1 h2 h3
      · trivial
    · rename_i hcal
      split
      · obtain ⟨x, y, h1, h2, h3⟩ := args2 (bi _ hcal)
        exact ok_copy H ho hcal h1 h2 h3
      · trivial
    · rename_i fo hcal
      split
      · rename_i vf vargs
        have : (Op.operands (.call c)).toList.map a.eval = a.eval fo :: c.args.toList.map a.eval := by simp [Op.operands, Call.operands, hcal]
        rw [this] at hv
        cases hv with
        | cons hx ht => exact ok_call henv H hf ho hcal hx ht
      · trivial
    · trivial
  · exact ok_makeMap H hf ho
  · rename_i t x y v u
    have hv' : VRs w S μ [v, u] [a.eval x, a.eval y] := hv
    exact ok_lookup H ho hv'.two.1 hv'.two.2
  · rename_i t x y z v u r
    have hv' : VRs w S μ [v, u, r] [a.eval x, a.eval y, a.eval z] := hv
    exact ok_mapUpdate H ho hv'.three.1 hv'.three.2.1 hv'.three.2.2
  · rename_i t x y v u
    have hv' : VRs w S μ [v, u] [a.eval x, a.eval y] := hv
    exact ok_index H ho hv'.two.1 hv'.two.2
  · trivial

theorem noDem_ok {P : Program} {d : Desc} (hd : DescOK P a o w S μ h base d) : DescOK P a o w S μ h base (noDem d) := by
  cases d with
  | det _ _ _ => exact hd
  | dem _ _ _ _ _ _ => trivial
  | bad _ => trivial
theorem content_nil (H : HRel w S μ h) {v : AV} {r : Rows} (hc : contentA h v = some r) {x : Value} (hx : VRel w S μ v x) : ∃ q n c, x = .slice q n c ∧ (q.isNone = true → r.l = []) := by
  unfold contentA at hc
  split at hc
  · rename_i id c'
    split at hc
    · rename_i et c l hh
      cases hc
      obtain ⟨m, hm, hcase⟩ := hx.own_inv
      obtain ⟨h1, h2, h3⟩ := H.rows hh hm
      rcases hcase with ⟨b, hb, rfl⟩ | ⟨h0, q, rfl⟩
      · exact ⟨_, _, _, rfl, fun h => by simp at h⟩
      · exact ⟨_, _, _, rfl, fun _ => by
          show l = []
          exact List.eq_nil_of_length_eq_zero (by omega)⟩
    · cases hc
  · rename_i id c' lo n
    split at hc
    · rename_i et c l hh
      cases hc
      rcases hx.sub_inv with ⟨m, b, cap, hm, hb, hmc, hrn, hcap, rfl⟩ | ⟨h0, q, cap, rfl⟩
      · exact ⟨_, _, _, rfl, fun h => by simp at h⟩
      · subst h0
        exact ⟨_, _, _, rfl, fun _ => by simp⟩
    · cases hc
  · cases hc
    rcases hx.irec_inv with ⟨u, b, off, cap, h1, h2, h3, h4, rfl⟩ | ⟨h0, q, cap, rfl⟩
    · exact ⟨_, _, _, rfl, fun h => by simp at h⟩
    · exact ⟨_, _, _, rfl, fun _ => h0⟩
  · cases hc
theorem eqGuard_slice {P : Program} {op : BinOp} {t : TypeId} {x y : Operand} {q q' : Option Addr} {n n' c c' : Nat} : (eqGuard op t x y (.slice q n c) (.slice q' n' c')).run P w = .ok () w := by
  unfold eqGuard; cases op <;> rfl
theorem eql_nil {P : Program} {t e : TypeId} (ht : P.underlying t = some (.slice e)) (q : Option Addr) (n c : Nat) : (binOp .eql t (.slice q n c) (.slice none 0 0)).run P w = .ok (.bool q.isNone) w := by
  have : binOp .eql t (.slice q n c) (.slice none 0 0) = (do pure (.bool (← Op.equal t (.slice q n c) (.slice none 0 0)))) := rfl
  rw [this, Sem.run_bind, run_equal_slice_nil w t e q n c ht]; rfl
theorem neq_nil {P : Program} {t e : TypeId} (ht : P.underlying t = some (.slice e)) (q : Option Addr) (n c : Nat) : (binOp .neq t (.slice q n c) (.slice none 0 0)).run P w = .ok (.bool (!q.isNone)) w := by
  have : binOp .neq t (.slice q n c) (.slice none 0 0) = (do pure (.bool (!(← Op.equal t (.slice q n c) (.slice none 0 0))))) := rfl
  rw [this, Sem.run_bind, run_equal_slice_nil w t e q n c ht]; rfl
theorem ok_nilCmp {P : Program} (H : HRel w S μ h) {b : BinOp} {t ty : TypeId} {x y : Operand} {vx vy : AV} (ho : o.op = .binOp b t x y ty) (hx : VRel w S μ vx (a.eval x)) (hy : VRel w S μ vy (a.eval y)) {d : Desc} (hd : nilCmp P h b t vx vy = some d) : DescOK P a o w S μ h base d := by
  unfold nilCmp at hd
  split at hd
  · have hy' : a.eval y = .slice none 0 0 := by cases hy' : a.eval y <;> (rw [hy'] at hy; cases hy); rfl
    by_cases hl : lenTy P t = true
    case neg => simp only [hl, cond_false] at hd; cases hd
    simp only [hl, cond_true] at hd
    obtain ⟨e, ht⟩ : ∃ e, P.underlying t = some (.slice e) := by
      unfold lenTy at hl; split at hl
      · exact ⟨_, by assumption⟩
      · cases hl
    split at hd
    · rename_i r hr
      obtain ⟨q, n, c, hxe, hq⟩ := content_nil H hr hx
      split at hd
      · cases hd
        intro _ K Q hK
        refine wp_val ?_ (hK q.isNone hq (.bool q.isNone) w (Out.same H (.bool _)))
        simp only [execOp, ho, Sem.run_bind, hxe, hy', eqGuard_slice, Result.andThen_ok, eql_nil ht, Sem.run_pure]
      · cases hd
        intro _ K Q hK
        refine wp_val ?_ (hK (!q.isNone) (fun h => hq (by simpa using h)) (.bool (!q.isNone)) w (Out.same H (.bool _)))
        simp only [execOp, ho, Sem.run_bind, hxe, hy', eqGuard_slice, Result.andThen_ok, neq_nil ht, Sem.run_pure]
      · cases hd
    · split at hd
      · cases hd
        have hx' : a.eval x = .slice none 0 0 := by cases hx' : a.eval x <;> (rw [hx'] at hx; cases hx); rfl
        refine ok_pure H fun _ => ⟨.bool true, ?_, .tt⟩
        simp only [execOp, ho, Sem.run_bind, hx', hy', eqGuard_slice, Result.andThen_ok, eql_nil ht, Sem.run_pure, Option.isNone_none]
      · cases hd
        have hx' : a.eval x = .slice none 0 0 := by cases hx' : a.eval x <;> (rw [hx'] at hx; cases hx); rfl
        refine ok_pure H fun _ => ⟨.bool false, ?_, .ff⟩
        simp only [execOp, ho, Sem.run_bind, hx', hy', eqGuard_slice, Result.andThen_ok, neq_nil ht, Sem.run_pure, Option.isNone_none, Bool.not_true]
      · cases hd
  · cases hd
theorem desc_ok1 (E : Env) (henv : ∀ f s, E.spec f = some s → Callable E.P f ∧ Valid E.P f s) (H : HRel w S μ h) (hf : ∀ id, base ≤ id → id < base + 10 → μ id = none) {vals : List AV} (hv : VRs w S μ vals (o.op.operands.toList.map a.eval)) : DescOK E.P a o w S μ h base (descV1 E h base o.op vals) := by
  have h0 := noDem_ok (desc_ok0 E henv H hf hv)
  obtain ⟨op, ho⟩ : ∃ op, o.op = op := ⟨_, rfl⟩
  rw [ho] at hv h0 ⊢
  unfold descV1
  split
  · rename_i c
    split
    · rename_i fo hcal
      split
      · rename_i vf vargs
        have : (Op.operands (.call c)).toList.map a.eval = a.eval fo :: c.args.toList.map a.eval := by simp [Op.operands, Call.operands, hcal]
        rw [this] at hv
        cases hv with
        | cons hx ht => exact ok_call henv H hf ho hcal hx ht
      · trivial
    · rename_i hcal
      split
      · rename_i id cc lo k vx
        have hv1 : VRs w S μ [.sub id cc lo k, vx] (c.args.toList.map a.eval) := by
          have : (Op.operands (.call c)).toList.map a.eval = c.args.toList.map a.eval := by simp [Op.operands, Call.operands, hcal]
          rw [this] at hv; exact hv
        obtain ⟨o1, o2, ha⟩ : ∃ o1 o2, c.args.toList = [o1, o2] := by
          generalize c.args.toList = zs at hv1
          rcases zs with _ | ⟨o1, _ | ⟨o2, _ | ⟨o3, r⟩⟩⟩
          · cases hv1
          · cases hv1 with | cons _ t => cases t
          · exact ⟨o1, o2, rfl⟩
          · cases hv1 with | cons _ t => cases t with | cons _ t => cases t
        rw [ha] at hv1
        have hv2 : VRs w S μ [.sub id cc lo k, vx] [a.eval o1, a.eval o2] := hv1
        exact ok_appendS H hf ho hcal ha hv2.two.1 hv2.two.2
      · exact h0
    · exact h0
  · rename_i b t x y ty
    split
    · rename_i vx vy
      split
      · rename_i d hd
        have hv' : VRs w S μ [vx, vy] [a.eval x, a.eval y] := hv
        exact ok_nilCmp H ho hv'.two.1 hv'.two.2 hd
      · exact h0
    · exact h0
  · exact h0

theorem descD_ok (E : Env) (H : HRel w S μ h) (hf : ∀ id, base ≤ id → id < base + 10 → μ id = none) {vals : List AV} (hv : VRs w S μ vals (o.op.operands.toList.map a.eval)) {d : Desc} (hd : descD E h base o.op vals = some d) : DescOK E.P a o w S μ h base d := by
  obtain ⟨op, ho⟩ : ∃ op, o.op = op := ⟨_, rfl⟩
  rw [ho] at hv hd
  unfold descD at hd
  split at hd
  · rename_i t x id c r f
    by_cases hb : deepAt h id = true
    · simp only [hb, cond_true, Option.some.injEq] at hd
      subst hd
      have hv' : VRs w S μ [.ept id c r f] [a.eval x] := hv
      exact ok_loadDp H hf ho hv'.one
    · simp only [Bool.not_eq_true] at hb
      rw [hb, cond_false] at hd; cases hd
  · rename_i t x y id c r f v
    by_cases hb : deepAt h id = true
    · simp only [hb, cond_true, Option.some.injEq] at hd
      subst hd
      have hv' : VRs w S μ [.ept id c r f, v] [a.eval x, a.eval y] := hv
      exact ok_storeDp H ho hv'.two.1 hv'.two.2
    · simp only [Bool.not_eq_true] at hb
      rw [hb, cond_false] at hd; cases hd
  · rename_i t x y id c k i
    by_cases hb : deepAt h id = true
    · simp only [hb, cond_true, Option.some.injEq] at hd
      subst hd
      have hv' : VRs w S μ [.own id c, .int k i] [a.eval x, a.eval y] := hv
      exact ok_idxDp H ho hv'.two.1 hv'.two.2
    · simp only [Bool.not_eq_true] at hb
      rw [hb, cond_false] at hd; cases hd
  · rename_i t x y vx vy
    by_cases hb : oneDeep E.dp E.P t = true
    · simp only [hb, cond_true, Option.some.injEq] at hd
      subst hd
      have hv' : VRs w S μ [vx, vy] [a.eval x, a.eval y] := hv
      exact ok_makeSliceDp H hf ho hv'.two.1 hv'.two.2
    · simp only [Bool.not_eq_true] at hb
      rw [hb, cond_false] at hd; cases hd
  · rename_i c id c'
    split at hd
    · rename_i t hcal hts
      by_cases hb : (deepAt h id && lenTy E.P t) = true
      · simp only [hb, cond_true, Option.some.injEq] at hd
        subst hd
        simp only [Bool.and_eq_true] at hb
        have : (Op.operands (.call c)).toList.map a.eval = c.args.toList.map a.eval := by simp [Op.operands, Call.operands, hcal]
        rw [this] at hv
        obtain ⟨x, hx⟩ : ∃ x, c.args.toList = [x] := by
          have := hv.len
          simp at this
          match e : c.args.toList, this with
          | [x], _ => exact ⟨x, rfl⟩
          | [], h => rw [← Array.length_toList, e] at h; simp at h
          | _ :: _ :: _, h => rw [← Array.length_toList, e] at h; simp at h
        rw [hx] at hv
        exact ok_lenDp H ho hcal hx hts hb.2 hv.one
      · simp only [Bool.not_eq_true] at hb
        rw [hb, cond_false] at hd; cases hd
    · cases hd
  · rename_i c s idx c'
    split at hd
    · rename_i hcal
      cases hb : deepAt h idx with
      | false => rw [hb, cond_false] at hd; cases hd
      | true =>
        simp only [hb, cond_true, Option.some.injEq] at hd
        subst hd
        have : (Op.operands (.call c)).toList.map a.eval = c.args.toList.map a.eval := by simp [Op.operands, Call.operands, hcal]
        rw [this] at hv
        obtain ⟨x, y, hx⟩ : ∃ x y, c.args.toList = [x, y] := by
          have := hv.len
          simp at this
          match e : c.args.toList, this with
          | [x, y], _ => exact ⟨x, y, rfl⟩
          | [], h => rw [← Array.length_toList, e] at h; simp at h
          | [_], h => rw [← Array.length_toList, e] at h; simp at h
          | _ :: _ :: _ :: _, h => rw [← Array.length_toList, e] at h; simp at h
        rw [hx] at hv
        have hv' : VRs w S μ [s, .own idx c'] [a.eval x, a.eval y] := hv
        exact ok_appendDp H hf ho hcal hx hv'.two.1 hv'.two.2
    · cases hd
  · rename_i vs t n parts
    cases hb : oneDeep E.dp E.P t with
    | false => rw [hb, cond_false] at hd; cases hd
    | true =>
      rw [hb, cond_true] at hd
      simp only [Option.some.injEq] at hd
      subst hd
      refine ok_buildSliceDp H hf ho ?_
      have e : (Op.operands (.buildSlice t n parts)).toList.map a.eval = parts.toList.map fun p => a.eval p.2 := by simp [Op.operands]
      rw [e] at hv
      exact hv
  · cases hd
theorem desc_ok (E : Env) (henv : ∀ f s, E.spec f = some s → Callable E.P f ∧ Valid E.P f s) (H : HRel w S μ h) (hf : ∀ id, base ≤ id → id < base + 10 → μ id = none) {vals : List AV} (hv : VRs w S μ vals (o.op.operands.toList.map a.eval)) : DescOK E.P a o w S μ h base (descV E h base o.op vals) := by
  unfold descV
  split
  · rename_i d hd
    exact descD_ok E H hf hv hd
  · by_cases hmv : (movB o.op || !isBad (descV1 E h base o.op vals)) = true
    · rw [hmv, cond_true]; exact desc_ok1 E henv H hf hv
    simp only [Bool.not_eq_true] at hmv
    rw [hmv, cond_false]
    split
    · exact desc_ok1 E henv H hf hv
    · rename_i id hid
      split
      · rename_i q u hs
        by_cases hq : ∀ p ∈ q, p
        · obtain ⟨S', E1, H1⟩ := softD_ok H hs hq
          exact preP_ok (fun _ => E1) fun _ => desc_ok1 E henv H1 hf (hv.evo E1)
        · exact preP_ok (S1 := S) (fun h => absurd h hq) fun h => absurd h hq
      · exact desc_ok1 E henv H hf hv

/-- The state that the engine has in mind is the one that the machine is in. -/
structure Rel (N : Nat) (s : St) (a : Act) (w : World) (S : SS) (μ : MM) : Prop where
  tm : ∀ i, VRel w S μ (s.t i) (a.tmps.getD i Go.undef)
  hp : HRel w S μ s.h
  df : a.defers = []
  sz : a.tmps.size = N

theorem Rel.next {N : Nat} {s : St} (R : Rel N s a w S μ) {v : AV} {u : Upd} {w' : World} {x : Value} {dst : Option Nat} (hd : ∀ d, dst = some d → d < N) {S' : SS} {μ' : MM} (E : Evo w S μ w' S' μ') (hv : VRel w' S' μ' v x) (H : HRel w' S' μ' (updH s.h u)) :
    Rel N ((s.upds u).put dst v) (a.put dst x) w' S' μ' := by
  cases dst with
  | none =>
    refine ⟨fun i => ?_, ?_, R.df, R.sz⟩
    · show VRel w' S' μ' ((s.upds u).t i) _
      rw [upds_t]; exact (R.tm i).evo E
    · show HRel w' S' μ' (s.upds u).h
      rw [upds_h]; exact H
  | some d =>
    have hd' := hd d rfl
    refine ⟨fun i => ?_, ?_, R.df, ?_⟩
    · show VRel w' S' μ' (bif Nat.beq i d then v else (s.upds u).t i) ((a.tmps.setIfInBounds d x).getD i Go.undef)
      have hd2 : d < a.tmps.size := by rw [R.sz]; exact hd'
      by_cases e : i = d
      · subst e
        simp only [nbeq_same, cond_true]
        have : (a.tmps.setIfInBounds i x).getD i Go.undef = x := by simp [Array.getD, hd2]
        rw [this]; exact hv
      · simp only [nbeq_ne e, cond_false]
        rw [upds_t]
        have : (a.tmps.setIfInBounds d x).getD i Go.undef = a.tmps.getD i Go.undef := by
          simp only [Array.getD_eq_getD_getElem?, Array.getElem?_setIfInBounds_ne (Ne.symm e)]
        rw [this]; exact (R.tm i).evo E
    · show HRel w' S' μ' (s.upds u).h
      rw [upds_h]; exact H
    · show (a.tmps.setIfInBounds d x).size = N
      simpa using R.sz

theorem evalA_rel {N : Nat} {s : St} (R : Rel N s a w S μ) (x : Operand) : VRel w S μ (evalA s.t x) (a.eval x) := by
  cases x with
  | tmp i => exact R.tm i
  | const v => exact avOf_rel v
  | global g => exact .undef _
  | func f => exact .fn (by simp) (fun i hi => (by simp at hi)) (by simp) (fun i hi => (by simp at hi))
theorem evals_rel {N : Nat} {s : St} (R : Rel N s a w S μ) (l : List Operand) : VRs w S μ (l.map (evalA s.t)) (l.map a.eval) := by
  induction l with
  | nil => exact .nil
  | cons x r ih => exact .cons (evalA_rel R x) ih
end
end Go.Proofs.Ytemffnpliflkgaa
