/-
  Lemmas and contracts on the way to the laws of this seat; each theorem states its own conditions, and there are no others.
-/
import Derived.Test.YtemffnpliflkgaaE19
import Derived.Orders
namespace Go.Proofs.Ytemffnpliflkgaa
open Go
set_option linter.unusedVariables false
set_option linter.unusedSimpArgs false
section
variable {E : Env} {ops : Array Oper} {bf : Array Nat} {rid : Nat}

/-- What an operation may change is told. -/
def WrOK (d : Desc) : Prop := d.Pre → (∃ v u, d.Gives v u) ∧ ∀ v u, d.Gives v u → ∀ x, x ∈ u.map (·.1) → x ∈ d.wr
theorem wrOK_det {pre : List Prop} {v : AV} {u : Upd} : WrOK (.det pre v u) := fun _ => ⟨⟨v, u, rfl, rfl⟩, fun v' u' ⟨_, e⟩ x hx => by rw [e] at hx; exact hx⟩
theorem wrOK_bad {w : String} : WrOK (.bad w) := fun h => h.elim
theorem sameU_mem {h : Nat → Option OB} {rd : List Nat} : ∀ {u : Upd}, sameU h rd u → ∀ x, x ∈ u.map (·.1) → x ∈ rd
  | [], _, x, hx => by cases hx
  | (id, o) :: r, hs, x, hx => by
    unfold sameU at hs
    by_cases hm : memN id rd = true
    · simp only [hm, cond_true] at hs
      simp only [List.map_cons, List.mem_cons] at hx
      rcases hx with e | hx
      · rw [e]; exact memN_iff.1 hm
      · exact sameU_mem hs.2 x hx
    · simp only [hm, cond_false] at hs; omega
theorem frz1D_wr {base : Nat} {d : Desc} (h : WrOK d) : WrOK (frz1D base d) := by
  unfold frz1D
  split
  · rename_i id c0 i e c l
    cases (Nat.beq id i && Nat.beq id (base + 1))
    · exact wrOK_bad
    · exact wrOK_det
  · exact h
theorem frzD_wr {op : Op} {base : Nat} {d : Desc} (h : WrOK d) : WrOK (frzD op base d) := by
  unfold frzD
  split
  · exact frz1D_wr h
  · exact frz1D_wr h
  · exact h
theorem underG_wr {h : Nat → Option OB} {rd : List Nat} {x want : Bool} {q : List Prop} {d : Desc} (hd : WrOK d) : WrOK (underG h rd x want q d) := by
  cases d with
  | det pre v u => cases u <;> exact wrOK_det
  | bad w => exact wrOK_bad
  | dem pre Y post v u wr =>
    intro hp
    by_cases hx : x = want
    · have hin : (Desc.dem pre Y post v u wr).Pre := fun p hpp => hp (x = want → p) (by simp only [List.mem_append, List.mem_map]; exact .inr (.inl ⟨p, hpp, rfl⟩)) hx
      obtain ⟨⟨_, _, y, hy, _⟩, hm⟩ := hd hin
      refine ⟨⟨_, _, y, ⟨fun _ => hy, fun h => absurd hx h⟩, rfl, rfl⟩, fun v' u' hg z hz => ?_⟩
      obtain ⟨y', ⟨h1, _⟩, _, e⟩ := hg
      rw [e] at hz
      exact List.mem_append_left _ (hm _ _ ⟨y', h1 hx, rfl, rfl⟩ z hz)
    · obtain ⟨y, hy⟩ : ∃ y, sameU h rd (u y) := hp (¬ x = want → ∃ y, sameU h rd (u y)) (List.mem_append_right _ (List.mem_append_right _ (List.mem_singleton.2 rfl))) hx
      refine ⟨⟨_, _, y, ⟨fun h => absurd h hx, fun _ => hy⟩, rfl, rfl⟩, fun v' u' hg z hz => ?_⟩
      obtain ⟨y', ⟨_, h2⟩, _, e⟩ := hg
      rw [e] at hz
      exact List.mem_append_right _ (sameU_mem (h2 hx) z hz)
theorem underL_wr {lg : Option (Prop × List Prop × AV × Upd)} {h : Nat → Option OB} {rd : List Nat} {x want : Bool} {q : List Prop} {d : Desc} (hd : WrOK d) : WrOK (underL lg h rd x want q d) := by
  unfold underL
  split
  · exact wrOK_det
  · exact underG_wr hd
theorem descG_wrOK {s : St} {o : Oper} {base : Nat} : WrOK (descG E ops s base o) := by
  unfold descG
  split
  · exact fun hp => descV_wr hp
  · split
    · exact wrOK_bad
    · rename_i d want hgs
      split
      · cases want
        · exact wrOK_det
        · exact fun hp => descV_wr hp
      · cases want
        · exact fun hp => descV_wr hp
        · exact wrOK_det
      · exact underL_wr (frzD_wr fun hp => descV_wr hp)
      · split
        · exact underL_wr (frzD_wr fun hp => descV_wr hp)
        · exact wrOK_bad
      · exact wrOK_bad
theorem descG_wr {s : St} {o : Oper} {base : Nat} (hp : (descG E ops s base o).Pre) : (∃ v u, (descG E ops s base o).Gives v u) ∧ ∀ v u, (descG E ops s base o).Gives v u → ∀ x, x ∈ u.map (·.1) → x ∈ (descG E ops s base o).wr := descG_wrOK hp

theorem dst_slot {s : St} {d : Option Nat} {v : AV} {u : Upd} {t : Nat} (h : t ∉ oneL d) : ((s.upds u).put d v).t t = s.t t := by
  cases d with
  | none => show (s.upds u).t t = _; rw [upds_t]
  | some d =>
    have : t ≠ d := fun e => h (by simp [oneL, e])
    show (bif Nat.beq t d then v else (s.upds u).t t) = _
    rw [nbeq_ne this, upds_t]; rfl
theorem upd_heap {s : St} {d : Option Nat} {v : AV} {u : Upd} {id : Nat} (h : id ∉ u.map (·.1)) : ((s.upds u).put d v).h id = s.h id := by
  have : ((s.upds u).put d v).h = (s.upds u).h := by cases d <;> rfl
  rw [this, upds_h, updH_other h]

/-- An operation that does not meet another sees the same behind it. -/
theorem seen_same {s : St} {oi oj : Oper} {bi bj i j : Nat} {v : AV} {u : Upd} {di : Desc} (hwr : ∀ x, x ∈ u.map (·.1) → x ∈ di.wr)
    (hind : ∀ (hd : List Nat), indep (footG ops s oi i di) ⟨j, oj.dst, readsT ops oj, rdO s.h oj (oj.op.operands.toList.map (evalA s.t)), hd⟩ = true → True)
    (h1 : disj (oneL oi.dst) (readsT ops oj) = true) (h2 : disj di.wr (rdO s.h oj (oj.op.operands.toList.map (evalA s.t))) = true) :
    descG E ops ((s.upds u).put oi.dst v) bj oj = descG E ops s bj oj ∧ ∀ d, footG ops ((s.upds u).put oi.dst v) oj j d = footG ops s oj j d := by
  have ht : ∀ t, t ∈ readsT ops oj → s.t t = ((s.upds u).put oi.dst v).t t := fun t hm => (dst_slot fun hc => disj_spec h1 t hc hm).symm
  have hh : Agree s.h ((s.upds u).put oi.dst v).h (rdO s.h oj (oj.op.operands.toList.map (evalA s.t))) := fun id hm => (upd_heap fun hc => disj_spec h2 id (hwr id hc) hm).symm
  refine ⟨(descG_congr ht hh).symm, fun d => ?_⟩
  have hv := vals_congr (o := oj) fun t hm => ht t (by simp [readsT, hm])
  unfold footG
  rw [← hv]
  dsimp only
  rw [← rdO_eq hh]

/-- The one that comes first may be any that waits for nothing. -/
theorem runX_move {j : Nat} {oj : Oper} : ∀ (A B : List (Nat × Oper)) (past : List Foot) (s : St) (K : St → Prop), (∀ p ∈ A, (bf.getD j 0).testBit p.1 = false) → runX E ops bf rid (A ++ (j, oj) :: B) past s K →
    (past.all fun p => (bf.getD j 0).testBit p.ix || indep p (footG ops s oj j (descG E ops s (rid + j * 10) oj))) = true ∧
    step (descG E ops s (rid + j * 10) oj) oj.dst s fun s' => runX E ops bf rid (A ++ B) (footG ops s oj j (descG E ops s (rid + j * 10) oj) :: past) s' K
  | [], B, past, s, K, _, h => h
  | (i, oi) :: A, B, past, s, K, hA, h => by
    simp only [List.cons_append, runX] at h
    obtain ⟨hpi, hsi⟩ := h
    obtain ⟨hprei, hgi⟩ := step_iff.1 hsi
    obtain ⟨⟨v0, u0, hg0⟩, hwri⟩ := descG_wr hprei
    have hA' : ∀ p ∈ A, (bf.getD j 0).testBit p.1 = false := fun p hm => hA p (List.mem_cons_of_mem _ hm)
    have hij : (bf.getD j 0).testBit i = false := hA (i, oi) (by simp)
    have ih : ∀ v u, (descG E ops s (rid + i * 10) oi).Gives v u → _ := fun v u hg => runX_move A B _ _ K hA' (hgi v u hg)
    -- the two do not meet
    have hind : ∀ v u, (descG E ops s (rid + i * 10) oi).Gives v u → indep (footG ops s oi i (descG E ops s (rid + i * 10) oi)) (footG ops ((s.upds u).put oi.dst v) oj j (descG E ops ((s.upds u).put oi.dst v) (rid + j * 10) oj)) = true := fun v u hg => by
      have h1 := (ih v u hg).1
      rw [List.all_eq_true] at h1
      have h2 := h1 _ (List.mem_cons_self ..)
      simp only [footG] at h2 ⊢
      rw [hij] at h2
      simpa using h2
    -- j sees the same ahead of i
    have same : ∀ v u, (descG E ops s (rid + i * 10) oi).Gives v u → descG E ops ((s.upds u).put oi.dst v) (rid + j * 10) oj = descG E ops s (rid + j * 10) oj ∧ ∀ d, footG ops ((s.upds u).put oi.dst v) oj j d = footG ops s oj j d := fun v u hg => by
      have h1 := hind v u hg
      simp only [indep, footG, Bool.and_eq_true] at h1
      have ht : ∀ t, t ∈ readsT ops oj → s.t t = ((s.upds u).put oi.dst v).t t := fun t hm => (dst_slot fun hc => disj_spec h1.1.1.1.1.1 t hc hm).symm
      have hv := vals_congr (o := oj) fun t hm => ht t (by simp [readsT, hm])
      rw [← hv] at h1
      have hh : Agree ((s.upds u).put oi.dst v).h s.h (rdO ((s.upds u).put oi.dst v).h oj (oj.op.operands.toList.map (evalA s.t))) := fun id hm => upd_heap fun hc => disj_spec h1.1.1.2 id (hwri v u hg id hc) hm
      have h2 := h1.1.1.2
      rw [rdO_eq hh] at h2
      exact seen_same (bi := 0) (i := i) (hwri v u hg) (fun _ _ => trivial) h1.1.1.1.1.1 h2
    have ej := same v0 u0 hg0
    have ind0 : indep (footG ops s oi i (descG E ops s (rid + i * 10) oi)) (footG ops s oj j (descG E ops s (rid + j * 10) oj)) = true := by
      have := hind v0 u0 hg0
      rwa [ej.1, ej.2] at this
    have ih0 := ih v0 u0 hg0
    rw [ej.1, ej.2] at ih0
    obtain ⟨hpj, hsj⟩ := ih0
    obtain ⟨hprej, _⟩ := step_iff.1 hsj
    obtain ⟨_, hwrj⟩ := descG_wr hprej
    refine ⟨?_, step_iff.2 ⟨hprej, fun v u hgj => ?_⟩⟩
    · rw [List.all_eq_true] at hpj ⊢
      exact fun p hm => hpj p (List.mem_cons_of_mem _ hm)
    · -- behind j, i sees the same
      have ind1 := indep_symm ind0
      simp only [indep, footG, Bool.and_eq_true] at ind1
      have sami := seen_same (E := E) (ops := ops) (bj := rid + i * 10) (j := i) (oi := oj) (oj := oi) (bi := 0) (i := j) (s := s) (v := v) (hwrj v u hgj) (fun _ _ => trivial) ind1.1.1.1.1.1 ind1.1.1.2
      simp only [List.cons_append, runX]
      rw [sami.1, sami.2]
      refine ⟨?_, step_iff.2 ⟨hprei, fun v' u' hgi' => ?_⟩⟩
      · rw [List.all_eq_true] at hpi ⊢
        intro p hm
        rcases List.mem_cons.1 hm with e | hm
        · rw [e, indep_symm ind0]; simp
        · exact hpi p hm
      · have h1 := ih v' u' hgi'
        have e1 := same v' u' hgi'
        rw [e1.1, e1.2] at h1
        have h2 := (step_iff.1 h1.2).2 v u hgj
        have e2 : (((s.upds u).put oj.dst v).upds u').put oi.dst v' = (((s.upds u').put oi.dst v').upds u).put oj.dst v := by
          refine patch_comm (fun x hx hy => ?_) (fun x hx hy => ?_)
          · refine disj_spec ind1.1.1.1.1.2 x ?_ ?_
            · rw [hx]; simp [oneL]
            · rw [hy]; simp [oneL]
          · exact disj_spec ind1.1.2 x (hwrj v u hgj x hx) (hwri v' u' hgi' x hy)
        rw [e2]
        exact runX_past (fun p hm => by
          simp only [List.mem_cons] at hm ⊢
          rcases hm with e | e | e
          · exact .inr (.inl e)
          · exact .inl e
          · exact .inr (.inr e)) h2
end

/-- What an operation waits for, through others too, comes up before it. -/
theorem before_spec (ops : Array Oper) (D : Nat → Prop) (hD : ∀ k ok, ops[k]? = some ok → D k → ∀ e ∈ ok.after, Region.binds .any e = true → D e.on) :
    ∀ j oj, ops[j]? = some oj → (∀ e ∈ oj.after, Region.binds .any e = true → D e.on) → ∀ i, ((Region.before ops).getD j 0).testBit i = true → D i := by
  -- over the fold
  have key : ∀ (l : List Oper) (pre : List Oper), ops.toList = pre ++ l → ∀ (acc : Array Nat), acc.size = pre.length → (∀ j oj, pre[j]? = some oj → (∀ e ∈ oj.after, Region.binds .any e = true → D e.on) → ∀ i, (acc.getD j 0).testBit i = true → D i) →
      ∀ j oj, ops.toList[j]? = some oj → (∀ e ∈ oj.after, Region.binds .any e = true → D e.on) → ∀ i, ((l.foldl (init := acc) fun acc o => acc.push (o.after.foldl (fun s e => if Region.binds .any e then s ||| 2 ^ e.on ||| acc.getD e.on 0 else s) 0)).getD j 0).testBit i = true → D i := by
    intro l
    induction l with
    | nil =>
      intro pre hpre acc _ hacc j oj hj
      rw [hpre, List.append_nil] at hj
      exact hacc j oj hj
    | cons o l ih =>
      intro pre hpre acc hsz hacc
      refine ih (pre ++ [o]) (by rw [hpre]; simp) _ (by simp [hsz]) ?_
      intro j oj hj hdeps i hi
      by_cases hjl : j < pre.length
      · rw [List.getElem?_append_left hjl] at hj
        refine hacc j oj hj hdeps i ?_
        have : (acc.push (o.after.foldl (fun s e => if Region.binds .any e then s ||| 2 ^ e.on ||| acc.getD e.on 0 else s) 0)).getD j 0 = acc.getD j 0 := by
          simp only [Array.getD_eq_getD_getElem?]
          rw [Array.getElem?_push_lt (by omega)]
          simp [hsz, hjl]
        rwa [this] at hi
      · have hjeq : j = pre.length := by
          have := (List.getElem?_eq_some_iff.1 hj).1
          simp at this; omega
        subst hjeq
        have ho : oj = o := by simpa using hj.symm
        subst ho
        have : (acc.push (oj.after.foldl (fun s e => if Region.binds .any e then s ||| 2 ^ e.on ||| acc.getD e.on 0 else s) 0)).getD pre.length 0 = oj.after.foldl (fun s e => if Region.binds .any e then s ||| 2 ^ e.on ||| acc.getD e.on 0 else s) 0 := by
          rw [← hsz]; simp [Array.getD_eq_getD_getElem?]
        rw [this] at hi
        -- the bits come from the edges
        have bits : ∀ (es : List Edge) (s : Nat), (∀ e ∈ es, e ∈ oj.after.toList) → (s.testBit i = true → D i) → (es.foldl (fun s e => if Region.binds .any e then s ||| 2 ^ e.on ||| acc.getD e.on 0 else s) s).testBit i = true → D i := by
          intro es
          induction es with
          | nil => intro s _ hs h; exact hs h
          | cons e es ihe =>
            intro s hes hs h
            simp only [List.foldl_cons] at h
            refine ihe _ (fun e' hm => hes e' (List.mem_cons_of_mem _ hm)) ?_ h
            intro hb
            by_cases hbi : Region.binds .any e = true
            · rw [if_pos hbi] at hb
              simp only [Nat.testBit_or, Bool.or_eq_true] at hb
              have he : e ∈ oj.after := by simpa using hes e (by simp)
              have hDe := hdeps e he hbi
              rcases hb with (hb | hb) | hb
              · exact hs hb
              · rw [Nat.testBit_two_pow] at hb
                have : e.on = i := by simpa using hb
                rw [← this]; exact hDe
              · -- through an earlier one
                cases hp : pre[e.on]? with
                | none =>
                  have : acc.getD e.on 0 = 0 := by
                    rw [Array.getD_eq_getD_getElem?]
                    have hle : pre.length ≤ e.on := List.getElem?_eq_none_iff.1 hp
                    rw [Array.getElem?_eq_none (by omega)]; rfl
                  rw [this] at hb; simp at hb
                | some ok =>
                  have hok : ops[e.on]? = some ok := by
                    have h1 := (List.getElem?_eq_some_iff.1 hp).1
                    have : ops.toList[e.on]? = some ok := by rw [hpre, List.getElem?_append_left h1]; exact hp
                    simpa using this
                  exact hacc e.on ok hp (hD e.on ok hok hDe) i hb
            · rw [if_neg hbi] at hb; exact hs hb
        rw [← Array.foldl_toList] at hi
        exact bits _ 0 (fun e h => h) (by simp) hi
  intro j oj hj hdeps i hi
  refine key ops.toList [] rfl #[] rfl (by simp) j oj (by simpa using hj) hdeps i ?_
  unfold Region.before at hi
  rw [← Array.foldl_toList] at hi
  exact hi
end Go.Proofs.Ytemffnpliflkgaa
