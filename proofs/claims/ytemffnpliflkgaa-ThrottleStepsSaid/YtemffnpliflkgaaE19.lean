/-
  Lemmas and contracts on the way to the laws of this seat; each theorem states its own conditions, and there are no others.
-/
import Derived.Test.YtemffnpliflkgaaE18
namespace Go.Proofs.Ytemffnpliflkgaa
open Go
set_option linter.unusedVariables false
set_option linter.unusedSimpArgs false

/-- The operations of a region that are still to be done, each with its place. -/
def runX (E : Env) (ops : Array Oper) (bf : Array Nat) (rid : Nat) : List (Nat × Oper) → List Foot → St → (St → Prop) → Prop
  | [], _, s, K => K s
  | (i, o) :: r, past, s, K =>
    (past.all fun p => (bf.getD i 0).testBit p.ix || indep p (footG ops s o i (descG E ops s (rid + i * 10) o))) = true ∧
    step (descG E ops s (rid + i * 10) o) o.dst s fun s' => runX E ops bf rid r (footG ops s o i (descG E ops s (rid + i * 10) o) :: past) s' K

theorem runX_of_runD {E : Env} {ops : Array Oper} {bf : Array Nat} {rid : Nat} : ∀ (l : List Oper) (i : Nat) (past : List Foot) (s : St) (K : St → Prop), runD E ops bf rid l i past s K → runX E ops bf rid (l.zipIdx i |>.map fun p => (p.2, p.1)) past s K
  | [], _, _, _, _, h => h
  | o :: l, i, past, s, K, h => by
    simp only [runD] at h
    simp only [List.zipIdx_cons, List.map_cons, runX]
    by_cases hc : (past.all fun p => (bf.getD i 0).testBit p.ix || indep p (footG ops s o i (descG E ops s (rid + i * 10) o))) = true
    · simp only [hc, cond_true] at h
      refine ⟨hc, ?_⟩
      obtain ⟨h1, h2⟩ := step_iff.1 h
      exact step_iff.2 ⟨h1, fun v u hg => runX_of_runD l (i + 1) _ _ K (h2 v u hg)⟩
    · simp only [Bool.not_eq_true] at hc
      rw [hc] at h
      exact h.2.2.elim

section
variable {E : Env} {ops : Array Oper} {bf : Array Nat} {rid : Nat}

theorem runX_past {l : List (Nat × Oper)} : ∀ {past past' : List Foot} {s : St} {K : St → Prop}, (∀ p, p ∈ past' → p ∈ past) → runX E ops bf rid l past s K → runX E ops bf rid l past' s K := by
  induction l with
  | nil => intro past past' s K _ h; exact h
  | cons p r ih =>
    obtain ⟨i, o⟩ := p
    intro past past' s K hp h
    simp only [runX] at h ⊢
    refine ⟨?_, ?_⟩
    · rw [List.all_eq_true] at *
      exact fun p hm => h.1 p (hp p hm)
    · obtain ⟨h1, h2⟩ := step_iff.1 h.2
      refine step_iff.2 ⟨h1, fun v u hg => ih (fun p hm => ?_) (h2 v u hg)⟩
      rcases List.mem_cons.1 hm with e | hm
      · rw [e]; simp
      · simp [hp p hm]

theorem disj_spec {a b : List Nat} (h : disj a b = true) : ∀ x, x ∈ a → x ∉ b := by
  unfold disj at h
  rw [List.all_eq_true] at h
  intro x hx hb
  have := h x hx
  rw [memN_iff.2 hb] at this
  cases this
theorem disj_symm {a b : List Nat} (h : disj a b = true) : disj b a = true := by
  have := disj_spec h
  unfold disj
  rw [List.all_eq_true]
  intro x hx
  rw [Bool.not_eq_true']
  apply Bool.eq_false_iff.2
  intro hm
  exact this x (memN_iff.1 hm) hx
theorem indep_symm {f g : Foot} (h : indep f g = true) : indep g f = true := by
  simp only [indep, Bool.and_eq_true] at h ⊢
  exact ⟨⟨⟨⟨⟨h.1.1.1.2, disj_symm h.1.1.1.1.2⟩, h.1.1.1.1.1⟩, h.2⟩, disj_symm h.1.2⟩, h.1.1.2⟩

/-- The slots that an operation reads. -/
def readsT (ops : Array Oper) (o : Oper) : List Nat := slotsOf o.op ++ (match guardSlot ops o with
    | some (d, _) => [d]
    | none => [])

theorem vals_congr {s s' : St} {o : Oper} (ht : ∀ t, t ∈ slotsOf o.op → s.t t = s'.t t) : o.op.operands.toList.map (evalA s.t) = o.op.operands.toList.map (evalA s'.t) := by
  apply List.map_congr_left
  intro x hx
  cases x with
  | tmp t => exact ht t (by unfold slotsOf; exact List.mem_filterMap.2 ⟨_, hx, rfl⟩)
  | _ => rfl

theorem strip_ids {x want : Bool} : ∀ {vs : List AV} (id : Nat), id ∈ reads (stripL x want vs).2 → id ∈ reads vs
  | [], id, h => h
  | v :: r, id, h => by
    simp only [stripL, reads, List.flatMap_cons, List.mem_append] at h ⊢
    rcases h with h | h
    · left
      cases v <;> first | exact h | skip
    · exact .inr (strip_ids id h)

theorem stripO_ids {op : Op} {x want : Bool} {vs : List AV} (id : Nat) (h : id ∈ reads (stripO op x want vs).2) : id ∈ reads vs := by
  unfold stripO at h
  split at h
  · rename_i c r
    simp only [reads, List.flatMap_cons, List.mem_append] at h ⊢
    rcases h with h | h
    · left
      cases c <;> first | exact h | skip
    · exact .inr h
  · exact strip_ids id h

theorem sameU_congr {h h' : Nat → Option OB} {rd : List Nat} (H : Agree h h' rd) : ∀ (u : Upd), sameU h rd u = sameU h' rd u
  | [] => rfl
  | (id, o) :: r => by
    unfold sameU
    by_cases hm : memN id rd = true
    · rw [hm, cond_true, cond_true, H id (memN_iff.1 hm), sameU_congr H r]
    · simp only [Bool.not_eq_true] at hm
      rw [hm, cond_false, cond_false]
theorem underG_congr {h h' : Nat → Option OB} {rd : List Nat} (H : Agree h h' rd) {x want : Bool} {q : List Prop} {d : Desc} : underG h rd x want q d = underG h' rd x want q d := by
  cases d with
  | det pre v u => cases u with
    | nil => rfl
    | cons p r => simp only [underG, sameU_congr H]
  | dem _ _ _ _ _ _ => simp only [underG, sameU_congr H]
  | bad _ => rfl
theorem readsH_reads {h h' : Nat → Option OB} {c : Bool} {vals : List AV} (H : Agree h h' (readsH c h vals)) : Agree h h' (reads vals) := (Agree.app H).1
theorem rdO_congr {h h' : Nat → Option OB} {o : Oper} {base : Nat} {vals : List AV} (hg : o.guard = none) (H : Agree h h' (rdO h o vals)) : descV E h base o.op vals = descV E h' base o.op vals := by
  unfold rdO at H
  rw [hg] at H
  cases ho : o.op
  case move x =>
    match vals with
    | [] => rfl
    | [v] => rfl
    | _ :: _ :: _ => rfl
  case assign x =>
    match vals with
    | [] => rfl
    | [v] => rfl
    | _ :: _ :: _ => rfl
  all_goals
    rw [ho] at H
    exact descV_congr H
theorem rdO_some {h : Nat → Option OB} {o : Oper} {g : Nat × Bool} {vals : List AV} (hg : o.guard = some g) : rdO h o vals = readsH (callB o.op) h vals := by
  unfold rdO
  rw [hg]
/-- What it looks at is the same where it sees the same. -/
theorem links_eq {h h' : Nat → Option OB} {c : Bool} {id : Nat} (e : h id = h' id) : links c h id = links c h' id := by unfold links; rw [e]
theorem readsH_eq {h h' : Nat → Option OB} {c : Bool} {vals : List AV} (H : Agree h h' (reads vals)) : readsH c h vals = readsH c h' vals := by
  unfold readsH
  congr 1
  have : ∀ l : List Nat, (∀ id ∈ l, h id = h' id) → l.flatMap (links c h) = l.flatMap (links c h') := fun l => by
    induction l with
    | nil => intro _; rfl
    | cons x r ih =>
      intro hl
      simp only [List.flatMap_cons]
      rw [ih fun id hi => hl id (by simp [hi]), links_eq (hl x (by simp))]
  exact this _ H
theorem rdO_eq {h h' : Nat → Option OB} {o : Oper} {vals : List AV} (H : Agree h h' (rdO h o vals)) : rdO h o vals = rdO h' o vals := by
  unfold rdO at H ⊢
  split
  · rfl
  · rfl
  · rename_i h1 h2 h3 h4
    split at H
    · rename_i g1 g2; exact (h3 _ g1 g2).elim
    · rename_i g1 g2; exact (h4 _ g1 g2).elim
    · exact readsH_eq (readsH_reads H)
/-- An operation sees nothing but what it reads. -/
theorem links_mono {h : Nat → Option OB} {id k : Nat} {c : Bool} (hk : k ∈ links false h id) : k ∈ links c h id := by
  unfold links at hk ⊢
  split at hk
  · exact hk
  · cases hk
  · cases hk
theorem underL_congr {lg : Option (Prop × List Prop × AV × Upd)} {h h' : Nat → Option OB} {rd : List Nat} (H : Agree h h' rd) {x want : Bool} {q : List Prop} {d : Desc} : underL lg h rd x want q d = underL lg h' rd x want q d := by
  unfold underL
  split
  · rfl
  · exact underG_congr H
theorem lendG_congr {E : Env} {h h' : Nat → Option OB} {base : Nat} {op : Op} {vals : List AV} (H : Agree h h' (reads vals)) (HL : ∀ id ∈ reads vals, Agree h h' (links false h id)) : lendG E h base op vals = lendG E h' base op vals := by
  unfold lendG
  split
  · rename_i t x id c r f
    have e : h id = h' id := H id (by simp [reads, idsA, ids1])
    rw [deepAt_congr e, loadDp_congr e (HL id (by simp [reads, idsA, ids1])), e]
  · rfl
theorem descG_congr {s s' : St} {o : Oper} {base : Nat} (ht : ∀ t, t ∈ readsT ops o → s.t t = s'.t t) (hh : Agree s.h s'.h (rdO s.h o (o.op.operands.toList.map (evalA s.t)))) : descG E ops s base o = descG E ops s' base o := by
  have hv := vals_congr (o := o) fun t hm => ht t (by simp [readsT, hm])
  unfold descG
  rw [← hv]
  cases hg : o.guard with
  | none => exact rdO_congr hg hh
  | some g =>
    rw [rdO_some hg] at hh
    have hrd := readsH_reads hh
    have hdo : ∀ vals, (∀ id, id ∈ reads vals → id ∈ reads (o.op.operands.toList.map (evalA s.t))) → descO E s base o vals = descO E s' base o vals := fun vals hs => descV_congr fun id hi => by
      rcases List.mem_append.1 hi with hi | hi
      · exact hrd id (hs id hi)
      · obtain ⟨k, hk, hl⟩ := List.mem_flatMap.1 hi
        exact hh id (List.mem_append_right _ (List.mem_flatMap.2 ⟨k, hs k hk, hl⟩))
    have hdu : ∀ vals, (∀ id, id ∈ reads vals → id ∈ reads (o.op.operands.toList.map (evalA s.t))) → descU E s base o vals = descU E s' base o vals := fun vals hs => congrArg (frzD o.op base) (hdo vals hs)
    have hlg : ∀ vals, (∀ id, id ∈ reads vals → id ∈ reads (o.op.operands.toList.map (evalA s.t))) → lendG E s.h base o.op vals = lendG E s'.h base o.op vals := fun vals hs => lendG_congr (fun id hi => hrd id (hs id hi)) fun id hi k hk => hh k (List.mem_append_right _ (List.mem_flatMap.2 ⟨id, hs id hi, links_mono hk⟩))
    simp only
    cases hgs : guardSlot ops o with
    | none => rfl
    | some dw =>
      obtain ⟨d, want⟩ := dw
      have hd : s.t d = s'.t d := ht d (by simp [readsT, hgs])
      simp only [← hd]
      split
      · rw [hdo _ fun _ h => h]
      · rw [hdo _ fun _ h => h]
      · rw [hdu _ fun id h => stripO_ids id h, hlg _ fun id h => stripO_ids id h]; exact underL_congr hrd
      · split
        · rw [hdu _ fun id h => stripO_ids id h, hlg _ fun id h => stripO_ids id h]; exact underL_congr hrd
        · rfl
      · rfl

theorem updH_other {u : Upd} : ∀ {h : Nat → Option OB} {id : Nat}, id ∉ u.map (·.1) → updH h u id = h id := by
  induction u with
  | nil => intro h id _; rfl
  | cons p r ih =>
    obtain ⟨k, o⟩ := p
    intro h id hn
    simp only [List.map_cons, List.mem_cons, not_or] at hn
    simp only [updH]
    rw [ih hn.2]
    simp [nbeq_ne hn.1]
theorem updH_eq {u : Upd} : ∀ {h h' : Nat → Option OB} {id : Nat}, (id ∈ u.map (·.1) ∨ h id = h' id) → updH h u id = updH h' u id := by
  induction u with
  | nil => intro h h' id hn; rcases hn with hn | hn
           · simp at hn
           · exact hn
  | cons p r ih =>
    obtain ⟨k, o⟩ := p
    intro h h' id hn
    simp only [updH]
    by_cases hr : id ∈ r.map (·.1)
    · exact ih (.inl hr)
    · refine ih (.inr ?_)
      by_cases e : id = k
      · subst e; simp
      · rcases hn with hn | hn
        · simp only [List.map_cons, List.mem_cons] at hn
          rcases hn with hn | hn
          · exact absurd hn e
          · exact absurd hn hr
        · simp [nbeq_ne e, hn]

/-- Two patches that do not meet. -/
theorem patch_comm {s : St} {u1 u2 : Upd} {d1 d2 : Option Nat} {v1 v2 : AV} (hd : ∀ x, d1 = some x → d2 ≠ some x) (hu : ∀ x, x ∈ u1.map (·.1) → x ∉ u2.map (·.1)) :
    (((s.upds u1).put d1 v1).upds u2).put d2 v2 = (((s.upds u2).put d2 v2).upds u1).put d1 v1 := by
  have hh : ∀ (s : St) (d : Option Nat) (v : AV), (s.put d v).h = s.h := fun s d v => by cases d <;> rfl
  have hn : ∀ (s : St) (d : Option Nat) (v : AV), (s.put d v).nx = s.nx := fun s d v => by cases d <;> rfl
  have ht : ∀ (s : St) (d : Option Nat) (v : AV) (i : Nat), (s.put d v).t i = if d = some i then v else s.t i := fun s d v i => by
    cases d with
    | none => simp [St.put]
    | some d =>
      by_cases e : i = d
      · subst e; simp [St.put]
      · have : ¬ some d = some i := fun h => e (Option.some.inj h).symm
        simp [St.put, nbeq_ne e, this]
  have ext : ∀ a b : St, a.t = b.t → a.h = b.h → a.nx = b.nx → a = b := fun a b h1 h2 h3 => by
    cases a; cases b; simp_all
  apply ext
  · funext i
    simp only [ht, upds_t]
    by_cases e1 : d1 = some i
    · have e2 := hd i e1
      simp [e1, e2]
    · simp [e1]
  · funext id
    simp only [hh, upds_h]
    by_cases c1 : id ∈ u1.map (·.1)
    · have c2 := hu id c1
      rw [updH_other (u := u2) c2]
      exact updH_eq (.inl c1)
    · rw [updH_other (u := u1) (h := updH s.h u2) c1]
      exact updH_eq (.inr (updH_other c1))
  · simp only [hn, upds_nx]

theorem callA_wr {spec : FuncId → Option Spec} {h : Nat → Option OB} {base : Nat} {f : FuncId} {args : List AV} {d : Desc} (hd : callA spec h base f args = d) (hp : d.Pre) : (∃ v u, d.Gives v u) ∧ ∀ v u, d.Gives v u → ∀ x, x ∈ u.map (·.1) → x ∈ d.wr := by
  subst hd
  unfold callA at hp ⊢
  simp only at hp ⊢
  by_cases hok : (argsOk (args.map fun v => ren1 (fun x => pos x (callIds h args)) (lend (without h (callIds h args)) v)) && (boxesOk h (callIds h args) (callIds h args) && disj (args.flatMap capIds) (callIds h args)) && Nat.ble (callIds h args).length 100) = true
  case neg => simp only [hok, cond_false] at hp; exact hp.elim
  simp only [hok, cond_true] at hp ⊢
  split at hp
  · rename_i S hS
    split at hp
    · rename_i x hx
      by_cases hk : (shallow (S.res x) && keysOk (callIds h args).length (S.upd x)) = true
      case neg => simp only [hk, cond_false] at hp; exact hp.elim
      simp only [hk, cond_true]
      exact ⟨⟨_, _, rfl, rfl⟩, fun v u ⟨_, e⟩ y hy => by rw [e] at hy; exact hy⟩
    · exact hp.elim
  · rename_i S hS
    split at hp
    · rename_i x hx
      have h1 : S.pre x := hp _ (by simp)
      have h2 : ∀ y, (shallow (S.res x y) && keysOk (callIds h args).length (S.upd x y)) = true := hp _ (by simp)
      obtain ⟨y, hy⟩ := S.feas x h1
      refine ⟨⟨_, _, y, hy, rfl, rfl⟩, fun v u hgv z hz => ?_⟩
      obtain ⟨y, hy, _, rfl⟩ := hgv
      have h3 := h2 y
      simp only [Bool.and_eq_true, keysOk] at h3
      simp only [List.map_map, List.mem_map, Function.comp_def] at hz
      obtain ⟨⟨i, ob⟩, hm, rfl⟩ := hz
      rcases (keysIn_spec h3.2.1.2 i ob hm).1 with k | ⟨k1, k2⟩
      · simp only [Desc.wr, List.mem_append]
        left
        have : Nat.blt i 100 = true := Nat.ble_eq_true_of_le (by have := Nat.le_of_ble_eq_true h3.2.1.1; omega)
        simp only [back, this, cond_true, List.getD_eq_getElem?_getD, List.getElem?_eq_getElem k, Option.getD_some]
        exact List.getElem_mem k
      · simp only [Desc.wr, List.mem_append]
        right
        have : Nat.blt i 100 = false := by
          apply Bool.eq_false_iff.2
          intro e
          have : i + 1 ≤ 100 := Nat.le_of_ble_eq_true e
          omega
        simp only [back, this, cond_false, tenOf, List.mem_cons, List.not_mem_nil, or_false]
        omega
    · exact hp.elim
  · exact hp.elim

theorem callG_wr {spec : FuncId → Option Spec} {h : Nat → Option OB} {base : Nat} {f : FuncId} {args : List AV} {d : Desc} (hd : callG spec h base f args = d) (hp : d.Pre) : (∃ v u, d.Gives v u) ∧ ∀ v u, d.Gives v u → ∀ x, x ∈ u.map (·.1) → x ∈ d.wr := by
  unfold callG at hd
  by_cases hb : (isBad (callA spec h base f args) && !(fzOwn h args).2.isEmpty) = true
  · rw [hb, cond_true] at hd
    generalize (fzOwn h args).2 = g at hd
    obtain ⟨d0, hd0⟩ : ∃ d0, callA spec (updH h (g.map (·, none))) base f (fzOwn h args).1 = d0 := ⟨_, rfl⟩
    rw [hd0] at hd
    cases d0 with
    | det pre v u =>
      subst hd
      exact ⟨⟨_, _, rfl, rfl⟩, fun v' u' ⟨_, e⟩ x hx => by rw [e] at hx; exact hx⟩
    | bad w => subst hd; exact hp.elim
    | dem pre Y post v u wr =>
      subst hd
      obtain ⟨⟨v0, u0, y0, hy0, _, _⟩, h2⟩ := callA_wr hd0 hp
      refine ⟨⟨_, _, y0, hy0, rfl, rfl⟩, fun v' u' hg x hx => ?_⟩
      obtain ⟨y, hy, rfl, rfl⟩ := hg
      show x ∈ g ++ wr
      rw [List.map_append, List.mem_append] at hx
      rcases hx with hx | hx
      · have : x ∈ g := by simpa using hx
        exact List.mem_append_left _ this
      · exact List.mem_append_right _ (h2 _ _ ⟨y, hy, rfl, rfl⟩ x hx)
  · simp only [Bool.not_eq_true] at hb
    rw [hb, cond_false] at hd
    exact callA_wr hd hp

/-- What an operation writes is what it is said to write, and it does give something. -/
theorem descV1_wr {h : Nat → Option OB} {base : Nat} {op : Op} {vals : List AV} (hp : (descV1 E h base op vals).Pre) : (∃ v u, (descV1 E h base op vals).Gives v u) ∧ ∀ v u, (descV1 E h base op vals).Gives v u → ∀ x, x ∈ u.map (·.1) → x ∈ (descV1 E h base op vals).wr := by
  obtain ⟨d, hd⟩ : ∃ d, descV1 E h base op vals = d := ⟨_, rfl⟩
  rw [hd] at hp ⊢
  cases d with
  | det pre v u => exact ⟨⟨v, u, rfl, rfl⟩, fun v' u' ⟨_, e⟩ x hx => by rw [e] at hx; exact hx⟩
  | bad w => exact hp.elim
  | dem pre Y post v u wr =>
    -- only a call gives this, or a question whether a slice is nil
    have isCall : (∃ f args, callG E.spec h base f args = .dem pre Y post v u wr) ∨ (∃ b t x y, nilCmp E.P h b t x y = some (.dem pre Y post v u wr)) ∨ ∃ ts id lo k x, appendS E.P h base ts id lo k x = .dem pre Y post v u wr := by
      have nd : ∀ d : Desc, noDem d ≠ .dem pre Y post v u wr := fun d hh => by cases d <;> simp [noDem] at hh
      unfold descV1 at hd
      split at hd
      · split at hd
        · split at hd
          · unfold callV at hd
            split at hd
            · rename_i fid fa fb
              by_cases hcap : (allL fa && allL fb) = true
              · simp only [hcap, cond_true] at hd; exact .inl ⟨_, _, hd⟩
              · simp only [hcap, cond_false] at hd; cases hd
            · split at hd <;> cases hd
            · cases hd
          · cases hd
        · split at hd
          · exact .inr (.inr ⟨_, _, _, _, _, hd⟩)
          · exact absurd hd (nd _)
        · exact absurd hd (nd _)
      · split at hd
        · split at hd
          · rename_i d hn
            subst hd
            exact .inr (.inl ⟨_, _, _, _, hn⟩)
          · exact absurd hd (nd _)
        · exact absurd hd (nd _)
      · exact absurd hd (nd _)
    rcases isCall with ⟨f, args, hc⟩ | ⟨b, t, x, y, hn⟩ | ⟨ts, id, lo, k, x, hs⟩
    · exact callG_wr hc hp
    · unfold nilCmp at hn
      split at hn
      · by_cases hl : lenTy E.P t = true
        case neg => simp only [hl, cond_false] at hn; cases hn
        simp only [hl, cond_true] at hn
        split at hn
        · split at hn
          · cases hn
            exact ⟨⟨_, _, false, ⟨(fun h => Bool.noConfusion h), rfl, rfl⟩⟩, fun v u hg x hx => by obtain ⟨_, _, _, rfl⟩ := hg; simp at hx⟩
          · cases hn
            exact ⟨⟨_, _, true, ⟨(fun h => Bool.noConfusion h), rfl, rfl⟩⟩, fun v u hg x hx => by obtain ⟨_, _, _, rfl⟩ := hg; simp at hx⟩
          · cases hn
        · split at hn <;> cases hn
      · cases hn
    · unfold appendS at hs
      split at hs
      case h_2 => cases hs
      rename_i t t'
      cases hb : Nat.beq t t' with
      | false => rw [hb] at hs; cases hs
      | true =>
      rw [hb, cond_true] at hs
      split at hs
      case h_2 => cases hs
      rename_i e _
      split at hs
      case h_2 => cases hs
      rename_i c z i _ _ _
      cases hb2 : (Nat.beq z.length i.size && Nat.beq (ncell c) i.size && Nat.blt 0 i.size && Nat.ble i.bytes 2048) with
      | false => rw [hb2] at hs; cases hs
      | true =>
      rw [hb2, cond_true] at hs
      split at hs
      case h_2 => cases hs
      rename_i lx _
      split at hs
      case h_2 => cases hs
      rename_i e' c' l hh
      cases hb3 : Nat.beq e e' with
      | false => rw [hb3] at hs; cases hs
      | true =>
      rw [hb3, cond_true] at hs
      split at hs
      case h_2 => cases hs
      rename_i l1 _
      cases hs
      have q1 : lo + k = l1.length := hp _ (by simp)
      refine ⟨⟨_, _, (lo, l1 ++ lx), ⟨by rw [List.drop_append_of_le_length (by omega)], by simp; omega⟩, rfl, rfl⟩, fun v u hg x hx => ?_⟩
      obtain ⟨y, _, _, rfl⟩ := hg
      show x ∈ [id, base + 1]
      simpa using hx

def NDem : Desc → Prop
  | .dem _ _ _ _ _ _ => False
  | _ => True
theorem preP_ndem {q : List Prop} {u : Upd} {d : Desc} (h : NDem d) : NDem (preP q u d) := by cases d <;> first | exact h.elim | trivial
theorem loadDp_ndem {P : Program} {h : Nat → Option OB} {base : Nat} {t : TypeId} {id r f : Nat} : NDem (loadDp P h base t id r f) := by
  unfold loadDp
  split
  · split
    · rename_i et c ts l out hh
      cases Nat.blt f (ncell c)
      · trivial
      · cases (plainA ((rowAV c l r).getD f .undef) && outNe out f)
        · simp only [cond_true, cond_false]
          split
          · refine preP_ndem ?_
            unfold borrowD
            split
            · rename_i et2 c2 ts2 l2 h2
              split
              · cases Nat.blt f (ncell c2) <;> trivial
              · trivial
            · trivial
          · trivial
        · trivial
    · trivial
  · trivial
theorem storeDp_ndem {P : Program} {h : Nat → Option OB} {t : TypeId} {id r f : Nat} {v : AV} : NDem (storeDp P h t id r f v) := by
  unfold storeDp
  split
  · rename_i et c ts l out ht hh
    cases Nat.blt f (ncell c)
    · trivial
    · simp only [cond_true]
      split
      · split
        · rename_i et2 c2 l2 h2
          cases Nat.beq et2 (ts.getD f 0)
          · trivial
          · simp only [cond_true]
            split <;> trivial
        · trivial
      · cases hc : (plainA (nrm1 v) && plainA ((rowAV c l r).getD f .undef) && outNe out f)
        · trivial
        · simp only [cond_true]
          split <;> trivial
  · trivial
theorem idxDp_ndem {h : Nat → Option OB} {es : Option Nat} {i : Int} {id : Nat} : NDem (idxDp h es i id) := by
  unfold idxDp
  split
  · rename_i et c ts l out hh
    cases (sizeIs (ncell c) es && Nat.blt 0 (ncell c)) <;> trivial
  · trivial
theorem lenDp_ndem {h : Nat → Option OB} {id : Nat} : NDem (lenDp h id) := by
  unfold lenDp
  split <;> trivial
theorem makeSliceDp_ndem {P : Program} {base : Nat} {t : TypeId} {a b : AV} : NDem (makeSliceDp P base t a b) := by
  unfold makeSliceDp
  split
  · split
    · split
      · rename_i c z i ts _ _ _ _
        split
        · rename_i x _
          cases (Nat.beq z.length i.size && Nat.beq (ncell c) i.size && Nat.blt 0 i.size && zeroRow (enc c x) z) <;> trivial
        · trivial
      · trivial
    · trivial
  · trivial
theorem appendDp_ndem {P : Program} {h : Nat → Option OB} {base : Nat} {ts : List TypeId} {s : AV} {idx : Nat} : NDem (appendDp P h base ts s idx) := by
  unfold appendDp
  split
  · rename_i t t'
    cases Nat.beq t t'
    · trivial
    · simp only [cond_true]
      split
      · rename_i e ex c tsx y r _ _
        split
        · rename_i z i _ _
          cases (Nat.beq e ex && Nat.beq z.length i.size && Nat.beq (ncell c) i.size && Nat.blt 0 i.size && Nat.ble i.bytes 2048)
          · trivial
          · simp only [cond_true]
            split
            · trivial
            · rename_i id c0
              split
              · rename_i e' c' ts' l _
                cases (Nat.beq e e' && natsEq tsx ts' && !(Nat.beq id idx))
                · trivial
                · simp only [cond_true]
                  split <;> trivial
              · trivial
            · trivial
        · trivial
      · trivial
  · trivial
theorem buildSliceDp_ndem {P : Program} {h : Nat → Option OB} {base : Nat} {t : TypeId} {n : Nat} {parts : List (Nat × AV)} : NDem (buildSliceDp P h base t n parts) := by
  unfold buildSliceDp
  split
  · rename_i e v _
    split
    · rename_i c z m ts _ _ _ _
      cases (Nat.beq z.length m && Nat.beq (ncell c) m && Nat.blt 0 m && Nat.ble m 16777216 && okv v && Nat.beq v.flat.length m)
      · trivial
      · simp only [cond_true]
        split
        · split <;> trivial
        · trivial
    · trivial
  · trivial
theorem descD_ndem {h : Nat → Option OB} {base : Nat} {op : Op} {vals : List AV} {d : Desc} (hd : descD E h base op vals = some d) : NDem d := by
  unfold descD at hd
  split at hd
  · rename_i t x id c r f
    cases hb : deepAt h id with
    | false => rw [hb, cond_false] at hd; cases hd
    | true => rw [hb, cond_true] at hd; cases hd; exact loadDp_ndem
  · rename_i t x y id c r f v
    cases hb : deepAt h id with
    | false => rw [hb, cond_false] at hd; cases hd
    | true => rw [hb, cond_true] at hd; cases hd; exact storeDp_ndem
  · rename_i t x y id c k i
    cases hb : deepAt h id with
    | false => rw [hb, cond_false] at hd; cases hd
    | true => rw [hb, cond_true] at hd; cases hd; exact idxDp_ndem
  · rename_i t x y vx vy
    cases hb : oneDeep E.dp E.P t with
    | false => rw [hb, cond_false] at hd; cases hd
    | true => rw [hb, cond_true] at hd; cases hd; exact makeSliceDp_ndem
  · rename_i c id c'
    split at hd
    · rename_i t hcal hts
      cases hb : (deepAt h id && lenTy E.P t) with
      | false => rw [hb, cond_false] at hd; cases hd
      | true => rw [hb, cond_true] at hd; cases hd; exact lenDp_ndem
    · cases hd
  · rename_i c s idx c'
    split at hd
    · cases hb : deepAt h idx with
      | false => rw [hb, cond_false] at hd; cases hd
      | true => rw [hb, cond_true] at hd; cases hd; exact appendDp_ndem
    · cases hd
  · rename_i vs t n parts
    cases hb : oneDeep E.dp E.P t with
    | false => rw [hb, cond_false] at hd; cases hd
    | true => rw [hb, cond_true] at hd; cases hd; exact buildSliceDp_ndem
  · cases hd
theorem ndem_wr {d : Desc} (h : NDem d) (hp : d.Pre) : (∃ v u, d.Gives v u) ∧ ∀ v u, d.Gives v u → ∀ x, x ∈ u.map (·.1) → x ∈ d.wr := by
  cases d with
  | det pre v u => exact ⟨⟨v, u, rfl, rfl⟩, fun v' u' ⟨_, e⟩ x hx => by rw [e] at hx; exact hx⟩
  | bad w => exact hp.elim
  | dem _ _ _ _ _ _ => exact h.elim
theorem preP_wr {q : List Prop} {u0 : Upd} {d : Desc} (hw : d.Pre → (∃ v u, d.Gives v u) ∧ ∀ v u, d.Gives v u → ∀ x, x ∈ u.map (·.1) → x ∈ d.wr) (hp : (preP q u0 d).Pre) : (∃ v u, (preP q u0 d).Gives v u) ∧ ∀ v u, (preP q u0 d).Gives v u → ∀ x, x ∈ u.map (·.1) → x ∈ (preP q u0 d).wr := by
  cases d with
  | det pre v u => exact ndem_wr (d := preP q u0 (.det pre v u)) trivial hp
  | bad w => exact hp.elim
  | dem pre Y post v u wr =>
    have hp' : Desc.Pre (.dem pre Y post v u wr) := fun p hm => hp p (List.mem_append_right _ hm)
    obtain ⟨⟨v1, u1, y, hy, e1, e2⟩, h2⟩ := hw hp'
    refine ⟨⟨_, _, y, hy, rfl, rfl⟩, fun v' u' hg x hx => ?_⟩
    obtain ⟨y', hy', _, rfl⟩ := hg
    simp only [List.map_append, List.mem_append] at hx
    show x ∈ u0.map (·.1) ++ wr
    rcases hx with hx | hx
    · exact List.mem_append_left _ hx
    · exact List.mem_append_right _ (h2 _ _ ⟨y', hy', rfl, rfl⟩ x hx)
theorem descV_wr {h : Nat → Option OB} {base : Nat} {op : Op} {vals : List AV} (hp : (descV E h base op vals).Pre) : (∃ v u, (descV E h base op vals).Gives v u) ∧ ∀ v u, (descV E h base op vals).Gives v u → ∀ x, x ∈ u.map (·.1) → x ∈ (descV E h base op vals).wr := by
  unfold descV at hp ⊢
  split at hp
  · rename_i d hd
    exact ndem_wr (descD_ndem hd) hp
  · rename_i hd
    cases hm : (movB op || !isBad (descV1 E h base op vals)) with
    | true =>
      rw [hm, cond_true] at hp
      simp only [cond_true]
      exact descV1_wr hp
    | false =>
      rw [hm, cond_false] at hp
      simp only [cond_false]
      split at hp
      · exact descV1_wr hp
      · split at hp
        · exact preP_wr (fun h => descV1_wr h) hp
        · exact descV1_wr hp
end
end Go.Proofs.Ytemffnpliflkgaa
