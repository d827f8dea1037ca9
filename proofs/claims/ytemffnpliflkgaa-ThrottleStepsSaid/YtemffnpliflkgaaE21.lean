/-
  Lemmas and contracts on the way to the laws of this seat; each theorem states its own conditions, and there are no others.
-/
import Derived.Test.YtemffnpliflkgaaE20
namespace Go.Proofs.Ytemffnpliflkgaa
open Go
set_option linter.unusedVariables false
set_option linter.unusedSimpArgs false

/-- What is still to be done in a region, and what is done. -/
structure Left (ops : Array Oper) (R : List (Nat × Oper)) (listed : Array Bool) : Prop where
  sz : listed.size = ops.size
  at_ : ∀ p ∈ R, ops[p.1]? = some p.2
  inc : (R.map (·.1)).Pairwise (· < ·)
  iff : ∀ i, i < ops.size → (listed.getD i true = false ↔ ∃ o, (i, o) ∈ R)
  deps : ∀ k ok, ops[k]? = some ok → listed.getD k false = true → ∀ e ∈ ok.after, Region.binds .any e = true → listed.getD e.on false = true

theorem getD_tf {l : Array Bool} {i : Nat} (hi : i < l.size) : l.getD i true = l.getD i false := by
  simp [Array.getD, hi]

theorem mem_ready' {ops : Array Oper} {listed : Array Bool} {i : Nat} : i ∈ Region.ready .any ops listed ↔ i < ops.size ∧ listed.getD i true = false ∧ ∃ o, ops[i]? = some o ∧ ∀ e ∈ o.after, Region.binds .any e = true → listed.getD e.on false = true := by
  unfold Region.ready
  simp only [List.mem_filter, List.mem_range, Bool.and_eq_true, Bool.not_eq_true']
  constructor
  · rintro ⟨h1, h2, h3⟩
    refine ⟨h1, h2, ?_⟩
    cases ho : ops[i]? with
    | none => rw [ho] at h3; simp at h3
    | some o =>
      rw [ho] at h3
      refine ⟨o, rfl, fun e he hb => ?_⟩
      simp only [Option.map_some, Option.getD_some, Array.all_eq_true_iff_forall_mem] at h3
      have := h3 e he
      simpa [hb] using this
  · rintro ⟨h1, h2, o, h3, h4⟩
    refine ⟨h1, h2, ?_⟩
    rw [h3]
    simp only [Option.map_some, Option.getD_some, Array.all_eq_true_iff_forall_mem]
    intro e he
    by_cases hb : Region.binds .any e = true
    · simp [h4 e he hb]
    · simp [hb]

theorem getD_set_self {l : Array Bool} {i : Nat} {d : Bool} (hi : i < l.size) : (l.setIfInBounds i true).getD i d = true := by
  simp [Array.getD_eq_getD_getElem?, hi]
theorem getD_set_other {l : Array Bool} {i j : Nat} {d : Bool} (h : i ≠ j) : (l.setIfInBounds i true).getD j d = l.getD j d := by
  simp [Array.getD_eq_getD_getElem?, Array.getElem?_setIfInBounds_ne h]

theorem Left.next {ops : Array Oper} {A B : List (Nat × Oper)} {j : Nat} {oj : Oper} {listed : Array Bool} (L : Left ops (A ++ (j, oj) :: B) listed) (hdeps : ∀ e ∈ oj.after, Region.binds .any e = true → listed.getD e.on false = true) : Left ops (A ++ B) (listed.setIfInBounds j true) := by
  have hj : ops[j]? = some oj := L.at_ (j, oj) (by simp)
  have hjs : j < ops.size := (Array.getElem?_eq_some_iff.1 hj).1
  have hinc := L.inc
  simp only [List.map_append, List.map_cons, List.pairwise_append, List.pairwise_cons] at hinc
  obtain ⟨i1, ⟨i2, i3⟩, i4⟩ := hinc
  have grow : ∀ k, listed.getD k false = true → (listed.setIfInBounds j true).getD k false = true := fun k hk => by
    by_cases e : j = k
    · subst e; exact getD_set_self (by rw [L.sz]; exact hjs)
    · rw [getD_set_other e]; exact hk
  refine ⟨by simpa using L.sz, fun p hp => L.at_ p ?_, ?_, fun i hi => ?_, fun k ok hk hl => ?_⟩
  · rcases List.mem_append.1 hp with h | h
    · exact List.mem_append.2 (.inl h)
    · exact List.mem_append.2 (.inr (List.mem_cons_of_mem _ h))
  · simp only [List.map_append, List.pairwise_append]
    exact ⟨i1, i3, fun a ha b hb => i4 a ha b (List.mem_cons_of_mem _ hb)⟩
  · by_cases e : j = i
    · subst e
      rw [getD_set_self (by rw [L.sz]; exact hi)]
      refine ⟨fun h => (by cases h), fun ⟨o, ho⟩ => ?_⟩
      rcases List.mem_append.1 ho with h | h
      · exact absurd (i4 j (List.mem_map.2 ⟨_, h, rfl⟩) j (by simp)) (Nat.lt_irrefl _)
      · exact absurd (i2 j (List.mem_map.2 ⟨_, h, rfl⟩)) (Nat.lt_irrefl _)
    · rw [getD_set_other e, L.iff i hi]
      constructor
      · rintro ⟨o, ho⟩
        refine ⟨o, ?_⟩
        rcases List.mem_append.1 ho with h | h
        · exact List.mem_append.2 (.inl h)
        · rcases List.mem_cons.1 h with h | h
          · cases h; exact absurd rfl e
          · exact List.mem_append.2 (.inr h)
      · rintro ⟨o, ho⟩
        refine ⟨o, ?_⟩
        rcases List.mem_append.1 ho with h | h
        · exact List.mem_append.2 (.inl h)
        · exact List.mem_append.2 (.inr (List.mem_cons_of_mem _ h))
  · by_cases e : j = k
    · subst e
      rw [hj] at hk; cases hk
      exact fun ed he hb => grow _ (hdeps ed he hb)
    · rw [getD_set_other e] at hl
      exact fun ed he hb => grow _ (L.deps k ok hk hl ed he hb)

section
variable {w0 : World} {S0 : SS} {μ0 : MM}
set_option maxRecDepth 100000 in
theorem runX_sound (E : Env) (henv : ∀ f s, E.spec f = some s → Callable E.P f ∧ Valid E.P f s) {N : Nat} {ops : Array Oper} {rid : Nat} {Q : Exit → Act → World → Prop} {Ka : St → Prop} {T : Act → Prop} (hTs : ∀ (k : Nat) (ok : Oper), ops[k]? = some ok → ∀ a x, T a → T (a.put ok.dst x)) (hsize : ops.size < 1000) (hedges : ∀ (k : Nat) (ok : Oper), ops[k]? = some ok → ∀ e ∈ ok.after, Region.binds .any e = true → e.on < k) (hdst : ∀ (k : Nat) (ok : Oper), ops[k]? = some ok → ∀ d, ok.dst = some d → d < N)
    (hfin : ∀ s' a' w' S' μ', Rel N s' a' w' S' μ' → Evo w0 S0 μ0 w' S' μ' → (∀ id, μ' id ≠ none → id < rid + 10000) → T a' → Ka s' → Q .normal a' w') :
    ∀ (n : Nat) (R : List (Nat × Oper)) (listed : Array Bool) (past : List Foot) (s : St) (a : Act) (w : World) (S : SS) (μ : MM), R.length = n → Left ops R listed → T a → Rel N s a w S μ → Evo w0 S0 μ0 w S μ → (∀ p ∈ R, Free μ (rid + p.1 * 10)) → (∀ id, μ id ≠ none → id < rid + 10000) →
      runX E ops (Region.before ops) rid R past s Ka → wpAny E.P .any ops Q n listed a w := by
  intro n
  induction n with
  | zero =>
    intro R listed past s a w S μ hn L hT RL Ev hf hb hr
    have : R = [] := List.eq_nil_of_length_eq_zero hn
    subst this
    refine ⟨?_, hfin s a w S μ RL Ev hb hT hr⟩
    apply List.eq_nil_iff_forall_not_mem.2
    intro i hi
    obtain ⟨h1, h2, _⟩ := mem_ready'.1 hi
    obtain ⟨o, ho⟩ := (L.iff i h1).1 h2
    simp at ho
  | succ n ih =>
    intro R listed past s a w S μ hn L hT RL Ev hf hb hr
    refine ⟨fun hempty => ?_, fun j hj => ?_⟩
    · -- the first one can always come up
      exfalso
      cases R with
      | nil => simp at hn
      | cons p R =>
        obtain ⟨i, oi⟩ := p
        have hi := L.at_ (i, oi) (by simp)
        have his : i < ops.size := (Array.getElem?_eq_some_iff.1 hi).1
        have : i ∈ Region.ready .any ops listed := mem_ready'.2 ⟨his, (L.iff i his).2 ⟨oi, by simp⟩, oi, hi, fun e he hbd => by
          have hlt := hedges i oi hi e he hbd
          have hes : e.on < ops.size := by omega
          cases hl : listed.getD e.on true with
          | true => rw [← getD_tf (by rw [L.sz]; exact hes)]; exact hl
          | false =>
            obtain ⟨o', ho'⟩ := (L.iff e.on hes).1 hl
            have hinc := L.inc
            simp only [List.map_cons, List.pairwise_cons] at hinc
            rcases List.mem_cons.1 ho' with h | h
            · have := congrArg Prod.fst h; simp at this; omega
            · have := hinc.1 e.on (List.mem_map.2 ⟨_, h, rfl⟩); omega⟩
        rw [hempty] at this
        cases this
    · obtain ⟨hjs, hjl, oj, hoj, hjd⟩ := mem_ready'.1 hj
      obtain ⟨o', ho'⟩ := (L.iff j hjs).1 hjl
      have : o' = oj := by have := L.at_ _ ho'; rw [hoj] at this; exact (Option.some.inj this).symm
      subst this
      obtain ⟨A, B, rfl⟩ := List.append_of_mem ho'
      -- none of those ahead is waited for
      have hA : ∀ p ∈ A, ((Region.before ops).getD j 0).testBit p.1 = false := fun p hp => by
        apply Bool.eq_false_iff.2
        intro hbit
        have hD := before_spec ops (fun i => listed.getD i false = true) (fun k ok hk hl => L.deps k ok hk hl) j o' hoj hjd p.1 hbit
        have hps : p.1 < ops.size := (Array.getElem?_eq_some_iff.1 (L.at_ p (by simp [hp]))).1
        have := (L.iff p.1 hps).2 ⟨p.2, by simp [hp]⟩
        rw [getD_tf (by rw [L.sz]; exact hps)] at this
        rw [this] at hD; cases hD
      obtain ⟨_, hstep⟩ := runX_move A B past s Ka hA hr
      have hgo := step_sound E henv RL (hf (j, o') (by simp)) (hdst j o' hoj) hstep (Q := Q) (K := wpAny E.P .any ops Q n (listed.setIfInBounds j true)) fun s' a' w' S' μ' R' Ev' hfr' hnx hk => by
        refine ih (A ++ B) _ _ s' a' w' S' μ' (by simp at hn ⊢; omega) (L.next hjd) (by obtain ⟨_, x, rfl⟩ := hnx; exact hTs j o' hoj a x hT) R' (Ev.trans Ev') (fun p hp id h1 h2 => ?_) (fun id h => ?_) hk
        · have hne : p.1 ≠ j := fun e => by
            have hinc := L.inc
            simp only [List.map_append, List.map_cons, List.pairwise_append, List.pairwise_cons] at hinc
            obtain ⟨_, ⟨i2, _⟩, i4⟩ := hinc
            rcases List.mem_append.1 hp with h | h
            · have := i4 p.1 (List.mem_map.2 ⟨_, h, rfl⟩) j (by simp); omega
            · have := i2 p.1 (List.mem_map.2 ⟨_, h, rfl⟩); omega
          have hp' : p ∈ A ++ (j, o') :: B := by
            rcases List.mem_append.1 hp with h | h
            · simp [h]
            · simp [h]
          cases e : μ' id with
          | none => rfl
          | some m =>
            rcases hfr' id (by rw [e]; simp) with h3 | ⟨h3, h4⟩
            · exact absurd (hf p hp' id h1 h2) h3
            · omega
        · rcases hfr' id h with h1 | ⟨h1, h2⟩
          · exact hb id h1
          · omega
      unfold wpOp
      rw [hoj]
      simp only
      by_cases hw : Region.wanted o' (yielded ops a.tmps) = true
      · rw [if_pos hw] at hgo ⊢; exact .inl hgo
      · rw [if_neg hw] at hgo ⊢; exact hgo

theorem dstOk_get {N : Nat} : ∀ {l : List Oper}, dstOk N l = true → ∀ (k : Nat) (ok : Oper), l[k]? = some ok → ∀ d, ok.dst = some d → d < N
  | [], _, k, ok, hk, _, _ => by simp at hk
  | o :: l, h, k, ok, hk, d, hd => by
    simp only [dstOk, Bool.and_eq_true] at h
    cases k with
    | zero =>
      simp at hk; subst hk
      have := h.1
      rw [hd] at this
      exact Nat.le_of_ble_eq_true this
    | succ k => exact dstOk_get h.2 k ok (by simpa using hk) d hd
theorem edgesOk_get : ∀ {l : List Oper} {i : Nat}, edgesOk l i = true → ∀ (k : Nat) (ok : Oper), l[k]? = some ok → ∀ e ∈ ok.after, Region.binds .any e = true → e.on < i + k
  | [], _, _, k, ok, hk, _, _, _ => by simp at hk
  | o :: l, i, h, k, ok, hk, e, he, hb => by
    simp only [edgesOk, Bool.and_eq_true] at h
    cases k with
    | zero =>
      simp at hk; subst hk
      have := h.1
      rw [List.all_eq_true] at this
      have := this e (by simpa using he)
      rw [hb] at this
      simp only [Bool.not_true, Bool.false_or] at this
      have := Nat.le_of_ble_eq_true this
      omega
    | succ k =>
      have := edgesOk_get h.2 k ok (by simpa using hk) e he hb
      omega

set_option maxRecDepth 100000 in
/-- A region, in the order of the text or in any. -/
theorem region_sound (E : Env) (henv : ∀ f s, E.spec f = some s → Callable E.P f ∧ Valid E.P f s) (hmix : E.P.follows .mixedOrders = true) {id b0 : Nat} {ops : Array Oper} {d : Bool} {s : St} {a : Act} {w : World} {S : SS} {μ : MM} {Q : Exit → Act → World → Prop} {Ka : St → Prop} {T : Act → Prop} (hTs : ∀ (k : Nat) (ok : Oper), ops[k]? = some ok → ∀ a x, T a → T (a.put ok.dst x)) (hT : T a) (hsize : ops.size < 1000) (hd : dstOk E.nt ops.toList = true)
    (R : Rel E.nt s a w S μ) (Ev : Evo w0 S0 μ0 w S μ) (hfr : ∀ k, μ k ≠ none → k < b0)
    (hr : bif d then bif !edgesOk ops.toList 0 then (2 = 9) else runD E ops (Region.before ops) b0 ops.toList 0 [] s Ka else runL E ops b0 ops.toList 0 s Ka)
    (hfin : ∀ s' a' w' S' μ', Rel E.nt s' a' w' S' μ' → Evo w0 S0 μ0 w' S' μ' → (∀ k, μ' k ≠ none → k < b0 + 10000) → T a' → Ka s' → Q .normal a' w') : (Code.region id ops d).wp E.P Q a w := by
  cases d with
  | false =>
    simp only [cond_false] at hr
    exact wp_region_list (runL_sound E henv ops.toList 0 s a w S μ Ka hd (fun o ho => by
      obtain ⟨k, hk, rfl⟩ := List.getElem_of_mem ho
      exact hTs k _ (by simp at hk; simp [hk])) hT (by simp; omega) R Ev (fun k hk => by have := hfr k hk; omega) hr hfin)
  | true =>
    simp only [cond_true] at hr
    by_cases he : edgesOk ops.toList 0 = true
    case neg => simp only [he, Bool.not_false, cond_true] at hr; omega
    simp only [he, Bool.not_true, cond_false] at hr
    have hx := runX_of_runD ops.toList 0 [] s Ka hr
    have Rd : Rel E.nt s a { w with drawn := w.drawn + 1 } S μ := by
      have E1 : Evo w S μ { w with drawn := w.drawn + 1 } S μ := ⟨rfl, rfl, rfl, Nat.le_refl _, fun _ _ _ => rfl, fun _ => Iff.rfl, fun _ h => h, fun _ h => .inl h, fun _ _ h => h⟩
      exact ⟨fun i => (R.tm i).evo E1, R.hp.upd E1 (fun id o h => .inl ⟨h, fun _ _ _ _ => rfl⟩) R.hp.inj R.hp.sep R.hp.bd (fun i m b hi hm hb => by obtain ⟨o, ho⟩ := ne_some hi; exact From.same R.hp ho hm hb) (fun _ hs => .inl hs), R.df, R.sz⟩
    have Ed : Evo w0 S0 μ0 { w with drawn := w.drawn + 1 } S μ := Ev.trans ⟨rfl, rfl, rfl, Nat.le_refl _, fun _ _ _ => rfl, fun _ => Iff.rfl, fun _ h => h, fun _ h => .inl h, fun _ _ h => h⟩
    have hat : ∀ p ∈ (ops.toList.zipIdx 0).map (fun p => (p.2, p.1)), ops[p.1]? = some p.2 := fun p hp => by
      obtain ⟨⟨o, i⟩, hm, rfl⟩ := List.mem_map.1 hp
      have := List.mem_zipIdx_iff_getElem?.1 hm
      simpa using this
    refine wp_region_any hmix (runX_sound (w0 := w0) (S0 := S0) (μ0 := μ0) E henv (N := E.nt) (rid := b0) (Ka := Ka) hTs hsize (fun k ok hk e hm hb => by have := edgesOk_get he k ok (by simpa using hk) e hm hb; omega) (fun k ok hk => dstOk_get hd k ok (by simpa using hk)) hfin ops.size ((ops.toList.zipIdx 0).map fun p => (p.2, p.1)) (Array.replicate ops.size false) [] s a _ S μ (by simp) ⟨by simp, hat, ?_, fun i hi => ⟨fun _ => ⟨ops[i], ?_⟩, fun _ => by simp [Array.getD, hi]⟩, fun k ok hk hl => ?_⟩ hT Rd Ed (fun p hp k h1 h2 => ?_) (fun k hk => by have := hfr k hk; omega) hx)
    · have : ((ops.toList.zipIdx 0).map fun p => (p.2, p.1)).map (·.1) = List.range' 0 ops.toList.length := by
        rw [List.map_map]
        have : ((fun x : Nat × Oper => x.1) ∘ fun p : Oper × Nat => (p.2, p.1)) = Prod.snd := rfl
        rw [this, List.zipIdx_map_snd]
      rw [this]
      exact List.pairwise_lt_range'
    · exact List.mem_map.2 ⟨(ops[i], i), List.mem_zipIdx_iff_getElem?.2 (by simp [hi]), rfl⟩
    · simp [Array.getD_eq_getD_getElem?] at hl
      by_cases hk' : k < ops.size
      · simp [hk'] at hl
      · simp [hk'] at hl
    · cases e : μ k with
      | none => rfl
      | some m =>
        have := hfr k (by rw [e]; simp)
        omega
end
end Go.Proofs.Ytemffnpliflkgaa
