/-
  Lemmas and contracts on the way to the laws of this seat; each theorem states its own conditions, and there are no others.
-/
import Derived.Test.YtemffnpliflkgaaE23
namespace Go.Proofs.Ytemffnpliflkgaa
open Go
set_option linter.unusedVariables false
set_option linter.unusedSimpArgs false

def QE (Q : Exit → Act → World → Prop) : Ex → Act → World → Prop
  | .norm => Q .normal
  | .exit i => Q (.exit i)
  | .ret => Q .ret

/-- What is known behind a piece of code. -/
structure Beh (N : Nat) (c : Code) (nx : Nat) (a : Act) (w : World) (S : SS) (μ : MM) (s' : St) (a' : Act) (w' : World) (S' : SS) (μ' : MM) : Prop where
  rel : Rel N s' a' w' S' μ'
  ev : WEvo w S w' S'
  st : ∀ id m, stab id = true → id < nx → μ id = some m → μ' id = some m
  fr : ∀ k, μ' k ≠ none → k < s'.nx
  le : nx ≤ s'.nx
  tm : ∀ n, n ∉ dsts c → a'.tmps.getD n Go.undef = a.tmps.getD n Go.undef

theorem put_other {a : Act} {d : Option Nat} {x : Value} {n : Nat} (h : ∀ k, d = some k → n ≠ k) : (a.put d x).tmps.getD n Go.undef = a.tmps.getD n Go.undef := by
  cases d with
  | none => rfl
  | some k =>
    have := h k rfl
    show (a.tmps.setIfInBounds k x).getD n Go.undef = _
    simp only [Array.getD_eq_getD_getElem?, Array.getElem?_setIfInBounds_ne (Ne.symm this)]

set_option maxRecDepth 100000 in
/-- Deep blocks made ready: nothing is changed in the machine. -/
theorem prep_ok {N : Nat} {a : Act} {w : World} {μ : MM} : ∀ {l : List (Bool × Nat)} {s : St} {S : SS} {K : St → Prop}, prep l s K → Rel N s a w S μ → ∃ s' S', K s' ∧ Evo w S μ w S' μ ∧ Rel N s' a w S' μ ∧ s'.nx = s.nx ∧ s'.t = s.t
  | [], s, S, K, h, R => ⟨s, S, h, Evo.refl _ _ _, R, rfl, rfl⟩
  | (b, id) :: r, s, S, K, h, R => by
    simp only [prep] at h
    split at h
    · rename_i q u hp
      obtain ⟨hq, h⟩ := andL_iff.1 h
      obtain ⟨S1, E1, H1⟩ : ∃ S1, Evo w S μ w S1 μ ∧ HRel w S1 μ (updH s.h u) := by
        cases b with
        | true => exact softD_ok R.hp hp hq
        | false => exact ⟨S, Evo.refl _ _ _, closeD_ok R.hp hp hq⟩
      have R1 : Rel N (s.upds u) a w S1 μ := ⟨fun i => by rw [upds_t]; exact (R.tm i).evo E1, by rw [upds_h]; exact H1, R.df, R.sz⟩
      obtain ⟨s', S', k1, k2, k3, k4, k5⟩ := prep_ok h R1
      exact ⟨s', S', k1, E1.trans k2, k3, by rw [k4, upds_nx], by rw [k5, upds_t]⟩
    · omega

theorem exec_sound (E : Env) (henv : ∀ f s, E.spec f = some s → Callable E.P f ∧ Valid E.P f s) (hmix : E.P.follows .mixedOrders = true) : ∀ (c : Code) (s : St) (a : Act) (w : World) (S : SS) (μ : MM) (Ka : Ex → St → Prop) (Q : Exit → Act → World → Prop), Rel E.nt s a w S μ → (∀ k, μ k ≠ none → k < s.nx) → exec E c s Ka →
    (∀ e s' a' w' S' μ', Beh E.nt c s.nx a w S μ s' a' w' S' μ' → Ka e s' → QE Q e a' w') → c.wp E.P Q a w := by
  intro c
  induction c with
  | skip =>
    intro s a w S μ Ka Q R hf hx hK
    exact wp_skip (hK .norm s a w S μ ⟨R, WEvo.refl _ _, fun _ _ _ _ h => h, hf, Nat.le_refl _, fun _ _ => rfl⟩ hx)
  | region id ops d =>
    intro s a w S μ Ka Q R hf hx hK
    simp only [exec] at hx
    by_cases hc : (Nat.blt ops.size 1000 && dstOk E.nt ops.toList) = true
    case neg => simp only [hc, cond_false] at hx; omega
    simp only [hc, cond_true] at hx
    simp only [Bool.and_eq_true] at hc
    have h1 : s.nx ≤ baseAt s id := by
      unfold baseAt
      by_cases h : Nat.ble s.nx ((id + 1) * 10000) = true
      · rw [h, cond_true]; exact Nat.le_of_ble_eq_true h
      · simp only [Bool.not_eq_true] at h
        rw [h, cond_false]; exact Nat.le_refl _
    have h2 : ops.size < 1000 := Nat.le_of_ble_eq_true hc.1
    refine region_sound (w0 := w) (S0 := S) (μ0 := μ) (T := fun a' => ∀ n, n ∉ dsts (.region id ops d) → a'.tmps.getD n Go.undef = a.tmps.getD n Go.undef) (b0 := baseAt s id) (Ka := fun s' => Ka .norm { s' with nx := baseAt s id + 10000 }) E henv hmix (fun k ok hk a' x hT n hn => ?_) (fun _ _ => rfl) h2 hc.2 R (Evo.refl _ _ _) (fun k hk => Nat.lt_of_lt_of_le (hf k hk) h1) hx fun s' a' w' S' μ' R' Ev hfr hT hk => ?_
    · rw [put_other fun d' hd' e => hn ?_]
      · exact hT n hn
      · subst e
        simp only [dsts, List.mem_filterMap]
        exact ⟨ok, by have := Array.mem_of_getElem? hk; simpa using this, hd'⟩
    · exact hK .norm { s' with nx := baseAt s id + 10000 } a' w' S' μ' ⟨⟨R'.tm, R'.hp, R'.df, R'.sz⟩, Ev.w, fun k m _ _ h => Ev.ext k m h, hfr, by show s.nx ≤ baseAt s id + 10000; omega, hT⟩ hk
  | seq c1 c2 ih1 ih2 =>
    intro s a w S μ Ka Q R hf hx hK
    refine wp_seq ?_
    simp only [exec] at hx
    cases hj : E.join (frid c2) s with
    | none =>
      simp only [hj] at hx
      refine ih1 s a w S μ _ _ R hf hx fun e s1 a1 w1 S1 μ1 B1 hk => ?_
      have up : ∀ e' s' a' w' S' μ', e ≠ .norm → e' = e → s' = s1 → a' = a1 → w' = w1 → S' = S1 → μ' = μ1 → Ka e' s' → QE Q e' a' w' := fun e' s' a' w' S' μ' _ e1 e2 e3 e4 e5 e6 hk' => by
        subst e1 e2 e3 e4 e5 e6
        exact hK e' s' a' w' S' μ' ⟨B1.rel, B1.ev, B1.st, B1.fr, B1.le, fun n hn => B1.tm n fun h => hn (by simp [dsts, h])⟩ hk'
      cases e with
      | norm =>
        refine ih2 s1 a1 w1 S1 μ1 Ka Q B1.rel B1.fr hk fun e' s' a' w' S' μ' B2 hk' => ?_
        refine hK e' s' a' w' S' μ' ⟨B2.rel, B1.ev.trans B2.ev, fun id m hs hl hm => B2.st id m hs (Nat.lt_of_lt_of_le hl B1.le) (B1.st id m hs hl hm), B2.fr, Nat.le_trans B1.le B2.le, fun n hn => ?_⟩ hk'
        simp only [dsts, List.mem_append, not_or] at hn
        rw [B2.tm n hn.2, B1.tm n hn.1]
      | exit i => exact up _ _ _ _ _ _ (by simp) rfl rfl rfl rfl rfl rfl hk
      | ret => exact up _ _ _ _ _ _ (by simp) rfl rfl rfl rfl rfl rfl hk
    | some J =>
      simp only [hj] at hx
      obtain ⟨hx1, hx2⟩ := hx
      refine ih1 s a w S μ _ _ R hf hx1 fun e s1 a1 w1 S1 μ1 B1 hk => ?_
      have up : ∀ e' s' a' w' S' μ', e ≠ .norm → e' = e → s' = s1 → a' = a1 → w' = w1 → S' = S1 → μ' = μ1 → Ka e' s' → QE Q e' a' w' := fun e' s' a' w' S' μ' _ e1 e2 e3 e4 e5 e6 hk' => by
        subst e1 e2 e3 e4 e5 e6
        exact hK e' s' a' w' S' μ' ⟨B1.rel, B1.ev, B1.st, B1.fr, B1.le, fun n hn => B1.tm n fun h => hn (by simp [dsts, h])⟩ hk'
      cases e with
      | norm =>
        obtain ⟨s1', S1', hk, E1', R1', hn1, ht1⟩ := prep_ok hk B1.rel
        obtain ⟨x, hok, hm⟩ := hk
        obtain ⟨S2, μ2, Ev2', R2, hf2, hs2⟩ := match_at (ds := dsts c1) hm R1' (μr := μ) (fun n hn hk => by
          rw [B1.tm n hn]
          exact (R.tm n).evo ((B1.ev.trans E1'.w).e μ)) (fun id m hs hl hm => B1.st id m hs hl hm) hf
        have Ev2 := E1'.w.trans Ev2'
        refine ih2 _ a1 w1 S2 μ2 Ka Q R2 (fun k hk => by have := hf2 k hk; unfold atInv; rw [puts_h.2]; exact this) (hx2 x hok) fun e' s' a' w' S' μ' B2 hk' => ?_
        have hnx : (atInv s (dsts c1) J x).nx = s.nx := by unfold atInv; rw [puts_h.2]
        refine hK e' s' a' w' S' μ' ⟨B2.rel, (B1.ev.trans Ev2).trans B2.ev, fun id m hs hl hm => B2.st id m hs (by rw [hnx]; exact hl) (hs2 id m hs hl (B1.st id m hs hl hm)), B2.fr, by rw [← hnx]; exact B2.le, fun n hn => ?_⟩ hk'
        simp only [dsts, List.mem_append, not_or] at hn
        rw [B2.tm n hn.2, B1.tm n hn.1]
      | exit i => exact up _ _ _ _ _ _ (by simp) rfl rfl rfl rfl rfl rfl hk
      | ret => exact up _ _ _ _ _ _ (by simp) rfl rfl rfl rfl rfl rfl hk
  | cond o c1 c2 ih1 ih2 =>
    intro s a w S μ Ka Q R hf hx hK
    simp only [exec] at hx
    have hv := evalA_rel R o
    have B1 : ∀ {s' a' w' S' μ'}, Beh E.nt c1 s.nx a w S μ s' a' w' S' μ' → Beh E.nt (.cond o c1 c2) s.nx a w S μ s' a' w' S' μ' := fun {s' a' w' S' μ'} B => ⟨B.rel, B.ev, B.st, B.fr, B.le, fun n hn => B.tm n fun h => hn (by simp [dsts, h])⟩
    have B2 : ∀ {s' a' w' S' μ'}, Beh E.nt c2 s.nx a w S μ s' a' w' S' μ' → Beh E.nt (.cond o c1 c2) s.nx a w S μ s' a' w' S' μ' := fun {s' a' w' S' μ'} B => ⟨B.rel, B.ev, B.st, B.fr, B.le, fun n hn => B.tm n fun h => hn (by simp [dsts, h])⟩
    split at hx
    · rename_i e
      rw [e] at hv
      have hb : a.eval o = .bool true := by cases hv' : a.eval o <;> (rw [hv'] at hv; cases hv); rfl
      exact wp_cond_true hb (ih1 s a w S μ Ka Q R hf hx fun e s' a' w' S' μ' B hk => hK e s' a' w' S' μ' (B1 B) hk)
    · rename_i e
      rw [e] at hv
      have hb : a.eval o = .bool false := by cases hv' : a.eval o <;> (rw [hv'] at hv; cases hv); rfl
      exact wp_cond_false hb (ih2 s a w S μ Ka Q R hf hx fun e s' a' w' S' μ' B hk => hK e s' a' w' S' μ' (B2 B) hk)
    · rename_i x e
      rw [e] at hv
      have hb : a.eval o = .bool x := by cases hv' : a.eval o <;> (rw [hv'] at hv; cases hv); rfl
      cases x with
      | true => exact wp_cond_true hb (ih1 s a w S μ Ka Q R hf (hx.1 rfl) fun e s' a' w' S' μ' B hk => hK e s' a' w' S' μ' (B1 B) hk)
      | false => exact wp_cond_false hb (ih2 s a w S μ Ka Q R hf (hx.2 rfl) fun e s' a' w' S' μ' B hk => hK e s' a' w' S' μ' (B2 B) hk)
    · omega
  | block id b ih =>
    intro s a w S μ Ka Q R hf hx hK
    simp only [exec] at hx
    refine wp_block (ih s a w S μ _ _ R hf hx fun e s' a' w' S' μ' B hk => ?_)
    have B' : Beh E.nt (.block id b) s.nx a w S μ s' a' w' S' μ' := ⟨B.rel, B.ev, B.st, B.fr, B.le, B.tm⟩
    cases e with
    | norm => exact hK .norm s' a' w' S' μ' B' hk
    | ret => exact hK .ret s' a' w' S' μ' B' hk
    | exit i =>
      simp only at hk
      show Exit.inBlock id Q (.exit i) a' w'
      by_cases e : i = id
      · subst e
        simp only [nbeq_same, cond_true] at hk
        simp only [Exit.inBlock, if_true]
        exact hK .norm s' a' w' S' μ' B' hk
      · simp only [nbeq_ne e, cond_false] at hk
        simp only [Exit.inBlock, if_neg e]
        exact hK (.exit i) s' a' w' S' μ' B' hk
  | loop b ih =>
    intro s a w S μ Ka Q R hf hx hK
    simp only [exec] at hx
    cases hi : E.inv (frid b) s with
    | none => simp only [hi] at hx; omega
    | some I =>
      simp only [hi] at hx
      obtain ⟨s0, S0, hx, E0, R0, hn0, ht0⟩ := prep_ok hx R
      obtain ⟨⟨x0, hok0, hm0⟩, hround⟩ := hx
      have hnx : ∀ x, (atInv s0 (dsts b) I x).nx = s.nx := fun x => by unfold atInv; rw [puts_h.2]; exact hn0
      have hf0 : ∀ k, μ k ≠ none → k < s0.nx := fun k hk => by rw [hn0]; exact hf k hk
      -- at the head of each round
      let J : Nat → Act → World → Prop := fun n a' w' => ∃ (x : I.X) (S' : SS) (μ' : MM), I.me x = n ∧ I.ok x ∧ Rel E.nt (atInv s0 (dsts b) I x) a' w' S' μ' ∧ WEvo w S w' S' ∧ (∀ id m, stab id = true → id < s.nx → μ id = some m → μ' id = some m) ∧ (∀ k, μ' k ≠ none → k < s.nx) ∧ (∀ n, n ∉ dsts b → a'.tmps.getD n Go.undef = a.tmps.getD n Go.undef)
      obtain ⟨S1, μ1, Ev1', R1, hf1', hs1'⟩ := match_at (ds := dsts b) hm0 R0 (μr := μ) (fun n _ _ => R0.tm n) (fun _ _ _ _ h => h) hf0
      have Ev1 := E0.w.trans Ev1'
      rw [hn0] at hf1' hs1'
      have hf1 := hf1'
      have hs1 := hs1'
      refine wp_loop_ghost J (I.me x0) ⟨x0, S1, μ1, rfl, hok0, R1, Ev1, hs1, hf1, fun _ _ => rfl⟩ fun n a1 w1 hJ => ?_
      obtain ⟨x, S', μ', hn, hok, R', Ev', hs', hf', ht'⟩ := hJ
      refine ih _ a1 w1 S' μ' _ _ R' (fun k hk => by rw [hnx]; exact hf' k hk) (hround x hok) fun e s2 a2 w2 S2 μ2 B hk => ?_
      have B' : Beh E.nt (.loop b) s.nx a w S μ s2 a2 w2 S2 μ2 := ⟨B.rel, Ev'.trans B.ev, fun id m hs hl hm => B.st id m hs (by rw [hnx]; exact hl) (hs' id m hs hl hm), B.fr, by rw [← hnx x]; exact B.le, fun n hn => by
        have hn' : n ∉ dsts b := hn
        rw [B.tm n hn', ht' n hn']⟩
      cases e with
      | exit i => exact hK (.exit i) s2 a2 w2 S2 μ2 B' hk
      | ret => exact hK .ret s2 a2 w2 S2 μ2 B' hk
      | norm =>
        obtain ⟨s2', S2', hk, E2', R2', hn2, ht2⟩ := prep_ok hk B.rel
        obtain ⟨x', hok', hlt, hm'⟩ := hk
        obtain ⟨S3, μ3, Ev3', R3, hf3, hs3⟩ := match_at (ds := dsts b) hm' R2' (μr := μ) (fun n hn _ => by
          rw [B.tm n hn, ht' n hn, ht0]
          exact (R.tm n).evo (((Ev'.trans B.ev).trans E2'.w).e μ)) (fun id m hs hl hm => B'.st id m hs (by rw [← hn0]; exact hl) hm) hf0
        rw [hn0] at hf3 hs3
        have Ev3 := E2'.w.trans Ev3'
        exact ⟨I.me x', by rw [← hn]; exact hlt, x', S3, μ3, rfl, hok', R3, (Ev'.trans B.ev).trans Ev3, fun id m hs hl hm => hs3 id m hs hl (B'.st id m hs hl hm), hf3, fun n hn => by rw [B.tm n hn, ht' n hn]⟩
  | exit id =>
    intro s a w S μ Ka Q R hf hx hK
    exact wp_exit (hK (.exit id) s a w S μ ⟨R, WEvo.refl _ _, fun _ _ _ _ h => h, hf, Nat.le_refl _, fun _ _ => rfl⟩ hx)
  | ret =>
    intro s a w S μ Ka Q R hf hx hK
    exact wp_ret (hK .ret s a w S μ ⟨R, WEvo.refl _ _, fun _ _ _ _ h => h, hf, Nat.le_refl _, fun _ _ => rfl⟩ hx)
  | scope b ih => intro s a w S μ Ka Q R hf hx hK; simp only [exec] at hx; omega
  | rangeFunc f ps b1 b2 ih1 ih2 => intro s a w S μ Ka Q R hf hx hK; simp only [exec] at hx; omega
  | label l => intro s a w S μ Ka Q R hf hx hK; simp only [exec] at hx; omega
  | goto l => intro s a w S μ Ka Q R hf hx hK; simp only [exec] at hx; omega
  | refuse y => intro s a w S μ Ka Q R hf hx hK; simp only [exec] at hx; omega
end Go.Proofs.Ytemffnpliflkgaa
