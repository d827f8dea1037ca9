/-
  Lemmas and contracts on the way to the laws of this seat; each theorem states its own conditions, and there are no others.
-/
import Derived.Test.YtemffnpliflkgaaED
namespace Go.Proofs.Ytemffnpliflkgaa
open Go
set_option linter.unusedVariables false
set_option linter.unusedSimpArgs false
section
variable {P : Program} {a : Act} {o : Oper} {w : World} {S : SS} {μ : MM} {h : Nat → Option OB} {base : Nat}

theorem rowAV_set {c : Nat} {l : List (den c)} {r : Nat} {y : den c} (i : Nat) (hr : r < l.length) : rowAV c (l.set r y) i = if i = r then enc c y else rowAV c l i := by
  unfold rowAV
  by_cases e : i = r
  · subst e; rw [if_pos rfl]; simp [List.getD_eq_getElem?_getD, hr]
  · rw [if_neg e]
    have : r ≠ i := fun h => e h.symm
    simp [List.getD_eq_getElem?_getD, List.getElem?_set_ne this]
theorem rowAV_len (c : Nat) (l : List (den c)) (i : Nat) : (rowAV c l i).length = ncell c := enc_len c _
theorem setD {α : Type} {l : List α} {f : Nat} {v d : α} (j : Nat) (hf : f < l.length) : (l.set f v).getD j d = if j = f then v else l.getD j d := by
  by_cases e : j = f
  · subst e; rw [if_pos rfl]; simp [List.getD_eq_getElem?_getD, hf]
  · rw [if_neg e]
    have : f ≠ j := fun h => e h.symm
    simp [List.getD_eq_getElem?_getD, List.getElem?_set_ne this]
/-- A cell of a list with one row set anew. -/
theorem cell_set {c : Nat} {l : List (den c)} {r f : Nat} {y : den c} {v : AV} (he : enc c y = (rowAV c l r).set f v) (hr : r < l.length) (hf : f < ncell c) (i j : Nat) : (rowAV c (l.set r y) i).getD j .undef = if i = r ∧ j = f then v else (rowAV c l i).getD j .undef := by
  rw [rowAV_set i hr]
  by_cases e : i = r
  · subst e
    rw [if_pos rfl, he, setD j (by rw [rowAV_len]; exact hf)]
    by_cases e2 : j = f
    · rw [if_pos e2, if_pos ⟨rfl, e2⟩]
    · rw [if_neg e2, if_neg (fun h => e2 h.2)]
  · rw [if_neg e, if_neg (fun h => e h.1)]

/-- A slice of one's own, as a row within a deep block. -/
theorem own_inn (H : HRel w S μ h) {id c c' et : Nat} {l : List (den c)} (hh : h id = some (.rows et c l)) {x : Value} (hx : VRel w S μ (.own id c') x) : INN w S μ et c l x ∧ ∃ m, μ id = some m ∧ ∀ b, hdr x = some b → m.b = some b := by
  obtain ⟨m, hm, hcase⟩ := hx.own_inv
  obtain ⟨h1, h2, h3⟩ := H.rows hh hm
  rcases hcase with ⟨b, hb, rfl⟩ | ⟨h0, q, rfl⟩
  · refine ⟨?_, m, hm, fun b' hb' => ?_⟩
    · obtain ⟨cur, hcur, hsz, hlen, hmx, hrel⟩ := h3 b hb
      by_cases hc : m.cap = 0
      · have e : l = [] := List.eq_nil_of_length_eq_zero (by omega)
        have e2 : m.n = 0 := by rw [h1, e]; rfl
        exact .inl ⟨e, _, by rw [hc, e2]⟩
      · exact .inr ⟨b, m.cap, cur, by rw [h1], by omega, hcur, hsz, hlen, hmx, hrel⟩
    · cases hc : m.cap with
      | zero => rw [hc] at hb'; simp [hdr] at hb'
      | succ k =>
        rw [hc] at hb'
        simp only [hdr, Option.some.injEq] at hb'
        rw [← hb']; exact hb
  · have e : l = [] := List.eq_nil_of_length_eq_zero (by omega)
    exact ⟨.inl ⟨e, _, rfl⟩, m, hm, fun b hb => by simp [hdr] at hb⟩
theorem DC.of_inn {et c : Nat} {l : List (den c)} {x : Value} (h : INN w S μ et c l x) : DC w S μ et (.irec true c l) x := h

theorem outAt_some {r f n i j : Nat} : outAt (some (r, f, n)) i j = true ↔ i = r ∧ j = f := by
  simp only [outAt, Bool.and_eq_true]
  constructor
  · rintro ⟨h1, h2⟩; exact ⟨(Nat.eq_of_beq_eq_true h1).symm, (Nat.eq_of_beq_eq_true h2).symm⟩
  · rintro ⟨rfl, rfl⟩; exact ⟨Nat.beq_refl _, Nat.beq_refl _⟩
theorem outAt_none {i j : Nat} : outAt none i j = false := rfl

/-- The row that is out comes back. -/
theorem closeD_ok (H : HRel w S μ h) {id : Nat} {q : List Prop} {u : Upd} (hc : closeD h id = some (q, u)) (hq : ∀ p ∈ q, p) : HRel w S μ (updH h u) := by
  unfold closeD at hc
  split at hc
  · simp only [Option.some.injEq, Prod.mk.injEq] at hc
    obtain ⟨rfl, rfl⟩ := hc
    exact H
  · rename_i et c ts l r j name hh
    split at hc
    · rename_i et' c' l' hn
      by_cases he : Nat.beq et' (ts.getD j 0) = true
      case neg => simp only [Bool.not_eq_true] at he; rw [he, cond_false] at hc; cases hc
      simp only [he, cond_true] at hc
      have ee := Nat.eq_of_beq_eq_true he
      split at hc
      · rename_i y hy
        simp only [Option.some.injEq, Prod.mk.injEq] at hc
        obtain ⟨rfl, rfl⟩ := hc
        have heq : enc c y = (rowAV c l r).set j (.irec true c' l') := hq _ (by simp)
        have hne : id ≠ name := fun e => by rw [e, hn] at hh; cases hh
        have cs : ∀ i, (updH h [(name, none), (id, some (.deep et c ts (l.set r y) none))]) i = if i = id then some (.deep et c ts (l.set r y) none) else if i = name then none else h i := fun i => by
          simp only [updH]
          by_cases e1 : i = id
          · subst e1; simp
          · by_cases e2 : i = name
            · subst e2; simp [e1, nbeq_ne e1]
            · simp [e1, e2, nbeq_ne e1, nbeq_ne e2]
        obtain ⟨m, hm, hB⟩ := H.blk id _ hh
        obtain ⟨d1, d2, d3⟩ := H.deep hh hm
        obtain ⟨m2, hm2, _⟩ := H.blk name _ hn
        have cell : ∀ i jj, i < l.length → jj < ncell c → (rowAV c (l.set r y) i).getD jj .undef = if i = r ∧ jj = j then .irec true c' l' else (rowAV c l i).getD jj .undef := fun i jj hi hj => by
          by_cases hr : r < l.length
          · by_cases hf : j < ncell c
            · exact cell_set heq hr hf i jj
            · rw [if_neg (by omega), rowAV_set i hr]
              by_cases e : i = r
              · rw [if_pos e, heq, List.set_eq_of_length_le (by rw [rowAV_len]; omega), e]
              · rw [if_neg e]
          · rw [List.set_eq_of_length_le (by omega), if_neg (by omega)]
        -- the block of the row that was out
        have outc : ∀ b cur, m.b = some b → DeepAt w S μ m et c ts l (some (r, j, name)) b cur → ∀ i jj, i < l.length → jj < ncell c → i = r ∧ jj = j → INN w S μ (ts.getD jj 0) c' l' (cur.getD (i * ncell c + jj) Go.undef) ∧ ∀ x, hdr (cur.getD (i * ncell c + jj) Go.undef) = some x → m2.b = some x := fun b cur hb D i jj hi hj e => by
          rcases D.cell i hi jj hj with ⟨a1, a2⟩ | ⟨a1, _⟩
          · obtain ⟨c2, hv⟩ := a2
            obtain ⟨g1, m', g2, g3⟩ := own_inn H hn hv
            rw [hm2] at g2; cases g2
            rw [e.2, ← ee]
            rw [e.2] at g1 g3
            exact ⟨g1, g3⟩
          · rw [outAt_some.2 e] at a1; cases a1
        have notn : ∀ x, m2.b = some x → ¬ holds w m (.deep et c ts l (some (r, j, name))) x := fun x hx hh2 => hne (H.injH id name _ _ m m2 x hh hn hm hm2 hh2 (.inl hx))
        have bok : BOk w S μ m (.deep et c ts (l.set r y) none) := by
          obtain ⟨k0, k1, k2⟩ := hB
          refine ⟨by simpa using k0, k1, ?_⟩
          rcases k2 with ⟨k2, k3⟩ | ⟨b, cur, k2, k3, k4, k5, k6, k7, k8, k9⟩
          · exact .inl ⟨by rw [k2]; rfl, k3⟩
          · have D : DeepAt w S μ m et c ts l (some (r, j, name)) b cur := ⟨k3, k4, k5, k6, k7, k8, k9⟩
            have hold : ∀ i jj x, i < l.length → jj < ncell c → ¬ (i = r ∧ jj = j) → hdr (cur.getD (i * ncell c + jj) Go.undef) = some x → holds w m (.deep et c ts l (some (r, j, name))) x := fun i jj x hi hj h1 h2 => (DeepAt.holds_iff k3 k2).2 (.inr ⟨i, jj, hi, hj, Bool.eq_false_iff.2 fun h => h1 (outAt_some.1 h), h2⟩)
            refine .inr ⟨b, cur, k2, k3, k4, by simpa using k5, k6, fun i hi jj hj => .inr ⟨rfl, ?_⟩, fun i jj i' jj' x hi hj hi' hj' _ _ e1 e2 => ?_, fun i jj x hi hj _ e1 => ?_⟩
            · have hi : i < l.length := by simpa using hi
              rw [cell i jj hi hj]
              by_cases e : i = r ∧ jj = j
              · rw [if_pos e]; exact DC.of_inn (outc b cur k2 D i jj hi hj e).1
              · rw [if_neg e]
                rcases k7 i hi jj hj with ⟨a1, _⟩ | ⟨_, a2⟩
                · exact absurd (outAt_some.1 a1) e
                · exact a2
            · have hi : i < l.length := by simpa using hi
              have hi' : i' < l.length := by simpa using hi'
              by_cases c1 : i = r ∧ jj = j <;> by_cases c2 : i' = r ∧ jj' = j
              · exact ⟨c1.1.trans c2.1.symm, c1.2.trans c2.2.symm⟩
              · exact absurd (hold i' jj' x hi' hj' c2 e2) (notn x ((outc b cur k2 D i jj hi hj c1).2 x e1))
              · exact absurd (hold i jj x hi hj c1 e1) (notn x ((outc b cur k2 D i' jj' hi' hj' c2).2 x e2))
              · exact k8 i jj i' jj' x hi hj hi' hj' (Bool.eq_false_iff.2 fun h => c1 (outAt_some.1 h)) (Bool.eq_false_iff.2 fun h => c2 (outAt_some.1 h)) e1 e2
            · have hi : i < l.length := by simpa using hi
              by_cases c1 : i = r ∧ jj = j
              · intro e
                exact notn x ((outc b cur k2 D i jj hi hj c1).2 x e1) (.inl (by rw [e]; exact k2))
              · exact k9 i jj x hi hj (Bool.eq_false_iff.2 fun h => c1 (outAt_some.1 h)) e1
        have hold' : ∀ x, holds w m (.deep et c ts (l.set r y) none) x → holds w m (.deep et c ts l (some (r, j, name))) x ∨ m2.b = some x := fun x hx => by
          rcases hx with hx | ⟨b0, i, jj, e1, hi, hj, _, e2⟩
          · exact .inl (.inl hx)
          · have hi : i < l.length := by simpa using hi
            obtain ⟨cur, D⟩ := d3 b0 e1
            rw [innAt_cells D.hb] at e2
            by_cases c1 : i = r ∧ jj = j
            · exact .inr ((outc b0 cur e1 D i jj hi hj c1).2 x e2)
            · exact .inl ((DeepAt.holds_iff D.hb e1).2 (.inr ⟨i, jj, hi, hj, Bool.eq_false_iff.2 fun h => c1 (outAt_some.1 h), e2⟩))
        -- whose a block was
        have was : ∀ i oi mi x, (updH h [(name, none), (id, some (.deep et c ts (l.set r y) none))]) i = some oi → μ i = some mi → holds w mi oi x → ∃ k ok mk, h k = some ok ∧ μ k = some mk ∧ holds w mk ok x ∧ (k = i ∨ (i = id ∧ k = name)) := fun i oi mi x hi hmi hx => by
          rw [cs] at hi
          by_cases e1 : i = id
          · rw [if_pos e1] at hi; cases hi
            subst e1
            rw [hm] at hmi; cases hmi
            rcases hold' x hx with g | g
            · exact ⟨i, _, m, hh, hm, g, .inl rfl⟩
            · exact ⟨name, _, m2, hn, hm2, .inl g, .inr ⟨rfl, rfl⟩⟩
          · rw [if_neg e1] at hi
            by_cases e2 : i = name
            · rw [if_pos e2] at hi; cases hi
            · rw [if_neg e2] at hi
              exact ⟨i, oi, mi, hi, hmi, hx, .inl rfl⟩
        have notname : ∀ i, (updH h [(name, none), (id, some (.deep et c ts (l.set r y) none))]) i ≠ none → i ≠ name := fun i hi e => by
          rw [cs, if_neg (by rw [e]; exact fun h => hne h.symm), if_pos e] at hi
          exact hi rfl
        refine ⟨fun i oi hi => ?_, fun i k oi ok mi mk x hi hk hmi hmk hxi hxk => ?_, fun i oi mi x p hi hmi hx hs => ?_, H.bd⟩
        · rw [cs] at hi
          by_cases e1 : i = id
          · rw [if_pos e1] at hi; cases hi
            exact ⟨m, by rw [e1]; exact hm, bok⟩
          · rw [if_neg e1] at hi
            by_cases e2 : i = name
            · rw [if_pos e2] at hi; cases hi
            · rw [if_neg e2] at hi
              exact H.blk i oi hi
        · obtain ⟨i1, o1, m1, a1, a2, a3, a4⟩ := was i oi mi x hi hmi hxi
          obtain ⟨i3, o3, m3, b1, b2, b3, b4⟩ := was k ok mk x hk hmk hxk
          have e := H.injH i1 i3 o1 o3 m1 m3 x a1 b1 a2 b2 a3 b3
          have n1 := notname i (by rw [hi]; simp)
          have n2 := notname k (by rw [hk]; simp)
          rcases a4 with a4 | ⟨a4, a5⟩ <;> rcases b4 with b4 | ⟨b4, b5⟩
          · exact a4.symm.trans (e.trans b4)
          · exact absurd (a4.symm.trans (e.trans b5)) n1
          · exact absurd (b4.symm.trans (e.symm.trans a5)) n2
          · exact a4.trans b4.symm
        · obtain ⟨i1, o1, m1, a1, a2, a3, _⟩ := was i oi mi x hi hmi hx
          exact H.sepH i1 o1 m1 x p a1 a2 a3 hs
      · cases hc
    · cases hc
  · cases hc
end
end Go.Proofs.Ytemffnpliflkgaa
