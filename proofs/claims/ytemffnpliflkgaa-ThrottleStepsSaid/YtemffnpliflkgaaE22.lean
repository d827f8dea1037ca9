/-
  Lemmas and contracts on the way to the laws of this seat; each theorem states its own conditions, and there are no others.
-/
import Derived.Test.YtemffnpliflkgaaE21
namespace Go.Proofs.Ytemffnpliflkgaa
open Go
set_option linter.unusedVariables false
set_option linter.unusedSimpArgs false

theorem Ren.has_look : ∀ {ρ : Ren} {a : Nat}, Ren.has a ρ = false → ∀ i, ρ.look i ≠ some (some a)
  | [], a, _, i => by simp [Ren.look]
  | (j, some b) :: l, a, h, i => by
    simp only [Ren.has] at h
    by_cases e : a = b
    · subst e; simp at h
    · rw [nbeq_ne e] at h
      simp only [Ren.look]
      by_cases e2 : i = j
      · subst e2; simp; exact fun h => e h.symm
      · rw [nbeq_ne e2]; exact Ren.has_look h i
  | (j, none) :: l, a, h, i => by
    simp only [Ren.has] at h
    simp only [Ren.look]
    by_cases e2 : i = j
    · subst e2; simp
    · rw [nbeq_ne e2]; exact Ren.has_look h i

structure RenOk (ρ : Ren) : Prop where
  inj : ∀ i j a, ρ.look i = some (some a) → ρ.look j = some (some a) → i = j
  stab : ∀ i k, ρ.look i = some k → stabOk i k = true

theorem Ren.add_spec {ρ ρ' : Ren} {i : Nat} {k : Option Nat} (h : ρ.add i k = some ρ') : ρ'.look i = some k ∧ (∀ j r, ρ.look j = some r → ρ'.look j = some r) ∧ (∀ j, j ≠ i → ρ'.look j = ρ.look j) ∧ (RenOk ρ → RenOk ρ') := by
  unfold Ren.add at h
  by_cases hs : stabOk i k = true
  case neg => simp [hs] at h
  simp only [hs, cond_true] at h
  split at h
  · rename_i k' hk'
    have key : k = k' → ρ = ρ' → _ := fun e1 e2 => by
      subst e1 e2
      exact (⟨hk', fun _ _ h => h, fun _ _ => rfl, fun h => h⟩ : ρ.look i = some k ∧ (∀ j r, ρ.look j = some r → ρ.look j = some r) ∧ (∀ j, j ≠ i → ρ.look j = ρ.look j) ∧ (RenOk ρ → RenOk ρ))
    split at h
    · cases h; exact key rfl rfl
    · rename_i a b
      by_cases e : a = b
      · subst e; simp at h; subst h; exact key rfl rfl
      · rw [nbeq_ne e] at h; cases h
    · cases h
  · rename_i hn
    have fin : ∀ (ρ' : Ren), ρ' = (i, k) :: ρ → (∀ a, k = some a → Ren.has a ρ = false) → ρ'.look i = some k ∧ (∀ j r, ρ.look j = some r → ρ'.look j = some r) ∧ (∀ j, j ≠ i → ρ'.look j = ρ.look j) ∧ (RenOk ρ → RenOk ρ') := fun ρ' e hh => by
      subst e
      have hother : ∀ j, j ≠ i → Ren.look j ((i, k) :: ρ) = ρ.look j := fun j hj => by simp [Ren.look, nbeq_ne hj]
      have hself : Ren.look i ((i, k) :: ρ) = some k := by simp [Ren.look]
      refine ⟨hself, fun j r hj => ?_, hother, fun hok => ⟨fun x y a hx hy => ?_, fun x r hx => ?_⟩⟩
      · by_cases e : j = i
        · subst e; rw [hn] at hj; cases hj
        · rw [hother j e]; exact hj
      · by_cases ex : x = i <;> by_cases ey : y = i
        · rw [ex, ey]
        · subst ex
          rw [hself] at hx
          rw [hother y ey] at hy
          have := Option.some.inj hx
          exact absurd hy (Ren.has_look (hh a this) y)
        · subst ey
          rw [hself] at hy
          rw [hother x ex] at hx
          have := Option.some.inj hy
          exact absurd hx (Ren.has_look (hh a this) x)
        · rw [hother x ex] at hx
          rw [hother y ey] at hy
          exact hok.inj x y a hx hy
      · by_cases ex : x = i
        · subst ex; rw [hself] at hx; cases hx; exact hs
        · rw [hother x ex] at hx; exact hok.stab x r hx
    split at h
    · cases h; exact fin _ rfl (fun a ha => (by cases ha))
    · rename_i a
      by_cases hh : Ren.has a ρ = true
      · simp [hh] at h
      · simp only [hh, cond_false, Option.some.injEq] at h
        subst h
        exact fin _ rfl (fun a' ha' => by cases ha'; simpa using hh)

/-- A match goes on. -/
structure MExt (m M : Mt) : Prop where
  look : ∀ j r, m.ρ.look j = some r → M.ρ.look j = some r
  gone : ∀ j, j ∈ m.gone → j ∈ M.gone
  ps : ∀ p, p ∈ m.ps → p ∈ M.ps
theorem MExt.refl (m : Mt) : MExt m m := ⟨fun _ _ h => h, fun _ h => h, fun _ h => h⟩
theorem MExt.trans {a b c : Mt} (h : MExt a b) (k : MExt b c) : MExt a c := ⟨fun j r hj => k.look j r (h.look j r hj), fun j hj => k.gone j (h.gone j hj), fun p hp => k.ps p (h.ps p hp)⟩

structure MOk (h : Nat → Option OB) (m : Mt) : Prop where
  ren : RenOk m.ρ
  gone : ∀ j ∈ m.gone, ∃ et c l, h j = some (.rows et c l)

/-- What the names stand for behind a match. -/
structure Named (M : Mt) (μ μ' : MM) : Prop where
  some_ : ∀ i k, M.ρ.look i = some (some k) → μ' i = μ k
  none_ : ∀ i, M.ρ.look i = some none → ∃ m, μ' i = some m ∧ m.n = 0 ∧ m.b = none

section
variable {w : World} {S : SS} {μ μ' : MM} {h : Nat → Option OB}

theorem mtL_spec {c : Nat} {l : List (den c)} {r : Rows} {m m' : Mt} (hm : mtL c l r m = some m') : MExt m m' ∧ m'.ρ = m.ρ ∧ m'.gone = m.gone ∧ ((∀ p ∈ m'.ps, p) → ∃ e : r.c = c, e ▸ r.l = l) := by
  unfold mtL at hm
  split at hm
  · rename_i l' hl'
    obtain ⟨e, rfl⟩ := castL_spec hl'
    simp only [Option.some.injEq] at hm
    subst hm
    exact ⟨⟨fun _ _ h => h, fun _ h => h, fun p hp => by simp [hp]⟩, rfl, rfl, fun hp => ⟨e, hp _ (by simp)⟩⟩
  · cases hm

theorem castF_spec {c d : Nat} {f : Int → den c} {f' : Int → den d} (hh : castF f d = some f') : ∃ e : c = d, f' = e ▸ f := by
  unfold castF at hh
  split at hh
  · rename_i e; exact ⟨e, by simpa using hh.symm⟩
  · cases hh
theorem mtF_spec {c c' : Nat} {f : Int → den c} {f' : Int → den c'} {m m' : Mt} (hm : mtF c f c' f' m = some m') : MExt m m' ∧ m'.ρ = m.ρ ∧ m'.gone = m.gone ∧ ((∀ p ∈ m'.ps, p) → ∃ e : c' = c, e ▸ f' = f) := by
  unfold mtF at hm
  split at hm
  · rename_i l' hl'
    obtain ⟨e, rfl⟩ := castF_spec hl'
    simp only [Option.some.injEq] at hm
    subst hm
    exact ⟨⟨fun _ _ h => h, fun _ h => h, fun p hp => by simp [hp]⟩, rfl, rfl, fun hp => ⟨e, hp _ (by simp)⟩⟩
  · cases hm

theorem asB_back {S' : SS} {v : AV} {b : Bool} {x : Value} (hb : v.asB = some b) (hx : VRel w S μ v x) : VRel w S' μ' (.bool b) x := by
  have := asB_rel hx hb
  subst this
  exact .bool b

theorem mt1_spec {v a : AV} {m m' : Mt} (hm : mt1 h v a m = some m') : MExt m m' ∧ (MOk h m → MOk h m') ∧
    ∀ (M : Mt) (w : World) (S : SS) (μ μ' : MM) (x : Value), MExt m' M → (∀ p ∈ M.ps, p) → HRel w S μ h → Named M μ μ' → VRel w S μ a x → VRel w (frz S μ M.gone) μ' v x := by
  have hfr : ∀ (M : Mt) (S : SS) (μ : MM), ∀ p b, S p b → frz S μ M.gone p b := fun M S μ p b hs => .inl hs
  have plain : m' = m → (∀ (w : World) (S S' : SS) (μ μ' : MM) (x : Value), (∀ p b, S p b → S' p b) → VRel w S μ a x → VRel w S' μ' v x) → _ := fun e hr => by
    subst e
    exact (⟨MExt.refl _, fun h => h, fun M w S μ μ' x _ _ _ _ hx => hr w S _ μ μ' x (hfr M S μ) hx⟩ : MExt m' m' ∧ (MOk h m' → MOk h m') ∧ ∀ (M : Mt) (w : World) (S : SS) (μ μ' : MM) (x : Value), MExt m' M → (∀ p ∈ M.ps, p) → HRel w S μ h → Named M μ μ' → VRel w S μ a x → VRel w (frz S μ M.gone) μ' v x)
  have eqn : ∀ (P : Prop), m' = { m with ps := m.ps ++ [P] } → (P → ∀ (w : World) (S S' : SS) (μ μ' : MM) (x : Value), (∀ p b, S p b → S' p b) → VRel w S μ a x → VRel w S' μ' v x) → MExt m m' ∧ (MOk h m → MOk h m') ∧ ∀ (M : Mt) (w : World) (S : SS) (μ μ' : MM) (x : Value), MExt m' M → (∀ p ∈ M.ps, p) → HRel w S μ h → Named M μ μ' → VRel w S μ a x → VRel w (frz S μ M.gone) μ' v x := fun P e hr => by
    subst e
    refine ⟨⟨fun _ _ h => h, fun _ h => h, fun p hp => by simp [hp]⟩, fun hok => ⟨hok.ren, hok.gone⟩, fun M w S μ μ' x hE hp _ _ hx => ?_⟩
    exact hr (hp P (hE.ps P (by simp))) w S _ μ μ' x (hfr M S μ) hx
  have ren : ∀ (i : Nat) (k : Option Nat) (ρ : Ren), m.ρ.add i k = some ρ → m' = { m with ρ := ρ } → (∀ (M : Mt) (w : World) (S S' : SS) (μ μ' : MM) (x : Value), M.ρ.look i = some k → Named M μ μ' → (∀ p b, S p b → S' p b) → VRel w S μ a x → VRel w S' μ' v x) → MExt m m' ∧ (MOk h m → MOk h m') ∧ ∀ (M : Mt) (w : World) (S : SS) (μ μ' : MM) (x : Value), MExt m' M → (∀ p ∈ M.ps, p) → HRel w S μ h → Named M μ μ' → VRel w S μ a x → VRel w (frz S μ M.gone) μ' v x := fun i k ρ ha e hr => by
    subst e
    obtain ⟨h1, h2, h3, h4⟩ := Ren.add_spec ha
    exact ⟨⟨h2, fun _ h => h, fun _ h => h⟩, fun hok => ⟨h4 hok.ren, hok.gone⟩, fun M w S μ μ' x hE _ _ hN hx => hr M w S _ μ μ' x (hE.look i k h1) hN (hfr M S μ) hx⟩
  unfold mt1 at hm
  split at hm
  · cases hm; exact plain rfl fun w S S' μ μ' x _ _ => .undef _
  · rename_i k n k' n'
    by_cases hk : kindEq k k' = true
    · simp only [hk, cond_true, Option.some.injEq] at hm
      have e := kindEq_spec hk
      subst e
      refine eqn _ hm.symm fun hp w S S' μ μ' x _ hx => ?_
      rw [hx.int_inv, hp]; exact .int _ _
    · simp [hk] at hm
  · cases hm; refine plain rfl fun w S S' μ μ' x _ hx => ?_; cases hx; exact .tt
  · cases hm; refine plain rfl fun w S S' μ μ' x _ hx => ?_; cases hx; exact .ff
  · split at hm
    · rename_i b' hb'
      simp only [Option.some.injEq] at hm
      refine eqn _ hm.symm fun hp w S S' μ μ' x _ hx => ?_
      have := asB_rel hx hb'
      rw [this, hp]; exact .tt
    · cases hm
  · split at hm
    · rename_i b' hb'
      simp only [Option.some.injEq] at hm
      refine eqn _ hm.symm fun hp w S S' μ μ' x _ hx => ?_
      rw [← hp]; exact asB_back hb' hx
    · cases hm
  · simp only [Option.some.injEq] at hm
    refine eqn _ hm.symm fun hp w S S' μ μ' x _ hx => ?_
    cases hx; rw [hp]; exact .str _
  · cases hm; refine plain rfl fun w S S' μ μ' x _ hx => ?_; cases hx; exact .nilp
  · cases hm; refine plain rfl fun w S S' μ μ' x _ hx => ?_; cases hx; exact .nsl
  · cases hm; refine plain rfl fun w S S' μ μ' x _ hx => ?_; cases hx; exact .nfn
  · rename_i i o j o'
    by_cases hk : Nat.beq o o' = true
    · simp only [hk, cond_true] at hm
      have e := Nat.eq_of_beq_eq_true hk
      subst e
      split at hm
      · rename_i ρ hρ
        simp only [Option.some.injEq] at hm
        refine ren i (some j) ρ hρ hm.symm fun M w S S' μ μ' x hl hN _ hx => ?_
        obtain ⟨mi, b, hm', hb, rfl⟩ := hx.ptr_inv
        exact .ptr (by rw [hN.some_ i j hl]; exact hm') hb
      · cases hm
    · simp [hk] at hm
  · rename_i i c j c'
    by_cases hk : Nat.beq c c' = true
    · simp only [hk, cond_true] at hm
      split at hm
      · rename_i ρ hρ
        simp only [Option.some.injEq] at hm
        refine ren i (some j) ρ hρ hm.symm fun M w S S' μ μ' x hl hN _ hx => ?_
        obtain ⟨mi, hm', hc⟩ := hx.own_inv
        have h1 : μ' i = some mi := by rw [hN.some_ i j hl]; exact hm'
        rcases hc with ⟨b, hb, rfl⟩ | ⟨h0, q, rfl⟩
        · exact .own h1 hb
        · exact .own0 q h1 h0
      · cases hm
    · simp [hk] at hm
  · rename_i i c
    split at hm
    · rename_i ρ hρ
      simp only [Option.some.injEq] at hm
      refine ren i none ρ hρ hm.symm fun M w S S' μ μ' x hl hN _ hx => ?_
      obtain ⟨mi, h1, h2, _⟩ := hN.none_ i hl
      cases hx
      exact .own0 none h1 h2
    · cases hm
  · rename_i i c lo n j c' lo' n'
    by_cases hk : Nat.beq c c' = true
    · simp only [hk, cond_true] at hm
      have e := Nat.eq_of_beq_eq_true hk
      subst e
      split at hm
      · rename_i ρ hρ
        simp only [Option.some.injEq] at hm
        subst hm
        obtain ⟨h1, h2, h3, h4⟩ := Ren.add_spec hρ
        refine ⟨⟨h2, fun _ h => h, fun p hp => by simp [hp]⟩, fun hok => ⟨h4 hok.ren, hok.gone⟩, fun M w S μ μ' x hE hp _ hN hx => ?_⟩
        have e1 : lo' = lo := hp _ (hE.ps _ (by simp))
        have e2 : n' = n := hp _ (hE.ps _ (by simp))
        subst e1 e2
        have hl := hE.look i (some j) h1
        rcases hx.sub_inv with ⟨mi, b, cap, hm', hb, hmc, hrn, hcap, rfl⟩ | ⟨h0, q, cap, rfl⟩
        · exact .sub (by rw [hN.some_ i j hl]; exact hm') hb hmc hrn hcap
        · subst h0; exact .sub0 q cap
      · cases hm
    · simp [hk] at hm
  · rename_i i c lo n j c2
    split at hm
    · rename_i et c' l' hj
      by_cases hk : Nat.beq c c' = true
      · simp only [hk, cond_true] at hm
        have e := Nat.eq_of_beq_eq_true hk
        subst e
        split at hm
        · rename_i ρ hρ
          simp only [Option.some.injEq] at hm
          subst hm
          obtain ⟨h1, h2, h3, h4⟩ := Ren.add_spec hρ
          refine ⟨⟨h2, fun _ h => h, fun p hp => by simp [hp]⟩, fun hok => ⟨h4 hok.ren, hok.gone⟩, fun M w S μ μ' x hE hp H hN hx => ?_⟩
          have e1 : 0 = lo := hp _ (hE.ps _ (by simp))
          have e2 : l'.length = n := hp _ (hE.ps _ (by simp))
          subst e1 e2
          have hl := hE.look i (some j) h1
          rcases (own_sub H hj hx).sub_inv with ⟨mi, b, cap, hm', hb, hmc, hrn, hcap, rfl⟩ | ⟨h0, q, cap, rfl⟩
          · exact .sub (by rw [hN.some_ i j hl]; exact hm') hb hmc hrn hcap
          · rw [h0]; exact .sub0 q cap
        · cases hm
      · simp [hk] at hm
    · cases hm
  · rename_i p c l
    simp only [Option.some.injEq] at hm
    refine eqn _ hm.symm fun hp w S S' μ μ' x _ hx => ?_
    cases hx; rw [← hp]; exact .irec0 none 0
  · rename_i p c l p' c' l'
    by_cases hk : (p == p') = true
    · simp only [hk, cond_true] at hm
      have e : p = p' := by simpa using hk
      subst e
      obtain ⟨h1, h2, h3, h4⟩ := mtL_spec hm
      refine ⟨h1, fun hok => ⟨by rw [h2]; exact hok.ren, by rw [h3]; exact hok.gone⟩, fun M w S μ μ' x hE hp _ hN hx => ?_⟩
      obtain ⟨e, hl⟩ := h4 fun q hq => hp q (hE.ps q hq)
      simp only at e
      subst e
      simp only at hl
      subst hl
      exact irec_free (hx.weaken (hfr M S μ) fun _ _ h => h) μ'
    · simp [hk] at hm
  · rename_i c l j c2
    split at hm
    · rename_i et c' l' hj
      obtain ⟨h1, h2, h3, h4⟩ := mtL_spec hm
      refine ⟨⟨h1.look, fun k hk => h1.gone k (by simp [hk]), h1.ps⟩, fun hok => ⟨by rw [h2]; exact hok.ren, fun k hk => ?_⟩, fun M w S μ μ' x hE hp H hN hx => ?_⟩
      · rw [h3] at hk
        rcases List.mem_cons.1 hk with e | hk
        · subst e; exact ⟨et, c', l', hj⟩
        · exact hok.gone k hk
      · obtain ⟨e, hl⟩ := h4 fun q hq => hp q (hE.ps q hq)
        simp only at e
        subst e
        simp only at hl
        subst hl
        have hjg : j ∈ M.gone := hE.gone j (h1.gone j (by simp))
        -- only the reading counts
        have := own_lent H hj hx (S' := frz S μ M.gone) (hfr M S μ) true (fun mi b hmi hb => frz_has j hjg mi b hmi hb)
        exact irec_free this μ'
    · cases hm
  · rename_i c l j c2 lo n
    split at hm
    · rename_i et c' l' hj
      obtain ⟨h1, h2, h3, h4⟩ := mtL_spec hm
      refine ⟨⟨h1.look, fun k hk => h1.gone k (by simp [hk]), h1.ps⟩, fun hok => ⟨by rw [h2]; exact hok.ren, fun k hk => ?_⟩, fun M w S μ μ' x hE hp H hN hx => ?_⟩
      · rw [h3] at hk
        rcases List.mem_cons.1 hk with e | hk
        · subst e; exact ⟨et, c', l', hj⟩
        · exact hok.gone k hk
      · obtain ⟨e, hl⟩ := h4 fun q hq => hp q (hE.ps q hq)
        simp only at e
        subst e
        simp only at hl
        subst hl
        have hjg : j ∈ M.gone := hE.gone j (h1.gone j (by simp))
        have := sub_lent H hj hx (S' := frz S μ M.gone) (hfr M S μ) true (fun mi b hmi hb => frz_has j hjg mi b hmi hb)
        exact irec_free this μ'
    · cases hm
  · rename_i i j
    split at hm
    · rename_i ρ hρ
      simp only [Option.some.injEq] at hm
      refine ren i (some j) ρ hρ hm.symm fun M w S S' μ μ' x hl hN _ hx => ?_
      obtain ⟨mi, b, hm', hb, rfl⟩ := hx.mp_inv
      exact .mp (by rw [hN.some_ i j hl]; exact hm') hb
    · cases hm
  · rename_i p g c f p' g' c' f'
    by_cases hk : (p == p' && g == g') = true
    · simp only [hk, cond_true] at hm
      simp only [Bool.and_eq_true, beq_iff_eq] at hk
      obtain ⟨e1, e2⟩ := hk
      subst e1 e2
      obtain ⟨h1, h2, h3, h4⟩ := mtF_spec hm
      refine ⟨h1, fun hok => ⟨by rw [h2]; exact hok.ren, by rw [h3]; exact hok.gone⟩, fun M w S μ μ' x hE hp _ hN hx => ?_⟩
      obtain ⟨e, hl⟩ := h4 fun q hq => hp q (hE.ps q hq)
      subst e
      simp only at hl
      subst hl
      exact imp_free (hx.weaken (hfr M S μ) fun _ _ h => h) μ'
    · simp [hk] at hm
  · rename_i f g
    by_cases hk : fnEq f g = true
    · simp only [hk, cond_true, Option.some.injEq] at hm
      have e : f = g := by
        unfold fnEq at hk
        split at hk
        · rw [Nat.eq_of_beq_eq_true hk]
        · cases hk
      subst e
      subst hm
      refine plain rfl fun w S S' μ μ' x hS hx => ?_
      exact free1 (by simp [idfree1]) (hx.weaken hS fun _ _ h => h) μ'
    · simp [hk] at hm
  · cases hm

theorem mts_spec : ∀ {vs as_ : List AV} {m m' : Mt}, mts h vs as_ m = some m' → MExt m m' ∧ (MOk h m → MOk h m') ∧ vs.length = as_.length ∧
    ∀ (M : Mt) (w : World) (S : SS) (μ μ' : MM), MExt m' M → (∀ p ∈ M.ps, p) → HRel w S μ h → Named M μ μ' → ∀ i, i < vs.length → ∀ x, VRel w S μ (as_.getD i .undef) x → VRel w (frz S μ M.gone) μ' (vs.getD i .undef) x
  | [], [], m, m', hm => by
    simp only [mts, Option.some.injEq] at hm
    subst hm
    exact ⟨MExt.refl _, fun h => h, rfl, fun M w S μ μ' _ _ _ _ i hi => absurd hi (Nat.not_lt_zero _)⟩
  | v :: vs, a :: as_, m, m', hm => by
    simp only [mts] at hm
    split at hm
    · rename_i m1 h1
      obtain ⟨e1, o1, r1⟩ := mt1_spec h1
      obtain ⟨e2, o2, l2, r2⟩ := mts_spec hm
      refine ⟨e1.trans e2, fun h => o2 (o1 h), by simp [l2], fun M w S μ μ' hE hp H hN i hi x hx => ?_⟩
      cases i with
      | zero => exact r1 M w S μ μ' x (e2.trans hE) hp H hN hx
      | succ i => exact r2 M w S μ μ' hE hp H hN i (by simpa using hi) x hx
    · cases hm
  | [], _ :: _, m, m', hm => by simp [mts] at hm
  | _ :: _, [], m, m', hm => by simp [mts] at hm

theorem mt2_spec {v a : AV} {m m' : Mt} (hm : mt2 h v a m = some m') : MExt m m' ∧ (MOk h m → MOk h m') ∧
    ∀ (M : Mt) (w : World) (S : SS) (μ μ' : MM) (x : Value), MExt m' M → (∀ p ∈ M.ps, p) → HRel w S μ h → Named M μ μ' → VRel w S μ a x → VRel w (frz S μ M.gone) μ' v x := by
  unfold mt2 at hm
  split at hm
  · obtain ⟨e1, o1, l1, r1⟩ := mts_spec hm
    refine ⟨e1, o1, fun M w S μ μ' x hE hp H hN hx => ?_⟩
    obtain ⟨vs, hl, hrel, rfl⟩ := hx.agg_inv
    exact .agg (l1.trans hl) fun i hi => r1 M w S μ μ' hE hp H hN i hi _ (hrel i (by omega))
  · exact mt1_spec hm

theorem mt2s_spec : ∀ {vs as_ : List AV} {m m' : Mt}, mt2s h vs as_ m = some m' → MExt m m' ∧ (MOk h m → MOk h m') ∧ vs.length = as_.length ∧
    ∀ (M : Mt) (w : World) (S : SS) (μ μ' : MM), MExt m' M → (∀ p ∈ M.ps, p) → HRel w S μ h → Named M μ μ' → ∀ i, i < vs.length → ∀ x, VRel w S μ (as_.getD i .undef) x → VRel w (frz S μ M.gone) μ' (vs.getD i .undef) x
  | [], [], m, m', hm => by
    simp only [mt2s, Option.some.injEq] at hm
    subst hm
    exact ⟨MExt.refl _, fun h => h, rfl, fun M w S μ μ' _ _ _ _ i hi => absurd hi (Nat.not_lt_zero _)⟩
  | v :: vs, a :: as_, m, m', hm => by
    simp only [mt2s] at hm
    split at hm
    · rename_i m1 h1
      obtain ⟨e1, o1, r1⟩ := mt2_spec h1
      obtain ⟨e2, o2, l2, r2⟩ := mt2s_spec hm
      refine ⟨e1.trans e2, fun h => o2 (o1 h), by simp [l2], fun M w S μ μ' hE hp H hN i hi x hx => ?_⟩
      cases i with
      | zero => exact r1 M w S μ μ' x (e2.trans hE) hp H hN hx
      | succ i => exact r2 M w S μ μ' hE hp H hN i (by simpa using hi) x hx
    · cases hm
  | [], _ :: _, m, m', hm => by simp [mt2s] at hm
  | _ :: _, [], m, m', hm => by simp [mt2s] at hm

theorem mt3_spec {v a : AV} {m m' : Mt} (hm : mt3 h v a m = some m') : MExt m m' ∧ (MOk h m → MOk h m') ∧
    ∀ (M : Mt) (w : World) (S : SS) (μ μ' : MM) (x : Value), MExt m' M → (∀ p ∈ M.ps, p) → HRel w S μ h → Named M μ μ' → VRel w S μ a x → VRel w (frz S μ M.gone) μ' v x := by
  unfold mt3 at hm
  split at hm
  · obtain ⟨e1, o1, l1, r1⟩ := mt2s_spec hm
    refine ⟨e1, o1, fun M w S μ μ' x hE hp H hN hx => ?_⟩
    obtain ⟨vs, hl, hrel, rfl⟩ := hx.tup_inv
    exact .tup (l1.trans hl) fun i hi => r1 M w S μ μ' hE hp H hN i hi _ (hrel i (by omega))
  · exact mt2_spec hm

theorem mtSl_spec {s : St} : ∀ {sl : List (Nat × AV)} {m m' : Mt}, mtSl s sl m = some m' → MExt m m' ∧ (MOk s.h m → MOk s.h m') ∧
    ∀ (M : Mt) (w : World) (S : SS) (μ μ' : MM), MExt m' M → (∀ p ∈ M.ps, p) → HRel w S μ s.h → Named M μ μ' → ∀ i v, (i, v) ∈ sl → ∀ x, VRel w S μ (s.t i) x → VRel w (frz S μ M.gone) μ' v x
  | [], m, m', hm => by
    simp only [mtSl, Option.some.injEq] at hm
    subst hm
    exact ⟨MExt.refl _, fun h => h, fun M w S μ μ' _ _ _ _ i v hi => by simp at hi⟩
  | (k, v) :: r, m, m', hm => by
    simp only [mtSl] at hm
    split at hm
    · rename_i m1 h1
      obtain ⟨e1, o1, r1⟩ := mt2_spec h1
      obtain ⟨e2, o2, r2⟩ := mtSl_spec hm
      refine ⟨e1.trans e2, fun h => o2 (o1 h), fun M w S μ μ' hE hp H hN i u hi x hx => ?_⟩
      rcases List.mem_cons.1 hi with e | hi
      · cases e; exact r1 M w S μ μ' x (e2.trans hE) hp H hN hx
      · exact r2 M w S μ μ' hE hp H hN i u hi x hx
    · cases hm

def ocode : OB → Option Nat
  | .rows _ c _ => some c
  | .deep _ c _ _ _ => some c
  | _ => none
/-- The code of a row that is told of. -/
def codeIn : List (Nat × OB) → Nat → Nat
  | [], _ => 0
  | (j, .rows _ c _) :: r, i => bif Nat.beq i j then c else codeIn r i
  | (j, .cells _ _) :: r, i => bif Nat.beq i j then 0 else codeIn r i
  | (j, .imap _ _ _) :: r, i => bif Nat.beq i j then 0 else codeIn r i
  | (j, .deep _ c _ _ _) :: r, i => bif Nat.beq i j then c else codeIn r i
theorem mtK_spec {i k : Nat} {o : OB} {m m' : Mt} (hm : mtK h i k o m = some m') : MExt m m' ∧ (MOk h m → MOk h m') ∧ (∃ r, m'.ρ.look i = some r ∧ ∀ k, r = some k → h k ≠ none) ∧
    ∀ (M : Mt) (w : World) (S : SS) (μ μ' : MM), MExt m' M → (∀ p ∈ M.ps, p) → HRel w S μ h → Named M μ μ' → (∃ mi, μ' i = some mi ∧ BOk w (frz S μ M.gone) μ' mi o) ∧ ∀ k, M.ρ.look i = some (some k) → dpB o = true → h k = some o := by
  unfold mtK at hm
  split at hm
  · cases hm
  · rename_i ρ hρ
    obtain ⟨h1, h2, h3, h4⟩ := Ren.add_spec hρ
    have e0 : MExt m { m with ρ := ρ } := ⟨h2, fun _ h => h, fun _ h => h⟩
    have o0 : MOk h m → MOk h { m with ρ := ρ } := fun hok => ⟨h4 hok.ren, hok.gone⟩
    unfold mtB at hm
    split at hm
    · rename_i et cs et' cs' hk
      by_cases he : Nat.beq et et' = true
      · simp only [he, cond_true] at hm
        have ee := Nat.eq_of_beq_eq_true he
        subst ee
        obtain ⟨e1, o1, l1, r1⟩ := mts_spec hm
        refine ⟨e0.trans e1, fun h => o1 (o0 h), ⟨some k, e1.look i _ h1, fun k' hk' => by cases hk'; rw [hk]; simp⟩, fun M w S μ μ' hE hp H hN => ?_⟩
        have hl' := hE.look i _ (e1.look i _ h1)
        obtain ⟨mi, hmi, b, cur, g1, g2, g3, g4⟩ := H.blk k _ hk
        exact ⟨⟨mi, by rw [hN.some_ i k hl']; exact hmi, b, cur, g1, g2, by omega, fun j hj => r1 M w S μ μ' hE hp H hN j hj _ (g4 j (by omega))⟩, fun _ _ hd => by cases hd⟩
      · simp [he] at hm
    · rename_i et c l et' c' l' hk
      by_cases he : Nat.beq et et' = true
      · simp only [he, cond_true] at hm
        have ee := Nat.eq_of_beq_eq_true he
        subst ee
        obtain ⟨e1, q1, q2, q3⟩ := mtL_spec hm
        refine ⟨e0.trans e1, fun h => ⟨by rw [q1]; exact (o0 h).ren, by rw [q2]; exact (o0 h).gone⟩, ⟨some k, e1.look i _ h1, fun k' hk' => by cases hk'; rw [hk]; simp⟩, fun M w S μ μ' hE hp H hN => ?_⟩
        have hl' := hE.look i _ (e1.look i _ h1)
        obtain ⟨ec, el⟩ := q3 fun p hp' => hp p (hE.ps p hp')
        simp only at ec
        subst ec
        simp only at el
        subst el
        obtain ⟨mi, hmi, g1, g2, g3⟩ := H.blk k _ hk
        refine ⟨⟨mi, by rw [hN.some_ i k hl']; exact hmi, g1, g2, ?_⟩, fun _ _ hd => by cases hd⟩
        rcases g3 with g3 | ⟨b, cur, f1, f2, f3, f4, f5, f6⟩
        · exact .inl g3
        · exact .inr ⟨b, cur, f1, f2, f3, f4, f5, fun a ha j hj => enc_free hj ((f6 a ha j hj).weaken (fun p b hs => .inl hs) fun _ _ h => h) μ'⟩
      · simp [he] at hm
    · rename_i g c f g' c' f' hk
      by_cases he : (g == g') = true
      · simp only [he, cond_true] at hm
        have ee : g = g' := by simpa using he
        subst ee
        obtain ⟨e1, q1, q2, q3⟩ := mtF_spec hm
        refine ⟨e0.trans e1, fun h => ⟨by rw [q1]; exact (o0 h).ren, by rw [q2]; exact (o0 h).gone⟩, ⟨some k, e1.look i _ h1, fun k' hk' => by cases hk'; rw [hk]; simp⟩, fun M w S μ μ' hE hp H hN => ?_⟩
        have hl' := hE.look i _ (e1.look i _ h1)
        obtain ⟨ec, el⟩ := q3 fun p hp' => hp p (hE.ps p hp')
        subst ec
        simp only at el
        subst el
        obtain ⟨mi, hmi, b, clock, es, u, g1, g2, g3, g4, g5⟩ := H.blk k _ hk
        exact ⟨⟨mi, by rw [hN.some_ i k hl']; exact hmi, b, clock, es, u, g1, g2, g3, g4, fun a ha j hj => enc_free hj ((g5 a ha j hj).weaken (fun p b hs => .inl hs) fun _ _ h => h) μ'⟩, fun _ _ hd => by cases hd⟩
      · simp [he] at hm
    · rename_i et c ts l et' c' ts' l' hk
      by_cases he : (Nat.beq et et' && natsEq ts ts') = true
      · simp only [he, cond_true] at hm
        simp only [Bool.and_eq_true] at he
        have ee := Nat.eq_of_beq_eq_true he.1
        subst ee
        have ets := natsEq_spec he.2
        subst ets
        obtain ⟨e1, q1, q2, q3⟩ := mtL_spec hm
        refine ⟨e0.trans e1, fun h => ⟨by rw [q1]; exact (o0 h).ren, by rw [q2]; exact (o0 h).gone⟩, ⟨some k, e1.look i _ h1, fun k' hk' => by cases hk'; rw [hk]; simp⟩, fun M w S μ μ' hE hp H hN => ?_⟩
        have hl' := hE.look i _ (e1.look i _ h1)
        obtain ⟨ec, el⟩ := q3 fun p hp' => hp p (hE.ps p hp')
        simp only at ec
        subst ec
        simp only at el
        subst el
        obtain ⟨mi, hmi, g1, g2, g3⟩ := H.blk k _ hk
        refine ⟨⟨mi, by rw [hN.some_ i k hl']; exact hmi, g1, g2, ?_⟩, fun k' hk' _ => by rw [hl'] at hk'; cases hk'; exact hk⟩
        rcases g3 with g3 | ⟨b, cur, f1, f2, f3, f4, f5, f6, f7⟩
        · exact .inl g3
        · refine .inr ⟨b, cur, f1, f2, f3, f4, f5, fun a ha j hj => ?_, f7⟩
          rcases f6 a ha j hj with ⟨a1, _⟩ | ⟨a1, a2⟩
          · simp [outAt] at a1
          · exact .inr ⟨a1, DC.weak (fun b hs => .inl hs) a2 hj⟩
      · simp [he] at hm
    · cases hm

theorem mtO_spec {i : Nat} {o : OB} {m m' : Mt} (hm : mtO h i o m = some m') : MExt m m' ∧ (MOk h m → MOk h m') ∧ (∃ r, m'.ρ.look i = some r ∧ ∀ k, r = some k → h k ≠ none) ∧
    ∀ (M : Mt) (w : World) (S : SS) (μ μ' : MM), MExt m' M → (∀ p ∈ M.ps, p) → HRel w S μ h → Named M μ μ' → (M.ρ.look i = some none → ∃ mi, μ' i = some mi ∧ mi.n = 0 ∧ mi.b = none ∧ ∀ c, ocode o = some c → mi.c = c) → (∃ mi, μ' i = some mi ∧ BOk w (frz S μ M.gone) μ' mi o) ∧ ∀ k, M.ρ.look i = some (some k) → dpB o = true → h k = some o := by
  unfold mtO at hm
  split at hm
  · rename_i hl
    unfold mtN at hm
    split at hm
    · rename_i et c l
      simp only [Option.some.injEq] at hm
      subst hm
      refine ⟨⟨fun _ _ h => h, fun _ h => h, fun p hp => by simp [hp]⟩, fun hok => ⟨hok.ren, hok.gone⟩, ⟨none, hl, fun k hk => by cases hk⟩, fun M w S μ μ' hE hp H hN hc => ?_⟩
      obtain ⟨mi, h1, h2, h3, h4⟩ := hc (hE.look i none hl)
      have e : [] = l := hp _ (hE.ps _ (by simp))
      subst e
      exact ⟨⟨mi, h1, h2, h4 c rfl, .inl ⟨rfl, h3⟩⟩, fun _ _ hd => by cases hd⟩
    · cases hm
    · cases hm
    · rename_i et c ts l
      simp only [Option.some.injEq] at hm
      subst hm
      refine ⟨⟨fun _ _ h => h, fun _ h => h, fun p hp => by simp [hp]⟩, fun hok => ⟨hok.ren, hok.gone⟩, ⟨none, hl, fun k hk => by cases hk⟩, fun M w S μ μ' hE hp H hN hc => ?_⟩
      have hlk := hE.look i none hl
      obtain ⟨mi, h1, h2, h3, h4⟩ := hc hlk
      have e : [] = l := hp _ (hE.ps _ (by simp))
      subst e
      exact ⟨⟨mi, h1, h2, h4 c rfl, .inl ⟨rfl, h3⟩⟩, fun k' hk' _ => by rw [hlk] at hk'; cases hk'⟩
    · cases hm
  · obtain ⟨e1, o1, k1, r1⟩ := mtK_spec hm
    exact ⟨e1, o1, k1, fun M w S μ μ' hE hp H hN _ => r1 M w S μ μ' hE hp H hN⟩
  · obtain ⟨e1, o1, k1, r1⟩ := mtK_spec hm
    exact ⟨e1, o1, k1, fun M w S μ μ' hE hp H hN _ => r1 M w S μ μ' hE hp H hN⟩

theorem mtOs_spec : ∀ {hp : List (Nat × OB)} {m m' : Mt}, mtOs h hp m = some m' → MExt m m' ∧ (MOk h m → MOk h m') ∧ (∀ i o, (i, o) ∈ hp → ∃ r, m'.ρ.look i = some r ∧ ∀ k, r = some k → h k ≠ none) ∧
    ∀ (M : Mt) (w : World) (S : SS) (μ μ' : MM), MExt m' M → (∀ p ∈ M.ps, p) → HRel w S μ h → Named M μ μ' → ∀ i o, (i, o) ∈ hp → (M.ρ.look i = some none → ∃ mi, μ' i = some mi ∧ mi.n = 0 ∧ mi.b = none ∧ ∀ c, ocode o = some c → mi.c = c) → (∃ mi, μ' i = some mi ∧ BOk w (frz S μ M.gone) μ' mi o) ∧ ∀ k, M.ρ.look i = some (some k) → dpB o = true → h k = some o
  | [], m, m', hm => by
    simp only [mtOs, Option.some.injEq] at hm
    subst hm
    exact ⟨MExt.refl _, fun h => h, fun i o hi => by simp at hi, fun M w S μ μ' _ _ _ _ i o hi => by simp at hi⟩
  | (k, ob) :: r, m, m', hm => by
    simp only [mtOs] at hm
    split at hm
    · rename_i m1 h1
      obtain ⟨e1, o1, k1, r1⟩ := mtO_spec h1
      obtain ⟨e2, o2, k2, r2⟩ := mtOs_spec hm
      refine ⟨e1.trans e2, fun h => o2 (o1 h), fun i o hi => ?_, fun M w S μ μ' hE hp H hN i o hi => ?_⟩
      · rcases List.mem_cons.1 hi with e | hi
        · cases e
          obtain ⟨r, g1, g2⟩ := k1
          exact ⟨r, e2.look _ _ g1, g2⟩
        · exact k2 i o hi
      · rcases List.mem_cons.1 hi with e | hi
        · cases e; exact r1 M w S μ μ' (e2.trans hE) hp H hN
        · exact r2 M w S μ μ' hE hp H hN i o hi
    · cases hm
end
end Go.Proofs.Ytemffnpliflkgaa
