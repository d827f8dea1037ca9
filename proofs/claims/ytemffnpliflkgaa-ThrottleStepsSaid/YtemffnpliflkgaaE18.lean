/-
  Lemmas and contracts on the way to the laws of this seat; each theorem states its own conditions, and there are no others.
-/
import Derived.Test.YtemffnpliflkgaaE17
namespace Go.Proofs.Ytemffnpliflkgaa
open Go
set_option linter.unusedVariables false
set_option linter.unusedSimpArgs false

theorem andL_iff {l : List Prop} {q : Prop} : andL l q ↔ (∀ p ∈ l, p) ∧ q := by
  induction l with
  | nil => simp [andL]
  | cons p r ih =>
    simp only [andL, ih]
    constructor
    · rintro ⟨h1, h2, h3⟩
      refine ⟨fun x hx => ?_, h3⟩
      rcases List.mem_cons.1 hx with e | hx
      · rw [e]; exact h1
      · exact h2 x hx
    · rintro ⟨h1, h2⟩
      exact ⟨h1 p (by simp), fun x hx => h1 x (List.mem_cons_of_mem _ hx), h2⟩

/-- What an operation wants. -/
def Desc.Pre : Desc → Prop
  | .det pre _ _ => ∀ p ∈ pre, p
  | .dem pre _ _ _ _ _ => ∀ p ∈ pre, p
  | .bad _ => False
/-- What it may give. -/
def Desc.Gives : Desc → AV → Upd → Prop
  | .det _ v u, v', u' => v' = v ∧ u' = u
  | .dem _ Y post v u _, v', u' => ∃ y : Y, post y ∧ v' = v y ∧ u' = u y
  | .bad _, _, _ => False

theorem step_iff {d : Desc} {dst : Option Nat} {s : St} {K : St → Prop} : step d dst s K ↔ d.Pre ∧ ∀ v u, d.Gives v u → K ((s.upds u).put dst v) := by
  cases d with
  | det pre v u =>
    simp only [step, andL_iff, Desc.Pre, Desc.Gives]
    exact ⟨fun ⟨h1, h2⟩ => ⟨h1, fun v' u' ⟨e1, e2⟩ => by rw [e1, e2]; exact h2⟩, fun ⟨h1, h2⟩ => ⟨h1, h2 _ _ ⟨rfl, rfl⟩⟩⟩
  | dem pre Y post v u wr =>
    simp only [step, andL_iff, Desc.Pre, Desc.Gives]
    exact ⟨fun ⟨h1, h2⟩ => ⟨h1, fun v' u' ⟨y, hy, e1, e2⟩ => by rw [e1, e2]; exact h2 y hy⟩, fun ⟨h1, h2⟩ => ⟨h1, fun y hy => h2 _ _ ⟨y, hy, rfl, rfl⟩⟩⟩
  | bad w => simp [step, Desc.Pre]

section
variable {a : Act} {o : Oper} {w : World} {S : SS} {μ : MM} {base : Nat}

theorem DescOK.go {P : Program} {h : Nat → Option OB} {d : Desc} (hd : DescOK P a o w S μ h base d) (hp : d.Pre) {K : Act → World → Prop} {Q : Exit → Act → World → Prop} (hK : ∀ v u, d.Gives v u → ∀ x w', Out w S μ h base v u w' x → K (a.put o.dst x) w') : o.wp P a w K Q := by
  cases d with
  | det pre v u => exact hd hp K Q fun x w' hO => hK v u ⟨rfl, rfl⟩ x w' hO
  | dem pre Y post v u wr => exact hd hp K Q fun y hy x w' hO => hK _ _ ⟨y, hy, rfl, rfl⟩ x w' hO
  | bad w => exact hp.elim

theorem stripL_rel {x want : Bool} (hx : x = want) : ∀ {vs : List AV} {xs : List Value}, VRs w S μ vs xs → (∀ p ∈ (stripL x want vs).1, p) → VRs w S μ (stripL x want vs).2 xs
  | [], _, h, _ => by cases h; exact .nil
  | v :: r, _, h, hp => by
    cases h with
    | cons hv ht =>
      simp only [stripL, List.mem_append] at hp ⊢
      exact .cons (stripA_rel (T := x = want) (fun g b h1 h2 => h1 h2) hv (fun p hm => hp p (.inl hm)) hx) (stripL_rel hx ht fun p hm => hp p (.inr hm))

theorem stripO_rel {op : Op} {x want : Bool} (hx : x = want) {vs : List AV} {xs : List Value} (hv : VRs w S μ vs xs) (hp : ∀ p ∈ (stripO op x want vs).1, p) : VRs w S μ (stripO op x want vs).2 xs := by
  unfold stripO at hp ⊢
  split
  · rename_i c r
    simp only at hp ⊢
    cases hv with
    | cons hv ht => exact .cons (stripA_rel (T := x = want) (fun g b h1 h2 => h1 h2) hv hp hx) ht
  · rename_i h1
    refine stripL_rel hx hv fun p hm => hp p ?_
    split
    · exact absurd rfl (h1 _ _ _ _ _ rfl)
    · exact hm

theorem sameU_upd {rd : List Nat} : ∀ {h : Nat → Option OB} {u : Upd}, sameU h rd u → updH h u = h
  | h, [], _ => rfl
  | h, (id, o) :: r, hs => by
    unfold sameU at hs
    by_cases hm : memN id rd = true
    case neg => simp only [hm, cond_false] at hs; omega
    simp only [hm, cond_true] at hs
    have e : (fun n => bif Nat.beq n id then o else h n) = h := by
      funext n
      by_cases e : n = id
      · subst e; rw [nbeq_same, cond_true]; exact hs.1.symm
      · rw [nbeq_ne e, cond_false]
    show updH (fun n => bif Nat.beq n id then o else h n) r = h
    rw [e]
    exact sameU_upd hs.2

theorem frz1D_ok {P : Program} {h : Nat → Option OB} (H : HRel w S μ h) (hf : ∀ id, base ≤ id → id < base + 10 → μ id = none) {d : Desc} (hd : DescOK P a o w S μ h base d) : DescOK P a o w S μ h base (frz1D base d) := by
  unfold frz1D
  split
  · rename_i pre id c0 i e c l
    by_cases he : (Nat.beq id i && Nat.beq id (base + 1)) = true
    case neg => simp only [Bool.not_eq_true] at he; rw [he, cond_false]; trivial
    rw [he, cond_true]
    rw [Bool.and_eq_true] at he
    have e0 := Nat.eq_of_beq_eq_true he.1
    have e1 := Nat.eq_of_beq_eq_true he.2
    subst e0
    intro hp K Q hK
    refine hd hp K Q fun x w' hO => hK x w' ?_
    obtain ⟨S', μ', Ev, hx, Hx, hfr⟩ := hO
    have hh : updH h [(id, some (.rows e c l))] id = some (.rows e c l) := by simp [updH]
    have hg : ∀ j ∈ [id], updH h [(id, some (.rows e c l))] j ≠ none := fun j hj => by
      have : j = id := by simpa using hj
      subst this; rw [hh]; simp
    obtain ⟨E1, H1⟩ := frz_evo Hx hg
    refine ⟨frz S' μ' [id], μ', Ev.trans E1, own_frozen Hx hh hx E1 (frz_has id (by simp)), H1.sub fun j ob hj => ?_, hfr⟩
    have hj' : h j = some ob := hj
    have hne : j ≠ id := fun ej => by
      obtain ⟨m, hm, _⟩ := H.blk j ob hj'
      rw [ej, e1, hf (base + 1) (by omega) (by omega)] at hm
      cases hm
    simp [updH, nbeq_ne hne, hj']
  · exact hd
theorem frzD_ok {P : Program} {h : Nat → Option OB} (H : HRel w S μ h) (hf : ∀ id, base ≤ id → id < base + 10 → μ id = none) {op : Op} {d : Desc} (hd : DescOK P a o w S μ h base d) : DescOK P a o w S μ h base (frzD op base d) := by
  unfold frzD
  split
  · exact frz1D_ok H hf hd
  · exact frz1D_ok H hf hd
  · exact hd

/-- The freshness that an operation wants: its names are not taken. -/
def Free (μ : MM) (base : Nat) : Prop := ∀ id, base ≤ id → id < base + 10 → μ id = none

theorem lendG_ok {E : Env} {h : Nat → Option OB} {base : Nat} {o : Oper} (H : HRel w S μ h) (hf : ∀ id, base ≤ id → id < base + 10 → μ id = none) {vals : List AV} (hv : VRs w S μ vals (o.op.operands.toList.map a.eval)) {p : Prop} {pre : List Prop} {v : AV} {u : Upd} (hl : lendG E h base o.op vals = some (p, pre, v, u)) : DescOK E.P a o w S μ h base (.det pre v u) := by
  obtain ⟨op, ho⟩ : ∃ op, o.op = op := ⟨_, rfl⟩
  rw [ho] at hv hl
  unfold lendG at hl
  split at hl
  case h_2 => cases hl
  rename_i t xo id c0 r f
  cases hb : deepAt h id with
  | false => rw [hb] at hl; cases hl
  | true =>
  rw [hb, cond_true] at hl
  split at hl
  case h_2 => cases hl
  rename_i pre' v' p0 u' hld
  split at hl
  case h_2 => cases hl
  simp only [Option.some.injEq, Prod.mk.injEq] at hl
  obtain ⟨_, e2, e3, e4⟩ := hl
  subst e2 e3 e4
  have hv' : VRs w S μ [.ept id c0 r f] [a.eval xo] := hv
  have := ok_loadDp (P := E.P) H hf ho hv'.one
  rw [hld] at this
  exact this
/-- One operation, guarded or not. -/
theorem step_sound (E : Env) (henv : ∀ f s, E.spec f = some s → Callable E.P f ∧ Valid E.P f s) {N : Nat} {ops : Array Oper} {s : St} (R : Rel N s a w S μ) (hf : Free μ base) (hd : ∀ d, o.dst = some d → d < N) {Ka : St → Prop} (hs : step (descG E ops s base o) o.dst s Ka)
    {K : Act → World → Prop} {Q : Exit → Act → World → Prop} (hK : ∀ s' a' w' S' μ', Rel N s' a' w' S' μ' → Evo w S μ w' S' μ' → (∀ id, μ' id ≠ none → μ id ≠ none ∨ (base ≤ id ∧ id < base + 10)) → (s'.nx = s.nx ∧ ∃ x, a' = a.put o.dst x) → Ka s' → K a' w') :
    if Region.wanted o (yielded ops a.tmps) = true then o.wp E.P a w K Q else K (a.put o.dst Go.undef) w := by
  have hvals := evals_rel R o.op.operands.toList
  obtain ⟨hpre, hgive⟩ := step_iff.1 hs
  -- the operation is done
  have done : ∀ {vals : List AV} {d : Desc}, VRs w S μ vals (o.op.operands.toList.map a.eval) → d = descO E s base o vals → d.Pre → (∀ v u, d.Gives v u → Ka ((s.upds u).put o.dst v)) → o.wp E.P a w K Q := fun {vals d} hv hd' hp hg => by
    have hok : DescOK E.P a o w S μ s.h base d := by rw [hd']; exact desc_ok E henv R.hp hf hv
    refine hok.go hp fun v u hgv x w' hO => ?_
    obtain ⟨S', μ', Ev, hx, Hx, hfr⟩ := hO
    exact hK _ _ w' S' μ' (R.next hd Ev hx Hx) Ev hfr ⟨by cases o.dst <;> simp [St.put, upds_nx], _, rfl⟩ (hg v u hgv)
  -- it is passed over
  have skip : ∀ {v : AV}, VRel w S μ v Go.undef → Ka ((s.upds []).put o.dst v) → K (a.put o.dst Go.undef) w := fun {v} hv hk =>
    hK _ _ w S μ (R.next (u := []) hd (Evo.refl _ _ _) hv R.hp) (Evo.refl _ _ _) (fun id h => .inl h) ⟨by cases o.dst <;> simp [St.put, upds_nx], _, rfl⟩ hk
  unfold descG at hpre hgive
  cases hg : o.guard with
  | none =>
    rw [if_pos (by simp [Region.wanted, hg])]
    simp only [hg] at hpre hgive
    exact done hvals rfl hpre hgive
  | some g =>
    obtain ⟨j, want⟩ := g
    simp only [hg] at hpre hgive
    cases hgs : guardSlot ops o with
    | none => simp only [hgs] at hpre; exact hpre.elim
    | some dw =>
      obtain ⟨d, want'⟩ := dw
      simp only [hgs] at hpre hgive
      have hslot : ∃ gop, ops[j]? = some gop ∧ gop.dst = some d ∧ want' = want := by
        unfold guardSlot at hgs
        simp only [hg] at hgs
        split at hgs
        · rename_i gop hgop
          split at hgs
          · rename_i d' hd'
            simp only [Option.some.injEq, Prod.mk.injEq] at hgs
            exact ⟨gop, hgop, by rw [hd', hgs.1], hgs.2.symm⟩
          · cases hgs
        · cases hgs
      obtain ⟨gop, hgop, hgd, rfl⟩ := hslot
      have hy : ∀ b, a.tmps.getD d Go.undef = .bool b → yielded ops a.tmps j = some b := fun b hb => by
        have hsz : d < a.tmps.size := by
          rcases Nat.lt_or_ge d a.tmps.size with h1 | h1
          · exact h1
          · rw [Array.getD, dif_neg (by omega)] at hb; cases hb
        have : a.tmps[d]? = some (.bool b) := by
          rw [Array.getElem?_eq_getElem hsz]
          rw [Array.getD, dif_pos hsz] at hb
          exact congrArg some hb
        simp [yielded, hgop, hgd, this]
      have hwant : ∀ b, a.tmps.getD d Go.undef = .bool b → (Region.wanted o (yielded ops a.tmps) = true ↔ b = want') := fun b hb => by
        simp [Region.wanted, hg, hy b hb]
      have hgv := R.tm d
      -- it is done or passed over, by a fact that is not known
      have opn : ∀ (x wn : Bool), (Region.wanted o (yielded ops a.tmps) = true ↔ x = wn) → (underG s.h (reads (o.op.operands.toList.map (evalA s.t))) x wn (stripO o.op x wn (o.op.operands.toList.map (evalA s.t))).1 (descU E s base o (stripO o.op x wn (o.op.operands.toList.map (evalA s.t))).2)).Pre →
          (∀ v u, (underG s.h (reads (o.op.operands.toList.map (evalA s.t))) x wn (stripO o.op x wn (o.op.operands.toList.map (evalA s.t))).1 (descU E s base o (stripO o.op x wn (o.op.operands.toList.map (evalA s.t))).2)).Gives v u → Ka ((s.upds u).put o.dst v)) → if Region.wanted o (yielded ops a.tmps) = true then o.wp E.P a w K Q else K (a.put o.dst Go.undef) w := fun x wn hw hpre hgive => by
        cases hdo : descU E s base o (stripO o.op x wn (o.op.operands.toList.map (evalA s.t))).2 with
        | dem pre Y post v u wr =>
          simp only [hdo, underG] at hpre hgive
          by_cases hx : x = wn
          · rw [if_pos (hw.2 hx)]
            have hq : ∀ p ∈ (stripO o.op x wn (o.op.operands.toList.map (evalA s.t))).1, p := fun p hp => hpre p (by simp [hp])
            have hv' := stripO_rel hx hvals hq
            have hok : DescOK E.P a o w S μ s.h base (.dem pre Y post v u wr) := by rw [← hdo]; exact frzD_ok R.hp hf (desc_ok E henv R.hp hf hv')
            refine hok.go (d := .dem pre Y post v u wr) (fun p hp => ?_) fun v' u' ⟨y, hy, e1, e2⟩ z w' hO => ?_
            · exact hpre (x = wn → p) (by simp only [List.mem_append, List.mem_map]; exact .inr (.inl ⟨p, hp, rfl⟩)) hx
            · subst e1 e2
              obtain ⟨S', μ', Ev, hy', Hx, hfr⟩ := hO
              exact hK _ _ w' S' μ' (R.next hd Ev (.opt (fun _ => hy') fun h => absurd hx h) Hx) Ev hfr ⟨by cases o.dst <;> simp [St.put, upds_nx], _, rfl⟩ (hgive _ _ ⟨y, ⟨fun _ => hy, fun h => absurd hx h⟩, rfl, rfl⟩)
          · rw [if_neg (fun h => hx (hw.1 h))]
            obtain ⟨y, hy⟩ : ∃ y, sameU s.h (reads (o.op.operands.toList.map (evalA s.t))) (u y) := hpre (¬ x = wn → ∃ y, sameU s.h (reads (o.op.operands.toList.map (evalA s.t))) (u y)) (List.mem_append_right _ (List.mem_append_right _ (List.mem_singleton.2 rfl))) hx
            have hka := hgive _ _ ⟨y, ⟨fun h => absurd h hx, fun _ => hy⟩, rfl, rfl⟩
            have e : s.upds (u y) = s.upds [] := by
              have h1 := upds_h s (u y)
              rw [sameU_upd hy] at h1
              have ext : ∀ a b : St, a.t = b.t → a.h = b.h → a.nx = b.nx → a = b := fun ⟨_, _, _⟩ ⟨_, _, _⟩ h1 h2 h3 => by
                simp only at h1 h2 h3
                rw [h1, h2, h3]
              exact ext _ _ (upds_t s (u y)) h1 (upds_nx s (u y))
            rw [e] at hka
            exact skip (.opt (fun h => absurd h hx) fun _ => rfl) hka
        | bad w => simp only [hdo, underG] at hpre; exact hpre.elim
        | det pre v u =>
          cases u with
          | cons u0 ur =>
            simp only [hdo, underG] at hpre hgive
            have hka := hgive _ _ ⟨rfl, rfl⟩
            by_cases hx : x = wn
            · rw [if_pos (hw.2 hx)]
              have hq : ∀ p ∈ (stripO o.op x wn (o.op.operands.toList.map (evalA s.t))).1, p := fun p hp => hpre p (by simp [hp])
              have hsm : sameU s.h (reads (o.op.operands.toList.map (evalA s.t))) (u0 :: ur) := hpre (x = wn → sameU s.h (reads (o.op.operands.toList.map (evalA s.t))) (u0 :: ur)) (List.mem_append_right _ (List.mem_append_right _ (List.mem_singleton.2 rfl))) hx
              have hv' := stripO_rel hx hvals hq
              have hok : DescOK E.P a o w S μ s.h base (.det pre v (u0 :: ur)) := by rw [← hdo]; exact frzD_ok R.hp hf (desc_ok E henv R.hp hf hv')
              refine hok.go (d := .det pre v (u0 :: ur)) (fun p hp => ?_) fun v' u' ⟨e1, e2⟩ y w' hO => ?_
              · exact hpre (x = wn → p) (by simp only [List.mem_append, List.mem_map]; exact .inr (.inl ⟨p, hp, rfl⟩)) hx
              · subst e1 e2
                obtain ⟨S', μ', Ev, hy', Hx, hfr⟩ := hO
                rw [sameU_upd hsm] at Hx
                exact hK _ _ w' S' μ' (R.next (u := []) hd Ev (.opt (fun _ => hy') fun h => absurd hx h) Hx) Ev hfr ⟨by cases o.dst <;> simp [St.put, upds_nx], _, rfl⟩ hka
            · rw [if_neg (fun h => hx (hw.1 h))]
              exact skip (.opt (fun h => absurd h hx) fun _ => rfl) hka
          | nil =>
            simp only [hdo, underG] at hpre hgive
            have hka := hgive _ _ ⟨rfl, rfl⟩
            by_cases hx : x = wn
            · rw [if_pos (hw.2 hx)]
              have hq : ∀ p ∈ (stripO o.op x wn (o.op.operands.toList.map (evalA s.t))).1, p := fun p hp => hpre p (by simp [hp])
              have hv' := stripO_rel hx hvals hq
              have hok : DescOK E.P a o w S μ s.h base (.det pre v []) := by rw [← hdo]; exact frzD_ok R.hp hf (desc_ok E henv R.hp hf hv')
              refine hok.go (d := .det pre v []) (fun p hp => ?_) fun v' u' ⟨e1, e2⟩ y w' hO => ?_
              · exact hpre (x = wn → p) (by simp only [List.mem_append, List.mem_map]; exact .inr ⟨p, hp, rfl⟩) hx
              · subst e1 e2
                obtain ⟨S', μ', Ev, hy', Hx, hfr⟩ := hO
                exact hK _ _ w' S' μ' (R.next (u := []) hd Ev (.opt (fun _ => hy') fun h => absurd hx h) Hx) Ev hfr ⟨by cases o.dst <;> simp [St.put, upds_nx], _, rfl⟩ hka
            · rw [if_neg (fun h => hx (hw.1 h))]
              exact skip (.opt (fun h => absurd h hx) fun _ => rfl) hka
      have opn' : ∀ (x wn : Bool), (Region.wanted o (yielded ops a.tmps) = true ↔ x = wn) → (underL (lendG E s.h base o.op (stripO o.op x wn (o.op.operands.toList.map (evalA s.t))).2) s.h (reads (o.op.operands.toList.map (evalA s.t))) x wn (stripO o.op x wn (o.op.operands.toList.map (evalA s.t))).1 (descU E s base o (stripO o.op x wn (o.op.operands.toList.map (evalA s.t))).2)).Pre →
          (∀ v u, (underL (lendG E s.h base o.op (stripO o.op x wn (o.op.operands.toList.map (evalA s.t))).2) s.h (reads (o.op.operands.toList.map (evalA s.t))) x wn (stripO o.op x wn (o.op.operands.toList.map (evalA s.t))).1 (descU E s base o (stripO o.op x wn (o.op.operands.toList.map (evalA s.t))).2)).Gives v u → Ka ((s.upds u).put o.dst v)) → if Region.wanted o (yielded ops a.tmps) = true then o.wp E.P a w K Q else K (a.put o.dst Go.undef) w := fun x wn hw hpre hgive => by
        cases hlg : lendG E s.h base o.op (stripO o.op x wn (o.op.operands.toList.map (evalA s.t))).2 with
        | none =>
          simp only [hlg, underL] at hpre hgive
          exact opn x wn hw hpre hgive
        | some r =>
          obtain ⟨p, pre, v, u⟩ := r
          simp only [hlg, underL] at hpre hgive
          have hka := hgive _ _ ⟨rfl, rfl⟩
          have hq : ∀ p' ∈ (stripO o.op x wn (o.op.operands.toList.map (evalA s.t))).1, p' := fun p' hp' => hpre p' (by simp [hp'])
          have hp1 : p := hpre p (by simp)
          have hp2 : ∀ p' ∈ pre, p' := fun p' hp' => hpre p' (by simp [hp'])
          by_cases hx : x = wn
          · rw [if_pos (hw.2 hx)]
            have hv' := stripO_rel hx hvals hq
            have hok := lendG_ok (o := o) R.hp hf hv' hlg
            refine hok.go (d := .det pre v u) hp2 fun v' u' ⟨e1, e2⟩ y w' hO => ?_
            subst e1 e2
            obtain ⟨S', μ', Ev, hy', Hx, hfr⟩ := hO
            exact hK _ _ w' S' μ' (R.next hd Ev (.opt (fun _ => hy') fun h => absurd hx h) Hx) Ev hfr ⟨by cases o.dst <;> simp [St.put, upds_nx], _, rfl⟩ hka
          · rw [if_neg (fun h => hx (hw.1 h))]
            obtain ⟨xv, S', μ', Ev, hy', Hx, hfr⟩ := lend_ghost R.hp hf hlg hp1 hp2
            exact hK _ _ w S' μ' (R.next hd Ev (.opt (fun h => absurd h hx) fun _ => rfl) Hx) Ev hfr ⟨by cases o.dst <;> simp [St.put, upds_nx], _, rfl⟩ hka
      split at hpre
      · rename_i e
        rw [e] at hgv
        have hb : a.tmps.getD d Go.undef = .bool true := by cases hv : a.tmps.getD d Go.undef <;> (rw [hv] at hgv; cases hgv); rfl
        simp only [e] at hgive
        cases want' with
        | true =>
          simp only [cond_true] at hpre hgive
          rw [if_pos ((hwant true hb).2 rfl)]
          exact done hvals rfl hpre hgive
        | false =>
          simp only [cond_false] at hpre hgive
          rw [if_neg (fun h => by have := (hwant true hb).1 h; cases this)]
          exact skip (.undef _) (hgive _ _ ⟨rfl, rfl⟩)
      · rename_i e
        rw [e] at hgv
        have hb : a.tmps.getD d Go.undef = .bool false := by cases hv : a.tmps.getD d Go.undef <;> (rw [hv] at hgv; cases hgv); rfl
        simp only [e] at hgive
        cases want' with
        | true =>
          simp only [cond_true] at hpre hgive
          rw [if_neg (fun h => by have := (hwant false hb).1 h; cases this)]
          exact skip (.undef _) (hgive _ _ ⟨rfl, rfl⟩)
        | false =>
          simp only [cond_false] at hpre hgive
          rw [if_pos ((hwant false hb).2 rfl)]
          exact done hvals rfl hpre hgive
      · rename_i x e
        rw [e] at hgv
        have hb : a.tmps.getD d Go.undef = .bool x := by cases hv : a.tmps.getD d Go.undef <;> (rw [hv] at hgv; cases hgv); rfl
        simp only [e] at hgive
        exact opn' x want' (by rw [hwant x hb]) hpre hgive
      · rename_i g b v e
        rw [e] at hgv
        simp only [e] at hgive
        cases hy' : v.asB with
        | none => simp only [hy'] at hpre; exact hpre.elim
        | some y =>
          simp only [hy'] at hpre hgive
          refine opn' _ true ?_ hpre hgive
          cases hgv with
          | opt h1 h2 =>
            by_cases hgb : g = b
            · rw [hwant y (asB_rel (h1 hgb) hy')]
              subst hgb
              cases g <;> cases want' <;> cases y <;> simp
            · have hu := h2 hgb
              have hn : Region.wanted o (yielded ops a.tmps) = true ↔ False := by
                simp only [iff_false, Bool.not_eq_true]
                have : yielded ops a.tmps j = none := by
                  simp only [yielded, hgop, Option.bind_some, hgd]
                  have hsz : a.tmps[d]? = none ∨ a.tmps[d]? = some Go.undef := by
                    rcases Nat.lt_or_ge d a.tmps.size with h1 | h1
                    · right
                      rw [Array.getD, dif_pos h1] at hu
                      rw [Array.getElem?_eq_getElem h1]
                      exact congrArg some hu
                    · left; exact Array.getElem?_eq_none h1
                  rcases hsz with h | h <;> simp [h, Go.undef]
                simp [Region.wanted, hg, this]
              rw [hn]
              have : g = !b := by cases g <;> cases b <;> simp at hgb ⊢
              subst this
              cases b <;> simp
      · exact hpre.elim

set_option maxRecDepth 100000 in
theorem fresh_end {rid i id : Nat} (h1 : id < rid + i * 10) (h2 : i ≤ 1000) : id < rid + 10000 := by omega

theorem fzOwn1_spec {h : Nat → Option OB} {v : AV} : ∀ (w : World) (S : SS) (μ : MM) (x : Value) (S' : SS), HRel w S μ h → VRel w S μ v x → Evo w S μ w S' μ → (∀ id ∈ (fzOwn1 h v).2, ∀ m b, μ id = some m → m.b = some b → S' true b) → VRel w S' μ (fzOwn1 h v).1 x := by
  unfold fzOwn1
  split
  · rename_i id c
    split
    · rename_i r hr
      exact (fz1_spec hr).2
    · exact fun w S μ x S' _ hx E _ => hx.evo E
  · exact fun w S μ x S' _ hx E _ => hx.evo E
theorem fzOwnI {h : Nat → Option OB} {i c x : Nat} (hx : x ∈ (fzOwn1 h (.own i c)).2) : x = i := by
  unfold fzOwn1 at hx
  simp only at hx
  split at hx
  · rename_i r hr
    unfold fz1 at hr
    simp only at hr
    split at hr
    · cases hr
      simpa using hx
    · cases hr
  · simp at hx
theorem Rel_frz {N : Nat} {s : St} {a : Act} {w : World} {S : SS} {μ : MM} (R : Rel N s a w S μ) {id : Nat} (hr : isRows s.h id = true) : Rel N (frzS s id) a w (frz S μ [id]) μ ∧ Evo w S μ w (frz S μ [id]) μ := by
  have hne : s.h id ≠ none := by
    intro e
    unfold isRows at hr
    rw [e] at hr
    cases hr
  obtain ⟨E1, H1⟩ := frz_evo R.hp (gone := [id]) (fun i hi => by rw [List.mem_singleton] at hi; rw [hi]; exact hne)
  refine ⟨⟨fun i => ?_, H1, R.df, R.sz⟩, E1⟩
  show VRel w (frz S μ [id]) μ (frzV s.h id (s.t i)) _
  have hv := R.tm i
  unfold frzV
  split
  · rename_i j c e
    rw [e] at hv
    by_cases h : Nat.beq j id = true
    · rw [h, cond_true]
      refine fzOwn1_spec w S μ _ _ R.hp hv E1 fun x hx => ?_
      have := fzOwnI hx
      refine frz_has x ?_
      rw [this, Nat.eq_of_beq_eq_true h]; simp
    · simp only [Bool.not_eq_true] at h
      rw [h, cond_false]
      exact hv.evo E1
  · exact hv.evo E1

set_option maxRecDepth 100000 in
/-- Names that are still to be given in a region: those of the operations from i on. -/
theorem runL_sound (E : Env) (henv : ∀ f s, E.spec f = some s → Callable E.P f ∧ Valid E.P f s) {N : Nat} {ops : Array Oper} {rid : Nat} {Q : Exit → Act → World → Prop} {w0 : World} {S0 : SS} {μ0 : MM} {T : Act → Prop} : ∀ (l : List Oper) (i : Nat) (s : St) (a : Act) (w : World) (S : SS) (μ : MM) (Ka : St → Prop), dstOk N l = true → (∀ o ∈ l, ∀ a x, T a → T (a.put o.dst x)) → T a → i + l.length ≤ 1000 → Rel N s a w S μ → Evo w0 S0 μ0 w S μ →
    (∀ id, μ id ≠ none → id < rid + i * 10) → runL E ops rid l i s Ka →
    (∀ s' a' w' S' μ', Rel N s' a' w' S' μ' → Evo w0 S0 μ0 w' S' μ' → (∀ id, μ' id ≠ none → id < rid + 10000) → T a' → Ka s' → Q .normal a' w') → wpList E.P ops Q l a w
  | [], i, s, a, w, S, μ, Ka, _, _, hT, hi, R, Ev, hfr, hr, hK => hK s a w S μ R Ev (fun id h => fresh_end (hfr id h) (Nat.le_trans (Nat.le_add_right i _) hi)) hT hr
  | o :: l, i, s, a, w, S, μ, Ka, hd, hTs, hT, hi, R, Ev, hfr, hr, hK => by
    simp only [dstOk, Bool.and_eq_true] at hd
    simp only [List.length_cons] at hi
    have go : ∀ (s : St) (S : SS), Rel N s a w S μ → Evo w0 S0 μ0 w S μ → step (descG E ops s (rid + i * 10) o) o.dst s (fun s' => runL E ops rid l (i + 1) s' Ka) → wpList E.P ops Q (o :: l) a w := fun s S R Ev hr => ?_
    · unfold runL at hr
      split at hr
      · exact go s S R Ev hr
      · rename_i id _
        by_cases hrr : isRows s.h id = true
        · rw [hrr, cond_true] at hr
          obtain ⟨R1, E1⟩ := Rel_frz R hrr
          exact go _ _ R1 (Ev.trans E1) hr
        · simp only [Bool.not_eq_true] at hrr
          rw [hrr, cond_false] at hr
          cases hr
    refine wpList_step fun K hKw => ?_
    refine step_sound E henv R (fun id h1 h2 => ?_) (fun d hdd => ?_) hr fun s' a' w' S' μ' R' Ev' hfr' hnx hk => ?_
    · cases e : μ id with
      | none => rfl
      | some m => exact absurd (hfr id (by rw [e]; simp)) (by omega)
    · have := hd.1
      rw [hdd] at this
      exact Nat.le_of_ble_eq_true this
    · refine hKw _ _ (runL_sound E henv l (i + 1) s' a' w' S' μ' Ka hd.2 (fun o' ho' => hTs o' (List.mem_cons_of_mem _ ho')) (by obtain ⟨_, x, rfl⟩ := hnx; exact hTs o (by simp) a x hT) (by omega) R' (Ev.trans Ev') (fun id h => ?_) hk hK)
      rcases hfr' id h with h1 | h1
      · have := hfr id h1; omega
      · omega
end
end Go.Proofs.Ytemffnpliflkgaa
