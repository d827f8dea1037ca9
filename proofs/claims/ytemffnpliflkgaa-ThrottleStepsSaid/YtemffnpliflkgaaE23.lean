/-
  Lemmas and contracts on the way to the laws of this seat; each theorem states its own conditions, and there are no others.
-/
import Derived.Test.YtemffnpliflkgaaE22
import Derived.Deep.LoopGhost
namespace Go.Proofs.Ytemffnpliflkgaa
open Go
set_option linter.unusedVariables false
set_option linter.unusedSimpArgs false

/-- How the world may go on, whatever the names. -/
structure WEvo (w : World) (S : SS) (w' : World) (S' : SS) : Prop where
  os : w'.os = w.os
  tape : w'.tape = w.tape
  output : w'.output = w.output
  size : w.heap.size ≤ w'.heap.size
  keep : ∀ p b, S p b → w'.heap[b]? = w.heap[b]?
  fls : ∀ b, S' false b ↔ S false b
  tru : ∀ b, S true b → S' true b
  trn : ∀ b, S' true b → S true b ∨ ¬ S false b
theorem Evo.w {w w' : World} {S S' : SS} {μ μ' : MM} (h : Evo w S μ w' S' μ') : WEvo w S w' S' := ⟨h.os, h.tape, h.output, h.size, h.keep, h.fls, h.tru, h.trn⟩
theorem WEvo.e {w w' : World} {S S' : SS} (h : WEvo w S w' S') (μ : MM) : Evo w S μ w' S' μ := ⟨h.os, h.tape, h.output, h.size, h.keep, h.fls, h.tru, h.trn, fun _ _ h => h⟩
theorem WEvo.refl (w : World) (S : SS) : WEvo w S w S := (Evo.refl w S fun _ => none).w
theorem WEvo.trans {w w' w'' : World} {S S' S'' : SS} (h : WEvo w S w' S') (k : WEvo w' S' w'' S'') : WEvo w S w'' S'' := ((h.e fun _ => none).trans (k.e fun _ => none)).w

section
variable {w : World} {S : SS} {μ μ' : MM}

theorem keptL_get {l : List AV} (hi : keptL l = true) : ∀ i, i < l.length → kept1 (l.getD i .undef) = true := by
  induction l with
  | nil => intro i hi; simp at hi
  | cons v r ih =>
    simp only [keptL, Bool.and_eq_true] at hi
    intro i hlt
    cases i with
    | zero => exact hi.1
    | succ i => exact ih hi.2 i (by simpa using hlt)
theorem kept1_rel {v : AV} {x : Value} (hk : kept1 v = true) (hμ : ∀ id m, stab id = true → μ id = some m → μ' id = some m) (hx : VRel w S μ v x) : VRel w S μ' v x := by
  cases v
  case ptr id off =>
    obtain ⟨m, b, hm, hb, rfl⟩ := hx.ptr_inv
    exact .ptr (hμ id m hk hm) hb
  case mp id =>
    obtain ⟨m, b, hm, hb, rfl⟩ := hx.mp_inv
    exact .mp (hμ id m hk hm) hb
  case imp p g c f => exact imp_free hx μ'
  case fn f p q => exact free1 (v := .fn f p q) hk hx μ'
  case ipt p cs off => exact ipt_free hk hx μ'
  all_goals first
    | (simp [kept1] at hk; done)
    | exact free1 (by simp [idfree1]) hx μ'
theorem kept_rel {v : AV} {x : Value} (hk : keptA v = true) (hμ : ∀ id m, stab id = true → μ id = some m → μ' id = some m) (hx : VRel w S μ v x) : VRel w S μ' v x := by
  cases v
  case agg l =>
    obtain ⟨vs, hl, hrel, rfl⟩ := hx.agg_inv
    exact .agg hl fun i hi => kept1_rel (keptL_get hk i hi) hμ (hrel i hi)
  case fn f a b =>
    simp only [keptA, Bool.and_eq_true] at hk
    cases hx with
    | fn hl h1 hl' h2 => exact .fn hl (fun i hi => kept1_rel (keptL_get hk.1 i hi) hμ (h1 i hi)) hl' (fun i hi => kept1_rel (keptL_get hk.2 i hi) hμ (h2 i hi))
  all_goals exact kept1_rel hk hμ hx

theorem once_spec {hp : List (Nat × OB)} (ho : once hp = true) : ∀ i o, (i, o) ∈ hp → heapOf hp i = some o ∧ ∀ c, ocode o = some c → codeIn hp i = c := by
  induction hp with
  | nil => intro i o hi; simp at hi
  | cons p r ih =>
    obtain ⟨j, ob⟩ := p
    simp only [once, Bool.and_eq_true, Bool.not_eq_true'] at ho
    intro i o hi0
    rcases List.mem_cons.1 hi0 with e | hi
    · cases e
      refine ⟨by simp [heapOf], fun c e => ?_⟩
      cases ob <;> simp [ocode] at e <;> (subst e; simp [codeIn])
    · have hne : i ≠ j := fun e => by
        subst e
        have := hasKey_iff.2 ⟨o, hi⟩
        rw [ho.1] at this; cases this
      obtain ⟨h1, h2⟩ := ih ho.2 i o hi
      refine ⟨by simp [heapOf, nbeq_ne hne, h1], fun c e => ?_⟩
      have := h2 c e
      cases ob <;> simpa [codeIn, nbeq_ne hne] using this

/-- The names behind a match. -/
def nm (M : Mt) (hp : List (Nat × OB)) (μ fb : MM) : MM := fun i => match M.ρ.look i with
  | some (some k) => μ k
  | some none => some ⟨none, 0, codeIn hp i, 0⟩
  | none => fb i
theorem nm_named (M : Mt) (hp : List (Nat × OB)) (μ fb : MM) : Named M μ (nm M hp μ fb) :=
  ⟨fun i k h => by simp only [nm, h], fun i h => ⟨_, by simp only [nm, h]; rfl, rfl, rfl⟩⟩

theorem conjL_iff {l : List Prop} : conjL l → ∀ p ∈ l, p := by
  induction l with
  | nil => intro _ p hp; simp at hp
  | cons q r ih =>
    cases r with
    | nil => intro h p hp; simp only [List.mem_singleton] at hp; subst hp; exact h
    | cons q' r' =>
      intro h p hp
      rcases List.mem_cons.1 hp with e | hp
      · rw [e]; exact h.1
      · exact ih h.2 p hp

theorem has_of_look {k : Nat} : ∀ {ρ : Ren} {i : Nat}, ρ.look i = some (some k) → Ren.has k ρ = true := by
  intro ρ i h
  cases e : Ren.has k ρ with
  | true => rfl
  | false => exact absurd h (Ren.has_look e i)

/-- Memory behind a match. -/
theorem heap_after {h : Nat → Option OB} {hp : List (Nat × OB)} {m0 M : Mt} {fb : MM} (H : HRel w S μ h) (hm : mtOs h hp m0 = some M) (hM : MOk h M) (hps : ∀ p ∈ M.ps, p) (hg : goneOk M = true) (ho : once hp = true) :
    HRel w (frz S μ M.gone) (nm M hp μ fb) (heapOf hp) ∧ Evo w S μ w (frz S μ M.gone) μ := by
  obtain ⟨e1, _, k1, r1⟩ := mtOs_spec hm
  have hgone : ∀ id ∈ M.gone, h id ≠ none := fun id hid => by obtain ⟨et, c, l, e⟩ := hM.gone id hid; rw [e]; simp
  obtain ⟨Ev, Hf⟩ := frz_evo H hgone
  have hN := nm_named M hp μ fb
  -- what a told block is
  have live : ∀ i, heapOf hp i ≠ none → ∃ o, (i, o) ∈ hp := fun i hi => by
    obtain ⟨o, h1, _⟩ := heapOf_none hi
    exact ⟨o, h1⟩
  have real : ∀ i mi b, heapOf hp i ≠ none → nm M hp μ fb i = some mi → mi.b = some b → ∃ k, M.ρ.look i = some (some k) ∧ h k ≠ none ∧ μ k = some mi := fun i mi b hi hmi hb => by
    obtain ⟨o, ho'⟩ := live i hi
    obtain ⟨r, g1, g2⟩ := k1 i o ho'
    cases r with
    | none =>
      simp only [nm, g1, Option.some.injEq] at hmi
      subst hmi; cases hb
    | some k =>
      simp only [nm, g1] at hmi
      exact ⟨k, g1, g2 k rfl, hmi⟩
  have realH : ∀ i o mi b, heapOf hp i = some o → nm M hp μ fb i = some mi → holds w mi o b → ∃ k ok, M.ρ.look i = some (some k) ∧ h k = some ok ∧ μ k = some mi ∧ holds w mi ok b := fun i o mi b hi hmi hb => by
    by_cases hd : dpB o = true
    · obtain ⟨o', h1, h2⟩ := heapOf_none (u := hp) (i := i) (by rw [hi]; simp)
      have : o' = o := by rw [h2] at hi; exact Option.some.inj hi
      subst this
      obtain ⟨r, g1, g2⟩ := k1 i o' h1
      cases r with
      | none =>
        simp only [nm, g1, Option.some.injEq] at hmi
        subst hmi
        rcases hb with hb | hb
        · cases hb
        · cases o' with
          | deep et c ts l out => obtain ⟨b0, _, _, hb, _⟩ := hb; cases hb
          | _ => exact hb.elim
      | some k =>
        simp only [nm, g1] at hmi
        exact ⟨k, o', g1, (r1 M w S μ _ (MExt.refl M) hps H hN i o' h1 fun hl => by rw [hl] at g1; cases g1).2 k g1 hd, hmi, hb⟩
    · have hb' := holds_plain (by simpa using hd) hb
      obtain ⟨k, a1, a2, a3⟩ := real i mi b (by rw [hi]; simp) hmi hb'
      obtain ⟨ok, hok⟩ := ne_some a2
      exact ⟨k, ok, a1, hok, a3, .inl hb'⟩
  refine ⟨⟨fun i o hi => ?_, fun i j oi oj mi mj b hi hj hmi hmj hbi hbj => ?_, fun i o mi b p hi hmi hb hs => ?_, Hf.bd⟩, Ev⟩
  · obtain ⟨o', h1, h2⟩ := heapOf_none (u := hp) (i := i) (by rw [hi]; simp)
    have : o' = o := by rw [h2] at hi; exact Option.some.inj hi
    subst this
    refine (r1 M w S μ _ (MExt.refl M) hps H hN i o' h1 fun hl => ?_).1
    exact ⟨⟨none, 0, codeIn hp i, 0⟩, by simp only [nm, hl], rfl, rfl, fun c e => (once_spec ho i o' h1).2 c e⟩
  · obtain ⟨k, ok, a1, a2, a3, a4⟩ := realH i oi mi b hi hmi hbi
    obtain ⟨k', ok', b1, b2, b3, b4⟩ := realH j oj mj b hj hmj hbj
    have := H.injH k k' ok ok' mi mj b a2 b2 a3 b3 a4 b4
    subst this
    exact hM.ren.inj i j k a1 b1
  · obtain ⟨k, ok, a1, a2, a3, a4⟩ := realH i o mi b hi hmi hb
    rcases hs with hs | ⟨_, id, hid, m', hm', hb'⟩
    · exact H.sepH k ok mi b p a2 a3 a4 hs
    · obtain ⟨og, hog⟩ := ne_some (hgone id hid)
      have := H.injH k id ok og mi m' b a2 hog a3 hm' a4 (.inl hb')
      subst this
      unfold goneOk at hg
      rw [List.all_eq_true] at hg
      have := hg k hid
      rw [has_of_look a1] at this
      cases this

theorem puts_t {sl : List (Nat × AV)} : ∀ {s : St} {n : Nat}, (∃ v, (n, v) ∈ sl ∧ (s.puts sl).t n = v) ∨ ((∀ v, (n, v) ∉ sl) ∧ (s.puts sl).t n = s.t n) := by
  induction sl with
  | nil => intro s n; exact .inr ⟨fun v h => by simp at h, rfl⟩
  | cons p r ih =>
    obtain ⟨d, v⟩ := p
    intro s n
    rcases ih (s := s.put (some d) v) (n := n) with ⟨u, h1, h2⟩ | ⟨h1, h2⟩
    · exact .inl ⟨u, by simp [h1], h2⟩
    · by_cases e : n = d
      · subst e
        left
        refine ⟨v, by simp, ?_⟩
        show (St.puts (s.put (some n) v) r).t n = v
        rw [h2]
        simp [St.put]
      · right
        refine ⟨fun u hu => ?_, ?_⟩
        · rcases List.mem_cons.1 hu with e2 | hu
          · cases e2; exact e rfl
          · exact h1 u hu
        · show (St.puts (s.put (some d) v) r).t n = s.t n
          rw [h2]
          simp [St.put, nbeq_ne e]
theorem puts_h {sl : List (Nat × AV)} : ∀ {s : St}, (s.puts sl).h = s.h ∧ (s.puts sl).nx = s.nx := by
  induction sl with
  | nil => intro s; exact ⟨rfl, rfl⟩
  | cons p r ih => obtain ⟨d, v⟩ := p; intro s; exact ih (s := s.put (some d) v)

/-- The state that is at hand is of the form that is told: so it is that one, under other names. -/
theorem match_at {N : Nat} {s cur : St} {a : Act} {ds : List Nat} {I : Inv} {x : I.X} (hm : mtSt s.nx cur (I.sl x) (I.hp x ++ keepOs s.h I.keep)) (R : Rel N cur a w S μ) {μr : MM} (hret : ∀ n, n ∉ ds → keptA (s.t n) = true → VRel w S μr (s.t n) (a.tmps.getD n Go.undef))
    (hst : ∀ id m, stab id = true → id < s.nx → μr id = some m → μ id = some m) (hrf : ∀ k, μr k ≠ none → k < s.nx) :
    ∃ S' μ', WEvo w S w S' ∧ Rel N (atInv s ds I x) a w S' μ' ∧ (∀ k, μ' k ≠ none → k < s.nx) ∧ (∀ id m, stab id = true → id < s.nx → μ id = some m → μ' id = some m) := by
  unfold mtSt at hm
  by_cases hb : (renBelow s.nx (mtOf cur (I.sl x) (I.hp x ++ keepOs s.h I.keep)) && once (I.hp x ++ keepOs s.h I.keep)) = true
  case neg => simp only [hb, cond_false] at hm; omega
  simp only [hb, cond_true] at hm
  simp only [Bool.and_eq_true] at hb
  obtain ⟨hbel, honce⟩ := hb
  cases hM : mtOf cur (I.sl x) (I.hp x ++ keepOs s.h I.keep) with
  | none => rw [hM] at hm; simp [mtEnd] at hm
  | some M =>
    rw [hM] at hm hbel
    simp only [mtEnd] at hm
    by_cases hg : goneOk M = true
    case neg => simp only [hg, cond_false] at hm; omega
    simp only [hg, cond_true] at hm
    have hps := conjL_iff hm
    unfold mtOf at hM
    split at hM
    · rename_i m1 h1
      obtain ⟨e1, o1, r1⟩ := mtSl_spec h1
      obtain ⟨e2, o2, k2, r2⟩ := mtOs_spec hM
      have hok0 : MOk cur.h ⟨[], [], []⟩ := ⟨⟨fun i j a h => by simp [Ren.look] at h, fun i k h => by simp [Ren.look] at h⟩, fun j hj => by simp at hj⟩
      have hok := o2 (o1 hok0)
      let fb : MM := fun i => if stab i = true ∧ i < s.nx then μ i else none
      obtain ⟨H', Ev⟩ := heap_after (fb := fb) R.hp hM hok hps hg honce
      have stabs : ∀ id m, stab id = true → id < s.nx → μ id = some m → nm M (I.hp x ++ keepOs s.h I.keep) μ fb id = some m := fun id m hs hlt hm' => by
        simp only [nm]
        cases hl : M.ρ.look id with
        | none => simp only [fb, if_pos (And.intro hs hlt), hm']
        | some r =>
          have := hok.ren.stab id r hl
          simp only [stabOk, hs, Bool.not_true, Bool.false_or] at this
          cases r with
          | none => cases this
          | some k =>
            have := Nat.eq_of_beq_eq_true this
            subst this
            exact hm'
      refine ⟨_, _, Ev.w, ⟨fun n => ?_, ?_, R.df, R.sz⟩, fun k hk => ?_, stabs⟩
      · unfold atInv
        rcases puts_t (sl := I.sl x) (s := ⟨havoc s.t ds, heapOf (I.hp x ++ keepOs s.h I.keep), s.nx⟩) (n := n) with ⟨v, g1, g2⟩ | ⟨_, g2⟩
        · rw [g2]
          exact r1 M w S μ _ e2 hps R.hp (nm_named _ _ _ _) n v g1 _ (R.tm n)
        · rw [g2]
          show VRel _ _ _ (havoc s.t ds n) _
          unfold havoc
          by_cases hd : memN n ds = true
          · simp only [hd, cond_true]; exact .undef _
          · simp only [hd, cond_false]
            by_cases hk : keptA (s.t n) = true
            · simp only [hk, cond_true]
              have h0 := (hret n (fun hc => hd (memN_iff.2 hc)) hk).weaken (S' := frz S μ M.gone) (fun p b hs => .inl hs) fun _ _ h => h
              exact kept_rel hk (fun id m hs hm' => stabs id m hs (hrf id (by rw [hm']; simp)) (hst id m hs (hrf id (by rw [hm']; simp)) hm')) h0
            · simp only [hk, cond_false]; exact .undef _
      · unfold atInv
        rw [puts_h.1]
        exact H'
      · simp only [nm] at hk
        cases hl : M.ρ.look k with
        | none =>
          simp only [hl, fb] at hk
          by_cases hc : stab k = true ∧ k < s.nx
          · exact hc.2
          · rw [if_neg hc] at hk; exact absurd rfl hk
        | some r =>
          simp only [renBelow] at hbel
          rw [List.all_eq_true] at hbel
          have : ∃ r', (k, r') ∈ M.ρ := by
            clear hbel hk hg hm hps H' hok e2 hM r2 k2 stabs
            have key : ∀ (ρ : Ren), ρ.look k = some r → ∃ r', (k, r') ∈ ρ := by
              intro ρ
              induction ρ with
              | nil => intro h; simp [Ren.look] at h
              | cons p l ih =>
                obtain ⟨j, q⟩ := p
                intro h
                by_cases e : k = j
                · subst e; exact ⟨q, by simp⟩
                · simp only [Ren.look, nbeq_ne e, cond_false] at h
                  obtain ⟨r', hr'⟩ := ih h
                  exact ⟨r', by simp [hr']⟩
            exact key _ hl
          obtain ⟨r', hr'⟩ := this
          exact Nat.le_of_ble_eq_true (hbel _ hr')
    · cases hM
end
end Go.Proofs.Ytemffnpliflkgaa
