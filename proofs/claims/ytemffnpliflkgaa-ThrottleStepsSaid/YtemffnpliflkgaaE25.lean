/-
  Lemmas and contracts on the way to the laws of this seat; each theorem states its own conditions, and there are no others.
-/
import Derived.Test.YtemffnpliflkgaaE24
namespace Go.Proofs.Ytemffnpliflkgaa
open Go
set_option linter.unusedVariables false
set_option linter.unusedSimpArgs false

section
variable {w : World} {S : SS} {μ : MM}

theorem clean1_rel {v : AV} {x : Value} (hc : clean1 v = true) (hx : VRel w S μ v x) : VRel w (trS S) μ v x := by
  cases v
  case undef => exact .undef _
  case int => cases hx; exact .int _ _
  case tt => cases hx; exact .tt
  case ff => cases hx; exact .ff
  case bool => cases hx; exact .bool _
  case str => cases hx; exact .str _
  case nilp => cases hx; exact .nilp
  case ptr => obtain ⟨m, b, hm, hb, rfl⟩ := hx.ptr_inv; exact .ptr hm hb
  case ept => obtain ⟨m, b, hm, hb, hr, rfl⟩ := hx.ept_inv; exact .ept hm hb hr
  case ipt => simp [clean1] at hc
  case pix => simp [clean1] at hc
  case sel => simp [clean1] at hc
  case nfn => cases hx; exact .nfn
  case nsl => cases hx; exact .nsl
  case zsl => cases hx; exact .zsl _
  case own =>
    obtain ⟨m, hm, hk⟩ := hx.own_inv
    rcases hk with ⟨b, hb, rfl⟩ | ⟨h0, q, rfl⟩
    · exact .own hm hb
    · exact .own0 q hm h0
  case sub =>
    rcases hx.sub_inv with ⟨m, b, cap, hm, hb, he, hr, hcp, rfl⟩ | ⟨rfl, a, cap, rfl⟩
    · exact .sub hm hb he hr hcp
    · exact .sub0 a cap
  case irec p c l =>
    simp only [clean1] at hc
    subst hc
    rcases hx.irec_inv with ⟨u, b, o, cap, hs, hn, hcell, hv, rfl⟩ | ⟨rfl, a, cap, rfl⟩
    · exact .irec u ⟨rfl, hs⟩ hn hcell fun i hi j hj => enc_clean (fun _ h => ⟨rfl, h⟩) hj (hv i hi j hj) μ
    · exact .irec0 a cap
  case mp => obtain ⟨m, b, hm, hb, rfl⟩ := hx.mp_inv; exact .mp hm hb
  case imp p g c f =>
    simp only [clean1] at hc
    subst hc
    obtain ⟨b, clock, es, u, hs, hh, hm, hu, hv, rfl⟩ := hx.imp_inv
    exact .imp u ⟨rfl, hs⟩ hh hm hu fun k hk j hj => enc_clean (fun _ h => ⟨rfl, h⟩) hj (hv k hk j hj) μ
  case agg => simp [clean1] at hc
  case tup => simp [clean1] at hc
  case fn f p q =>
    simp only [clean1, Bool.and_eq_true, List.isEmpty_iff] at hc
    obtain ⟨rfl, rfl⟩ := hc
    cases hx with
    | fn hl h hl' h' => exact .fn hl (fun i hi => by simp at hi) hl' (fun i hi => by simp at hi)
  case opt => simp [clean1] at hc
theorem cleanL_get {l : List AV} (hi : cleanL l = true) : ∀ i, i < l.length → clean1 (l.getD i .undef) = true := by
  induction l with
  | nil => intro i hi; simp at hi
  | cons v r ih =>
    simp only [cleanL, Bool.and_eq_true] at hi
    intro i hlt
    cases i with
    | zero => exact hi.1
    | succ i => exact ih hi.2 i (by simpa using hlt)
theorem clean2L_get {l : List AV} (hi : clean2L l = true) : ∀ i, i < l.length → clean2 (l.getD i .undef) = true := by
  induction l with
  | nil => intro i hi; simp at hi
  | cons v r ih =>
    simp only [clean2L, Bool.and_eq_true] at hi
    intro i hlt
    cases i with
    | zero => exact hi.1
    | succ i => exact ih hi.2 i (by simpa using hlt)
theorem clean2_rel {v : AV} {x : Value} (hc : clean2 v = true) (hx : VRel w S μ v x) : VRel w (trS S) μ v x := by
  cases v
  case agg l =>
    obtain ⟨vs, hl, hrel, rfl⟩ := hx.agg_inv
    exact .agg hl fun i hi => clean1_rel (cleanL_get hc i hi) (hrel i hi)
  all_goals exact clean1_rel hc hx
theorem clean_rel {v : AV} {x : Value} (hc : clean v = true) (hx : VRel w S μ v x) : VRel w (trS S) μ v x := by
  cases v
  case tup l =>
    obtain ⟨vs, hl, hrel, rfl⟩ := hx.tup_inv
    exact .tup hl fun i hi => clean2_rel (clean2L_get hc i hi) (hrel i hi)
  all_goals exact clean2_rel hc hx

theorem cleanU_get {u : List (Nat × OB)} (hc : cleanU u = true) : ∀ i et cs, (i, OB.cells et cs) ∈ u → cleanL cs = true := by
  induction u with
  | nil => intro i et cs h; simp at h
  | cons p r ih =>
    obtain ⟨j, o⟩ := p
    intro i et cs h
    cases o with
    | cells et' cs' =>
      simp only [cleanU, Bool.and_eq_true] at hc
      rcases List.mem_cons.1 h with e | h
      · cases e; exact hc.1
      · exact ih hc.2 i et cs h
    | rows et' c' l' =>
      simp only [cleanU] at hc
      rcases List.mem_cons.1 h with e | h
      · cases e
      · exact ih hc i et cs h
    | imap g' c' f' =>
      simp only [cleanU] at hc
      rcases List.mem_cons.1 h with e | h
      · cases e
      · exact ih hc i et cs h
    | deep et' c' ts' l' out' =>
      simp only [cleanU] at hc
      rcases List.mem_cons.1 h with e | h
      · cases e
      · exact ih hc i et cs h

theorem clean_heap {u : List (Nat × OB)} (hc : cleanU u = true) (H : HRel w S μ (heapOf u)) : HRel w (trS S) μ (heapOf u) where
  blk := fun i o hi => by
    obtain ⟨m, hm, hB⟩ := H.blk i o hi
    refine ⟨m, hm, ?_⟩
    obtain ⟨o', h1, h2⟩ := heapOf_none (u := u) (i := i) (by rw [hi]; simp)
    have e : o' = o := by rw [h2] at hi; exact Option.some.inj hi
    subst e
    cases o' with
    | cells et cs =>
      obtain ⟨b, cur, g1, g2, g3, g4⟩ := hB
      exact ⟨b, cur, g1, g2, g3, fun j hj => clean1_rel (cleanL_get (cleanU_get hc i et cs h1) j hj) (g4 j hj)⟩
    | rows et c l =>
      obtain ⟨g0, g1, g2⟩ := hB
      refine ⟨g0, g1, ?_⟩
      rcases g2 with g2 | ⟨b, cur, g2, g3, g4, g5, g6, g7⟩
      · exact .inl g2
      · exact .inr ⟨b, cur, g2, g3, g4, g5, g6, fun i hi j hj => enc_clean (fun _ h => ⟨rfl, h⟩) hj (g7 i hi j hj) μ⟩
    | imap g c f =>
      obtain ⟨b, clock, es, u, g1, g2, g3, g4, g5⟩ := hB
      exact ⟨b, clock, es, u, g1, g2, g3, g4, fun k hk j hj => enc_clean (fun _ h => ⟨rfl, h⟩) hj (g5 k hk j hj) μ⟩
    | deep et c ts l out =>
      obtain ⟨g0, g1, g2⟩ := hB
      refine ⟨g0, g1, ?_⟩
      rcases g2 with g2 | ⟨b, cur, g2, g3, g4, g5, g6, g7, g8⟩
      · exact .inl g2
      · refine .inr ⟨b, cur, g2, g3, g4, g5, g6, fun i hi j hj => ?_, g8⟩
        rcases g7 i hi j hj with ⟨a1, a2⟩ | ⟨a1, a2⟩
        · exact .inl ⟨a1, by unfold OutOk at a2 ⊢; split at a2 <;> first | exact a2.elim | (obtain ⟨c, hv⟩ := a2; exact ⟨c, own_any hv⟩)⟩
        · exact .inr ⟨a1, DC.weak (fun _ h => ⟨rfl, h⟩) a2 hj⟩
  injH := H.injH
  sepH := fun i o m b p h1 h2 h3 h4 => H.sepH i o m b true h1 h2 h3 h4.2
  bd := fun p b hs => H.bd true b hs.2
end

theorem idRen_look : ∀ {n i : Nat}, (idRen n).look i = if i < n then some (some i) else none
  | 0, i => by simp [idRen, Ren.look]
  | n + 1, i => by
    simp only [idRen, Ren.look]
    by_cases e : i = n
    · subst e; simp [nbeq_same]
    · rw [nbeq_ne e, cond_false, idRen_look]
      by_cases h : i < n
      · rw [if_pos h, if_pos (by omega)]
      · rw [if_neg h, if_neg (by omega)]
theorem idRen_ok (n : Nat) : RenOk (idRen n) where
  inj := fun i j a hi hj => by
    rw [idRen_look] at hi hj
    split at hi <;> split at hj <;> simp_all
  stab := fun i k hk => by
    rw [idRen_look] at hk
    split at hk
    · cases hk; simp [stabOk, nbeq_same]
    · cases hk

theorem numb_lt : ∀ {l : List OB} {k i : Nat} {o : OB}, heapOf (numb l k) i = some o → k ≤ i ∧ i < k + l.length
  | [], k, i, o, h => by simp [numb, heapOf] at h
  | a :: r, k, i, o, h => by
    simp only [numb, heapOf] at h
    by_cases e : i = k
    · subst e; simp
    · rw [nbeq_ne e, cond_false] at h
      have := numb_lt h
      simp only [List.length_cons]; omega
theorem numb_some : ∀ {l : List OB} {k i : Nat}, k ≤ i → i < k + l.length → ∃ o, heapOf (numb l k) i = some o
  | [], k, i, h1, h2 => by simp at h2; omega
  | a :: r, k, i, h1, h2 => by
    simp only [numb, heapOf]
    by_cases e : i = k
    · subst e; exact ⟨a, by simp [nbeq_same]⟩
    · rw [nbeq_ne e, cond_false]
      exact numb_some (by omega) (by simp only [List.length_cons] at h2; omega)

theorem look_mem : ∀ {ρ : Ren} {k : Nat} {r : Option Nat}, ρ.look k = some r → ∃ r', (k, r') ∈ ρ := by
  intro ρ
  induction ρ with
  | nil => intro k r h; simp [Ren.look] at h
  | cons p l ih =>
    obtain ⟨j, q⟩ := p
    intro k r h
    by_cases e : k = j
    · subst e; exact ⟨q, by simp⟩
    · simp only [Ren.look, nbeq_ne e, cond_false] at h
      obtain ⟨r', hr'⟩ := ih h
      exact ⟨r', by simp [hr']⟩

/-- One result, read. -/
def readRes (tmps : Array Value) : ResultVar → Sem Value
  | .tmp t => pure (tmps.getD t undef)
  | .cell a t => do loadVar t (← asAddr (tmps.getD a undef))
theorem results_eq (fn : Func) (tmps : Array Value) : results fn tmps = (do
    let vs ← fn.results.mapM (readRes tmps)
    pure (if h : vs.size = 1 then vs[0] else .tuple vs)) := by
  unfold results
  congr 2

theorem resA_run {P : Program} {N : Nat} {s : St} {a : Act} {w : World} {S : SS} {μ : MM} (R : Rel N s a w S μ) : ∀ {rs : List ResultVar} {vs : List AV}, resA P s rs = some vs → ∃ xs : List Value, (rs.mapM (readRes a.tmps)).run P w = .ok xs w ∧ VRs w S μ vs xs
  | [], vs, h => by
    simp only [resA, Option.some.injEq] at h
    subst h
    exact ⟨[], by simp [List.mapM_nil, Sem.run_pure], .nil⟩
  | r :: rs, vs, h => by
    simp only [resA] at h
    split at h
    · rename_i v vs' h1 h2
      simp only [Option.some.injEq] at h
      subst h
      obtain ⟨xs, hxs, hrel⟩ := resA_run R h2
      have one : ∃ x, (readRes a.tmps r).run P w = .ok x w ∧ VRel w S μ v x := by
        cases r with
        | tmp t =>
          simp only [Option.some.injEq] at h1
          subst h1
          exact ⟨a.tmps.getD t Go.undef, by simp [readRes, Sem.run_pure], R.tm t⟩
        | cell t ty =>
          simp only at h1
          split at h1
          · rename_i n g ht
            obtain ⟨ad, y, hp, hy, hv⟩ := loadA_run (P := P) R.hp ht h1 (R.tm t)
            refine ⟨y, ?_, hv⟩
            rw [hp] at hy
            simp only [readRes]
            rw [hp]
            simpa [Instr.loadAt, Instr.sureAddr, asAddr, Sem.run_bind, Sem.run_pure, Result.andThen_ok] using hy
          · cases h1
      obtain ⟨x, hx, hvx⟩ := one
      refine ⟨x :: xs, ?_, .cons hvx hrel⟩
      simp only [List.mapM_cons, Sem.run_bind, hx, hxs, Result.andThen_ok, Sem.run_pure]
    · cases h

theorem retA_run {P : Program} {N : Nat} {s : St} {a : Act} {w : World} {S : SS} {μ : MM} (R : Rel N s a w S μ) {fn : Func} {r : AV} (h : retA P s fn = some r) : ∃ x, (results fn a.tmps).run P w = .ok x w ∧ VRel w S μ r x := by
  unfold retA at h
  have go : ∀ vs, resA P s fn.results.toList = some vs → ∃ xs : List Value, (fn.results.mapM (readRes a.tmps)).run P w = .ok xs.toArray w ∧ VRs w S μ vs xs := fun vs hvs => by
    obtain ⟨xs, h1, h2⟩ := resA_run R hvs
    refine ⟨xs, ?_, h2⟩
    rw [Array.mapM_eq_mapM_toList]
    simp only [map_eq_pure_bind, Sem.run_bind, h1, Result.andThen_ok, Sem.run_pure]
  split at h
  · rename_i v hv
    cases h
    obtain ⟨xs, h1, h2⟩ := go _ hv
    cases h2 with
    | cons h t =>
      cases t
      refine ⟨_, ?_, h⟩
      rw [results_eq]
      simp [Sem.run_bind, h1, Result.andThen_ok, Sem.run_pure]
  · rename_i vs hne hv
    cases h
    obtain ⟨xs, h1, h2⟩ := go _ hv
    have hl := h2.len
    have h1n : xs.toArray.size ≠ 1 := fun e => by
      have : vs.length = 1 := by rw [hl]; simpa using e
      match vs, this with
      | [v], _ => exact hne v rfl
    refine ⟨.tuple xs.toArray, ?_, .tup (by simpa using hl) fun i hi => ?_⟩
    · rw [results_eq]
      simp only [Sem.run_bind, h1, Result.andThen_ok, dif_neg h1n, Sem.run_pure]
    · have := h2.get i hi
      simpa [Array.getD_eq_getD_getElem?, List.getD_eq_getElem?_getD] using this
  · cases h
end Go.Proofs.Ytemffnpliflkgaa
