/-
  Lemmas and contracts on the way to the laws of this seat; each theorem states its own conditions, and there are no others.
-/
import Derived.Test.YtemffnpliflkgaaE11
namespace Go.Proofs.Ytemffnpliflkgaa
open Go
set_option linter.unusedVariables false
set_option linter.unusedSimpArgs false
section
variable {P : Program} {a : Act} {o : Oper} {w : World} {S : SS} {μ : MM} {h : Nat → Option OB} {base : Nat}

theorem castL_spec {c d : Nat} {l : List (den c)} {l' : List (den d)} (hh : castL l d = some l') : ∃ e : c = d, l' = e ▸ l := by
  unfold castL at hh
  split at hh
  · rename_i e; exact ⟨e, by simpa using hh.symm⟩
  · cases hh

/-- What is appended: its cells lie somewhere, or there is nothing. -/
theorem content_src (H : HRel w S μ h) {c : Nat} {v : AV} {l : List (den c)} (hc : contentAs h c v = some l) {x : Value} (hx : VRel w S μ v x) :
    ∃ news : List Value, news.length = l.length * ncell c ∧ (∀ i, i < l.length → ∀ j, j < ncell c → VRel w S μ ((rowAV c l i).getD j .undef) (news.getD (i * ncell c + j) Go.undef)) ∧
      ((∃ ad cap, x = .slice (some ad) l.length cap ∧ ∀ j u, news[j]? = some u → w.cell? (ad.add j) = some u) ∨ (l = [] ∧ ∃ q cap, x = .slice q 0 cap)) := by
  have nil : (∃ q cap, x = .slice q 0 cap) → ∀ l' : List (den c), l' = [] → ∃ news : List Value, news.length = l'.length * ncell c ∧ (∀ i, i < l'.length → ∀ j, j < ncell c → VRel w S μ ((rowAV c l' i).getD j .undef) (news.getD (i * ncell c + j) Go.undef)) ∧
      ((∃ ad cap, x = .slice (some ad) l'.length cap ∧ ∀ j u, news[j]? = some u → w.cell? (ad.add j) = some u) ∨ (l' = [] ∧ ∃ q cap, x = .slice q 0 cap)) := fun hq l' e => by
    subst e
    exact ⟨[], by simp, fun i hi => (by simp at hi), .inr ⟨rfl, hq⟩⟩
  have mk : ∀ (l' : List (den c)) (b off cap : Nat) (f : Nat → Nat → Value), x = .slice (some ⟨b, off, none⟩) l'.length cap → (∀ i, i < l'.length → ∀ j, j < ncell c → w.cell? ⟨b, off + i * ncell c + j, none⟩ = some (f i j)) →
      (∀ i, i < l'.length → ∀ j, j < ncell c → VRel w S μ ((rowAV c l' i).getD j .undef) (f i j)) → ∃ news : List Value, news.length = l'.length * ncell c ∧ (∀ i, i < l'.length → ∀ j, j < ncell c → VRel w S μ ((rowAV c l' i).getD j .undef) (news.getD (i * ncell c + j) Go.undef)) ∧
      ((∃ ad cap, x = .slice (some ad) l'.length cap ∧ ∀ j u, news[j]? = some u → w.cell? (ad.add j) = some u) ∨ (l' = [] ∧ ∃ q cap, x = .slice q 0 cap)) := fun l' b off cap f hx' hcell hrel => by
    refine ⟨(List.range (l'.length * ncell c)).map fun k => f (k / ncell c) (k % ncell c), by simp, fun i hi j hj => ?_, .inl ⟨_, cap, hx', fun k u hk => ?_⟩⟩
    · have hlt := row_le hi hj
      have hd : (i * ncell c + j) / ncell c = i := by
        rw [Nat.mul_comm, Nat.mul_add_div (by omega), Nat.div_eq_of_lt hj]; rfl
      simp only [List.getD_eq_getElem?_getD, List.getElem?_map, List.getElem?_range hlt, Option.map_some, Option.getD_some, hd, row_get hj]
      exact hrel i hi j hj
    · rw [addr_add]
      obtain ⟨hk1, hk2⟩ := List.getElem?_eq_some_iff.1 hk
      have hk3 : k < l'.length * ncell c := by simpa using hk1
      have hc0 : 0 < ncell c := by
        rcases Nat.eq_zero_or_pos (ncell c) with h0 | h0
        · rw [h0] at hk3; simp at hk3
        · exact h0
      have h1 : k / ncell c < l'.length := Nat.div_lt_of_lt_mul (by rw [Nat.mul_comm]; exact hk3)
      have h2 : k % ncell c < ncell c := Nat.mod_lt _ hc0
      have h3 := hcell _ h1 _ h2
      have h4 : k / ncell c * ncell c + k % ncell c = k := by rw [Nat.mul_comm]; exact Nat.div_add_mod k (ncell c)
      rw [Nat.add_assoc, h4] at h3
      rw [h3, ← hk2]; simp
  unfold contentAs at hc
  split at hc
  · simp only [Option.some.injEq] at hc; subst hc
    cases hxv : x <;> (rw [hxv] at hx; cases hx)
    rw [← hxv]
    exact nil ⟨_, _, hxv⟩ _ rfl
  · split at hc
    · rename_i r hr
      obtain ⟨e, rfl⟩ := castL_spec hc
      obtain ⟨rc, rl⟩ := r
      simp only at e
      subst e
      simp only
      unfold contentA at hr
      split at hr
      · rename_i id c'
        split at hr
        · rename_i et c l hh
          simp only [Option.some.injEq, Rows.mk.injEq] at hr
          obtain ⟨rfl, hr⟩ := hr
          have hr := eq_of_heq hr
          subst hr
          obtain ⟨m, hm, hcase⟩ := hx.own_inv
          obtain ⟨h1, h2, h3⟩ := H.rows hh hm
          rcases hcase with ⟨b, hb, hx'⟩ | ⟨h0, q, hx'⟩
          · obtain ⟨cur, hcur, hcsz, hlen, hmax, hrel⟩ := h3 b hb
            rw [h1] at hx'
            refine mk _ b 0 _ (fun i j => cur.getD (i * ncell c + j) Go.undef) hx' (fun i hi j hj => ?_) hrel
            rw [Nat.zero_add]
            refine cell_at hcur ?_
            have := row_le hi hj
            have h4 : l.length * ncell c ≤ m.cap * ncell c := Nat.mul_le_mul_right _ hlen
            omega
          · exact nil ⟨_, _, hx'⟩ _ (List.eq_nil_of_length_eq_zero (by omega))
        · cases hr
      · rename_i id c' lo n _
        split at hr
        · rename_i et c l hh
          simp only [Option.some.injEq, Rows.mk.injEq] at hr
          obtain ⟨rfl, hr⟩ := hr
          have hr := eq_of_heq hr
          subst hr
          rcases hx.sub_inv with ⟨m, b, cap, hm, hb, hmc, hrn, hcap, hx'⟩ | ⟨h0, q, cap, hx'⟩
          · obtain ⟨h1, h2, h3⟩ := H.rows hh hm
            obtain ⟨cur, hcur, hcsz, hlen, hmax, hrel⟩ := h3 b hb
            have hl' : ((l.drop lo).take n).length = n := by simp; omega
            have e2 : c' = c := by rw [← hmc, h2]
            rw [e2, ← hl'] at hx'
            refine mk _ b _ _ (fun i j => cur.getD ((lo + i) * ncell c + j) Go.undef) hx' (fun i hi j hj => ?_) (fun i hi j hj => ?_)
            · have hi' : lo + i < l.length := by rw [hl'] at hi; omega
              have e3 : lo * ncell c + i * ncell c + j = (lo + i) * ncell c + j := by rw [Nat.add_mul]
              rw [e3]
              refine cell_at hcur ?_
              have := row_le hi' hj
              have h4 : l.length * ncell c ≤ m.cap * ncell c := Nat.mul_le_mul_right _ hlen
              omega
            · have hi' : i < n := by rw [hl'] at hi; exact hi
              have e4 : rowAV c ((l.drop lo).take n) i = rowAV c l (lo + i) := by
                unfold rowAV
                simp [List.getD_eq_getElem?_getD, List.getElem?_take_of_lt hi', List.getElem?_drop]
              rw [e4]
              exact hrel (lo + i) (by omega) j hj
          · subst h0
            exact nil ⟨_, _, hx'⟩ _ (by simp)
        · cases hr
      · simp only [Option.some.injEq, Rows.mk.injEq] at hr
        obtain ⟨rfl, hr⟩ := hr
        have hr := eq_of_heq hr
        subst hr
        rcases hx.irec_inv with ⟨u, b, off, cap, hS, hn, hcc, hrel, hx'⟩ | ⟨h0, q, cap, hx'⟩
        · exact mk _ b off cap u hx' hcc hrel
        · exact nil ⟨_, _, hx'⟩ _ h0
      · cases hr
    · cases hc

theorem news_one {c : Nat} {l : List (den c)} {news : List Value} (hl : news.length = l.length * ncell c) (hrel : ∀ i, i < l.length → ∀ j, j < ncell c → VRel w S μ ((rowAV c l i).getD j .undef) (news.getD (i * ncell c + j) Go.undef)) : ∀ u ∈ news, u.oneCell' = true := by
  intro u hu
  obtain ⟨k, hk, rfl⟩ := List.getElem_of_mem hu
  have hk3 : k < l.length * ncell c := by omega
  have hc0 : 0 < ncell c := by
    rcases Nat.eq_zero_or_pos (ncell c) with h0 | h0
    · rw [h0] at hk3; simp at hk3
    · exact h0
  have h1 : k / ncell c < l.length := Nat.div_lt_of_lt_mul (by rw [Nat.mul_comm]; exact hk3)
  have h2 : k % ncell c < ncell c := Nat.mod_lt _ hc0
  have h3 := hrel _ h1 _ h2
  have h4 : k / ncell c * ncell c + k % ncell c = k := by rw [Nat.mul_comm]; exact Nat.div_add_mod k (ncell c)
  rw [h4] at h3
  have h5 := allL_get (enc_leaf c (l.getD (k / ncell c) (dfl c))) (k % ncell c) (by rw [enc_len]; exact h2)
  have := (leaf_cells h5 h3).2
  simpa [List.getD_eq_getElem?_getD, hk] using this

/-- A block gets another name. -/
theorem HRel.move (H : HRel w S μ h) {w' : World} {id : Nat} {ob ob' : OB} {m m' : MI} (E : Evo w S μ w' S (μ.add base m')) (hbase : μ base = none) (hh : h id = some ob) (hm : μ id = some m) (hmb : m'.b = m.b)
    (hother : ∀ b, (∀ b', m.b = some b' → b ≠ b') → b < w.heap.size → w'.heap[b]? = w.heap[b]?) (hok : BOk w' S (μ.add base m') m' ob') (hd : dpB ob = false := by rfl) (hd' : dpB ob' = false := by rfl) : HRel w' S (μ.add base m') (updH h [(id, none), (base, some ob')]) := by
  have hne : id ≠ base := fun e => by subst e; rw [hbase] at hm; cases hm
  have cs : ∀ i, (updH h [(id, none), (base, some ob')]) i = if i = base then some ob' else if i = id then none else h i := fun i => by
    simp only [updH]
    by_cases e1 : i = base
    · subst e1; simp
    · by_cases e2 : i = id
      · subst e2; simp [e1, nbeq_ne e1]
      · simp [e1, e2, nbeq_ne e1, nbeq_ne e2]
  have live : ∀ i, (updH h [(id, none), (base, some ob')]) i ≠ none → (i = base) ∨ (i ≠ base ∧ i ≠ id ∧ h i ≠ none) := fun i hi => by
    rw [cs] at hi
    by_cases e1 : i = base
    · exact .inl e1
    · by_cases e2 : i = id
      · simp [e1, e2, hne] at hi
      · exact .inr ⟨e1, e2, by simpa [e1, e2] using hi⟩
  refine H.upd E ?_ ?_ ?_ ?_ ?_ fun _ hs => .inl hs
  · intro i o' ho
    rcases live i (by rw [ho]; simp) with e | ⟨e1, e2, e3⟩
    · subst e
      rw [cs, if_pos rfl] at ho; cases ho
      exact .inr ⟨fun _ _ _ hx => holds_plain hd' hx, m', MM.add_same, hok⟩
    · rw [cs, if_neg e1, if_neg e2] at ho
      refine .inl ⟨ho, fun mi b hmi hb => ?_⟩
      obtain ⟨mi', hmi', hB⟩ := H.blk i _ ho
      rw [hmi] at hmi'; cases hmi'
      refine hother b (fun b' hb' eb => ?_) (hB.ltH hb)
      subst eb
      exact e2 (H.injH i id o' ob mi m b ho hh hmi hm hb (.inl hb'))
  · intro i j mi mj b hi hj hmi hmj hbi hbj
    rcases live i hi with ei | ⟨e1, e2, e3⟩ <;> rcases live j hj with ej | ⟨f1, f2, f3⟩
    · rw [ei, ej]
    · subst ei
      rw [MM.add_same] at hmi; cases hmi
      rw [MM.add_ne f1] at hmj
      rw [hmb] at hbi
      exact absurd (H.inj j id mj m b f3 (by rw [hh]; simp) hmj hm hbj hbi) f2
    · subst ej
      rw [MM.add_same] at hmj; cases hmj
      rw [MM.add_ne e1] at hmi
      rw [hmb] at hbj
      exact absurd (H.inj i id mi m b e3 (by rw [hh]; simp) hmi hm hbi hbj) e2
    · rw [MM.add_ne e1] at hmi
      rw [MM.add_ne f1] at hmj
      exact H.inj i j mi mj b e3 f3 hmi hmj hbi hbj
  · intro i mi b p hi hmi hb
    rcases live i hi with ei | ⟨e1, e2, e3⟩
    · subst ei
      rw [MM.add_same] at hmi; cases hmi
      rw [hmb] at hb
      exact H.sep id m b p (by rw [hh]; simp) hm hb
    · rw [MM.add_ne e1] at hmi
      exact H.sep i mi b p e3 hmi hb
  · intro p b hs
    exact Nat.lt_of_lt_of_le (H.bd p b hs) E.size
  · intro i mi b hi hmi hb
    rcases live i hi with ei | ⟨e1, e2, e3⟩
    · subst ei
      rw [MM.add_same] at hmi; cases hmi
      rw [hmb] at hb
      exact .inr ⟨id, ob, m, hh, hm, hb, fun e => by rw [hd] at e; cases e⟩
    · rw [MM.add_ne e1] at hmi
      obtain ⟨o, ho⟩ := ne_some e3
      exact From.same H ho hmi hb

theorem run_append_zero {t ty e : TypeId} {i : TypeInfo} (ht : P.underlying t = some (.slice e)) (hi : P.info? e = some i) {q q' : Option Addr} {n cap c : Nat} (hn : n ≤ cap) : (Builtin.append_ #[t, t] ty #[.slice q n cap, .slice q' 0 c]).run P w = .ok (.slice q n cap) w := by
  cases q <;> cases q' <;> simp [Builtin.append_, run_underlying ht, sizeOf, typeInfo, hi, Builtin.lenOf, hn, Builtin.firstCells, loadCells, loadCellsFrom, storeCells]

theorem run_append_fresh {t ty e : TypeId} {i : TypeInfo} {z : Value} (ht : P.underlying t = some (.slice e)) (hi : P.info? e = some i) (hz : i.zero = some z) {q : Option Addr} {ad : Addr} {n c : Nat} {news : List Value} (hl : news.length = n * i.size) (hnews : ∀ j v, news[j]? = some v → w.cell? (ad.add j) = some v)
    (h0 : 0 < n) (h63 : (n : Int) ≤ 9223372036854775807) (h48 : n * i.bytes ≤ 140737488355328) :
    (Builtin.append_ #[t, t] ty #[.slice q 0 0, .slice (some ad) n c]).run P w = .ok (.slice (some ⟨w.heap.size, 0, none⟩) n (grownCap w n 0 e)) (w.drew.alloc (.cells (news.toArray ++ Builtin.zeroCells z.cells (grownCap w n 0 e - n)) e)) := by
  cases q with
  | none => exact run_append_nil (P := P) w t ty e i z ht hi hz ad n c news hl hnews h0 h63 (by omega)
  | some b =>
    have := run_append_grow (P := P) w t ty e i z ht hi hz b 0 0 [] (by simp) (by simp) ad n c news hl hnews (by omega) (by simpa using h63) (growslice_fits (by omega) (by simpa using h48))
    simpa using this

/-- The block that append makes. -/
theorem grown_rel {c : Nat} {l : List (den c)} {xs : List Value} {z : Value} {k n : Nat} (hn : n = l.length) (hl : xs.length = n * ncell c) (hrel : ∀ i, i < l.length → ∀ j, j < ncell c → VRel w S μ ((rowAV c l i).getD j .undef) (xs.getD (i * ncell c + j) Go.undef)) :
    ∀ i, i < l.length → ∀ j, j < ncell c → VRel w S μ ((rowAV c l i).getD j .undef) ((xs.toArray ++ Builtin.zeroCells z.cells k).getD (i * ncell c + j) Go.undef) := fun i hi j hj => by
  have := hrel i hi j hj
  have hlt : i * ncell c + j < xs.length := by rw [hl, hn]; exact row_le hi hj
  have h2 : i * ncell c + j < (xs.toArray ++ Builtin.zeroCells z.cells k).size := by simp; omega
  rw [Array.getD, dif_pos h2]
  have e : (xs.toArray ++ Builtin.zeroCells z.cells k)[i * ncell c + j]'h2 = xs.getD (i * ncell c + j) Go.undef := by
    rw [Array.getElem_append_left (by simpa using hlt)]
    simp [List.getD_eq_getElem?_getD, hlt]
  rw [← e] at this
  exact this

theorem rows_append {c : Nat} {l l' : List (den c)} {xs ys : List Value} (hx : xs.length = l.length * ncell c) (r1 : ∀ i, i < l.length → ∀ j, j < ncell c → VRel w S μ ((rowAV c l i).getD j .undef) (xs.getD (i * ncell c + j) Go.undef))
    (r2 : ∀ i, i < l'.length → ∀ j, j < ncell c → VRel w S μ ((rowAV c l' i).getD j .undef) (ys.getD (i * ncell c + j) Go.undef)) :
    ∀ i, i < (l ++ l').length → ∀ j, j < ncell c → VRel w S μ ((rowAV c (l ++ l') i).getD j .undef) ((xs ++ ys).getD (i * ncell c + j) Go.undef) := fun i hi j hj => by
  by_cases hi1 : i < l.length
  · have e1 : rowAV c (l ++ l') i = rowAV c l i := by unfold rowAV; simp [List.getD_eq_getElem?_getD, List.getElem?_append_left hi1]
    have e2 : (xs ++ ys).getD (i * ncell c + j) Go.undef = xs.getD (i * ncell c + j) Go.undef := by
      have := row_le hi1 hj
      simp [List.getD_eq_getElem?_getD, List.getElem?_append_left (show i * ncell c + j < xs.length by omega)]
    rw [e1, e2]; exact r1 i hi1 j hj
  · have hi2 : i - l.length < l'.length := by simp at hi; omega
    have e1 : rowAV c (l ++ l') i = rowAV c l' (i - l.length) := by unfold rowAV; simp [List.getD_eq_getElem?_getD, List.getElem?_append_right (show l.length ≤ i by omega)]
    have h3 : l.length * ncell c ≤ i * ncell c := Nat.mul_le_mul_right _ (by omega)
    have e2 : (xs ++ ys).getD (i * ncell c + j) Go.undef = ys.getD ((i - l.length) * ncell c + j) Go.undef := by
      have h4 : i * ncell c + j - xs.length = (i - l.length) * ncell c + j := by rw [hx, Nat.sub_mul]; omega
      simp only [List.getD_eq_getElem?_getD, List.getElem?_append_right (show xs.length ≤ i * ncell c + j by omega), h4]
    rw [e1, e2]; exact r2 _ hi2 j hj

theorem ok_append (H : HRel w S μ h) (hf : ∀ id, base ≤ id → id < base + 10 → μ id = none) {c : Call} {x y : Operand} {vx vy : AV} (ho : o.op = .call c) (hc : c.callee = .builtin .append) (ha : c.args.toList = [x, y]) (hx : VRel w S μ vx (a.eval x)) (hy : VRel w S μ vy (a.eval y)) : DescOK P a o w S μ h base (appendA P h base c.argTypes.toList vx vy) := by
  have hargs : c.args = #[x, y] := by rw [← Array.toArray_toList (xs := c.args), ha]
  unfold appendA
  split
  case h_2 => trivial
  rename_i t t' hts
  by_cases htt : Nat.beq t t' = true
  case neg => simp only [htt, cond_false]; trivial
  simp only [htt, cond_true]
  have htt' := Nat.eq_of_beq_eq_true htt
  subst htt'
  have hat : c.argTypes = #[t, t] := by rw [← Array.toArray_toList (xs := c.argTypes), hts]
  split
  case h_2 => trivial
  rename_i e he
  split
  case h_2 => trivial
  rename_i cd z i hcd hz hi
  by_cases hs : (Nat.beq z.length i.size && Nat.beq (ncell cd) i.size && Nat.blt 0 i.size && Nat.ble i.bytes 2048) = true
  case neg => simp only [hs, cond_false]; trivial
  simp only [hs, cond_true]
  simp only [Bool.and_eq_true] at hs
  have s1 : z.length = i.size := Nat.eq_of_beq_eq_true hs.1.1.1
  have s2 : ncell cd = i.size := Nat.eq_of_beq_eq_true hs.1.1.2
  have s3 : 0 < i.size := Nat.le_of_ble_eq_true hs.1.2
  have s4 : i.bytes ≤ 2048 := Nat.le_of_ble_eq_true hs.2
  have hu : P.underlying t = some (.slice e) := by
    unfold Proofs.Ytemffnpliflkgaa.elemOf at he
    split at he
    · simp only [Option.some.injEq] at he; subst he; assumption
    · cases he
  obtain ⟨i', v, hi', hv, rfl⟩ := tzero_spec hz
  rw [hi] at hi'; cases hi'
  have hzl : v.cells.size = i.size := by have := (flat_zero (w := w) (S := S) (μ := μ) v).len; simp at this; omega
  split
  case h_2 => trivial
  rename_i lx hlx
  obtain ⟨news, hnl, hnr, hsrc⟩ := content_src H hlx hy
  have hone := news_one hnl hnr
  have fin : ∀ (K : Act → World → Prop) (Q : Exit → Act → World → Prop) y' w', (Builtin.append_ #[t, t] o.type #[a.eval x, a.eval y]).run P w = .ok y' w' → K (a.put o.dst y') w' → o.wp P a w K Q := fun K Q y' w' hr hk =>
    wp_val (exec_builtin ho hc fun _ => by simp [builtin, hat, hargs, hr]) hk
  have bytes : ∀ n : Nat, n ≤ 68719476736 → n * i.bytes ≤ 140737488355328 := fun n hn => by
    have : n * i.bytes ≤ 68719476736 * 2048 := Nat.mul_le_mul hn s4
    omega
  have hbase := hf (base + 1) (by omega) (by omega)
  -- a list that begins with this slice
  have fresh : (∃ q, a.eval x = .slice q 0 0) → DescOK P a o w S μ h base (.det [lx.length ≤ 68719476736] (.own (base + 1) cd) [(base + 1, some (.rows e cd lx))]) := fun ⟨q, hxv⟩ => by
    intro hp K Q hK
    have hle : lx.length ≤ 68719476736 := hp _ (by simp)
    by_cases h0 : lx = []
    · subst h0
      obtain ⟨q', cap, hyv⟩ : ∃ q' cap, a.eval y = .slice q' 0 cap := by
        rcases hsrc with ⟨ad, cap, hyv, _⟩ | ⟨_, q', cap, hyv⟩
        · exact ⟨_, _, hyv⟩
        · exact ⟨_, _, hyv⟩
      refine fin K Q _ _ (by rw [hxv, hyv]; exact run_append_zero hu hi (Nat.le_refl _)) (hK _ _ ?_)
      have E : Evo w S μ w S (μ.add (base + 1) ⟨none, 0, cd, 0⟩) := ⟨rfl, rfl, rfl, Nat.le_refl _, fun _ _ _ => rfl, fun _ => Iff.rfl, fun _ h => h, fun _ h => .inl h, MM.ext_add hbase⟩
      refine ⟨S, _, E, .own0 (m := ⟨none, 0, cd, 0⟩) q MM.add_same rfl, H.upd E ?_ ?_ ?_ H.bd ?_ (fun _ hs => .inl hs), fun id hne => ?_⟩
      · intro id ob hob
        by_cases e1 : id = base + 1
        · subst e1
          simp [updH] at hob; subst hob
          exact .inr ⟨fun _ _ _ hx => holds_plain rfl hx, _, MM.add_same, rfl, rfl, .inl ⟨rfl, rfl⟩⟩
        · simp [updH, nbeq_ne e1] at hob
          exact .inl ⟨hob, fun _ _ _ _ => rfl⟩
      · intro i j mi mj b hi' hj hmi hmj hbi hbj
        by_cases e1 : i = base + 1
        · subst e1; rw [MM.add_same] at hmi; cases hmi; cases hbi
        · by_cases e2 : j = base + 1
          · subst e2; rw [MM.add_same] at hmj; cases hmj; cases hbj
          · rw [MM.add_ne e1] at hmi
            rw [MM.add_ne e2] at hmj
            simp [updH, nbeq_ne e1] at hi'
            simp [updH, nbeq_ne e2] at hj
            exact H.inj i j mi mj b hi' hj hmi hmj hbi hbj
      · intro i mi b p hi' hmi hb
        by_cases e1 : i = base + 1
        · subst e1; rw [MM.add_same] at hmi; cases hmi; cases hb
        · rw [MM.add_ne e1] at hmi
          simp [updH, nbeq_ne e1] at hi'
          exact H.sep i mi b p hi' hmi hb
      · intro i mi b hi' hmi hb
        by_cases e1 : i = base + 1
        · subst e1; rw [MM.add_same] at hmi; cases hmi; cases hb
        · rw [MM.add_ne e1] at hmi
          simp [updH, nbeq_ne e1] at hi'
          obtain ⟨o, ho⟩ := ne_some hi'
          exact From.same H ho hmi hb
      · by_cases e1 : id = base + 1
        · right; omega
        · left; rwa [MM.add_ne e1] at hne
    · have hpos : 0 < lx.length := List.length_pos_iff.2 h0
      rcases hsrc with ⟨ad, cap, hyv, hcells⟩ | ⟨h1, _⟩
      · have hr := run_append_fresh (P := P) (w := w) (ty := o.type) hu hi hv (q := q) (ad := ad) (n := lx.length) (c := cap) (news := news) (by rw [hnl, s2]) hcells hpos (by omega) (bytes _ hle)
        refine fin K Q _ _ (by rw [hxv, hyv]; exact hr) (hK _ _ ?_)
        have hge := grownCap_ge w lx.length 0 e
        refine ok_newrow H hf (.inr rfl) ?_ hge (grownCap_le_maxLen w lx.length 0 e (by unfold maxLen; omega)) (grown_rel rfl hnl hnr)
        simp only [Array.size_append, List.size_toArray, size_zeroCells, hzl, hnl, ← s2, ← Nat.add_mul]
        congr 1
        omega
      · exact absurd h1 h0
  split
  · cases hxv : a.eval x <;> (rw [hxv] at hx; cases hx)
    exact fresh ⟨_, hxv⟩
  · cases hxv : a.eval x <;> (rw [hxv] at hx; cases hx)
    exact fresh ⟨_, hxv⟩
  · rename_i id c'
    split
    case h_2 => trivial
    rename_i e' cd' l0 hh
    by_cases hee : Nat.beq e e' = true
    case neg => simp only [hee, cond_false]; trivial
    simp only [hee, cond_true]
    have hee' := Nat.eq_of_beq_eq_true hee
    subst hee'
    split
    case h_2 => trivial
    rename_i l hcl
    obtain ⟨ec, rfl⟩ := castL_spec hcl
    subst ec
    simp only
    intro hp K Q hK
    have hle : l0.length + lx.length ≤ 68719476736 := hp _ (by simp)
    obtain ⟨m, hm, hcase⟩ := hx.own_inv
    obtain ⟨h1, h2, h3⟩ := H.rows hh hm
    have hidne : id ≠ base + 1 := fun e => by subst e; rw [hbase] at hm; cases hm
    -- nothing is written: another name
    have same : (∃ q', ∃ cap, a.eval y = .slice q' 0 cap) → lx = [] → o.wp P a w K Q := fun ⟨q', cap', hyv⟩ h0 => by
      subst h0
      obtain ⟨q, len, cap, hxv, hlc⟩ : ∃ q len cap, a.eval x = .slice q len cap ∧ len ≤ cap := by
        rcases hcase with ⟨b, hb, e⟩ | ⟨_, p, e⟩
        · obtain ⟨cur, hcur, hcsz, hlen, _⟩ := h3 b hb
          exact ⟨_, _, _, e, by omega⟩
        · exact ⟨_, _, _, e, Nat.le_refl _⟩
      refine fin K Q _ _ (by rw [hxv, hyv]; exact run_append_zero hu hi hlc) (hK _ _ ?_)
      have E : Evo w S μ w S (μ.add (base + 1) m) := ⟨rfl, rfl, rfl, Nat.le_refl _, fun _ _ _ => rfl, fun _ => Iff.rfl, fun _ h => h, fun _ h => .inl h, MM.ext_add hbase⟩
      refine ⟨S, _, E, ?_, ?_, fun id' hne => ?_⟩
      · rw [← hxv]
        rcases hcase with ⟨b, hb, e⟩ | ⟨h0, p, e⟩
        · rw [e]; exact .own MM.add_same hb
        · rw [e]; exact .own0 p MM.add_same h0
      · refine H.move E hbase hh hm rfl (fun _ _ _ => rfl) ?_
        obtain ⟨m2, hm2, hB⟩ := H.blk id _ hh
        rw [hm] at hm2; cases hm2
        rw [List.append_nil]
        exact hB.evo E fun _ _ => rfl
      · by_cases e1 : id' = base + 1
        · right; omega
        · left; rwa [MM.add_ne e1] at hne
    by_cases h0 : lx = []
    · refine same ?_ h0
      subst h0
      rcases hsrc with ⟨ad, cap, hyv, _⟩ | ⟨_, q', cap, hyv⟩
      · exact ⟨_, _, hyv⟩
      · exact ⟨_, _, hyv⟩
    have hpos : 0 < lx.length := List.length_pos_iff.2 h0
    obtain ⟨ad, capy, hyv, hcells⟩ : ∃ ad cap, a.eval y = .slice (some ad) lx.length cap ∧ ∀ j u, news[j]? = some u → w.cell? (ad.add j) = some u := by
      rcases hsrc with h1 | ⟨h1, _⟩
      · exact h1
      · exact absurd h1 h0
    have frame : ∀ {w' : World} {m' : MI}, ∀ id', (μ.add (base + 1) m') id' ≠ none → μ id' ≠ none ∨ (base ≤ id' ∧ id' < base + 10) := fun id' hne => by
      by_cases e1 : id' = base + 1
      · right; omega
      · left; rwa [MM.add_ne e1] at hne
    rcases hcase with ⟨b, hb, hxv⟩ | ⟨h00, q, hxv⟩
    · obtain ⟨cur, hcur, hcsz, hlen, hmax, hrel⟩ := h3 b hb
      have holds : ∀ j u, (cur.toList.take (l0.length * ncell cd'))[j]? = some u → w.cell? ((⟨b, 0, none⟩ : Addr).add j) = some u := fun j u hj => by
        obtain ⟨hj1, hj2⟩ := List.getElem?_eq_some_iff.1 hj
        have hj3 : j < cur.size := by simp at hj1; omega
        rw [addr_add, Nat.zero_add, cell_at hcur hj3, ← hj2]
        simp [Array.getD, hj3]
      have hcl2 : l0.length * ncell cd' ≤ cur.size := by
        have h4 : l0.length * ncell cd' ≤ m.cap * ncell cd' := Nat.mul_le_mul_right _ hlen
        omega
      have oldr : ∀ i, i < l0.length → ∀ j, j < ncell cd' → VRel w S μ ((rowAV cd' l0 i).getD j .undef) ((cur.toList.take (l0.length * ncell cd')).getD (i * ncell cd' + j) Go.undef) := fun i' hi' j hj => by
        have := hrel i' hi' j hj
        have hlt := row_le hi' hj
        have hlt2 : i' * ncell cd' + j < cur.size := by omega
        simpa [List.getD_eq_getElem?_getD, List.getElem?_take_of_lt hlt, Array.getD, hlt2] using this
      have allr := rows_append (l' := lx) (ys := news) (by simp; omega) oldr hnr
      by_cases hroom : m.n + lx.length ≤ m.cap
      · have hfit : m.n * i.size + news.length ≤ cur.size := by
          rw [hnl, hcsz, s2, ← Nat.add_mul]; exact Nat.mul_le_mul_right _ hroom
        have hr := run_append_room (P := P) w t o.type e i hu hi b m.n m.cap cur hcur ad lx.length capy news (by rw [hnl, s2]) hcells hone hroom hfit
        refine fin K Q _ _ (by rw [hxv, hyv]; exact hr) (hK _ _ ?_)
        have E : Evo w S μ (w.setRow b (cur.toList.take (m.n * i.size) ++ news ++ cur.toList.drop (m.n * i.size + news.length)).toArray) S (μ.add (base + 1) { m with n := m.n + lx.length }) := by
          refine ⟨rfl, rfl, rfl, by simp, ?_, fun _ => Iff.rfl, fun _ h => h, fun _ h => .inl h, MM.ext_add hbase⟩
          intro p b' hsb
          exact setRow_other w b b' _ fun eb => H.sep id m b p (by rw [hh]; simp) hm hb (eb ▸ hsb)
        refine ⟨S, _, E, .own (m := { m with n := m.n + lx.length }) MM.add_same hb, H.move E hbase hh hm rfl (fun b' hb' _ => setRow_other w b b' _ (hb' b hb)) ⟨by simp [h1], h2, .inr ⟨b, _, hb, setRow_heap w b cur _ e (0, 0) hcur, ?_, by simp; omega, hmax, fun i' hi' j hj => ?_⟩⟩, frame (w' := w)⟩
        · have : (cur.toList.take (m.n * i.size) ++ news ++ cur.toList.drop (m.n * i.size + news.length)).length = cur.size := by simp; omega
          rw [List.size_toArray, this]; exact hcsz
        · have h5 := (allr i' hi' j hj).evo E
          have hlt : i' * ncell cd' + j < (l0 ++ lx).length * ncell cd' := row_le hi' hj
          have hlt2 : i' * ncell cd' + j < (cur.toList.take (m.n * i.size) ++ news).length := by
            simp only [List.length_append, List.length_take, Array.length_toList, hnl]
            rw [List.length_append, Nat.add_mul] at hlt
            rw [h1, ← s2]
            omega
          have e3 : (cur.toList.take (m.n * i.size) ++ news ++ cur.toList.drop (m.n * i.size + news.length)).toArray.getD (i' * ncell cd' + j) Go.undef = (cur.toList.take (l0.length * ncell cd') ++ news).getD (i' * ncell cd' + j) Go.undef := by
            rw [h1, ← s2] at hlt2 ⊢
            rw [Array.getD, dif_pos (by simp only [List.size_toArray, List.length_append] at hlt2 ⊢; omega)]
            show (cur.toList.take (l0.length * ncell cd') ++ news ++ cur.toList.drop (l0.length * ncell cd' + news.length)).toArray[i' * ncell cd' + j]'_ = _
            simp only [List.getElem_toArray, List.getD_eq_getElem?_getD]
            rw [List.getElem_append_left hlt2, List.getElem?_eq_getElem hlt2]
            rfl
          rw [e3]; exact h5
      · have hr := run_append_grow (P := P) w t o.type e i v hu hi hv ⟨b, 0, none⟩ m.n m.cap (cur.toList.take (l0.length * ncell cd')) (by
          have e0 : (cur.toList.take (l0.length * ncell cd')).length = l0.length * ncell cd' := by simp; omega
          rw [e0, h1, s2]) holds ad lx.length capy news (by rw [hnl, s2]) hcells (by omega) (by omega) (growslice_fits (by omega) (bytes _ (by omega)))
        refine fin K Q _ _ (by rw [hxv, hyv]; exact hr) (hK _ _ ?_)
        have hge := grownCap_ge w (m.n + lx.length) m.cap e
        have := ok_newrow (c' := cd') (base := base) H hf (l := l0 ++ lx) (w' := w.drew.alloc (.cells ((cur.toList.take (l0.length * ncell cd')).toArray ++ news.toArray ++ Builtin.zeroCells v.cells (grownCap w (m.n + lx.length) m.cap e - (m.n + lx.length))) e)) (cap := grownCap w (m.n + lx.length) m.cap e) (.inr rfl) (by
            simp only [Array.size_append, List.size_toArray, size_zeroCells, hzl, hnl, List.length_take, Array.length_toList, ← s2]
            rw [show min (l0.length * ncell cd') cur.size = l0.length * ncell cd' by omega, ← Nat.add_mul, ← Nat.add_mul]
            congr 1
            omega) (by simp; omega) (grownCap_le_maxLen w (m.n + lx.length) m.cap e (by unfold maxLen; omega)) (by
            have := grown_rel (z := v) (k := grownCap w (m.n + lx.length) m.cap e - (m.n + lx.length)) (n := (l0 ++ lx).length) rfl (xs := cur.toList.take (l0.length * ncell cd') ++ news) (by simp [hnl, Nat.add_mul]; omega) allr
            simpa using this)
        obtain ⟨S', μ', E, hv', H', hfr⟩ := this
        refine ⟨S', μ', E, by simpa [h1] using hv', ?_, hfr⟩
        refine H'.sub fun i' ob hob => ?_
        by_cases e1 : i' = base + 1
        · subst e1; simpa [updH] using hob
        · by_cases e2 : i' = id
          · subst e2; simp [updH, nbeq_ne e1] at hob
          · simpa [updH, nbeq_ne e1, nbeq_ne e2] using hob
    · have hl0 : l0 = [] := List.eq_nil_of_length_eq_zero (by omega)
      subst hl0
      have := fresh ⟨q, hxv⟩
      refine this (fun p hp => by obtain rfl := List.mem_singleton.1 hp; simpa using hle) K Q fun y' w' hO => hK y' w' ?_
      obtain ⟨S', μ', E, hv', H', hfr⟩ := hO
      refine ⟨S', μ', E, hv', H'.sub fun i' ob hob => ?_, hfr⟩
      by_cases e1 : i' = base + 1
      · subst e1; simpa [updH] using hob
      · by_cases e2 : i' = id
        · subst e2; simp [updH, nbeq_ne e1] at hob
        · simpa [updH, nbeq_ne e1, nbeq_ne e2] using hob
  · trivial

theorem run_append_room_off {t ty e : TypeId} {i : TypeInfo} (ht : P.underlying t = some (.slice e)) (hi : P.info? e = some i)
    (g off sLen sCap : Nat) (cur : Array Value) (hg : w.heap[g]? = some (.cells cur e (0, 0)))
    (a : Addr) (m c : Nat) (news : List Value) (hl : news.length = m * i.size) (hnews : ∀ j u, news[j]? = some u → w.cell? (a.add j) = some u) (h1 : ∀ u ∈ news, u.oneCell' = true)
    (hroom : sLen + m ≤ sCap) (hfit : off + sLen * i.size + news.length ≤ cur.size) :
    (Builtin.append_ #[t, t] ty #[.slice (some ⟨g, off, none⟩) sLen sCap, .slice (some a) m c]).run P w =
      .ok (.slice (some ⟨g, off, none⟩) (sLen + m) sCap) (w.setRow g (cur.toList.take (off + sLen * i.size) ++ news ++ cur.toList.drop (off + sLen * i.size + news.length)).toArray) := by
  have hf := run_firstCells_some (P := P) w i.size m a m c news hl hnews
  have hst := run_storeCells_at P g (off + sLen * i.size) e news 0 cur w hg (by simpa using hfit) h1
  simp only [Nat.add_zero] at hst
  simp [Builtin.append_, run_underlying ht, sizeOf, typeInfo, hi, Builtin.lenOf, hroom, hf, Addr.add_lit, hst]
/-- A slice of one's own is the whole part of itself. -/
theorem own_sub (H : HRel w S μ h) {id e c c0 : Nat} {l : List (den c)} (hh : h id = some (.rows e c l)) {x : Value} (hx : VRel w S μ (.own id c0) x) : VRel w S μ (.sub id c 0 l.length) x := by
  obtain ⟨m, hm, hcase⟩ := hx.own_inv
  obtain ⟨h1, h2, h3⟩ := H.rows hh hm
  rcases hcase with ⟨b, hb, rfl⟩ | ⟨h0, q, rfl⟩
  · obtain ⟨cur, hcur, hcsz, hlen, _⟩ := h3 b hb
    have := VRel.sub (w := w) (S := S) (μ := μ) (id := id) (c := c) (lo := 0) (n := l.length) (cap := m.cap) hm hb h2 (by omega) ⟨hlen, by omega⟩
    rw [Nat.zero_mul, ← h1] at this
    rw [← h1]; exact this
  · rw [show l.length = 0 by omega]
    exact .sub_zero q rfl
theorem ok_appendS (H : HRel w S μ h) (hf : ∀ id, base ≤ id → id < base + 10 → μ id = none) {c : Call} {x y : Operand} {vy : AV} {id c' lo k : Nat} (ho : o.op = .call c) (hc : c.callee = .builtin .append) (ha : c.args.toList = [x, y]) (hx : VRel w S μ (.sub id c' lo k) (a.eval x)) (hy : VRel w S μ vy (a.eval y)) : DescOK P a o w S μ h base (appendS P h base c.argTypes.toList id lo k vy) := by
  have hargs : c.args = #[x, y] := by rw [← Array.toArray_toList (xs := c.args), ha]
  unfold appendS
  split
  case h_2 => trivial
  rename_i t t' hts
  by_cases htt : Nat.beq t t' = true
  case neg => simp only [htt, cond_false]; trivial
  simp only [htt, cond_true]
  have htt' := Nat.eq_of_beq_eq_true htt
  subst htt'
  have hat : c.argTypes = #[t, t] := by rw [← Array.toArray_toList (xs := c.argTypes), hts]
  split
  case h_2 => trivial
  rename_i e he
  split
  case h_2 => trivial
  rename_i cd z i hcd hz hi
  by_cases hs : (Nat.beq z.length i.size && Nat.beq (ncell cd) i.size && Nat.blt 0 i.size && Nat.ble i.bytes 2048) = true
  case neg => simp only [hs, cond_false]; trivial
  simp only [hs, cond_true]
  simp only [Bool.and_eq_true] at hs
  have s1 : z.length = i.size := Nat.eq_of_beq_eq_true hs.1.1.1
  have s2 : ncell cd = i.size := Nat.eq_of_beq_eq_true hs.1.1.2
  have s3 : 0 < i.size := Nat.le_of_ble_eq_true hs.1.2
  have s4 : i.bytes ≤ 2048 := Nat.le_of_ble_eq_true hs.2
  have hu : P.underlying t = some (.slice e) := by
    unfold Proofs.Ytemffnpliflkgaa.elemOf at he
    split at he
    · simp only [Option.some.injEq] at he; subst he; assumption
    · cases he
  obtain ⟨i', v, hi', hv, rfl⟩ := tzero_spec hz
  rw [hi] at hi'; cases hi'
  have hzl : v.cells.size = i.size := by have := (flat_zero (w := w) (S := S) (μ := μ) v).len; simp at this; omega
  split
  case h_2 => trivial
  rename_i lx hlx
  obtain ⟨news, hnl, hnr, hsrc⟩ := content_src H hlx hy
  have hone := news_one hnl hnr
  have fin : ∀ (K : Act → World → Prop) (Q : Exit → Act → World → Prop) y' w', (Builtin.append_ #[t, t] o.type #[a.eval x, a.eval y]).run P w = .ok y' w' → K (a.put o.dst y') w' → o.wp P a w K Q := fun K Q y' w' hr hk =>
    wp_val (exec_builtin ho hc fun _ => by simp [builtin, hat, hargs, hr]) hk
  have bytes : ∀ n : Nat, n ≤ 68719476736 → n * i.bytes ≤ 140737488355328 := fun n hn => by
    have : n * i.bytes ≤ 68719476736 * 2048 := Nat.mul_le_mul hn s4
    omega
  have hbase := hf (base + 1) (by omega) (by omega)
  split
  case h_2 => trivial
  rename_i e' cd' l0 hh
  by_cases hee : Nat.beq e e' = true
  case neg => simp only [hee, cond_false]; trivial
  simp only [hee, cond_true]
  have hee' := Nat.eq_of_beq_eq_true hee
  subst hee'
  split
  case h_2 => trivial
  rename_i l hcl
  obtain ⟨ec, rfl⟩ := castL_spec hcl
  subst ec
  simp only
  intro hp K Q hK
  have hlk : lo + k = l0.length := hp _ (by simp)
  have hpos : 0 < lx.length := hp _ (by simp)
  have hle : k + lx.length ≤ 68719476736 := hp _ (by simp)
  obtain ⟨ad, capy, hyv, hcells⟩ : ∃ ad cap, a.eval y = .slice (some ad) lx.length cap ∧ ∀ j u, news[j]? = some u → w.cell? (ad.add j) = some u := by
    rcases hsrc with h1 | ⟨h1, _⟩
    · exact h1
    · rw [h1] at hpos; simp at hpos
  -- a new block
  have moved : ∀ {l1 : List (den cd')} {cur : Array Value} {cap : Nat} {w' : World}, l1 = l0.drop lo ++ lx → Out w S μ h base (.own (base + 1) cd') [(base + 1, some (.rows e cd' l1))] w' (.slice (some ⟨w.heap.size, 0, none⟩) l1.length cap) → Out w S μ h base (.sub (base + 1) cd' 0 (k + lx.length)) [(id, none), (base + 1, some (.rows e cd' l1))] w' (.slice (some ⟨w.heap.size, 0, none⟩) l1.length cap) := fun {l1 cur cap w'} el ⟨S', μ', E, hv', H', hfr⟩ => by
    have hs2 := own_sub H' (id := base + 1) (e := e) (l := l1) (by simp [updH]) hv'
    have ek : l1.length = k + lx.length := by rw [el]; simp; omega
    rw [ek] at hs2
    rw [ek]
    rw [ek] at hv'
    refine ⟨S', μ', E, hs2, ?_, hfr⟩
    refine H'.sub fun i' ob hob => ?_
    by_cases e1 : i' = base + 1
    · subst e1; simpa [updH] using hob
    · by_cases e2 : i' = id
      · subst e2; simp [updH, nbeq_ne e1] at hob
      · simpa [updH, nbeq_ne e1, nbeq_ne e2] using hob
  rcases hx.sub_inv with ⟨m, b, cap, hm, hb, hmc, hrn, ⟨hcap, hcap2⟩, hxv⟩ | ⟨h0, q, cap, hxv⟩
  · obtain ⟨h1, h2, h3⟩ := H.rows hh hm
    obtain ⟨cur, hcur, hcsz, hlen, hmax, hrel⟩ := h3 b hb
    have ecc : c' = cd' := by rw [← hmc, h2]
    subst ecc
    have hcl2 : l0.length * ncell c' ≤ cur.size := by
      have h4 : l0.length * ncell c' ≤ m.cap * ncell c' := Nat.mul_le_mul_right _ hlen
      omega
    have el0 : l0.length * ncell c' = lo * ncell c' + k * ncell c' := by rw [← hlk, Nat.add_mul]
    by_cases hroom : k + lx.length ≤ cap
    · have oldr : ∀ i, i < l0.length → ∀ j, j < ncell c' → VRel w S μ ((rowAV c' l0 i).getD j .undef) ((cur.toList.take (l0.length * ncell c')).getD (i * ncell c' + j) Go.undef) := fun i' hi' j hj => by
        have := hrel i' hi' j hj
        have hlt := row_le hi' hj
        have hlt2 : i' * ncell c' + j < cur.size := by omega
        simpa [List.getD_eq_getElem?_getD, List.getElem?_take_of_lt hlt, Array.getD, hlt2] using this
      have allr := rows_append (l' := lx) (ys := news) (by simp; omega) oldr hnr
      have hfit : l0.length * ncell c' + news.length ≤ cur.size := by
        rw [hnl, hcsz, ← Nat.add_mul]; exact Nat.mul_le_mul_right _ (by omega)
      have hr := run_append_room_off (P := P) (w := w) (ty := o.type) hu hi b (lo * ncell c') k cap cur hcur ad lx.length capy news (by rw [hnl, s2]) hcells hone hroom (by rw [← s2, ← el0]; exact hfit)
      rw [← s2, ← el0] at hr
      refine fin K Q _ _ (by rw [hxv, hyv]; exact hr) (hK (lo, l0 ++ lx) ⟨by rw [List.drop_append_of_le_length (by omega)], by simp; omega⟩ _ _ ?_)
      have E : Evo w S μ (w.setRow b (cur.toList.take (l0.length * ncell c') ++ news ++ cur.toList.drop (l0.length * ncell c' + news.length)).toArray) S (μ.add (base + 1) { m with n := m.n + lx.length }) := by
        refine ⟨rfl, rfl, rfl, by simp, ?_, fun _ => Iff.rfl, fun _ h => h, fun _ h => .inl h, MM.ext_add hbase⟩
        intro p b' hsb
        exact setRow_other w b b' _ fun eb => H.sep id m b p (by rw [hh]; simp) hm hb (eb ▸ hsb)
      refine ⟨S, _, E, .sub (m := { m with n := m.n + lx.length }) MM.add_same hb h2 (by show lo + (k + lx.length) ≤ m.n + lx.length; omega) ⟨hroom, hcap2⟩, H.move E hbase hh hm rfl (fun b' hb' _ => setRow_other w b b' _ (hb' b hb)) ⟨by simp [h1], h2, .inr ⟨b, _, hb, setRow_heap w b cur _ e (0, 0) hcur, ?_, by simp; omega, hmax, fun i' hi' j hj => ?_⟩⟩, fun id' hne => ?_⟩
      · have : (cur.toList.take (l0.length * ncell c') ++ news ++ cur.toList.drop (l0.length * ncell c' + news.length)).length = cur.size := by simp; omega
        rw [List.size_toArray, this]; exact hcsz
      · have h5 := (allr i' hi' j hj).evo E
        have hlt : i' * ncell c' + j < (l0 ++ lx).length * ncell c' := row_le hi' hj
        have hlt2 : i' * ncell c' + j < (cur.toList.take (l0.length * ncell c') ++ news).length := by
          simp only [List.length_append, List.length_take, Array.length_toList, hnl]
          rw [List.length_append, Nat.add_mul] at hlt
          omega
        have e3 : (cur.toList.take (l0.length * ncell c') ++ news ++ cur.toList.drop (l0.length * ncell c' + news.length)).toArray.getD (i' * ncell c' + j) Go.undef = (cur.toList.take (l0.length * ncell c') ++ news).getD (i' * ncell c' + j) Go.undef := by
          rw [Array.getD, dif_pos (by simp only [List.size_toArray, List.length_append] at hlt2 ⊢; omega)]
          show (cur.toList.take (l0.length * ncell c') ++ news ++ cur.toList.drop (l0.length * ncell c' + news.length)).toArray[i' * ncell c' + j]'_ = _
          simp only [List.getElem_toArray, List.getD_eq_getElem?_getD]
          rw [List.getElem_append_left hlt2, List.getElem?_eq_getElem hlt2]
          rfl
        rw [e3]; exact h5
      · by_cases e1 : id' = base + 1
        · right; omega
        · left; rwa [MM.add_ne e1] at hne
    · have hdl : (l0.drop lo).length = k := by simp; omega
      have holen : ((cur.toList.drop (lo * ncell c')).take (k * ncell c')).length = k * ncell c' := by simp; omega
      have holds : ∀ j u, ((cur.toList.drop (lo * ncell c')).take (k * ncell c'))[j]? = some u → w.cell? ((⟨b, lo * ncell c', none⟩ : Addr).add j) = some u := fun j u hj => by
        obtain ⟨hj1, hj2⟩ := List.getElem?_eq_some_iff.1 hj
        have hj3 : lo * ncell c' + j < cur.size := by rw [holen] at hj1; omega
        rw [addr_add, cell_at hcur hj3, ← hj2]
        simp [Array.getD, hj3]
      have oldr : ∀ i, i < (l0.drop lo).length → ∀ j, j < ncell c' → VRel w S μ ((rowAV c' (l0.drop lo) i).getD j .undef) (((cur.toList.drop (lo * ncell c')).take (k * ncell c')).getD (i * ncell c' + j) Go.undef) := fun i' hi' j hj => by
        rw [hdl] at hi'
        have := hrel (lo + i') (by omega) j hj
        have hlt : i' * ncell c' + j < k * ncell c' := row_le hi' hj
        have e4 : rowAV c' (l0.drop lo) i' = rowAV c' l0 (lo + i') := by unfold rowAV; simp [List.getD_eq_getElem?_getD, List.getElem?_drop]
        have e5 : (lo + i') * ncell c' + j = lo * ncell c' + (i' * ncell c' + j) := by rw [Nat.add_mul]; omega
        have hlt2 : lo * ncell c' + (i' * ncell c' + j) < cur.size := by omega
        rw [e4]
        rw [e5] at this
        simpa [List.getD_eq_getElem?_getD, List.getElem?_take_of_lt hlt, List.getElem?_drop, Array.getD, hlt2] using this
      have allr := rows_append (l' := lx) (ys := news) (by rw [holen, hdl]) oldr hnr
      have hr := run_append_grow (P := P) w t o.type e i v hu hi hv ⟨b, lo * ncell c', none⟩ k cap ((cur.toList.drop (lo * ncell c')).take (k * ncell c')) (by rw [holen, s2]) holds ad lx.length capy news (by rw [hnl, s2]) hcells (by omega) (by omega) (growslice_fits (by omega) (bytes _ (by omega)))
      refine fin K Q _ _ (by rw [hxv, hyv]; exact hr) (hK (0, l0.drop lo ++ lx) ⟨rfl, by simp; omega⟩ _ _ ?_)
      have hge := grownCap_ge w (k + lx.length) cap e
      have := ok_newrow (c' := c') (base := base) H hf (l := l0.drop lo ++ lx) (w' := w.drew.alloc (.cells (((cur.toList.drop (lo * ncell c')).take (k * ncell c')).toArray ++ news.toArray ++ Builtin.zeroCells v.cells (grownCap w (k + lx.length) cap e - (k + lx.length))) e)) (cap := grownCap w (k + lx.length) cap e) (.inr rfl) (by
          simp only [Array.size_append, List.size_toArray, size_zeroCells, hzl, hnl, holen, ← s2]
          rw [← Nat.add_mul, ← Nat.add_mul]
          congr 1
          omega) (by rw [List.length_append, hdl]; omega) (grownCap_le_maxLen w (k + lx.length) cap e (by unfold maxLen; omega)) (by
          have := grown_rel (z := v) (k := grownCap w (k + lx.length) cap e - (k + lx.length)) (n := (l0.drop lo ++ lx).length) rfl (xs := (cur.toList.drop (lo * ncell c')).take (k * ncell c') ++ news) (by rw [List.length_append, holen, hnl, List.length_append, hdl, Nat.add_mul]) allr
          simpa using this)
      have e6 : (l0.drop lo ++ lx).length = k + lx.length := by rw [List.length_append, hdl]
      have := moved (cur := cur) rfl this
      rw [e6] at this
      exact this
  · subst h0
    have ed : l0.drop lo = [] := List.drop_of_length_le (by omega)
    have hr := run_append_fresh (P := P) (w := w) (ty := o.type) hu hi hv (q := q) (ad := ad) (n := lx.length) (c := capy) (news := news) (by rw [hnl, s2]) hcells hpos (by omega) (bytes _ (by omega))
    refine fin K Q _ _ (by rw [hxv, hyv, Nat.zero_mul]; exact hr) (hK (0, lx) ⟨by rw [ed]; rfl, by simp⟩ _ _ ?_)
    have hge := grownCap_ge w lx.length 0 e
    refine moved (cur := #[]) (by rw [ed]; rfl) (ok_newrow H hf (.inr rfl) ?_ hge (grownCap_le_maxLen w lx.length 0 e (by unfold maxLen; omega)) (grown_rel rfl hnl hnr))
    simp only [Array.size_append, List.size_toArray, size_zeroCells, hzl, hnl, ← s2, ← Nat.add_mul]
    congr 1
    omega
end
end Go.Proofs.Ytemffnpliflkgaa
