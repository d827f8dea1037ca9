/-
  Lemmas and contracts on the way to the laws of this seat; each theorem states its own conditions, and there are no others.
-/
import Derived.Test.YtemffnpliflkgaaE12
import Derived.Laws.Tables
namespace Go.Proofs.Ytemffnpliflkgaa
open Go
set_option linter.unusedVariables false
set_option linter.unusedSimpArgs false
section
variable {P : Program} {a : Act} {o : Oper} {w : World} {S : SS} {μ : MM} {h : Nat → Option OB} {base : Nat}

inductive Pairs (w : World) (S : SS) (μ : MM) : List (Nat × AV) → List (Nat × Value) → Prop
  | nil : Pairs w S μ [] []
  | cons {i : Nat} {v : AV} {x : Value} {vs : List (Nat × AV)} {xs : List (Nat × Value)} (h : VRel w S μ v x) (t : Pairs w S μ vs xs) : Pairs w S μ ((i, v) :: vs) ((i, x) :: xs)

theorem pairs_of (ρ : Operand → Value) : ∀ (ps : List (Nat × Operand)) (vs : List AV), VRs w S μ vs (ps.map fun p => ρ p.2) → Pairs w S μ ((ps.map (·.1)).zip vs) (ps.map fun p => (p.1, ρ p.2))
  | [], vs, h => by cases h; exact .nil
  | p :: ps, vs, h => by
    cases h with
    | cons h t => exact .cons h (pairs_of ρ ps _ t)

theorem foldl_set (off : Nat) : ∀ (L : List Value) (k : Nat) (cs : Array Value), off + k + L.length ≤ cs.size → ((L.zipIdx k).foldl (fun cs (x : Value × Nat) => cs.setIfInBounds (off + x.2) x.1) cs).toList = cs.toList.take (off + k) ++ L ++ cs.toList.drop (off + k + L.length)
  | [], k, cs, h => by simp
  | v :: L, k, cs, h => by
    simp only [List.length_cons] at h
    simp only [List.zipIdx_cons, List.foldl_cons]
    rw [foldl_set off L (k + 1) _ (by simp; omega)]
    have hk : off + k < cs.size := by omega
    apply List.ext_getElem?
    intro j
    simp only [Array.toList_setIfInBounds, List.getElem?_append, List.length_append, List.length_take, List.length_set, Array.length_toList, List.getElem?_take, List.getElem?_drop, List.getElem?_set, List.length_cons]
    have q1 : min (off + (k + 1)) cs.size = off + k + 1 := by omega
    have q2 : min (off + k) cs.size = off + k := by omega
    rw [q1, q2]
    by_cases c1 : j < off + k
    · have c2 : j < off + k + 1 := by omega
      have c3 : j < off + (k + 1) := by omega
      have c4 : j < off + k + 1 + L.length := by omega
      have c5 : j < off + k + (L.length + 1) := by omega
      have c6 : ¬ off + k = j := by omega
      simp [c1, c2, c3, c4, c5, c6]
    · by_cases c2 : j = off + k
      · subst c2
        have c3 : off + k < off + (k + 1) := by omega
        have c4 : off + k < off + k + 1 + L.length := by omega
        have c5 : off + k < off + k + (L.length + 1) := by omega
        simp [c3, c4, c5, hk]
      · have c3 : ¬ j < off + k + 1 := by omega
        by_cases c4 : j < off + k + 1 + L.length
        · have c5 : j < off + k + (L.length + 1) := by omega
          have c6 : j - (off + k) = (j - (off + k + 1)) + 1 := by omega
          simp [c1, c3, c4, c5, c6]
        · have c5 : ¬ j < off + k + (L.length + 1) := by omega
          have c7 : off + (k + 1) + L.length + (j - (off + k + 1 + L.length)) = j := by omega
          have c8 : off + k + (L.length + 1) + (j - (off + k + (L.length + 1))) = j := by omega
          have c9 : ¬ off + k = j := by omega
          simp [c4, c5, c7, c8, c9]

theorem fill_rel (place : Nat → Option (Nat × Nat)) : ∀ {ps : List (Nat × AV)} {xs : List (Nat × Value)} {z z' : List AV} {cells : Array Value}, Pairs w S μ ps xs → fillA z (ps.map fun p => (place p.1, p.2)) = some z' → VRs w S μ z cells.toList →
    ∃ cells', Instr.fill place cells xs = some cells' ∧ VRs w S μ z' cells'.toList := by
  intro ps xs z z' cells hp
  induction hp generalizing z cells with
  | nil =>
    intro hf hz
    simp only [List.map_nil, fillA, Option.some.injEq] at hf
    subst hf
    exact ⟨cells, rfl, hz⟩
  | @cons i v x vs xs hv _ ih =>
    intro hf hz
    simp only [List.map_cons] at hf
    cases hpl : place i with
    | none => rw [hpl] at hf; simp [fillA] at hf
    | some on =>
      obtain ⟨off, n⟩ := on
      rw [hpl] at hf
      simp only [fillA] at hf
      by_cases hc : (okv v && Nat.beq v.flat.length n && Nat.ble (off + n) z.length) = true
      · simp only [hc, cond_true] at hf
        simp only [Bool.and_eq_true] at hc
        have c2 : v.flat.length = n := Nat.eq_of_beq_eq_true hc.1.2
        have c3 : off + n ≤ z.length := Nat.le_of_ble_eq_true hc.2
        obtain ⟨hfl, _⟩ := okv_cells hc.1.1 hv
        have hxl : x.cells.size = n := by have := hfl.len; simp at this; omega
        have hzl : z.length = cells.size := by have := hz.len; simpa using this
        have hcells : (x.cells.zipIdx.foldl (fun cs (c, j) => cs.setIfInBounds (off + j) c) cells).toList = cells.toList.take off ++ x.cells.toList ++ cells.toList.drop (off + x.cells.toList.length) := by
          rw [← Array.foldl_toList, Array.toList_zipIdx]
          have := foldl_set off x.cells.toList 0 cells (by simp; omega)
          simpa using this
        have hz2 := hz.splice hfl off
        rw [← hcells] at hz2
        obtain ⟨cells', h1, h2⟩ := ih hf hz2
        refine ⟨cells', ?_, h2⟩
        simp only [Instr.fill, hpl, hxl]
        have : ¬ (n ≠ n || decide (off + n > cells.size)) = true := by simp; omega
        rw [if_neg (by simpa using this)]
        exact h1
      · simp [hc] at hf

theorem sizes_places {fs : List Field} (hs : sizesOk P fs = true) : ∃ places : List (Nat × Nat), fs.mapM (fun f => (P.info? f.type).map fun i => (f.offset, i.size)) = some places ∧ ∀ i : Nat, places[i]? = placeIn P fs[i]? := by
  induction fs with
  | nil => exact ⟨[], by simp, fun i => by simp [placeIn]⟩
  | cons f r ih =>
    simp only [sizesOk, Bool.and_eq_true] at hs
    obtain ⟨pl, h1, h2⟩ := ih hs.2
    cases hi : P.info? f.type with
    | none => have := hs.1; simp [tsize, hi] at this
    | some i =>
      refine ⟨(f.offset, i.size) :: pl, by simp [List.mapM_cons, hi, h1], fun k => ?_⟩
      cases k with
      | zero => simp [placeIn, tsize, hi]
      | succ k => simpa using h2 k

theorem ok_build (H : HRel w S μ h) {t : TypeId} {parts : Array (Nat × Operand)} {vs : List AV} (ho : o.op = .build t parts) (hv : VRs w S μ vs (parts.toList.map fun p => a.eval p.2)) : DescOK P a o w S μ h base (.val1 (buildA P t ((parts.toList.map (·.1)).zip vs))) := by
  refine ok_val1 H fun v hb => ?_
  unfold buildA at hb
  split at hb
  · rename_i z fs hz hu
    by_cases hs : sizesOk P fs.toList = true
    · simp only [hs, cond_true] at hb
      split at hb
      · rename_i cs hf
        simp only [Option.some.injEq] at hb
        subst hb
        obtain ⟨i, zv, hi, hzv, rfl⟩ := tzero_spec hz
        obtain ⟨places, hp1, hp2⟩ := sizes_places hs
        have hpl : ∀ k : Nat, places.toArray[k]? = placeIn P fs[k]? := fun k => by
          have := hp2 k
          simpa using this
        have hpairs := pairs_of a.eval parts.toList vs hv
        have hf' : fillA (avOf zv).flat (((parts.toList.map (·.1)).zip vs).map fun p => (places.toArray[p.1]?, p.2)) = some cs := by
          rw [← hf]
          unfold partsS
          congr 1
          apply List.map_congr_left
          rintro ⟨k, v⟩ _
          simp only [hpl]
        obtain ⟨cells', h1, h2⟩ := fill_rel (w := w) (S := S) (μ := μ) (places.toArray[·]?) hpairs hf' (flat_zero zv)
        have hbuilt : P.built t (parts.map fun p => (p.1, a.eval p.2)).toList = some cells' := by
          unfold Program.built
          rw [hi, hu]
          simp only [hzv, hp1]
          simpa using h1
        have hrun := run_build (P := P) w t (parts.map fun p => (p.1, a.eval p.2)) cells' hbuilt
        refine ⟨.agg cells', by simp only [execOp, ho, Sem.run_bind, hrun, Result.andThen_ok, Sem.run_pure], .agg (by have := h2.len; simpa using this) fun i hi' => ?_⟩
        have := h2.get i hi'
        simpa [List.getD_eq_getElem?_getD, Array.getD_eq_getD_getElem?] using this
      · cases hb
    · simp [hs] at hb
  · rename_i z n e hz hu
    split at hb
    · rename_i m hm
      split at hb
      · rename_i cs hf
        simp only [Option.some.injEq] at hb
        subst hb
        obtain ⟨i, zv, hi, hzv, rfl⟩ := tzero_spec hz
        have hpairs := pairs_of a.eval parts.toList vs hv
        have hf' : fillA (avOf zv).flat (((parts.toList.map (·.1)).zip vs).map fun p => ((fun k : Nat => some (k * m, m)) p.1, p.2)) = some cs := hf
        obtain ⟨cells', h1, h2⟩ := fill_rel (w := w) (S := S) (μ := μ) (fun k : Nat => some (k * m, m)) hpairs hf' (flat_zero zv)
        have hbuilt : P.built t (parts.map fun p => (p.1, a.eval p.2)).toList = some cells' := by
          unfold Program.built
          rw [hi, hu]
          unfold tsize at hm
          cases he : P.info? e with
          | none => rw [he] at hm; simp at hm
          | some ie =>
            rw [he] at hm
            simp only [Option.map_some, Option.some.injEq] at hm
            subst hm
            simp only [hzv, he]
            simpa using h1
        have hrun := run_build (P := P) w t (parts.map fun p => (p.1, a.eval p.2)) cells' hbuilt
        refine ⟨.agg cells', by simp only [execOp, ho, Sem.run_bind, hrun, Result.andThen_ok, Sem.run_pure], .agg (by have := h2.len; simpa using this) fun i hi' => ?_⟩
        have := h2.get i hi'
        simpa [List.getD_eq_getElem?_getD, Array.getD_eq_getD_getElem?] using this
      · cases hb
    · cases hb
  · cases hb

theorem repl_len (z : List AV) : ∀ n, (repl n z).length = n * z.length
  | 0 => by simp [repl]
  | n + 1 => by simp [repl, repl_len z n, Nat.add_mul]; omega
theorem repl_get (z : List AV) : ∀ n k, k < n * z.length → (repl n z).getD k .undef = z.getD (k % z.length) .undef
  | 0, k, h => by simp at h
  | n + 1, k, h => by
    simp only [repl, List.getD_eq_getElem?_getD]
    by_cases hk : k < z.length
    · rw [List.getElem?_append_left hk, Nat.mod_eq_of_lt hk]
    · rw [List.getElem?_append_right (by omega)]
      have h2 : k - z.length < n * z.length := by rw [Nat.add_mul] at h; omega
      have := repl_get z n (k - z.length) h2
      simp only [List.getD_eq_getElem?_getD] at this
      rw [this]
      have : (k - z.length) % z.length = k % z.length := by
        rw [← Nat.sub_add_cancel (show z.length ≤ k by omega), Nat.add_mod_right]
        simp
      rw [this]

theorem chunks_len (m : Nat) : ∀ n (l : List AV), (chunks m n l).length = n
  | 0, _ => rfl
  | n + 1, l => by simp [chunks, chunks_len m n]
theorem chunks_rs {m : Nat} : ∀ {n : Nat} {cs : List AV} {xs : List Value}, VRs w S μ cs xs → ∀ i, i < n → VRs w S μ ((chunks m n cs).getD i []) ((xs.drop (i * m)).take m)
  | 0, _, _, _, i, hi => absurd hi (Nat.not_lt_zero _)
  | n + 1, cs, xs, h, i, hi => by
    cases i with
    | zero => simpa [chunks] using h.take m
    | succ i =>
      have := chunks_rs (m := m) (n := n) (h.drop m) i (by omega)
      rw [List.drop_drop] at this
      have e : m + i * m = (i + 1) * m := by rw [Nat.add_mul]; omega
      rw [e] at this
      simpa [chunks] using this

theorem fzAll_spec : ∀ {rs rs' : List (List AV)} {gone : List Nat}, fzAll h rs = some (rs', gone) → rs'.length = rs.length ∧ (∀ id ∈ gone, h id ≠ none) ∧
    ∀ (w : World) (S : SS) (μ : MM) (S' : SS), HRel w S μ h → Evo w S μ w S' μ → (∀ id ∈ gone, ∀ m b, μ id = some m → m.b = some b → S' true b) → ∀ i, i < rs.length → ∀ xs, VRs w S μ (rs.getD i []) xs → VRs w S' μ (rs'.getD i []) xs
  | [], rs', gone, hf => by
    simp only [fzAll, Option.some.injEq, Prod.mk.injEq] at hf
    obtain ⟨rfl, rfl⟩ := hf
    exact ⟨rfl, fun id hid => (by simp at hid), fun w S μ S' H E _ i hi => absurd hi (Nat.not_lt_zero _)⟩
  | r :: rs, rs', gone, hf => by
    simp only [fzAll] at hf
    split at hf
    · rename_i r1 g1 rs1 g2 h1 h2
      simp only [Option.some.injEq, Prod.mk.injEq] at hf
      obtain ⟨rfl, rfl⟩ := hf
      have s1 := fzs_spec h1
      have s2 := fzAll_spec h2
      refine ⟨by simp [s2.1], fun id hid => ?_, fun w S μ S' H E hs i hi xs hx => ?_⟩
      · rcases List.mem_append.1 hid with hid | hid
        · exact s1.1 id hid
        · exact s2.2.1 id hid
      · cases i with
        | zero => exact s1.2 w S μ xs S' H hx E fun id hid => hs id (by simp [hid])
        | succ i => exact s2.2.2 w S μ S' H E (fun id hid => hs id (by simp [hid])) i (by simpa using hi) xs hx
    · cases hf

theorem decAll_spec {c : Nat} : ∀ {rs : List (List AV)} {l : List (den c)}, decAll c rs = some l → l.length = rs.length ∧ ∀ i, i < rs.length → dec c (rs.getD i []) = some (l.getD i (dfl c))
  | [], l, hd => by
    simp only [decAll, Option.some.injEq] at hd
    subst hd
    exact ⟨rfl, fun i hi => absurd hi (Nat.not_lt_zero _)⟩
  | r :: rs, l, hd => by
    simp only [decAll] at hd
    split at hd
    · rename_i x xs h1 h2
      simp only [Option.some.injEq] at hd
      subst hd
      have s2 := decAll_spec h2
      refine ⟨by simp [s2.1], fun i hi => ?_⟩
      cases i with
      | zero => simpa using h1
      | succ i => simpa using s2.2 i (by simpa using hi)
    · cases hd

theorem ok_buildSlice (H : HRel w S μ h) (hf : ∀ id, base ≤ id → id < base + 10 → μ id = none) {t : TypeId} {n : Nat} {parts : Array (Nat × Operand)} {vs : List AV} (ho : o.op = .buildSlice t n parts) (hv : VRs w S μ vs (parts.toList.map fun p => a.eval p.2)) : DescOK P a o w S μ h base (buildSliceA P h base t n ((parts.toList.map (·.1)).zip vs)) := by
  unfold buildSliceA
  split
  case h_2 => trivial
  rename_i e he
  split
  case h_2 => trivial
  rename_i c z m hc hz hm
  by_cases hs : (Nat.beq z.length m && Nat.beq (ncell c) m && Nat.blt 0 m && Nat.ble (n * m) 16777216) = true
  case neg => simp only [hs, cond_false]; trivial
  simp only [hs, cond_true]
  simp only [Bool.and_eq_true] at hs
  have s1 : z.length = m := Nat.eq_of_beq_eq_true hs.1.1.1
  have s2 : ncell c = m := Nat.eq_of_beq_eq_true hs.1.1.2
  have s3 : 0 < m := Nat.le_of_ble_eq_true hs.1.2
  have s4 : n * m ≤ 16777216 := Nat.le_of_ble_eq_true hs.2
  have hu : P.underlying t = some (.slice e) := by
    unfold Proofs.Ytemffnpliflkgaa.elemOf at he
    split at he
    · simp only [Option.some.injEq] at he; subst he; assumption
    · cases he
  split
  case h_2 => trivial
  rename_i cs hfill
  split
  case h_2 => trivial
  rename_i rs gone hfz
  split
  case h_2 => trivial
  rename_i l hdec
  obtain ⟨i, zv, hi, hzv, rfl⟩ := tzero_spec hz
  have him : i.size = m := by unfold tsize at hm; rw [hi] at hm; simpa using hm
  have hzr := flat_zero (w := w) (S := S) (μ := μ) zv
  have hzl : zv.cells.size = m := by have := hzr.len; simp at this; omega
  have hpairs := pairs_of a.eval parts.toList vs hv
  intro _ K Q hK
  have hinit : VRs w S μ (repl n (avOf zv).flat) ((Array.range (n * m)).map (zv.cells[· % zv.cells.size]!)).toList := VRs.of (by simp [repl_len, s1]) fun k hk => by
    have hk' : k < n * m := by rw [repl_len, s1] at hk; exact hk
    rw [repl_get _ _ _ (by rw [s1]; exact hk'), s1]
    have hkm : k % m < m := Nat.mod_lt _ s3
    have := hzr.get (k % m) (by omega)
    simpa [List.getD_eq_getElem?_getD, hk', hzl, hkm] using this
  obtain ⟨cells', h1, h2⟩ := fill_rel (w := w) (S := S) (μ := μ) (fun i => some (i * m, m)) hpairs hfill hinit
  have hcl : cells'.size = n * m := by
    have h3 := h2.len
    have h4 := hinit.len
    -- the fill keeps the length
    have h5 : ∀ (ps : List (Option (Nat × Nat) × AV)) (z z' : List AV), fillA z ps = some z' → z'.length = z.length := by
      intro ps
      induction ps with
      | nil => intro z z' hh; simp only [fillA, Option.some.injEq] at hh; rw [hh]
      | cons p r ih =>
        intro z z' hh
        obtain ⟨pl, v⟩ := p
        cases pl with
        | none => simp [fillA] at hh
        | some on =>
          simp only [fillA] at hh
          by_cases hc : (okv v && Nat.beq v.flat.length on.2 && Nat.ble (on.1 + on.2) z.length) = true
          · simp only [hc, cond_true] at hh
            simp only [Bool.and_eq_true] at hc
            have c2 : v.flat.length = on.2 := Nat.eq_of_beq_eq_true hc.1.2
            have c3 : on.1 + on.2 ≤ z.length := Nat.le_of_ble_eq_true hc.2
            rw [ih _ _ hh]
            simp [Proofs.Ytemffnpliflkgaa.splice]; omega
          · simp [hc] at hh
    have h6 := h5 _ _ _ hfill
    rw [repl_len, s1] at h6
    simp at h3
    omega
  have hsz : (sizeOf e).run P w = .ok m w := by simp [sizeOf, typeInfo, hi, him]
  have hrun : (Instr.buildSlice t n (parts.map fun p => (p.1, a.eval p.2))).run P w = .ok (.slice (some ⟨w.heap.size, 0, none⟩) n n) (w.alloc (.cells cells' e)) := by
    have hbig : ¬ n * m > 2 ^ 24 := by omega
    have hfl : Instr.fill (fun i => some (i * m, m)) ((Array.range (n * m)).map (zv.cells[· % zv.cells.size]!)) (parts.map fun p => (p.1, a.eval p.2)).toList = some cells' := by simpa using h1
    have hzv' : (zeroValue e).run P w = .ok zv w := by simp [zeroValue, typeInfo, hi, hzv]
    by_cases h0 : n * m = 0
    · have hfl0 : Instr.fill (fun i => some (i * m, m)) ((Array.range (n * m)).map ((#[] : Array Value)[· % (#[] : Array Value).size]!)) (parts.map fun p => (p.1, a.eval p.2)).toList = some cells' := by
        have e0 : ∀ f : Nat → Value, (Array.range 0).map f = #[] := fun f => by simp
        rw [← hfl, h0, e0, e0]
      simp only [Instr.buildSlice, Sem.run_bind, run_underlying hu, Result.andThen_ok, hsz, hbig, if_false, if_pos h0, Sem.run_pure, hfl0, newRow, run_newObj]
      rfl
    · simp only [Instr.buildSlice, Sem.run_bind, run_underlying hu, Result.andThen_ok, hsz, hbig, if_false, if_neg h0, Sem.run_pure, hzv', hfl, newRow, run_newObj]
      rfl
  refine wp_val (w' := w.alloc (.cells cells' e)) (x := .slice (some ⟨w.heap.size, 0, none⟩) n n) (by simp only [execOp, ho, Sem.run_bind, hrun, Result.andThen_ok, Sem.run_pure]) (hK _ _ ?_)
  obtain ⟨f1, f2, f3⟩ := fzAll_spec hfz
  obtain ⟨d1, d2⟩ := decAll_spec hdec
  rw [chunks_len] at f1
  have hln : l.length = n := by omega
  obtain ⟨E1, H1⟩ := frz_evo H f2
  have hrel : ∀ i, i < l.length → ∀ j, j < ncell c → VRel w (frz S μ gone) μ ((rowAV c l i).getD j .undef) (cells'.getD (i * ncell c + j) Go.undef) := fun i hi' j hj => by
    have hin : i < n := by omega
    have g1 := chunks_rs (m := m) (n := n) h2 i hin
    have g2 := f3 w S μ _ H E1 frz_has i (by rw [chunks_len]; exact hin) _ g1
    have g3 := dec_rel (d2 i (by omega)) g2
    have g4 := g3.get j (by rw [enc_len]; exact hj)
    have hlt : i * ncell c + j < cells'.size := by rw [hcl, ← s2]; exact row_le hin hj
    have hjm : j < m := by omega
    have e5 : ((cells'.toList.drop (i * m)).take m).getD j Go.undef = cells'.getD (i * ncell c + j) Go.undef := by
      rw [s2] at hlt ⊢
      simp [List.getD_eq_getElem?_getD, List.getElem?_take_of_lt hjm, List.getElem?_drop, Array.getD, hlt]
    rw [e5] at g4
    exact g4
  have := ok_newrow (c' := c) (base := base) H1 hf (l := l) (w' := w.alloc (.cells cells' e)) (cap := n) (.inl rfl) (by rw [hcl, s2]) (by omega) (by unfold maxLen; have : n * 1 ≤ n * m := Nat.mul_le_mul_left _ s3; omega) hrel
  obtain ⟨S', μ', E, hv', H', hfr⟩ := this
  rw [hln] at hv'
  exact ⟨S', μ', E1.trans E, hv', by rw [updH_append]; exact H', hfr⟩
end
end Go.Proofs.Ytemffnpliflkgaa
