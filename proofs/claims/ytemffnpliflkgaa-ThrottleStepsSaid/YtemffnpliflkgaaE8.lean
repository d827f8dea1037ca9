/-
  Lemmas and contracts on the way to the laws of this seat; each theorem states its own conditions, and there are no others.
-/
import Derived.Test.YtemffnpliflkgaaE7
namespace Go.Proofs.Ytemffnpliflkgaa
open Go
set_option linter.unusedVariables false
set_option linter.unusedSimpArgs false
section
variable {P : Program} {a : Act} {o : Oper} {w : World} {S : SS} {μ : MM} {h : Nat → Option OB} {base : Nat}

theorem sizeIs_spec {n : Nat} {x : Option Nat} (hh : sizeIs n x = true) : x = some n := by
  unfold sizeIs at hh
  split at hh
  · rw [Nat.eq_of_beq_eq_true hh]
  · cases hh

theorem run_part {t : TypeId} {n : Nat} {g : Bool} (ht : tkind P t = some (n, g)) {cs : List AV} {off : Nat} (hl : off + n ≤ cs.length) {v : AV} (hv : mkA g ((cs.drop off).take n) = some v) {vs : Array Value} (hs : cs.length = vs.size)
    (hr : ∀ j, j < cs.length → VRel w S μ (cs.getD j .undef) (vs.getD j Go.undef)) : ∃ x, (part t vs off).run P w = .ok x w ∧ VRel w S μ v x := by
  unfold tkind at ht
  split at ht
  · rename_i i d hi hd
    simp only [Option.some.injEq, Prod.mk.injEq] at ht
    obtain ⟨rfl, rfl⟩ := ht
    have len : ((cs.drop off).take i.size).length = i.size := by simp; omega
    have get : ∀ j, j < i.size → ((cs.drop off).take i.size).getD j .undef = cs.getD (off + j) .undef := fun j hj => by
      simp [List.getD_eq_getElem?_getD, List.getElem?_take_of_lt hj, List.getElem?_drop]
    have hsz : (sizeOf t).run P w = .ok i.size w := by simp [sizeOf, typeInfo, hi]
    cases hg : aggD d with
    | true =>
      simp only [mkA, hg, cond_true, Option.some.injEq] at hv
      subst hv
      have hag : (isAgg t).run P w = .ok true w := by
        unfold isAgg
        rw [Sem.run_bind, run_underlying hd, Result.andThen_ok]
        cases d <;> first | rfl | (simp [aggD] at hg)
      refine ⟨.agg (vs.extract off (off + i.size)), by simp only [part, Sem.run_bind, hag, Result.andThen_ok, if_true, hsz, Sem.run_pure], .agg (by simp [len]; omega) fun j hj => ?_⟩
      rw [len] at hj
      rw [get j hj]
      have h1 := hr (off + j) (by omega)
      have h2 : off + j < vs.size := by omega
      have h3 : (vs.extract off (off + i.size)).getD j Go.undef = vs.getD (off + j) Go.undef := by
        rw [Array.getD, dif_pos (by simp; omega), Array.getD, dif_pos h2]
        simp
      rw [h3]; exact h1
    | false =>
      simp only [mkA, hg, cond_false] at hv
      split at hv
      · rename_i v' hv'
        simp only [Option.some.injEq] at hv
        subst hv
        rw [hv'] at len
        have e1 : i.size = 1 := by simpa using len.symm
        have h0 := get 0 (by omega)
        rw [hv'] at h0
        have hag : (isAgg t).run P w = .ok false w := by
          unfold isAgg
          rw [Sem.run_bind, run_underlying hd, Result.andThen_ok]
          cases d <;> first | rfl | (simp [aggD] at hg)
        have h2 : off < vs.size := by omega
        refine ⟨vs[off], by simp [part, hag, h2], ?_⟩
        have : v' = cs.getD (off + 0) .undef := h0
        rw [this]
        have := hr (off + 0) (by omega)
        simpa [Array.getD, h2] using this
      · cases hv
  · cases ht

theorem ok_field (H : HRel w S μ h) {s : TypeId} {x : Operand} {f : Nat} {va : AV} (ho : o.op = .field s x f) (hx : VRel w S μ va (a.eval x)) : DescOK P a o w S μ h base (fieldA P s f va) := by
  unfold fieldA
  split
  case h_2 => trivial
  rename_i cs
  split
  case h_2 => trivial
  rename_i fd hf
  split
  case h_2 => trivial
  rename_i n g ht
  by_cases hle : Nat.ble (fd.offset + n) cs.length = true
  · simp only [hle, cond_true]
    have hle' := Nat.le_of_ble_eq_true hle
    refine ok_val1 H fun v hv => ?_
    obtain ⟨vs, hl, hrel, hx'⟩ := hx.agg_inv
    obtain ⟨y, hy, hv'⟩ := run_part ht hle' hv hl hrel
    refine ⟨y, ?_, hv'⟩
    unfold fieldOf at hf
    split at hf
    · rename_i fs hfs
      simp only [execOp, ho, Sem.run_bind, Instr.field, run_underlying hfs, Result.andThen_ok, hf, hx', asAgg, Sem.run_pure, hy]
    · cases hf
  · simp only [hle, cond_false]; trivial

theorem elemSize_slice {t : TypeId} {n : Nat} (hh : elemSize P t = some (n + 1)) : ∃ e i, P.underlying t = some (.slice e) ∧ P.info? e = some i ∧ i.size = n + 1 := by
  unfold elemSize at hh
  split at hh
  · rename_i e he
    unfold tsize at hh
    split at hh
    · rename_i i hi
      exact ⟨e, i, he, hi, by simpa using hh⟩
    · cases hh
  · simp at hh
  · cases hh

theorem run_indexAt {t e : TypeId} {i : TypeInfo} (hu : P.underlying t = some (.slice e)) (hi : P.info? e = some i) {b off len cap : Nat} {k : IntKind} {n : Int} (h0 : 0 ≤ n) (h1 : n < len) :
    (Instr.indexAt t (.slice (some ⟨b, off, none⟩) len cap) (.int k n)).run P w = .ok (.pointer (some ⟨b, off + n.toNat * i.size, none⟩)) w := by
  have hsz : (sizeOf e).run P w = .ok i.size w := by simp [sizeOf, typeInfo, hi]
  simp [Instr.indexAt, asIntOf, run_underlying hu, h0, h1, hsz, addr_add]

theorem ok_indexAddr (H : HRel w S μ h) {kk : Bool} {t : TypeId} {x y : Operand} {vx vy : AV} (ho : o.op = .indexAddr t x y) (hx : VRel w S μ vx (a.eval x)) (hy : VRel w S μ vy (a.eval y)) : DescOK P a o w S μ h base (indexAddrA P h t kk vx vy) := by
  unfold indexAddrA
  split
  case h_2 => trivial
  rename_i k n
  have hy' := hy.int_inv
  cases hP : idxP h (arrLen P t) kk n vx with
  | some d =>
    simp only
    unfold idxP at hP
    split at hP
    · rename_i id
      split at hP
      · rename_i N et cs hal hh
        by_cases hbq : Nat.beq cs.length N = true
        · simp only [hbq, cond_true, Option.some.injEq] at hP
          subst hP
          refine ok_pure H fun hp => ?_
          have hb : 0 ≤ n ∧ n < (N : Nat) := hp _ (by simp)
          obtain ⟨m, b, hm, hb', hx'⟩ := hx.ptr_inv
          obtain ⟨e, hu, hsz⟩ : ∃ e, P.underlying t = some (.array N e) ∧ (sizeOf e).run P w = .ok 1 w := by
            unfold arrLen at hal
            split at hal
            · rename_i N' e hu
              by_cases hs : sizeIs 1 (tsize P e) = true
              · simp only [hs, cond_true, Option.some.injEq] at hal
                subst hal
                have he := sizeIs_spec hs
                unfold tsize at he
                split at he
                · rename_i i hi
                  exact ⟨e, hu, by simp only [Option.some.injEq] at he; simp [sizeOf, typeInfo, hi, he]⟩
                · cases he
              · simp only [Bool.not_eq_true] at hs
                simp [hs] at hal
            · cases hal
          refine ⟨.pointer (some ⟨b, n.toNat, none⟩), ?_, by cases kk <;> first | exact .ptr hm hb' | exact .pix hm hb' (by omega)⟩
          simp [execOp, ho, hx', hy', Instr.indexAt, asIntOf, run_underlying hu, Instr.sureAddr, hb.1, hb.2, hsz, addr_add]
        · simp only [Bool.not_eq_true] at hbq
          simp [hbq] at hP
      · cases hP
    · cases hP
  | none =>
  simp only
  have run : ∀ b off len cap m, elemSize P t = some m → 0 < m → a.eval x = .slice (some ⟨b, off, none⟩) len cap → 0 ≤ n → n < len → (execOp a.eval o).run P w = .ok (.value (.pointer (some ⟨b, off + n.toNat * m, none⟩))) w := by
    intro b off len cap m hm hm0 hx' h0 h1
    obtain ⟨m', rfl⟩ : ∃ m', m = m' + 1 := ⟨m - 1, by omega⟩
    obtain ⟨e, i, hu, hi, hs⟩ := elemSize_slice hm
    simp only [execOp, ho, Sem.run_bind, hx', hy', run_indexAt hu hi h0 h1, Result.andThen_ok, Sem.run_pure, hs]
  unfold idxA
  split
  · rename_i id c'
    split
    case h_2 => trivial
    rename_i et c l hh
    by_cases hs : (sizeIs (ncell c) (elemSize P t) && Nat.blt 0 (ncell c)) = true
    · simp only [hs, cond_true]
      simp only [Bool.and_eq_true] at hs
      have he := sizeIs_spec hs.1
      have hc0 : 0 < ncell c := Nat.le_of_ble_eq_true hs.2
      refine ok_pure H fun hp => ?_
      have hb : 0 ≤ n ∧ n < (l.length : Nat) := hp _ (by simp)
      obtain ⟨m, hm, hcase⟩ := hx.own_inv
      obtain ⟨h1, h2, h3⟩ := H.rows hh hm
      rcases hcase with ⟨b, hb', hx'⟩ | ⟨h0, _⟩
      · refine ⟨_, run b 0 m.n m.cap _ he hc0 hx' hb.1 (by omega), ?_⟩
        have : (⟨b, 0 + n.toNat * ncell c, none⟩ : Addr) = ⟨b, n.toNat * ncell m.c + 0, none⟩ := by rw [h2]; simp
        rw [this]
        exact .ept hm hb' (by omega)
      · omega
    · simp only [hs, cond_false]; trivial
  · rename_i id c lo len
    by_cases hs : (sizeIs (ncell c) (elemSize P t) && Nat.blt 0 (ncell c)) = true
    · simp only [hs, cond_true]
      simp only [Bool.and_eq_true] at hs
      have he := sizeIs_spec hs.1
      have hc0 : 0 < ncell c := Nat.le_of_ble_eq_true hs.2
      refine ok_pure H fun hp => ?_
      have hb : 0 ≤ n ∧ n < (len : Nat) := hp _ (by simp)
      rcases hx.sub_inv with ⟨m, b, cap, hm, hb', hmc, hr, hc, hx'⟩ | ⟨h0, _⟩
      · refine ⟨_, run b _ len cap _ he hc0 hx' hb.1 (by omega), ?_⟩
        have : (⟨b, lo * ncell c + n.toNat * ncell c, none⟩ : Addr) = ⟨b, (lo + n.toNat) * ncell m.c + 0, none⟩ := by rw [hmc, Nat.add_mul]; rfl
        rw [this]
        exact .ept hm hb' (by omega)
      · omega
    · simp only [hs, cond_false]; trivial
  · rename_i p c l
    by_cases hs : (sizeIs (ncell c) (elemSize P t) && Nat.blt 0 (ncell c)) = true
    · simp only [hs, cond_true]
      simp only [Bool.and_eq_true] at hs
      have he := sizeIs_spec hs.1
      have hc0 : 0 < ncell c := Nat.le_of_ble_eq_true hs.2
      refine ok_pure H fun hp => ?_
      have hb : 0 ≤ n ∧ n < (l.length : Nat) := hp _ (by simp)
      rcases hx.irec_inv with ⟨u, b, off, cap, hS, hn, hc, hrel, hx'⟩ | ⟨h0, _⟩
      · refine ⟨_, run b off l.length cap _ he hc0 hx' hb.1 hb.2, ?_⟩
        have hlen : (rowAV c l n.toNat).length = ncell c := enc_len c _
        refine .ipt (fun j => u n.toNat j) hS (fun j hj => ?_) (fun j hj => ?_)
        · exact hc n.toNat (by omega) j (by omega)
        · rw [Nat.zero_add]; exact hrel n.toNat (by omega) j (by omega)
      · rw [h0] at hb; simp at hb; omega
    · simp only [hs, cond_false]; trivial
  · trivial

theorem exec_builtin {c : Call} {bi : Builtin} {v : Value} {w' : World} (ho : o.op = .call c) (hc : c.callee = .builtin bi) (hr : ∀ cs, (builtin bi c.argTypes o.type cs (c.args.map a.eval)).run P w = .ok (.value v) w') :
    (execOp a.eval o).run P w = .ok (.value v) w' := by
  simp only [execOp, ho, Sem.run_bind, resolve, hc, Sem.run_pure, Result.andThen_ok, invoke, hr]

theorem ok_len (H : HRel w S μ h) {c : Call} {x : Operand} {vx : AV} (ho : o.op = .call c) (hc : c.callee = .builtin .len) (ha : c.args.toList = [x]) (hx : VRel w S μ vx (a.eval x)) : DescOK P a o w S μ h base (lenD P h c.argTypes.toList vx) := by
  have hargs : c.args = #[x] := by rw [← Array.toArray_toList (xs := c.args), ha]
  unfold lenD
  split
  case h_2 => trivial
  rename_i t ht
  have hts : c.argTypes = #[t] := by rw [← Array.toArray_toList (xs := c.argTypes), ht]
  split
  · rename_i s
    by_cases hs : strTy P t = true
    · simp only [hs, cond_true]
      have hu : P.underlying t = some .string := by
        unfold strTy at hs; split at hs <;> first | assumption | cases hs
      refine ok_pure H fun _ => ⟨.int .i64 s.size, exec_builtin ho hc fun _ => ?_, .int _ _⟩
      cases hx' : a.eval x <;> (rw [hx'] at hx; cases hx)
      simp [builtin, Builtin.len_, hts, hargs, hx', run_underlying hu, goInt]
    · simp only [hs, cond_false]; trivial
  · by_cases hs : lenTy P t = true
    · simp only [hs, cond_true]
      obtain ⟨e, hu⟩ : ∃ e, P.underlying t = some (.slice e) := by
        unfold lenTy at hs; split at hs
        · exact ⟨_, by assumption⟩
        · cases hs
      have fin : ∀ (p : Option Addr) (n cap : Nat), a.eval x = .slice p n cap → (execOp a.eval o).run P w = .ok (.value (.int .i64 n)) w := fun p n cap hx' =>
        exec_builtin ho hc fun _ => (by simp [builtin, Builtin.len_, hts, hargs, hx', run_underlying hu, goInt])
      refine ok_val1 H fun v hv => ?_
      unfold lenA at hv
      split at hv
      · simp only [Option.some.injEq] at hv; subst hv
        cases hx' : a.eval x <;> (rw [hx'] at hx; cases hx)
        exact ⟨_, fin _ _ _ hx', .int _ _⟩
      · simp only [Option.some.injEq] at hv; subst hv
        rcases hx.sub_inv with ⟨m, b, cap, hm, hb', hmc, hr, hcc, hx'⟩ | ⟨h0, p, cap, hx'⟩
        · exact ⟨_, fin _ _ _ hx', .int _ _⟩
        · refine ⟨_, fin _ _ _ hx', ?_⟩
          rw [h0]; exact .int _ _
      · split at hv
        · rename_i r hr
          simp only [Option.some.injEq] at hv; subst hv
          unfold contentA at hr
          split at hr
          · rename_i id c'
            split at hr
            · rename_i et c'' l hh
              simp only [Option.some.injEq] at hr; subst hr
              obtain ⟨m, hm, hcase⟩ := hx.own_inv
              obtain ⟨h1, h2, h3⟩ := H.rows hh hm
              rcases hcase with ⟨b, hb', hx'⟩ | ⟨h0, p, hx'⟩
              · refine ⟨_, fin _ _ _ hx', ?_⟩
                rw [h1]; exact .int _ _
              · refine ⟨_, fin _ _ _ hx', ?_⟩
                rw [show l.length = 0 by omega]; exact .int _ _
            · cases hr
          · exfalso; rename_i hne; exact hne _ _ _ _ rfl
          · rename_i p c' l
            simp only [Option.some.injEq] at hr; subst hr
            rcases hx.irec_inv with ⟨u, b, off, cap, hS, hn, hcc, hrel, hx'⟩ | ⟨h0, p, cap, hx'⟩
            · exact ⟨_, fin _ _ _ hx', .int _ _⟩
            · refine ⟨_, fin _ _ _ hx', ?_⟩
              rw [h0]; exact .int _ _
          · cases hr
        · cases hv
    · simp only [hs, cond_false]; trivial

theorem ok_min (H : HRel w S μ h) {c : Call} {x y : Operand} {vx vy : AV} (ho : o.op = .call c) (hc : c.callee = .builtin .min) (ha : c.args.toList = [x, y]) (hx : VRel w S μ vx (a.eval x)) (hy : VRel w S μ vy (a.eval y)) : DescOK P a o w S μ h base (minA vx vy) := by
  have hargs : c.args = #[x, y] := by rw [← Array.toArray_toList (xs := c.args), ha]
  unfold minA
  split
  case h_2 => trivial
  rename_i k n k' m
  by_cases hk : kindEq k k' = true
  · simp only [hk, cond_true]
    have e := kindEq_spec hk
    subst e
    have hx' := hx.int_inv
    have hy' := hy.int_inv
    refine ok_pure H fun _ => ⟨.int k (min n m), exec_builtin ho hc fun _ => ?_, .int _ _⟩
    have : (if m < n then m else n) = min n m := by split <;> omega
    simp [builtin, Builtin.min_, hargs, hx', hy', Builtin.min2, this]
  · simp only [hk, cond_false]; trivial
theorem ok_max (H : HRel w S μ h) {c : Call} {x y : Operand} {vx vy : AV} (ho : o.op = .call c) (hc : c.callee = .builtin .max) (ha : c.args.toList = [x, y]) (hx : VRel w S μ vx (a.eval x)) (hy : VRel w S μ vy (a.eval y)) : DescOK P a o w S μ h base (maxA vx vy) := by
  have hargs : c.args = #[x, y] := by rw [← Array.toArray_toList (xs := c.args), ha]
  unfold maxA
  split
  case h_2 => trivial
  rename_i k n k' m
  by_cases hk : kindEq k k' = true
  · simp only [hk, cond_true]
    have e := kindEq_spec hk
    subst e
    have hx' := hx.int_inv
    have hy' := hy.int_inv
    refine ok_pure H fun _ => ⟨.int k (max n m), exec_builtin ho hc fun _ => ?_, .int _ _⟩
    have : (if m < n then n else m) = max n m := by split <;> omega
    have this' : (if n < m then m else n) = max n m := by split <;> omega
    simp [builtin, Builtin.max_, hargs, hx', hy', Builtin.max2, this, this']
  · simp only [hk, cond_false]; trivial

theorem ok_makeFunc (H : HRel w S μ h) {f : Fn} {p q : Array Operand} {vs : List AV} (ho : o.op = .makeFunc f p q) (hv : VRs w S μ vs ((p ++ q).toList.map a.eval)) : DescOK P a o w S μ h base (.det [] (.fn f (vs.take p.size) (vs.drop p.size)) []) := by
  have hlen : vs.length = p.size + q.size := by have := hv.len; simpa using this
  refine ok_pure H fun _ => ⟨.func f (p.map a.eval) (q.map a.eval), by simp [execOp, ho, Instr.makeFunc], .fn (by simp; omega) (fun i hi => ?_) (by simp; omega) (fun i hi => ?_)⟩
  · have hi' : i < p.size := by simp at hi; omega
    have := hv.get i (by omega)
    have e1 : (vs.take p.size).getD i .undef = vs.getD i .undef := by simp [List.getD_eq_getElem?_getD, List.getElem?_take_of_lt hi']
    have e2 : ((p ++ q).toList.map a.eval).getD i Go.undef = (p.map a.eval).getD i Go.undef := by
      simp [List.getD_eq_getElem?_getD, Array.getD, hi', List.getElem?_append]
    rw [e1, ← e2]; exact this
  · have hi' : i < q.size := by simp at hi; omega
    have := hv.get (p.size + i) (by omega)
    have e1 : (vs.drop p.size).getD i .undef = vs.getD (p.size + i) .undef := by simp [List.getD_eq_getElem?_getD, List.getElem?_drop]
    have e2 : ((p ++ q).toList.map a.eval).getD (p.size + i) Go.undef = (q.map a.eval).getD i Go.undef := by
      simp [List.getD_eq_getElem?_getD, Array.getD, hi', List.getElem?_append]
    rw [e1, ← e2]; exact this
end
end Go.Proofs.Ytemffnpliflkgaa
