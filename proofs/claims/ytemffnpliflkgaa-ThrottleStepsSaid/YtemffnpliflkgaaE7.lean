/-
  Lemmas and contracts on the way to the laws of this seat; each theorem states its own conditions, and there are no others.
-/
import Derived.Test.YtemffnpliflkgaaE6
namespace Go.Proofs.Ytemffnpliflkgaa
open Go
set_option linter.unusedVariables false
set_option linter.unusedSimpArgs false
section
variable {P : Program} {a : Act} {o : Oper} {w : World} {S : SS} {μ : MM} {h : Nat → Option OB} {base : Nat}

theorem ok_not (H : HRel w S μ h) {t : TypeId} {x : Operand} {v : AV} (ho : o.op = .unOp .not t x) (hx : VRel w S μ v (a.eval x)) : DescOK P a o w S μ h base (notA v) := by
  have run : ∀ b, a.eval x = .bool b → (execOp a.eval o).run P w = .ok (.value (.bool (!b))) w := fun b hb => by
    simp [execOp, ho, hb, Op.unary]
  cases v
  case tt => cases hx' : a.eval x <;> (rw [hx'] at hx; cases hx); exact ok_pure H fun _ => ⟨_, run _ hx', .ff⟩
  case ff => cases hx' : a.eval x <;> (rw [hx'] at hx; cases hx); exact ok_pure H fun _ => ⟨_, run _ hx', .tt⟩
  case bool b => cases hx' : a.eval x <;> (rw [hx'] at hx; cases hx); exact ok_pure H fun _ => ⟨_, run _ hx', .bool _⟩
  all_goals trivial

theorem ok_neg (H : HRel w S μ h) {t : TypeId} {x : Operand} {v : AV} (ho : o.op = .unOp .neg t x) (hx : VRel w S μ v (a.eval x)) : DescOK P a o w S μ h base (negA v) := by
  unfold negA
  split
  case h_2 => trivial
  rename_i k n
  cases hx' : a.eval x <;> (rw [hx'] at hx; cases hx)
  refine ok_pure H fun hp => ⟨.int k (-n), ?_, .int _ _⟩
  have hk : kindR k (-n) := hp _ (by simp)
  have hk' : k.wrap (0 - n) = -n := by rw [show (0 - n : Int) = -n by omega]; exact wrap_in hk
  simp [execOp, ho, hx', Op.unary, Op.intArith, hk', wrap_in hk]

theorem ok_convert (H : HRel w S μ h) {s d : TypeId} {x : Operand} {k : IntKind} {n : Int} (ho : o.op = .convert s d x) (hx : VRel w S μ (.int k n) (a.eval x)) : DescOK P a o w S μ h base (convA P s d (.int k n)) := by
  unfold convA
  simp only
  cases hx' : a.eval x <;> (rw [hx'] at hx; cases hx)
  split
  · rename_i ds kd hs hd
    refine ok_pure H fun hp => ⟨.int kd n, ?_, .int _ _⟩
    have hk : kindR kd n := hp _ (by simp)
    have hc : ∀ w, (convert s d (.int k n)).run P w = .ok (.int kd n) w := fun w => by
      unfold convert
      rw [Sem.run_bind, run_underlying hs, Result.andThen_ok, Sem.run_bind, run_underlying hd, Result.andThen_ok]
      simp [Conv.intToInt, wrap_in hk]
    simp only [execOp, ho, Sem.run_bind, hx', hc, Result.andThen_ok, Sem.run_pure]
  · trivial

/-- The cells of a box that is one's own. -/
theorem HRel.cells (H : HRel w S μ h) {id : Nat} {et : TypeId} {cs : List AV} (hh : h id = some (.cells et cs)) {m : MI} {b : Nat} (hm : μ id = some m) (hb : m.b = some b) :
    ∃ cur, w.heap[b]? = some (.cells cur et (0, 0)) ∧ cs.length ≤ cur.size ∧ ∀ j, j < cs.length → VRel w S μ (cs.getD j .undef) (cur.getD j Go.undef) := by
  obtain ⟨m', hm', b', cur, h1, h2, h3, h4⟩ := H.blk id _ hh
  rw [hm] at hm'; cases hm'
  rw [hb] at h1; cases h1
  exact ⟨cur, h2, h3, h4⟩
theorem HRel.rows (H : HRel w S μ h) {id : Nat} {et : TypeId} {c : Nat} {l : List (den c)} (hh : h id = some (.rows et c l)) {m : MI} (hm : μ id = some m) : m.n = l.length ∧ m.c = c ∧ (∀ b, m.b = some b →
    ∃ cur : Array Value, w.heap[b]? = some (.cells cur et (0, 0)) ∧ cur.size = m.cap * ncell c ∧ l.length ≤ m.cap ∧ m.cap ≤ maxLen ∧ ∀ i, i < l.length → ∀ j, j < ncell c → VRel w S μ ((rowAV c l i).getD j .undef) (cur.getD (i * ncell c + j) Go.undef)) := by
  obtain ⟨m', hm', h1, h2, h3⟩ := H.blk id _ hh
  rw [hm] at hm'; cases hm'
  refine ⟨h1, h2, fun b hb => ?_⟩
  rcases h3 with ⟨_, h3⟩ | ⟨b', cur, h3, h4, h5, h6, h7, h8⟩
  · rw [hb] at h3; cases h3
  · rw [hb] at h3; cases h3
    exact ⟨cur, h4, h5, h6, h7, h8⟩

theorem cell_at {b : Nat} {cur : Array Value} {et : TypeId} {fr : Nat × Nat} (hb : w.heap[b]? = some (.cells cur et fr)) {i : Nat} (hi : i < cur.size) : w.cell? ⟨b, i, none⟩ = some (cur.getD i Go.undef) := by
  simp [World.cell?, hb, Array.getD, hi]

theorem row_le {i n m j : Nat} (hi : i < n) (hj : j < m) : i * m + j < n * m := by
  have : (i + 1) * m ≤ n * m := Nat.mul_le_mul_right m hi
  rw [Nat.add_mul] at this
  omega

theorem run_load1 {t : TypeId} {d : TypeDesc} (hd : P.underlying t = some d) (hg : aggD d = false) {ad : Addr} {v : Value} (hv : w.cell? ad = some v) : (Instr.loadAt t (.pointer (some ad))).run P w = .ok v w := by
  have hag : (isAgg t).run P w = .ok false w := by
    unfold isAgg
    rw [Sem.run_bind, run_underlying hd, Result.andThen_ok]
    cases d <;> first | rfl | (simp [aggD] at hg)
  simp only [Instr.loadAt, Instr.sureAddr, loadVar, Sem.run_bind, Sem.run_pure, Result.andThen_ok, hag, if_false, Bool.false_eq_true, run_load, hv]
theorem run_loadN {t : TypeId} {i : TypeInfo} {d : TypeDesc} (hi : P.info? t = some i) (hd : P.underlying t = some d) (hg : aggD d = true) {ad : Addr} {f : Nat → Value} (hv : ∀ j, j < i.size → w.cell? (ad.add j) = some (f j)) :
    (Instr.loadAt t (.pointer (some ad))).run P w = .ok (.agg ((List.range i.size).map f).toArray) w := by
  have hag : (isAgg t).run P w = .ok true w := by
    unfold isAgg
    rw [Sem.run_bind, run_underlying hd, Result.andThen_ok]
    cases d <;> first | rfl | (simp [aggD] at hg)
  have hs : (sizeOf t).run P w = .ok i.size w := by simp [sizeOf, typeInfo, hi]
  simp only [Instr.loadAt, Instr.sureAddr, loadVar, Sem.run_bind, Sem.run_pure, Result.andThen_ok, hag, if_true, hs, run_loadCells w ad i.size f hv]

/-- Cells one after the other, read as one value. -/
theorem load_cells {t : TypeId} {n : Nat} {g : Bool} (ht : tkind P t = some (n, g)) {cs : List AV} {off : Nat} (hl : off + n ≤ cs.length) {v : AV} (hv : mkA g ((cs.drop off).take n) = some v) {b o' : Nat} (f : Nat → Value)
    (hc : ∀ j, j < n → w.cell? ⟨b, o' + j, none⟩ = some (f j)) (hr : ∀ j, j < n → VRel w S μ (cs.getD (off + j) .undef) (f j)) :
    ∃ x, (Instr.loadAt t (.pointer (some ⟨b, o', none⟩))).run P w = .ok x w ∧ VRel w S μ v x := by
  unfold tkind at ht
  split at ht
  · rename_i i d hi hd
    simp only [Option.some.injEq, Prod.mk.injEq] at ht
    obtain ⟨rfl, rfl⟩ := ht
    have len : ((cs.drop off).take i.size).length = i.size := by simp; omega
    have get : ∀ j, j < i.size → ((cs.drop off).take i.size).getD j .undef = cs.getD (off + j) .undef := fun j hj => by
      simp [List.getD_eq_getElem?_getD, List.getElem?_take_of_lt hj, List.getElem?_drop]
    cases hg : aggD d with
    | true =>
      simp only [mkA, hg, cond_true, Option.some.injEq] at hv
      subst hv
      refine ⟨_, run_loadN hi hd hg (f := f) (fun j hj => by rw [addr_add]; exact hc j hj), .agg (by simp [len]) fun j hj => ?_⟩
      rw [len] at hj
      rw [get j hj]
      have : ((List.range i.size).map f).toArray.getD j Go.undef = f j := by simp [Array.getD, hj]
      rw [this]
      exact hr j hj
    | false =>
      simp only [mkA, hg, cond_false] at hv
      split at hv
      · rename_i v' hv'
        simp only [Option.some.injEq] at hv
        subst hv
        rw [hv'] at len
        have e1 : i.size = 1 := by simpa using len.symm
        have h0 := get 0 (by omega)
        rw [hv'] at h0
        refine ⟨f 0, run_load1 hd hg (by simpa using hc 0 (by omega)), ?_⟩
        have : v' = cs.getD (off + 0) .undef := h0
        rw [this]
        exact hr 0 (by omega)
      · cases hv
  · cases ht

/-- What is loaded, by whomever. -/
theorem loadA_run (H : HRel w S μ h) {t : TypeId} {n : Nat} {g : Bool} (ht : tkind P t = some (n, g)) {va v : AV} (hv : loadA h n g va = some v) {x : Value} (hx : VRel w S μ va x) : ∃ ad y, x = .pointer (some ad) ∧ (Instr.loadAt t x).run P w = .ok y w ∧ VRel w S μ v y := by
  unfold loadA at hv
  split at hv
  · rename_i id off
    split at hv
    · rename_i et cs hh
      by_cases hle : Nat.ble (off + n) cs.length = true
      · simp only [hle, cond_true] at hv
        have hle' : off + n ≤ cs.length := Nat.le_of_ble_eq_true hle
        obtain ⟨m, b, hm, hb, rfl⟩ := hx.ptr_inv
        obtain ⟨cur, hcur, hsz, hrel⟩ := H.cells hh hm hb
        obtain ⟨y, hy, hv'⟩ := load_cells ht hle' hv (b := b) (o' := off) (fun j => cur.getD (off + j) Go.undef) (fun j hj => cell_at hcur (by omega)) (fun j hj => hrel _ (by omega))
        exact ⟨_, y, rfl, hy, hv'⟩
      · simp [hle] at hv
    · cases hv
  · rename_i id c' r f
    split at hv
    · rename_i et c l hh
      by_cases hle : Nat.ble (f + n) (ncell c) = true
      · simp only [hle, cond_true] at hv
        have hle' : f + n ≤ ncell c := Nat.le_of_ble_eq_true hle
        obtain ⟨m, b, hm, hb, hr, rfl⟩ := hx.ept_inv
        obtain ⟨hn, hc, hblk⟩ := H.rows hh hm
        obtain ⟨cur, hcur, hsz, hlen, _, hrel⟩ := hblk b hb
        have hr' : r < l.length := by omega
        have hlr : (rowAV c l r).length = ncell c := enc_len c _
        obtain ⟨y, hy, hv'⟩ := load_cells ht (by omega) hv (b := b) (o' := r * ncell c + f) (fun j => cur.getD (r * ncell c + f + j) Go.undef) (fun j hj => cell_at hcur (by
            have := row_le hr' (show f + j < ncell c by omega)
            have h2 : l.length * ncell c ≤ m.cap * ncell c := Nat.mul_le_mul_right _ hlen
            omega)) (fun j hj => by
            have := hrel r hr' (f + j) (by omega)
            rwa [← Nat.add_assoc] at this)
        rw [hc]
        exact ⟨_, y, rfl, hy, hv'⟩
      · simp [hle] at hv
    · cases hv
  · rename_i p cs off
    by_cases hle : Nat.ble (off + n) cs.length = true
    · simp only [hle, cond_true] at hv
      have hle' : off + n ≤ cs.length := Nat.le_of_ble_eq_true hle
      obtain ⟨u, b, o', hs, hc, hrel, rfl⟩ := hx.ipt_inv
      obtain ⟨y, hy, hv'⟩ := load_cells ht hle' hv (b := b) (o' := o') u (fun j hj => hc j (by omega)) (fun j hj => hrel j (by omega))
      exact ⟨_, y, rfl, hy, hv'⟩
    · simp [hle] at hv
  · rename_i id i m
    split at hv
    · rename_i et cs hh
      by_cases hle : (Nat.beq n 1 && !g && Nat.beq cs.length m) = true
      · simp only [hle, cond_true, Option.some.injEq] at hv
        subst hv
        simp only [Bool.and_eq_true, Bool.not_eq_true'] at hle
        have hn := Nat.eq_of_beq_eq_true hle.1.1
        have hm := Nat.eq_of_beq_eq_true hle.2
        subst hn
        obtain ⟨m', b, h1, h2, h3, rfl⟩ := hx.pix_inv
        obtain ⟨cur, hcur, hsz, hrel⟩ := H.cells hh h1 h2
        have hlt : i.toNat < cs.length := by omega
        have hmk : mkA g ((cs.drop i.toNat).take 1) = some cs[i.toNat] := by
          rw [hle.1.2, List.drop_eq_getElem_cons hlt]; rfl
        obtain ⟨y, hy, hv'⟩ := load_cells ht (by omega) hmk (b := b) (o' := i.toNat) (fun j => cur.getD (i.toNat + j) Go.undef) (fun j hj => cell_at hcur (by omega)) (fun j hj => hrel _ (by omega))
        refine ⟨_, y, rfl, hy, .sel fun f hf => ?_⟩
        have hf' : fnOf cs[i.toNat] = some f := by
          rw [List.getElem?_map, List.getElem?_eq_getElem hlt] at hf
          simpa using hf
        unfold fnOf at hf'
        split at hf'
        · rename_i f' e
          cases hf'
          rw [e] at hv'
          cases hv' with
          | fn hl _ hl' _ =>
            rw [Array.eq_empty_of_size_eq_zero hl.symm, Array.eq_empty_of_size_eq_zero hl'.symm]
        · cases hf'
      · simp only [Bool.not_eq_true] at hle
        simp [hle] at hv
    · cases hv
  · cases hv
theorem ok_load (H : HRel w S μ h) {t : TypeId} {x : Operand} {va : AV} (ho : o.op = .load t x) (hx : VRel w S μ va (a.eval x)) : DescOK P a o w S μ h base (loadD P h t va) := by
  unfold loadD
  split
  · rename_i n g ht
    refine ok_val1 H fun v hv => ?_
    obtain ⟨_, y, _, hy, hv'⟩ := loadA_run H ht hv hx
    exact ⟨y, by simp only [execOp, ho, Sem.run_bind, hy, Result.andThen_ok, Sem.run_pure], hv'⟩
  · trivial

theorem ok_fieldAddr (H : HRel w S μ h) {s : TypeId} {x : Operand} {f : Nat} {va : AV} (ho : o.op = .fieldAddr s x f) (hx : VRel w S μ va (a.eval x)) : DescOK P a o w S μ h base (fieldAddrA P s f va) := by
  unfold fieldAddrA
  split
  · rename_i fd hf
    split
    · rename_i n hn
      refine ok_val1 H fun v hv => ?_
      unfold fieldOf at hf
      split at hf
      · rename_i fs hfs
        unfold tsize at hn
        split at hn
        · rename_i i hi
          simp only [Option.some.injEq] at hn
          have run : ∀ b off, a.eval x = .pointer (some ⟨b, off, none⟩) → (execOp a.eval o).run P w = .ok (.value (.pointer (some ⟨b, off + fd.offset, none⟩))) w := fun b off hx' => by
            have hs : (sizeOf fd.type).run P w = .ok i.size w := by simp [sizeOf, typeInfo, hi]
            have h0 : ¬ i.size = 0 := by omega
            simp only [execOp, ho, Sem.run_bind, hx', Instr.fieldAt, run_underlying hfs, Result.andThen_ok, hf, Instr.sureAddr, Sem.run_pure, fieldPlace, hs, h0, if_false, addr_add]
          unfold shiftA at hv
          split at hv
          · simp only [Option.some.injEq] at hv; subst hv
            obtain ⟨m, b, hm, hb, hx'⟩ := hx.ptr_inv
            exact ⟨_, run _ _ hx', .ptr hm hb⟩
          · simp only [Option.some.injEq] at hv; subst hv
            obtain ⟨m, b, hm, hb, hr, hx'⟩ := hx.ept_inv
            exact ⟨_, run _ _ hx', by rw [Nat.add_assoc]; exact .ept hm hb hr⟩
          · simp only [Option.some.injEq] at hv; subst hv
            obtain ⟨u, b, o', hs, hc, hrel, hx'⟩ := hx.ipt_inv
            exact ⟨_, run _ _ hx', .ipt (fun j => u (fd.offset + j)) hs (fun j hj => by rw [Nat.add_assoc]; exact hc _ (by omega)) (fun j hj => by rw [Nat.add_assoc]; exact hrel _ (by omega))⟩
          · cases hv
        · cases hn
      · cases hf
    · trivial
  · trivial

theorem ok_extract (H : HRel w S μ h) {x : Operand} {i : Nat} {v : AV} (ho : o.op = .extract x i) (hx : VRel w S μ v (a.eval x)) : DescOK P a o w S μ h base (extractA i v) := by
  unfold extractA
  split
  case h_2 => trivial
  rename_i l
  split
  · rename_i v hv
    have hi : i < l.length := (List.getElem?_eq_some_iff.1 hv).1
    obtain ⟨vs, hl, hrel, hx'⟩ := hx.tup_inv
    have hi' : i < vs.size := by omega
    refine ok_pure H fun _ => ⟨vs[i], ?_, ?_⟩
    · simp [execOp, ho, hx', Instr.extract, hi']
    · have := hrel i hi
      simpa [List.getD_eq_getElem?_getD, hv, Array.getD, hi'] using this
  · trivial
end
end Go.Proofs.Ytemffnpliflkgaa
