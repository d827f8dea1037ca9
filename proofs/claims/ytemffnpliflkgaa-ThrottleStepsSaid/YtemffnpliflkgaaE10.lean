/-
  Lemmas and contracts on the way to the laws of this seat; each theorem states its own conditions, and there are no others.
-/
import Derived.Test.YtemffnpliflkgaaEC
namespace Go.Proofs.Ytemffnpliflkgaa
open Go
set_option linter.unusedVariables false
set_option linter.unusedSimpArgs false
section
variable {P : Program} {a : Act} {o : Oper} {w : World} {S : SS} {μ : MM} {h : Nat → Option OB} {base : Nat}

theorem memN_iff {x : Nat} {l : List Nat} : memN x l = true ↔ x ∈ l := by
  induction l with
  | nil => simp [memN]
  | cons y r ih =>
    simp only [memN, List.mem_cons]
    by_cases e : x = y
    · subst e; simp
    · simp [nbeq_ne e, e, ih]
theorem updH_append (u v : Upd) : ∀ h : Nat → Option OB, updH h (u ++ v) = updH (updH h u) v := by
  induction u with
  | nil => intro h; rfl
  | cons x r ih => intro h; obtain ⟨id, o⟩ := x; exact ih _

theorem VRs.append {v1 v2 : List AV} {x1 x2 : List Value} (h1 : VRs w S μ v1 x1) (h2 : VRs w S μ v2 x2) : VRs w S μ (v1 ++ v2) (x1 ++ x2) := by
  induction h1 with
  | nil => exact h2
  | cons h _ ih => exact .cons h ih
theorem VRs.take {v : List AV} {x : List Value} (h : VRs w S μ v x) : ∀ n, VRs w S μ (v.take n) (x.take n) := by
  induction h with
  | nil => intro n; simp; exact .nil
  | cons h _ ih =>
    intro n
    cases n with
    | zero => exact .nil
    | succ n => exact .cons h (ih n)
theorem VRs.drop {v : List AV} {x : List Value} (h : VRs w S μ v x) : ∀ n, VRs w S μ (v.drop n) (x.drop n) := by
  induction h with
  | nil => intro n; simp; exact .nil
  | cons h t ih =>
    intro n
    cases n with
    | zero => exact .cons h t
    | succ n => exact ih n
theorem VRs.splice {cs vs : List AV} {xs ys : List Value} (h : VRs w S μ cs xs) (k : VRs w S μ vs ys) (off : Nat) : VRs w S μ (splice cs off vs) (xs.take off ++ ys ++ xs.drop (off + ys.length)) := by
  unfold Proofs.Ytemffnpliflkgaa.splice
  rw [k.len]
  exact ((h.take off).append k).append (h.drop _)

/-- The cells of a block as a list. -/
theorem cells_rs {cs : List AV} {cur : Array Value} (hsz : cs.length ≤ cur.size) (hrel : ∀ j, j < cs.length → VRel w S μ (cs.getD j .undef) (cur.getD j Go.undef)) : VRs w S μ cs (cur.toList.take cs.length) :=
  VRs.of (by simp; omega) fun i hi => by
    have := hrel i hi
    have hi' : i < cur.size := by omega
    simpa [List.getD_eq_getElem?_getD, List.getElem?_take_of_lt hi, Array.getD, hi'] using this
theorem rs_cells {cs : List AV} {cur : Array Value} (hsz : cs.length ≤ cur.size) (h : VRs w S μ cs (cur.toList.take cs.length)) : ∀ j, j < cs.length → VRel w S μ (cs.getD j .undef) (cur.getD j Go.undef) := fun j hj => by
  have := h.get j hj
  have hj' : j < cur.size := by omega
  simpa [List.getD_eq_getElem?_getD, List.getElem?_take_of_lt hj, Array.getD, hj'] using this

theorem run_storeAt {t : TypeId} {i : TypeInfo} (hi : P.info? t = some i) {b off : Nat} {cur : Array Value} {et : TypeId} {x : Value} (hcur : w.heap[b]? = some (.cells cur et (0, 0))) (hs : x.cells.size = i.size) (hfit : off + x.cells.toList.length ≤ cur.size) (h1 : ∀ u ∈ x.cells.toList, u.oneCell' = true) :
    (Instr.storeAt t (.pointer (some ⟨b, off, none⟩)) x).run P w = .ok () (w.setRow b (cur.toList.take off ++ x.cells.toList ++ cur.toList.drop (off + x.cells.toList.length)).toArray) := by
  have hsz : (sizeOf t).run P w = .ok i.size w := by simp [sizeOf, typeInfo, hi]
  have hst := run_storeCells_at P b off et x.cells.toList 0 cur w hcur (by simpa using hfit) h1
  simp only [Nat.add_zero] at hst
  simp only [Instr.storeAt, Instr.sureAddr, Sem.run_bind, Sem.run_pure, Result.andThen_ok, storeVar, hsz, hs, ne_eq, not_true_eq_false, if_false, hst]

theorem ok_store (H : HRel w S μ h) {t : TypeId} {x y : Operand} {va v : AV} (ho : o.op = .store t x y) (hx : VRel w S μ va (a.eval x)) (hy : VRel w S μ v (a.eval y)) : DescOK P a o w S μ h base (storeD P h t va v) := by
  unfold storeD
  by_cases hs : (okv v && sizeIs v.flat.length (tsize P t)) = true
  case neg => simp only [hs, cond_false]; trivial
  simp only [hs, cond_true]
  simp only [Bool.and_eq_true] at hs
  obtain ⟨hrs, h1⟩ := okv_cells hs.1 hy
  have hsz := sizeIs_spec hs.2
  obtain ⟨i, hi, hin⟩ : ∃ i, P.info? t = some i ∧ i.size = v.flat.length := by
    unfold tsize at hsz
    split at hsz
    · exact ⟨_, by assumption, by simpa using hsz⟩
    · cases hsz
  have hcn : (a.eval y).cells.toList.length = v.flat.length := hrs.len.symm
  have hcs : (a.eval y).cells.size = i.size := by rw [hin, ← hcn]; simp
  split
  case h_2 => trivial
  rename_i u hu
  intro _ K Q hK
  have fin : ∀ b off cur et, a.eval x = .pointer (some ⟨b, off, none⟩) → w.heap[b]? = some (.cells cur et (0, 0)) → off + v.flat.length ≤ cur.size →
      Out w S μ h base .undef u (w.setRow b (cur.toList.take off ++ (a.eval y).cells.toList ++ cur.toList.drop (off + v.flat.length)).toArray) Go.undef → o.wp P a w K Q := fun b off cur et hx' hcur hfit hO => by
    refine wp_skp ?_ (hK _ _ hO)
    have := run_storeAt (w := w) hi (x := a.eval y) hcur hcs (off := off) (by omega) h1
    rw [hcn] at this
    simp only [execOp, ho, Sem.run_bind, hx', this, Result.andThen_ok, Sem.run_pure]
  unfold storeA at hu
  split at hu
  · rename_i id off
    split at hu
    · rename_i et cs hh
      by_cases hle : Nat.ble (off + v.flat.length) cs.length = true
      · simp only [hle, cond_true, Option.some.injEq] at hu
        subst hu
        have hle' := Nat.le_of_ble_eq_true hle
        obtain ⟨m, b, hm, hb, hx'⟩ := hx.ptr_inv
        obtain ⟨cur, hcur, hcsz, hrel⟩ := H.cells hh hm hb
        refine fin b off cur et hx' hcur (by omega) ?_
        have hnew := (cells_rs hcsz hrel).splice hrs off
        have hlen : (splice cs off v.flat).length = cs.length := by simp [splice]; omega
        have hcur2 : (cur.toList.take off ++ (a.eval y).cells.toList ++ cur.toList.drop (off + v.flat.length)).length = cur.size := by simp [hcn]; omega
        obtain ⟨E, H'⟩ := H.write (cs := (cur.toList.take off ++ (a.eval y).cells.toList ++ cur.toList.drop (off + v.flat.length)).toArray) hh hm hb (ob' := .cells et (splice cs off v.flat)) (fun E => by
          refine ⟨b, _, hb, setRow_heap w b cur _ et (0, 0) hcur, by rw [hlen, List.size_toArray, hcur2]; exact hcsz, rs_cells (by rw [hlen, List.size_toArray, hcur2]; exact hcsz) ?_⟩
          have e : (cur.toList.take off ++ (a.eval y).cells.toList ++ cur.toList.drop (off + v.flat.length)).toArray.toList.take (splice cs off v.flat).length = (cur.toList.take cs.length).take off ++ (a.eval y).cells.toList ++ (cur.toList.take cs.length).drop (off + (a.eval y).cells.toList.length) := by
            rw [hlen, hcn]
            simp only [List.take_append, List.take_take, List.drop_take, List.length_append, List.length_take, hcn]
            have e1 : min off cs.length = off := by omega
            have e2 : min cs.length off = off := by omega
            have e3 : min off cur.toList.length = off := by simp; omega
            rw [e1, e2, e3, List.take_of_length_le (l := (a.eval y).cells.toList) (by omega)]
          rw [e]
          exact hnew.evo E)
        exact ⟨S, μ, E, .undef _, H', fun id hne => .inl hne⟩
      · simp [hle] at hu
    · cases hu
  · rename_i id c' r f
    split at hu
    · rename_i et c l hh
      by_cases hle : Nat.ble (f + v.flat.length) (ncell c) = true
      · simp only [hle, cond_true] at hu
        have hle' := Nat.le_of_ble_eq_true hle
        split at hu
        · rename_i vs' gone hfz
          split at hu
          · rename_i xx hdec
            by_cases hmem : memN id gone = true
            · simp [hmem] at hu
            simp only [hmem, cond_false, Option.some.injEq] at hu
            subst hu
            have hmem' : id ∉ gone := fun hc => hmem (memN_iff.2 hc)
            obtain ⟨m, b, hm, hb, hr, hx'⟩ := hx.ept_inv
            obtain ⟨hn, hc, hblk⟩ := H.rows hh hm
            obtain ⟨cur, hcur, hcsz, hlen, hmax, hrel⟩ := hblk b hb
            rw [hc] at hx'
            have hr' : r < l.length := by omega
            have hrm := row_le hr' (m := ncell c) (j := 0)
            have hroom : r * ncell c + ncell c ≤ cur.size := by
              have : (r + 1) * ncell c ≤ m.cap * ncell c := Nat.mul_le_mul_right _ (by omega)
              rw [Nat.add_mul] at this
              omega
            refine fin b (r * ncell c + f) cur et hx' hcur (by omega) ?_
            obtain ⟨hg1, hg2⟩ := fzs_spec hfz
            obtain ⟨E1, H1⟩ := frz_evo H hg1
            have hvs' := hg2 w S μ _ _ H hrs E1 frz_has
            have hh1 : updH h (gone.map (·, none)) id = some (.rows et c l) := by rw [updH_gone, if_neg hmem']; exact hh
            -- the row as it was and as it is
            have hrow : VRs w S μ (rowAV c l r) ((cur.toList.drop (r * ncell c)).take (ncell c)) := VRs.of (by simp [rowAV, enc_len]; omega) fun j hj => by
              have hj' : j < ncell c := by simpa [rowAV, enc_len] using hj
              have := hrel r hr' j hj'
              have hj2 : r * ncell c + j < cur.size := by omega
              simpa [List.getD_eq_getElem?_getD, List.getElem?_take_of_lt hj', List.getElem?_drop, Array.getD, hj2] using this
            have hrow2 := (hrow.evo E1).splice hvs' f
            have hrow3 := dec_rel hdec hrow2
            have hcur2 : (cur.toList.take (r * ncell c + f) ++ (a.eval y).cells.toList ++ cur.toList.drop (r * ncell c + f + v.flat.length)).length = cur.size := by simp [hcn]; omega
            obtain ⟨E2, H2⟩ := H1.write (cs := (cur.toList.take (r * ncell c + f) ++ (a.eval y).cells.toList ++ cur.toList.drop (r * ncell c + f + v.flat.length)).toArray) hh1 hm hb (ob' := .rows et c (l.set r xx)) (fun E => by
              refine ⟨by simp [hn], hc, .inr ⟨b, _, hb, setRow_heap w b cur _ et (0, 0) hcur, by rw [List.size_toArray, hcur2]; exact hcsz, by simpa using hlen, hmax, fun i hi j hj => ?_⟩⟩
              have hi' : i < l.length := by simpa using hi
              have hij : i * ncell c + j < cur.size := by
                have := row_le hi' hj
                have h4 : l.length * ncell c ≤ m.cap * ncell c := Nat.mul_le_mul_right _ hlen
                omega
              have hij2 : i * ncell c + j < (cur.toList.take (r * ncell c + f) ++ (a.eval y).cells.toList ++ cur.toList.drop (r * ncell c + f + v.flat.length)).toArray.size := by rw [List.size_toArray, hcur2]; exact hij
              rw [Array.getD, dif_pos hij2]
              by_cases e : i = r
              · subst e
                have hre : rowAV c (l.set i xx) i = enc c xx := by
                  unfold rowAV
                  simp [List.getD_eq_getElem?_getD, hi']
                rw [hre]
                have h5 := (hrow3.evo E).get j (by rw [enc_len]; exact hj)
                have e2 : (List.take f ((cur.toList.drop (i * ncell c)).take (ncell c)) ++ (a.eval y).cells.toList ++ List.drop (f + (a.eval y).cells.toList.length) ((cur.toList.drop (i * ncell c)).take (ncell c))).getD j Go.undef = (cur.toList.take (i * ncell c + f) ++ (a.eval y).cells.toList ++ cur.toList.drop (i * ncell c + f + v.flat.length)).toArray[i * ncell c + j]'hij2 := by
                  rw [hcn]
                  simp only [List.getElem_toArray, List.getD_eq_getElem?_getD]
                  rw [← Option.some_inj, ← List.getElem?_eq_getElem]
                  simp only [List.getElem?_append, List.length_take, List.length_append, List.length_drop, Array.length_toList, hcn, List.getElem?_take, List.getElem?_drop]
                  have q1 : min (i * ncell c + f) cur.size = i * ncell c + f := by omega
                  have q2 : min f (min (ncell c) (cur.size - i * ncell c)) = f := by omega
                  rw [q1, q2]
                  by_cases c1 : j < f
                  · have c2 : i * ncell c + j < i * ncell c + f := by omega
                    have c3 : j < f + v.flat.length := by omega
                    have c4 : i * ncell c + j < i * ncell c + f + v.flat.length := by omega
                    simp [c1, c2, c3, c4, hj, hij]
                  · by_cases c3 : j < f + v.flat.length
                    · have c2 : ¬ i * ncell c + j < i * ncell c + f := by omega
                      have c4 : i * ncell c + j < i * ncell c + f + v.flat.length := by omega
                      have c5 : i * ncell c + j - (i * ncell c + f) = j - f := by omega
                      have c6 : j - f < (a.eval y).cells.size := by have := hcn; simp at this; omega
                      simp [c1, c2, c3, c4, c5, c6]
                    · have c2 : ¬ i * ncell c + j < i * ncell c + f := by omega
                      have c4 : ¬ i * ncell c + j < i * ncell c + f + v.flat.length := by omega
                      have c5 : i * ncell c + f + v.flat.length + (i * ncell c + j - (i * ncell c + f + v.flat.length)) = i * ncell c + j := by omega
                      have c7 : f + v.flat.length + (j - (f + v.flat.length)) = j := by omega
                      simp [c3, c4, c5, c7, hj, hij]
                rw [e2] at h5; exact h5
              · have hre : rowAV c (l.set r xx) i = rowAV c l i := by
                  unfold rowAV
                  simp [List.getD_eq_getElem?_getD, List.getElem?_set_ne (Ne.symm e)]
                rw [hre]
                have h5 := ((hrel i hi' j hj).evo E1).evo E
                have e2 : cur.getD (i * ncell c + j) Go.undef = (cur.toList.take (r * ncell c + f) ++ (a.eval y).cells.toList ++ cur.toList.drop (r * ncell c + f + v.flat.length)).toArray[i * ncell c + j]'hij2 := by
                  rw [Array.getD, dif_pos hij]
                  simp only [List.getElem_toArray]
                  rw [← Option.some_inj, ← List.getElem?_eq_getElem]
                  simp only [List.getElem?_append, List.length_take, List.length_append, List.length_drop, Array.length_toList, hcn, List.getElem?_take, List.getElem?_drop]
                  have q1 : min (r * ncell c + f) cur.size = r * ncell c + f := by omega
                  rw [q1]
                  rcases Nat.lt_or_gt_of_ne e with e' | e'
                  · have : (i + 1) * ncell c ≤ r * ncell c := Nat.mul_le_mul_right _ e'
                    rw [Nat.add_mul] at this
                    have c2 : i * ncell c + j < r * ncell c + f := by omega
                    have c4 : i * ncell c + j < r * ncell c + f + v.flat.length := by omega
                    simp [c2, c4, hij]
                  · have : (r + 1) * ncell c ≤ i * ncell c := Nat.mul_le_mul_right _ e'
                    rw [Nat.add_mul] at this
                    have c4 : ¬ i * ncell c + j < r * ncell c + f + v.flat.length := by omega
                    have c5 : r * ncell c + f + v.flat.length + (i * ncell c + j - (r * ncell c + f + v.flat.length)) = i * ncell c + j := by omega
                    simp [c4, c5, hij]
                rw [e2] at h5; exact h5)
            refine ⟨_, μ, E1.trans E2, .undef _, ?_, fun id hne => .inl hne⟩
            rw [updH_append]
            exact H2
          · cases hu
        · cases hu
      · simp [hle] at hu
    · cases hu
  · cases hu
end
end Go.Proofs.Ytemffnpliflkgaa
