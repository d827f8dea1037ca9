/-
  Lemmas and contracts on the way to the laws of this seat; each theorem states its own conditions, and there are no others.
-/
import Derived.Test.YtemffnpliflkgaaE10
import Derived.Laws.MakeOwn
namespace Go.Proofs.Ytemffnpliflkgaa
open Go
set_option linter.unusedVariables false
set_option linter.unusedSimpArgs false
section
variable {P : Program} {a : Act} {o : Oper} {w : World} {S : SS} {μ : MM} {h : Nat → Option OB} {base : Nat}

/-- A row that is made. -/
theorem ok_newrow (H : HRel w S μ h) (hf : ∀ id, base ≤ id → id < base + 10 → μ id = none) {w' : World} {e : TypeId} {c c' : Nat} {l : List (den c)} {cur : Array Value} {cap : Nat} (hw : w' = w.alloc (.cells cur e) ∨ w' = w.drew.alloc (.cells cur e)) (hcs : cur.size = cap * ncell c) (hl : l.length ≤ cap) (hm : cap ≤ maxLen)
    (hrel : ∀ i, i < l.length → ∀ j, j < ncell c → VRel w S μ ((rowAV c l i).getD j .undef) (cur.getD (i * ncell c + j) Go.undef)) :
    Out w S μ h base (.own (base + 1) c') [(base + 1, some (.rows e c l))] w' (.slice (some ⟨w.heap.size, 0, none⟩) l.length cap) := by
  have hid := hf (base + 1) (by omega) (by omega)
  have E := Evo.alloc w S μ (.cells cur e) H.bd (id := base + 1) (m := ⟨some w.heap.size, l.length, c, cap⟩) hid
  have H' := H.alloc (o := .cells cur e) (id := base + 1) (m := ⟨some w.heap.size, l.length, c, cap⟩) (ob := .rows e c l) hid rfl ⟨rfl, rfl, .inr ⟨w.heap.size, cur, rfl, heap_alloc_new' w _, hcs, hl, hm, fun i hi j hj => (hrel i hi j hj).evo E⟩⟩
  have hne : ∀ id, (μ.add (base + 1) ⟨some w.heap.size, l.length, c, cap⟩) id ≠ none → μ id ≠ none ∨ (base ≤ id ∧ id < base + 10) := fun id hne => by
    by_cases e : id = base + 1
    · right; omega
    · left; rwa [MM.add_ne e] at hne
  have hv : ∀ w', VRel w' S (μ.add (base + 1) ⟨some w.heap.size, l.length, c, cap⟩) (.own (base + 1) c') (.slice (some ⟨w.heap.size, 0, none⟩) l.length cap) := fun w' => .own (m := ⟨some w.heap.size, l.length, c, cap⟩) MM.add_same rfl
  rcases hw with rfl | rfl
  · exact ⟨S, _, E, hv _, H', hne⟩
  · have E2 : Evo (w.alloc (.cells cur e)) S (μ.add (base + 1) ⟨some w.heap.size, l.length, c, cap⟩) (w.drew.alloc (.cells cur e)) S (μ.add (base + 1) ⟨some w.heap.size, l.length, c, cap⟩) :=
      ⟨rfl, rfl, rfl, Nat.le_refl _, fun _ _ _ => rfl, fun _ => Iff.rfl, fun _ h => h, fun _ h => .inl h, fun _ _ h => h⟩
    refine ⟨S, _, E.trans E2, hv _, H'.upd E2 (fun id ob hi => .inl ⟨hi, fun _ _ _ _ => rfl⟩) H'.inj H'.sep ?_ (fun i m b hi hm hb => by obtain ⟨o, ho⟩ := ne_some hi; exact From.same H' ho hm hb) (fun _ hs => .inl hs), hne⟩
    intro p b hs
    exact H'.bd p b hs

theorem row_get {m i j : Nat} (hj : j < m) : (i * m + j) % m = j := by
  rw [Nat.mul_comm, Nat.mul_add_mod, Nat.mod_eq_of_lt hj]

theorem made_get {z : Array Value} {n k : Nat} (hk : k < n) (hz : 0 < z.size) : (madeCells z n).getD k Go.undef = z.getD (k % z.size) Go.undef := by
  have h1 : k % z.size < z.size := Nat.mod_lt _ hz
  simp [madeCells, Array.getD, hk, h1]

theorem ok_makeSlice (H : HRel w S μ h) (hf : ∀ id, base ≤ id → id < base + 10 → μ id = none) {t : TypeId} {x y : Operand} {vx vy : AV} (ho : o.op = .makeSlice t x y) (hx : VRel w S μ vx (a.eval x)) (hy : VRel w S μ vy (a.eval y)) : DescOK P a o w S μ h base (makeSliceA P base t vx vy) := by
  unfold makeSliceA
  split
  case h_2 => trivial
  rename_i k n k' m
  split
  case h_2 => trivial
  rename_i e he
  split
  case h_2 => trivial
  rename_i c z i hc hz hi
  split
  case h_2 => trivial
  rename_i xx hd
  by_cases hs : (Nat.beq z.length i.size && Nat.beq (ncell c) i.size && Nat.blt 0 i.size) = true
  case neg => simp only [hs, cond_false]; trivial
  simp only [hs, cond_true]
  simp only [Bool.and_eq_true] at hs
  have s1 : z.length = i.size := Nat.eq_of_beq_eq_true hs.1.1
  have s2 : ncell c = i.size := Nat.eq_of_beq_eq_true hs.1.2
  have s3 : 0 < i.size := Nat.le_of_ble_eq_true hs.2
  intro hp K Q hK
  obtain ⟨p1, p2, p3, p4⟩ : 0 ≤ n ∧ n ≤ m ∧ (i.bytes : Int) * m ≤ 281474976710656 ∧ m ≤ 1099511627776 := hp _ (by simp)
  have hu : P.underlying t = some (.slice e) := by
    unfold Proofs.Ytemffnpliflkgaa.elemOf at he
    split at he
    · simp only [Option.some.injEq] at he; subst he; assumption
    · cases he
  obtain ⟨i', v, hi', hv, rfl⟩ := tzero_spec hz
  rw [hi] at hi'; cases hi'
  have hrun := run_make (P := P) w t e i v hu hi hv k k' n m p1 p2 p3 (by omega)
  have hx' := hx.int_inv
  have hy' := hy.int_inv
  refine wp_val (w' := w.alloc (.cells (madeCells v.cells (m.toNat * i.size)) e)) (x := .slice (some ⟨w.heap.size, 0, none⟩) n.toNat m.toNat) (by simp only [execOp, ho, Sem.run_bind, hx', hy', hrun, Result.andThen_ok, Sem.run_pure]) (hK _ _ ?_)
  have hzr := flat_zero (w := w) (S := S) (μ := μ) v
  have hzl : v.cells.size = i.size := by have := hzr.len; simp at this; omega
  have hdr := dec_rel hd hzr
  have := ok_newrow (c' := c) (l := List.replicate n.toNat xx) H hf (w' := w.alloc (.cells (madeCells v.cells (m.toNat * i.size)) e)) (cur := madeCells v.cells (m.toNat * i.size)) (cap := m.toNat) (.inl rfl) (by rw [size_madeCells, s2]) (by simp; omega) (by unfold maxLen; omega) (fun i' hi' j hj => by
    have hi2 : i' < n.toNat := by simpa using hi'
    have hlt : i' * ncell c + j < m.toNat * i.size := by rw [← s2]; exact row_le (by omega) hj
    rw [made_get hlt (by omega), hzl, ← s2, row_get hj]
    have e1 : rowAV c (List.replicate n.toNat xx) i' = enc c xx := by
      unfold rowAV
      simp [List.getD_eq_getElem?_getD, hi2]
    rw [e1]
    have h5 := hdr.get j (by rw [enc_len]; exact hj)
    have h6 : j < v.cells.size := by omega
    simpa [List.getD_eq_getElem?_getD, Array.getD, h6] using h5)
  simpa using this

/-- A slice of a slice. -/
def OInt (lo : Option Int) (v : Option Value) : Prop := match lo, v with
  | none, none => True
  | some n, some x => ∃ k, x = .int k n
  | _, _ => False

theorem bounds_of {lo hi : Option Int} {n : Nat} (hb : ∀ p ∈ boundsP lo hi n, p) : 0 ≤ lo.getD 0 ∧ lo.getD 0 ≤ hi.getD n ∧ hi.getD n ≤ n := by
  cases lo with
  | none =>
    cases hi with
    | none => simp
    | some b =>
      have : 0 ≤ b ∧ b ≤ (n : Int) := hb _ (List.mem_singleton.2 rfl)
      simp; omega
  | some a =>
    cases hi with
    | none =>
      have : 0 ≤ a ∧ a ≤ (n : Int) := hb _ (List.mem_singleton.2 rfl)
      simp; omega
    | some b =>
      have : 0 ≤ a ∧ a ≤ b ∧ b ≤ (n : Int) := hb _ (List.mem_singleton.2 rfl)
      simp; omega

theorem run_sl {t e : TypeId} {i : TypeInfo} (hu : P.underlying t = some (.slice e)) (hi : P.info? e = some i) {lo hi' : Option Int} {vl vh : Option Value} (hl : OInt lo vl) (hh : OInt hi' vh) {p : Option Addr} {len cap : Nat} (hb : ∀ q ∈ boundsP lo hi' len, q) (hc : len ≤ cap) :
    (Instr.sliceAt t (.slice p len cap) vl vh none).run P w = .ok (sliced p (lo.getD 0).toNat (hi'.getD len).toNat cap i.size) w := by
  have he : P.elem t = e := by simp [Program.elem, hu]
  have hu' : P.underlying t = some (.slice (P.elem t)) := by rw [he]; exact hu
  have hsz : (sizeOf (P.elem t)).run P w = .ok i.size w := by rw [he]; simp [sizeOf, typeInfo, hi]
  obtain ⟨b0, b1, b2⟩ := bounds_of hb
  rw [run_sliceAt_slice w t _ _ _ _ hu']
  cases lo with
  | none =>
    cases vl with
    | some x => exact hl.elim
    | none =>
      cases hi' with
      | none =>
        cases vh with
        | some x => exact hh.elim
        | none => rw [run_slice_all w t p len cap hu', hsz]; simp
      | some n =>
        cases vh with
        | none => exact hh.elim
        | some x =>
          obtain ⟨k, rfl⟩ := hh
          simp only [Option.getD_none, Option.getD_some] at b0 b1 b2 ⊢
          rw [run_slice_h w t p len cap hu' k n (by omega) (by omega), hsz]; rfl
  | some m =>
    cases vl with
    | none => exact hl.elim
    | some x =>
      obtain ⟨kl, rfl⟩ := hl
      cases hi' with
      | none =>
        cases vh with
        | some x => exact hh.elim
        | none =>
          simp only [Option.getD_none, Option.getD_some] at b0 b1 b2 ⊢
          rw [run_slice_l w t p len cap hu' kl m (by omega) (by omega), hsz]; simp
      | some n =>
        cases vh with
        | none => exact hh.elim
        | some x =>
          obtain ⟨k, rfl⟩ := hh
          simp only [Option.getD_some] at b0 b1 b2 ⊢
          rw [run_slice_lh w t p len cap hu' kl k m n (by omega) (by omega) (by omega), hsz]; rfl

def ORel (w : World) (S : SS) (μ : MM) (v : Option AV) (x : Option Value) : Prop := match v, x with
  | none, none => True
  | some v, some x => VRel w S μ v x
  | _, _ => False

theorem intA_spec {v : Option AV} {x : Option Value} {n : Option Int} (hv : intA v = some n) (hr : ORel w S μ v x) : OInt n x := by
  unfold intA at hv
  split at hv
  · cases hv
    cases x <;> first | trivial | exact hr.elim
  · cases hv
    cases x with
    | none => exact hr.elim
    | some x => exact ⟨_, VRel.int_inv hr⟩
  · cases hv

theorem sliced_some {b o lo hi cap m : Nat} : sliced (some ⟨b, o, none⟩) lo hi cap m = .slice (some ⟨b, if cap = lo then o else o + lo * m, none⟩) (hi - lo) (cap - lo) := by
  unfold sliced
  split
  · rfl
  · simp [addr_add]

theorem irec_sliced {p : Bool} {c : Nat} {l l' : List (den c)} {lo hi : Nat} {x : Value} (h1 : lo ≤ hi) (h2 : hi ≤ l.length) (hl : l'.length = hi - lo) (hg : ∀ i, i < hi - lo → l'.getD i (dfl c) = l.getD (lo + i) (dfl c)) (hx : VRel w S μ (.irec p c l) x) :
    ∃ q len cap, x = .slice q len cap ∧ len = l.length ∧ len ≤ cap ∧ VRel w S μ (.irec p c l') (sliced q lo hi cap (ncell c)) := by
  rcases hx.irec_inv with ⟨u, b, off, cap, hS, hn, hc, hrel, hx'⟩ | ⟨h0, q, cap, hx'⟩
  · refine ⟨_, _, _, hx', rfl, hn, ?_⟩
    rw [sliced_some, ← hl]
    by_cases e : cap = lo
    · have : l' = [] := List.eq_nil_of_length_eq_zero (by omega)
      subst this
      exact .irec0 _ _
    · rw [if_neg e]
      refine .irec (fun i j => u (lo + i) j) hS (by omega) (fun i hi' j hj => ?_) (fun i hi' j hj => ?_)
      · have := hc (lo + i) (by omega) j hj
        rw [Nat.add_mul] at this
        have e2 : off + lo * ncell c + i * ncell c + j = off + (lo * ncell c + i * ncell c) + j := by omega
        rw [e2]; exact this
      · have := hrel (lo + i) (by omega) j hj
        have e2 : rowAV c l' i = rowAV c l (lo + i) := by unfold rowAV; rw [hg i (by omega)]
        rw [e2]; exact this
  · subst h0
    refine ⟨_, _, _, hx', rfl, by omega, ?_⟩
    have : l' = [] := List.eq_nil_of_length_eq_zero (by simp at h2; omega)
    subst this
    unfold sliced
    have e3 : hi - lo = 0 := by simp at h2; omega
    rw [e3]
    exact .irec0 _ _

theorem ok_slice (H : HRel w S μ h) {t : TypeId} {x : Operand} {vx : AV} {lo hi mx : Option Operand} {vl vh vm : Option AV} (ho : o.op = .slice t x lo hi mx) (hx : VRel w S μ vx (a.eval x)) (hl : ORel w S μ vl (lo.map a.eval)) (hh : ORel w S μ vh (hi.map a.eval)) (hm : ORel w S μ vm (mx.map a.eval)) : DescOK P a o w S μ h base (sliceA h (elemSize P t) vx vl vh vm) := by
  have run : ∀ y, (Instr.sliceAt t (a.eval x) (lo.map a.eval) (hi.map a.eval) (mx.map a.eval)).run P w = .ok y w → (execOp a.eval o).run P w = .ok (.value y) w := fun y hy => by
    simp only [execOp, ho, Sem.run_bind, hy, Result.andThen_ok, Sem.run_pure]
  have esize : ∀ {c : Nat}, (sizeIs (ncell c) (elemSize P t) && Nat.blt 0 (ncell c)) = true → ∃ e i, P.underlying t = some (.slice e) ∧ P.info? e = some i ∧ i.size = ncell c := fun {c} hs => by
    simp only [Bool.and_eq_true] at hs
    have h1 := sizeIs_spec hs.1
    have h2 : 0 < ncell c := Nat.le_of_ble_eq_true hs.2
    obtain ⟨k, hk⟩ : ∃ k, ncell c = k + 1 := ⟨ncell c - 1, by omega⟩
    rw [hk] at h1 ⊢
    exact elemSize_slice h1
  unfold sliceA
  split
  · rename_i k
    split
    · rename_i k2 r hr
      by_cases hs : (sizeIs (ncell r.c) (elemSize P t) && Nat.blt 0 (ncell r.c)) = true
      case neg => simp only [hs, cond_false]; trivial
      simp only [hs, cond_true]
      obtain ⟨e, i, hu, hi', hsz⟩ := esize hs
      refine ok_pure H fun _ => ?_
      obtain ⟨q, len, cap, hxv⟩ : ∃ q len cap, a.eval x = .slice q len cap := by
        unfold contentA at hr
        split at hr
        · obtain ⟨m, _, hc⟩ := hx.own_inv
          rcases hc with ⟨b, _, e⟩ | ⟨_, p, e⟩ <;> exact ⟨_, _, _, e⟩
        · rcases hx.sub_inv with ⟨_, _, _, _, _, _, _, _, e⟩ | ⟨_, _, _, e⟩ <;> exact ⟨_, _, _, e⟩
        · rcases hx.irec_inv with ⟨_, _, _, _, _, _, _, _, e⟩ | ⟨_, _, _, e⟩ <;> exact ⟨_, _, _, e⟩
        · cases hr
      cases lo with
      | some _ => exact hl.elim
      | none =>
        cases hi with
        | none => exact hh.elim
        | some hi =>
          cases mx with
          | none => exact hm.elim
          | some mx =>
            have e1 := VRel.int_inv hh
            have e2 := VRel.int_inv hm
            have he : P.elem t = e := by simp [Program.elem, hu]
            have hu' : P.underlying t = some (.slice (P.elem t)) := by rw [he]; exact hu
            have hsz' : (sizeOf (P.elem t)).run P w = .ok i.size w := by rw [he]; simp [sizeOf, typeInfo, hi']
            refine ⟨.slice q 0 0, run _ ?_, .zsl q⟩
            simp only [Option.map_none, Option.map_some, e1, e2, hxv]
            rw [run_sliceAt_slice w t _ _ _ _ hu', run_slice_hm w t q len cap hu' _ _ 0 0 (by omega) (by omega) (by omega), hsz']
            simp [sliced]
    · trivial
  · trivial
  · have hmx : mx = none := by
      cases mx with
      | none => rfl
      | some _ => exact hm.elim
    subst hmx
    split
    case h_2 => trivial
    rename_i nl nh hnl hnh
    have hol := intA_spec hnl hl
    have hoh := intA_spec hnh hh
    split
    · by_cases hs : sizeIs 1 (elemSize P t) = true
      case neg => simp only [hs, cond_false]; trivial
      simp only [hs, cond_true]
      obtain ⟨e, i, hu, hi', hsz⟩ := elemSize_slice (sizeIs_spec hs)
      refine ok_pure H fun hp => ?_
      cases hxv : a.eval x <;> (rw [hxv] at hx; cases hx)
      obtain ⟨b0, b1, b2⟩ := bounds_of (n := 0) hp
      refine ⟨.slice none 0 0, run _ ?_, .nsl⟩
      rw [hxv]
      have := run_sl (w := w) hu hi' hol hoh (p := none) (len := 0) (cap := 0) hp (Nat.le_refl _)
      simp only [Option.map_none]
      rw [this]
      have e1 : (nl.getD 0).toNat = 0 := by omega
      have e2 : (nh.getD ((0 : Nat) : Int)).toNat = 0 := by omega
      rw [e1, e2]
      rfl
    · rename_i p c l
      by_cases hs : (sizeIs (ncell c) (elemSize P t) && Nat.blt 0 (ncell c)) = true
      case neg => simp only [hs, cond_false]; trivial
      simp only [hs, cond_true]
      obtain ⟨e, i, hu, hi', hsz⟩ := esize hs
      refine ok_pure H fun hp => ?_
      obtain ⟨b0, b1, b2⟩ := bounds_of hp
      have hll : ∀ l' : List (den c), (∀ i, i < (nh.getD (l.length : Nat)).toNat - (nl.getD 0).toNat → l'.getD i (dfl c) = l.getD ((nl.getD 0).toNat + i) (dfl c)) → l'.length = (nh.getD (l.length : Nat)).toNat - (nl.getD 0).toNat → ∃ y, (execOp a.eval o).run P w = .ok (.value y) w ∧ VRel w S μ (.irec p c l') y := fun l' hg hlen => by
        obtain ⟨q, len, cap, hxv, hlq, hcap, hv⟩ := irec_sliced (lo := (nl.getD 0).toNat) (hi := (nh.getD (l.length : Nat)).toNat) (by omega) (by omega) hlen hg hx
        refine ⟨_, run _ ?_, hv⟩
        rw [hxv]
        have := run_sl (w := w) hu hi' hol hoh (p := q) (len := len) (cap := cap) (by rw [hlq]; exact hp) hcap
        simp only [Option.map_none]
        rw [this, hsz, hlq]
      cases nl with
      | none =>
        cases nh with
        | none => exact hll l (fun i _ => by simp) (by simp)
        | some n =>
          simp only [Option.getD_none, Option.getD_some] at b0 b1 b2
          exact hll _ (fun i hi => by
            have hi2 : i < n.toNat := by simpa using hi
            simp [List.getD_eq_getElem?_getD, List.getElem?_take_of_lt hi2]) (by simp; omega)
      | some m =>
        cases nh with
        | none =>
          simp only [Option.getD_none, Option.getD_some] at b0 b1 b2
          exact hll _ (fun i _ => by simp [List.getD_eq_getElem?_getD, List.getElem?_drop]) (by simp)
        | some n =>
          simp only [Option.getD_none, Option.getD_some] at b0 b1 b2
          exact hll _ (fun i hi => by
            have hi2 : i < (n - m).toNat := by simp only [Option.getD_some] at hi; omega
            simp [List.getD_eq_getElem?_getD, List.getElem?_take_of_lt hi2, List.getElem?_drop]) (by simp; omega)
    · rename_i id c
      split
      case h_2 => trivial
      rename_i et c' l hh'
      have key : (sizeIs (ncell c') (elemSize P t) && Nat.blt 0 (ncell c')) = true → (∀ q ∈ boundsP nl nh l.length, q) → ∃ y, (execOp a.eval o).run P w = .ok (.value y) w ∧ VRel w S μ (.sub id c' (nl.getD 0).toNat (nh.getD (l.length : Nat) - nl.getD 0).toNat) y := fun hs hp => by
        obtain ⟨e, i, hu, hi', hsz⟩ := esize hs
        obtain ⟨b0, b1, b2⟩ := bounds_of hp
        obtain ⟨m, hm', hcase⟩ := hx.own_inv
        obtain ⟨h1, h2, h3⟩ := H.rows hh' hm'
        rcases hcase with ⟨b, hb, hxv⟩ | ⟨h0, q, hxv⟩
        · obtain ⟨cur, hcur, hcsz, hlen, hmax, hrel⟩ := h3 b hb
          have := run_sl (w := w) hu hi' hol hoh (p := some ⟨b, 0, none⟩) (len := m.n) (cap := m.cap) (by rw [h1]; exact hp) (by omega)
          refine ⟨_, run _ (by rw [hxv]; simp only [Option.map_none]; exact this), ?_⟩
          rw [sliced_some, hsz, h1]
          have e1 : (nh.getD (l.length : Nat) - nl.getD 0).toNat = (nh.getD (l.length : Nat)).toNat - (nl.getD 0).toNat := by omega
          rw [e1]
          by_cases ec : m.cap = (nl.getD 0).toNat
          · have e0 : (nh.getD (l.length : Nat)).toNat - (nl.getD 0).toNat = 0 := by omega
            rw [e0]; exact .sub_zero _ (by omega)
          · rw [if_neg ec, Nat.zero_add]
            exact .sub hm' hb h2 (by omega) (by omega)
        · have := run_sl (w := w) hu hi' hol hoh (p := q) (len := 0) (cap := 0) (by rw [show (0 : Nat) = l.length by omega]; exact hp) (Nat.le_refl _)
          refine ⟨_, run _ (by rw [hxv]; simp only [Option.map_none]; exact this), ?_⟩
          have el : l.length = 0 := by omega
          have e1 : (nl.getD 0).toNat = 0 := by omega
          have e2 : (nh.getD (l.length : Nat) - nl.getD 0).toNat = 0 := by omega
          rw [e2]
          unfold sliced
          have e3 : (nh.getD ((0 : Nat) : Int)).toNat - (nl.getD 0).toNat = 0 := by rw [el] at b1 b2; omega
          rw [e3]
          exact .sub_zero _ (by omega)
      by_cases hs : (sizeIs (ncell c') (elemSize P t) && Nat.blt 0 (ncell c')) = true
      case neg => simp only [hs, cond_false]; trivial
      simp only [hs, cond_true]
      obtain ⟨e, i, hu, hi', hsz⟩ := esize hs
      split
      · refine ok_pure H fun _ => ?_
        obtain ⟨q, len, cap, hxv, hle⟩ : ∃ q len cap, a.eval x = .slice q len cap ∧ len ≤ cap := by
          obtain ⟨m, hm', hc⟩ := hx.own_inv
          obtain ⟨h1, h2, h3⟩ := H.rows hh' hm'
          rcases hc with ⟨b, hb, e⟩ | ⟨_, p, e⟩
          · obtain ⟨cur, hcur, hcsz, hlen, _⟩ := h3 b hb
            exact ⟨_, _, _, e, by omega⟩
          · exact ⟨_, _, _, e, Nat.le_refl _⟩
        refine ⟨a.eval x, run _ ?_, hx⟩
        have := run_sl (w := w) hu hi' hol hoh (p := q) (len := len) (cap := cap) (fun q hq => (by simp [boundsP] at hq)) hle
        rw [hxv]
        simp only [Option.map_none]
        rw [this]
        have eq : sliced q 0 len cap i.size = .slice q len cap := by
          unfold sliced
          split
          · simp
          · cases q with
            | none => simp
            | some ad => simp [Addr.add]
        simpa using eq
      · exact ok_pure H (key hs)
    · rename_i id c lo' n
      by_cases hs : (sizeIs (ncell c) (elemSize P t) && Nat.blt 0 (ncell c)) = true
      case neg => simp only [hs, cond_false]; trivial
      simp only [hs, cond_true]
      obtain ⟨e, i, hu, hi', hsz⟩ := esize hs
      refine ok_pure H fun hp => ?_
      obtain ⟨b0, b1, b2⟩ := bounds_of hp
      have e1 : (nh.getD (n : Nat) - nl.getD 0).toNat = (nh.getD (n : Nat)).toNat - (nl.getD 0).toNat := by omega
      rcases hx.sub_inv with ⟨m, b, cap, hm', hb, hmc, hr, hc, hxv⟩ | ⟨h0, q, cap, hxv⟩
      · have := run_sl (w := w) hu hi' hol hoh (p := some ⟨b, lo' * ncell c, none⟩) (len := n) (cap := cap) hp hc.1
        refine ⟨_, run _ (by rw [hxv]; simp only [Option.map_none]; exact this), ?_⟩
        rw [sliced_some, hsz, e1]
        by_cases ec : cap = (nl.getD 0).toNat
        · have e0 : (nh.getD (n : Nat)).toNat - (nl.getD 0).toNat = 0 := by omega
          rw [e0]; exact .sub_zero _ (by omega)
        · rw [if_neg ec, ← Nat.add_mul]
          exact .sub hm' hb hmc (by omega) (by omega)
      · subst h0
        have := run_sl (w := w) hu hi' hol hoh (p := q) (len := 0) (cap := 0 * cap) hp (Nat.zero_le _)
        refine ⟨_, run _ (by rw [hxv]; simp only [Option.map_none]; exact this), ?_⟩
        rw [e1]
        have e0 : (nh.getD ((0 : Nat) : Int)).toNat - (nl.getD 0).toNat = 0 := by omega
        rw [e0]
        unfold sliced
        rw [e0]
        exact .sub_zero _ (by omega)
    · trivial
end
end Go.Proofs.Ytemffnpliflkgaa
