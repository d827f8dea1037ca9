/-
  Lemmas and contracts on the way to the laws of this seat; each theorem states its own conditions, and there are no others.
-/
import Derived.Test.YtemffnpliflkgaaE5
import Derived.Laws.Strings
import Derived.Laws.StructEq
import Derived.ChangeKeysEq
namespace Go.Proofs.Ytemffnpliflkgaa
open Go
set_option linter.unusedVariables false
set_option linter.unusedSimpArgs false
section
variable {P : Program} {a : Act} {o : Oper} {w : World} {S : SS} {μ : MM} {h : Nat → Option OB} {base : Nat}

theorem ok_move (H : HRel w S μ h) {x : Operand} {v : AV} (ho : o.op = .move x) (hv : VRel w S μ v (a.eval x)) : DescOK P a o w S μ h base (.det [] v []) :=
  ok_pure H fun _ => ⟨a.eval x, by simp [execOp, ho], hv⟩
theorem ok_assign (H : HRel w S μ h) {x : Operand} {v : AV} (ho : o.op = .assign x) (hv : VRel w S μ v (a.eval x)) : DescOK P a o w S μ h base (.det [] v []) :=
  ok_pure H fun _ => ⟨a.eval x, by simp [execOp, ho], hv⟩

theorem selA_rel {x : Bool} {p q v : AV} {vp vq : Value} (hp : x = true → VRel w S μ p vp) (hq : x = false → VRel w S μ q vq) (hs : selA x p q = some v) : VRel w S μ v (if x then vp else vq) := by
  unfold selA at hs
  split at hs
  · rename_i k n k' n'
    by_cases hk : kindEq k k' = true
    · simp only [hk, cond_true, Option.some.injEq] at hs
      subst hs
      have e := kindEq_spec hk
      subst e
      cases x
      · have := hq rfl; cases this; exact .int _ _
      · have := hp rfl; cases this; exact .int _ _
    · simp [hk] at hs
  · split at hs
    · rename_i b hb
      simp only [Option.some.injEq] at hs
      subst hs
      cases x
      · have := asB_rel (hq rfl) hb; subst this; exact .bool _
      · have := hp rfl; cases this; exact .bool _
    · cases hs
  · split at hs
    · rename_i b hb
      simp only [Option.some.injEq] at hs
      subst hs
      cases x
      · have := asB_rel (hq rfl) hb; subst this; exact .bool _
      · have := hp rfl; cases this; exact .bool _
    · cases hs
  · split at hs
    · rename_i b hb
      simp only [Option.some.injEq] at hs
      subst hs
      cases x
      · have := hq rfl; cases this; exact .bool _
      · have := asB_rel (hp rfl) hb; subst this; exact .bool _
    · cases hs
  · split at hs
    · rename_i b hb
      simp only [Option.some.injEq] at hs
      subst hs
      cases x
      · have := hq rfl; cases this; exact .bool _
      · have := asB_rel (hp rfl) hb; subst this; exact .bool _
    · cases hs
  · simp only [Option.some.injEq] at hs
    subst hs
    cases x
    · have := hq rfl; cases this; exact .bool _
    · have := hp rfl; cases this; exact .bool _
  · cases hs

theorem stripA_rel {v : AV} {x : Value} {f : Bool → Bool → Prop} {T : Prop} (hf : ∀ g b, f g b → T → g = b) (hv : VRel w S μ v x) (hp : ∀ p ∈ (stripA v f).1, p) (ht : T) : VRel w S μ (stripA v f).2 x := by
  cases v
  case opt g b v =>
    simp only [stripA, List.mem_singleton, forall_eq] at hp ⊢
    cases hv with
    | opt hh _ => exact hh (hf _ _ hp ht)
  all_goals exact hv

theorem ok_pick (H : HRel w S μ h) {c p q : Operand} {vc vp vq : AV} (ho : o.op = .pick c p q) (hc : VRel w S μ vc (a.eval c)) (hp : VRel w S μ vp (a.eval p)) (hq : VRel w S μ vq (a.eval q)) : DescOK P a o w S μ h base (pickA vc vp vq) := by
  have run : ∀ t : Bool, a.eval c = .bool t → (execOp a.eval o).run P w = .ok (.value (if t then a.eval p else a.eval q)) w := fun t ht => by
    simp [execOp, ho, ht, asBool]
  unfold pickA
  split
  · cases hc' : a.eval c <;> (rw [hc'] at hc; cases hc)
    exact ok_pure H fun _ => ⟨_, run true hc', hp⟩
  · cases hc' : a.eval c <;> (rw [hc'] at hc; cases hc)
    exact ok_pure H fun _ => ⟨_, run false hc', hq⟩
  · rename_i x
    cases hc' : a.eval c <;> (rw [hc'] at hc; cases hc)
    dsimp only
    split
    · rename_i v hs
      refine ok_pure H fun hpre => ⟨_, run x hc', ?_⟩
      simp only [List.mem_append] at hpre
      exact selA_rel (fun hx => stripA_rel (T := x = true) (fun g b h1 h2 => h1 h2) hp (fun p hm => hpre p (.inl hm)) hx) (fun hx => stripA_rel (T := x = false) (fun g b h1 h2 => h1 h2) hq (fun p hm => hpre p (.inr hm)) hx) hs
    · trivial
  · trivial

theorem ok_nilCheck (H : HRel w S μ h) {x : Operand} {v : AV} (ho : o.op = .nilCheck x) (hv : VRel w S μ v (a.eval x)) : DescOK P a o w S μ h base (nilA v) := by
  have key : (∃ ad, a.eval x = .pointer (some ad)) → DescOK P a o w S μ h base (.det [] v []) := fun ⟨ad, hx⟩ =>
    ok_pure H fun _ => ⟨a.eval x, by simp [execOp, ho, hx], hv⟩
  unfold nilA
  cases v
  case ptr => exact key (by cases hx : a.eval x <;> (rw [hx] at hv; cases hv); exact ⟨_, rfl⟩)
  case ept => exact key (by cases hx : a.eval x <;> (rw [hx] at hv; cases hv); exact ⟨_, rfl⟩)
  case ipt => exact key (by cases hx : a.eval x <;> (rw [hx] at hv; cases hv); exact ⟨_, rfl⟩)
  case pix => exact key (by cases hx : a.eval x <;> (rw [hx] at hv; cases hv); exact ⟨_, rfl⟩)
  all_goals trivial

theorem ok_arith (H : HRel w S μ h) {op : BinOp} {t ty : TypeId} {x y : Operand} {k : IntKind} {n m r : Int} (ho : o.op = .binOp op t x y ty) (hx : a.eval x = .int k n) (hy : a.eval y = .int k m)
    (hr : ∀ w, (binOp op t (.int k n) (.int k m)).run P w = .ok (.int k (k.wrap r)) w) (hg : op ≠ .eql ∧ op ≠ .neq) : DescOK P a o w S μ h base (arith k r) := by
  refine ok_pure H fun hp => ⟨.int k r, ?_, .int _ _⟩
  have hk : kindR k r := hp _ (by simp)
  have hg' : (eqGuard op t x y (.int k n) (.int k m)).run P w = .ok () w := by
    cases op <;> simp [eqGuard]
  simp only [execOp, ho, Sem.run_bind, hx, hy, hg', Result.andThen_ok, hr, Sem.run_pure, wrap_in hk]

theorem eqGuard_int {op : BinOp} {t : TypeId} {x y : Operand} {k k' : IntKind} {n m : Int} : (eqGuard op t x y (.int k n) (.int k' m)).run P w = .ok () w := by
  cases op <;> simp [eqGuard]
theorem eqGuard_bool {op : BinOp} {t : TypeId} {x y : Operand} {n m : Bool} : (eqGuard op t x y (.bool n) (.bool m)).run P w = .ok () w := by
  cases op <;> simp [eqGuard]
theorem eqGuard_str {op : BinOp} {t : TypeId} {x y : Operand} {n m : ByteArray} : (eqGuard op t x y (.string n) (.string m)).run P w = .ok () w := by
  cases op <;> simp [eqGuard]

theorem equal_bool {t : TypeId} (hu : P.underlying t = some .bool) (x y : Bool) (w : World) : (Op.equal t (.bool x) (.bool y)).run P w = .ok (x == y) w := by
  have : Op.equal t (.bool x) (.bool y) = Op.equalIn (9999 + 1) t (.bool x) (.bool y) := rfl
  rw [this, Op.equalIn, Sem.run_bind, run_underlying hu]
  rfl
theorem eqn_eq {t : TypeId} (hu : P.underlying t = some .bool) (x y : Bool) (w : World) : (binOp .eql t (.bool x) (.bool y)).run P w = .ok (.bool (x == y)) w := by
  have : binOp .eql t (.bool x) (.bool y) = (do pure (.bool (← Op.equal t (.bool x) (.bool y)))) := rfl
  rw [this, Sem.run_bind, equal_bool hu]; rfl
theorem eqn_ne {t : TypeId} (hu : P.underlying t = some .bool) (x y : Bool) (w : World) : (binOp .neq t (.bool x) (.bool y)).run P w = .ok (.bool (x != y)) w := by
  have : binOp .neq t (.bool x) (.bool y) = (do pure (.bool (!(← Op.equal t (.bool x) (.bool y))))) := rfl
  rw [this, Sem.run_bind, equal_bool hu]; rfl

theorem toList_eq {x y : ByteArray} : (x.toList == y.toList) = decide (x = y) := by
  rw [Bool.eq_iff_iff]
  simp only [beq_iff_eq, decide_eq_true_eq]
  constructor
  · intro hh
    have e : ∀ s : ByteArray, s.toList = s.data.toList := fun s => ByteArray.toList_eq s
    rw [e, e] at hh
    cases x; cases y
    simp only at hh
    congr 1
    exact Array.toList_inj.1 hh
  · intro hh; rw [hh]

theorem ok_binop (H : HRel w S μ h) {op : BinOp} {t ty : TypeId} {x y : Operand} {vx vy : AV} (ho : o.op = .binOp op t x y ty) (hx : VRel w S μ vx (a.eval x)) (hy : VRel w S μ vy (a.eval y)) : DescOK P a o w S μ h base (binA op (isBoolT P t) vx vy) := by
  unfold binA
  split
  · rename_i k n k' m
    by_cases hk : kindEq k k' = true
    · simp only [hk, cond_true]
      have e := kindEq_spec hk
      subst e
      cases hx' : a.eval x <;> (rw [hx'] at hx; cases hx)
      cases hy' : a.eval y <;> (rw [hy'] at hy; cases hy)
      have cmp : ∀ (b : Bool), (∀ w, (binOp op t (.int k n) (.int k m)).run P w = .ok (.bool b) w) → DescOK P a o w S μ h base (.det [] (.bool b) []) := fun b hb =>
        ok_pure H fun _ => ⟨.bool b, by simp only [execOp, ho, Sem.run_bind, hx', hy', eqGuard_int, Result.andThen_ok, hb, Sem.run_pure], .bool b⟩
      split
      · exact ok_arith H ho hx' hy' (fun w => by simp [binOp, Op.intArith]) (by simp)
      · exact ok_arith H ho hx' hy' (fun w => by simp [binOp, Op.intArith]) (by simp)
      · exact ok_arith H ho hx' hy' (fun w => by simp [binOp, Op.intArith]) (by simp)
      · refine ok_pure H fun hp => ⟨.int k (n / m), ?_, .int _ _⟩
        have h1 : 0 ≤ n ∧ 0 < m := hp _ (by simp)
        have h2 : kindR k n := hp _ (by simp)
        have hd : n.tdiv m = n / m := Int.tdiv_eq_ediv_of_nonneg h1.1
        have hle : n / m ≤ n := Int.ediv_le_self _ h1.1
        have hge : 0 ≤ n / m := Int.ediv_nonneg h1.1 (by omega)
        have hk2 : kindR k (n / m) := by cases k <;> simp only [kindR, i64R] at h2 ⊢ <;> omega
        have hm : ¬ m = 0 := by omega
        simp only [execOp, ho, Sem.run_bind, hx', hy', eqGuard_int, Result.andThen_ok, binOp, Op.intDiv, hm, if_false, ne_eq, not_true_eq_false, Sem.run_pure, hd, wrap_in hk2]
      · refine ok_pure H fun hp => ⟨.int k (n.tmod m), ?_, .int _ _⟩
        have h1 : 0 < m := hp _ (by simp)
        have hm : ¬ m = 0 := by omega
        simp only [execOp, ho, Sem.run_bind, hx', hy', eqGuard_int, Result.andThen_ok, binOp, Op.intDiv, hm, if_false, ne_eq, not_true_eq_false, Sem.run_pure]
      · exact cmp _ fun w => by simp [binOp, Op.intCmp]; rfl
      · exact cmp _ fun w => by simp [binOp, Op.intCmp, bne]; rfl
      · exact cmp _ fun w => by simp [binOp, Op.intCmp]
      · exact cmp _ fun w => by simp [binOp, Op.intCmp]
      · exact cmp _ fun w => by simp [binOp, Op.intCmp]
      · exact cmp _ fun w => by simp [binOp, Op.intCmp]
      · refine ok_pure H fun _ => ⟨.int k (bitI .andNot k n m), ?_, .int _ _⟩
        simp only [execOp, ho, Sem.run_bind, hx', hy', eqGuard_int, Result.andThen_ok, binOp, Op.intBits, Sem.run_pure, if_true, ne_eq, not_true_eq_false, if_false]
        rfl
      · refine ok_pure H fun _ => ⟨.int k (bitI .and k n m), ?_, .int _ _⟩
        simp only [execOp, ho, Sem.run_bind, hx', hy', eqGuard_int, Result.andThen_ok, binOp, Op.intBits, Sem.run_pure, if_true, ne_eq, not_true_eq_false, if_false]
        rfl
      · refine ok_pure H fun hp => ⟨.int k (n * 2 ^ min m.toNat k.bits), ?_, .int _ _⟩
        have h1 : 0 ≤ m := hp _ (by simp)
        have h2 : kindR k (n * 2 ^ min m.toNat k.bits) := hp _ (by simp)
        have hm : ¬ m < 0 := by omega
        simp only [execOp, ho, Sem.run_bind, hx', hy', eqGuard_int, Result.andThen_ok, binOp, Op.shift, hm, Sem.run_pure, if_false, wrap_in h2]
      · refine ok_pure H fun hp => ⟨.int k (n.fdiv (2 ^ min m.toNat k.bits)), ?_, .int _ _⟩
        have h1 : 0 ≤ m := hp _ (by simp)
        have hm : ¬ m < 0 := by omega
        simp only [execOp, ho, Sem.run_bind, hx', hy', eqGuard_int, Result.andThen_ok, binOp, Op.shift, hm, Sem.run_pure, if_false]
      · trivial
    · simp only [hk, cond_false]; trivial
  · rename_i s s'
    cases hx' : a.eval x <;> (rw [hx'] at hx; cases hx)
    cases hy' : a.eval y <;> (rw [hy'] at hy; cases hy)
    have cmp : ∀ (b : Bool), (∀ w, (binOp op t (.string s) (.string s')).run P w = .ok (.bool b) w) → DescOK P a o w S μ h base (.det [] (.bool b) []) := fun b hb =>
      ok_pure H fun _ => ⟨.bool b, by simp only [execOp, ho, Sem.run_bind, hx', hy', eqGuard_str, Result.andThen_ok, hb, Sem.run_pure], .bool b⟩
    split
    · exact cmp _ fun w => by simp only [binOp, Op.stringOp, toList_eq]; rfl
    · exact cmp _ fun w => by simp only [binOp, Op.stringOp, toList_eq]; rfl
    · trivial
  · split
    · rename_i b b' hb1 hb2 hb3
      have e1 := asB_rel hx hb2
      have e2 := asB_rel hy hb3
      have hu : P.underlying t = some .bool := by
        unfold isBoolT at hb1; split at hb1 <;> first | assumption | cases hb1
      refine ok_pure H fun _ => ⟨.bool (b == b'), ?_, .bool _⟩
      simp only [execOp, ho, Sem.run_bind, e1, e2, eqGuard_bool, Result.andThen_ok, eqn_eq hu, Sem.run_pure]
    · rename_i b b' hb1 hb2 hb3
      have e1 := asB_rel hx hb2
      have e2 := asB_rel hy hb3
      have hu : P.underlying t = some .bool := by
        unfold isBoolT at hb1; split at hb1 <;> first | assumption | cases hb1
      refine ok_pure H fun _ => ⟨.bool (b != b'), ?_, .bool _⟩
      simp only [execOp, ho, Sem.run_bind, e1, e2, eqGuard_bool, Result.andThen_ok, eqn_ne hu, Sem.run_pure]
    · trivial

theorem eqInts_len : ∀ {fl : List Bool} {l l' : List AV} {b : Bool}, eqInts fl l l' = some b → l.length = fl.length ∧ l'.length = fl.length
  | [], [], [], b, _ => ⟨rfl, rfl⟩
  | [], [], _ :: _, b, h => by simp [eqInts] at h
  | [], _ :: _, _, b, h => by simp [eqInts] at h
  | x :: fl, [], l', b, h => by cases x <;> simp [eqInts] at h
  | x :: fl, a :: r, [], b, h => by cases x <;> simp [eqInts] at h
  | false :: fl, a :: r, a' :: r', b, h => by
    unfold eqInts at h
    split at h
    all_goals (first | (rename_i h1 h2 h3; cases h1; done) | skip)
    all_goals (first | (cases h; done) | skip)
    · rename_i fl1 k x r1 k' y r1' e1 e2 e3
      cases e1; cases e2; cases e3
      cases hk : kindEq k k'
      · rw [hk, cond_false] at h; cases h
      · rw [hk, cond_true] at h
        split at h
        · rename_i b' hb'
          have := eqInts_len hb'
          simp; omega
        · cases h
  | true :: fl, a :: r, a' :: r', b, h => by
    simp only [eqInts] at h
    split at h
    · rename_i x y b' e1 e2 hb'
      have := eqInts_len hb'
      simp; omega
    · cases h
theorem run_eqInts (w0 : World) : ∀ {fs : List Field} {i : Nat} {l l' : List AV} {xs ys : Array Value} {b : Bool} {d : Nat}, intsFrom P i fs = true → eqInts (flagsOf P fs) l l' = some b →
    (∀ j, j < l.length → ∃ x, xs[i + j]? = some x ∧ VRel w S μ (l.getD j .undef) x) → (∀ j, j < l'.length → ∃ y, ys[i + j]? = some y ∧ VRel w S μ (l'.getD j .undef) y) → (Op.eqFields (d + 1) xs ys fs).run P w0 = .ok b w0
  | [], i, l, l', xs, ys, b, d, _, he, _, _ => by
    have := eqInts_len he
    have e1 : l = [] := List.eq_nil_of_length_eq_zero (by simpa [flagsOf] using this.1)
    have e2 : l' = [] := List.eq_nil_of_length_eq_zero (by simpa [flagsOf] using this.2)
    subst e1 e2
    simp only [eqInts, flagsOf, Option.some.injEq] at he; subst he; simp [Op.eqFields]
  | f :: fs, i, l, l', xs, ys, b, d, hi, he, hx, hy => by
    have hlen := eqInts_len he
    simp only [intsFrom, Bool.and_eq_true, bne_iff_ne, ne_eq] at hi
    obtain ⟨⟨⟨h1, h2⟩, h3⟩, h4⟩ := hi
    have e2 : f.offset = i := Nat.eq_of_beq_eq_true h2
    match l, l', he, hlen, hx, hy with
    | [], _, he, hlen, hx, hy => simp [flagsOf] at hlen
    | _ :: _, [], he, hlen, hx, hy => simp [flagsOf] at hlen
    | a :: r, a' :: r', he, hlen, hx, hy =>
      obtain ⟨vx, gx, rx⟩ := hx 0 (by simp)
      obtain ⟨vy, gy, ry⟩ := hy 0 (by simp)
      simp only [List.getD_cons_zero] at rx ry
      have ihx : ∀ j, j < r.length → ∃ x, xs[i + 1 + j]? = some x ∧ VRel w S μ (r.getD j .undef) x := fun j hj => by
        have := hx (j + 1) (by simpa using hj)
        rw [show i + 1 + j = i + (j + 1) by omega]
        simpa using this
      have ihy : ∀ j, j < r'.length → ∃ y, ys[i + 1 + j]? = some y ∧ VRel w S μ (r'.getD j .undef) y := fun j hj => by
        have := hy (j + 1) (by simpa using hj)
        rw [show i + 1 + j = i + (j + 1) by omega]
        simpa using this
      have hn : f.name ≠ "_" := h1
      cases hb : isBoolT P f.type with
      | false =>
        rw [hb, Bool.or_false] at h3
        obtain ⟨q, hu⟩ : ∃ q, P.underlying f.type = some (.int q) := by
          unfold isIntT at h3
          split at h3
          · exact ⟨_, by assumption⟩
          · cases h3
        have hp : P.plainKey f.type = true := by simp [Program.plainKey, hu]
        rw [flagsOf, hb] at he
        unfold eqInts at he
        split at he
        all_goals (first | (rename_i g1 g2 g3; cases g1; done) | skip)
        all_goals (first | (cases he; done) | skip)
        rename_i fl1 k x r1 k' y r1' g1 g2 g3
        cases g1; cases g2; cases g3
        by_cases hk : kindEq k k' = true
        case neg => simp [hk] at he
        rw [hk, cond_true] at he
        have e := kindEq_spec hk
        subst e
        split at he
        case h_2 => cases he
        rename_i b' hb'
        simp only [Option.some.injEq] at he
        subst he
        cases rx
        cases ry
        have ih := run_eqInts w0 (d := d) (xs := xs) (ys := ys) h4 hb' ihx ihy
        have p1 : (part f.type xs f.offset).run P w0 = .ok (.int k x) w0 := run_part_plain w0 hp (by rw [e2]; simpa using gx)
        have p2 : (part f.type ys f.offset).run P w0 = .ok (.int k y) w0 := run_part_plain w0 hp (by rw [e2]; simpa using gy)
        have p3 : (Op.equalIn (d + 1) f.type (.int k x) (.int k y)).run P w0 = .ok (x == y) w0 := run_equalIn_int w0 d f.type k q x y hu
        simp only [Op.eqFields, if_pos hn, Sem.run_bind, p1, p2, p3, Result.andThen_ok]
        by_cases e : x = y
        · subst e
          simpa using ih
        · have e3 : (x == y) = false := by simpa using e
          simp [e3, e]
      | true =>
        have hu : P.underlying f.type = some .bool := by
          unfold isBoolT at hb
          split at hb
          · assumption
          · cases hb
        have hp : P.plainKey f.type = true := by simp [Program.plainKey, hu]
        rw [flagsOf, hb] at he
        simp only [eqInts] at he
        split at he
        case h_2 => cases he
        rename_i x y b' a1 a2 hb'
        simp only [Option.some.injEq] at he
        subst he
        have ex := asB_rel rx a1
        have ey := asB_rel ry a2
        subst ex
        subst ey
        have ih := run_eqInts w0 (d := d) (xs := xs) (ys := ys) h4 hb' ihx ihy
        have p1 : (part f.type xs f.offset).run P w0 = .ok (.bool x) w0 := run_part_plain w0 hp (by rw [e2]; simpa using gx)
        have p2 : (part f.type ys f.offset).run P w0 = .ok (.bool y) w0 := run_part_plain w0 hp (by rw [e2]; simpa using gy)
        have p3 : (Op.equalIn (d + 1) f.type (.bool x) (.bool y)).run P w0 = .ok (x == y) w0 := run_equalIn_bool w0 d f.type x y hu
        simp only [Op.eqFields, if_pos hn, Sem.run_bind, p1, p2, p3, Result.andThen_ok]
        by_cases e : x = y
        · subst e
          simpa using ih
        · have e3 : (x == y) = false := by simpa using e
          simp [e3, e]

theorem ok_binD (H : HRel w S μ h) {op : BinOp} {t ty : TypeId} {x y : Operand} {vx vy : AV} (ho : o.op = .binOp op t x y ty) (hx : VRel w S μ vx (a.eval x)) (hy : VRel w S μ vy (a.eval y)) : DescOK P a o w S μ h base (binD P op t vx vy) := by
  unfold binD
  split
  · rename_i l l'
    unfold aggEq
    split
    case h_2 => trivial
    rename_i n hn
    obtain ⟨xs, x1, x2, hxe⟩ := hx.agg_inv
    obtain ⟨ys, y1, y2, hye⟩ := hy.agg_inv
    unfold intStruct at hn
    split at hn
    case h_2 => cases hn
    rename_i fs hu
    by_cases hf : (intsFrom P 0 fs.toList && !P.stoodInHeld t && !P.eqGuardType P.depth t) = true
    case neg => simp [hf] at hn
    rw [hf, cond_true] at hn
    simp only [Option.some.injEq] at hn
    simp only [Bool.and_eq_true, Bool.not_eq_true'] at hf
    have hfs : P.fieldsOf t = fs := by simp [Program.fieldsOf, hu]
    have eqr : ∀ b, eqInts n l l' = some b → ∀ w0, (Op.equal t (.agg xs) (.agg ys)).run P w0 = .ok b w0 := fun b hb w0 => by
      have : Op.equal t (.agg xs) (.agg ys) = Op.equalIn (9999 + 1) t (.agg xs) (.agg ys) := rfl
      rw [this, run_equalIn_struct w0 9999 t xs ys (by rw [hfs]; exact hu) hf.1.2, hfs]
      subst hn
      exact run_eqInts (w := w) (S := S) (μ := μ) w0 hf.1.1 hb (fun j hj => by
        have := x2 j hj
        have hj' : j < xs.size := by omega
        exact ⟨xs[j], by simp [hj'], by simpa [Array.getD, hj'] using this⟩) (fun j hj => by
        have := y2 j hj
        have hj' : j < ys.size := by omega
        exact ⟨ys[j], by simp [hj'], by simpa [Array.getD, hj'] using this⟩)
    have guard : ∀ op, (eqGuard op t x y (.agg xs) (.agg ys)).run P w = .ok () w := fun op => run_eqGuard_agg w op t x y xs ys hf.2
    split
    · rename_i b hb
      refine ok_pure H fun _ => ⟨.bool b, ?_, .bool _⟩
      have e1 : (binOp .eql t (.agg xs) (.agg ys)).run P w = .ok (.bool b) w := by
        have : binOp .eql t (.agg xs) (.agg ys) = (do pure (.bool (← Op.equal t (.agg xs) (.agg ys)))) := rfl
        rw [this, Sem.run_bind, eqr b hb]; rfl
      simp only [execOp, ho, Sem.run_bind, hxe, hye, guard, Result.andThen_ok, e1, Sem.run_pure]
    · rename_i b hb
      refine ok_pure H fun _ => ⟨.bool (!b), ?_, .bool _⟩
      have e1 : (binOp .neq t (.agg xs) (.agg ys)).run P w = .ok (.bool (!b)) w := by
        have : binOp .neq t (.agg xs) (.agg ys) = (do pure (.bool (!(← Op.equal t (.agg xs) (.agg ys))))) := rfl
        rw [this, Sem.run_bind, eqr b hb]; rfl
      simp only [execOp, ho, Sem.run_bind, hxe, hye, guard, Result.andThen_ok, e1, Sem.run_pure]
    · trivial
  · exact ok_binop H ho hx hy
end
end Go.Proofs.Ytemffnpliflkgaa
