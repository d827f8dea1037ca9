/-
  Lemmas and contracts on the way to the laws of this seat; each theorem states its own conditions, and there are no others.
-/
import Derived.Test.YtemffnpliflkgaaE4
import Derived.Laws.OwnMore
import Derived.WalkKit
namespace Go.Proofs.Ytemffnpliflkgaa
open Go
set_option linter.unusedVariables false
set_option linter.unusedSimpArgs false

inductive VRs (w : World) (S : SS) (μ : MM) : List AV → List Value → Prop
  | nil : VRs w S μ [] []
  | cons {v : AV} {x : Value} {vs : List AV} {xs : List Value} (h : VRel w S μ v x) (t : VRs w S μ vs xs) : VRs w S μ (v :: vs) (x :: xs)

theorem VRs.len {w : World} {S : SS} {μ : MM} {vs : List AV} {xs : List Value} (h : VRs w S μ vs xs) : vs.length = xs.length := by
  induction h with
  | nil => rfl
  | cons _ _ ih => simp [ih]
theorem VRs.get {w : World} {S : SS} {μ : MM} {vs : List AV} {xs : List Value} (h : VRs w S μ vs xs) : ∀ i, i < vs.length → VRel w S μ (vs.getD i .undef) (xs.getD i Go.undef) := by
  induction h with
  | nil => intro i hi; exact absurd hi (Nat.not_lt_zero _)
  | cons h _ ih =>
    intro i hi
    cases i with
    | zero => exact h
    | succ i => exact ih i (by simpa using hi)
theorem VRs.of {w : World} {S : SS} {μ : MM} : ∀ {vs : List AV} {xs : List Value}, vs.length = xs.length → (∀ i, i < vs.length → VRel w S μ (vs.getD i .undef) (xs.getD i Go.undef)) → VRs w S μ vs xs
  | [], [], _, _ => .nil
  | v :: vs, x :: xs, hl, h => .cons (h 0 (by simp)) (VRs.of (by simpa using hl) fun i hi => h (i + 1) (by simpa using hi))
theorem VRs.evo {w w' : World} {S S' : SS} {μ μ' : MM} (E : Evo w S μ w' S' μ') {vs : List AV} {xs : List Value} (h : VRs w S μ vs xs) : VRs w' S' μ' vs xs := by
  induction h with
  | nil => exact .nil
  | cons h _ ih => exact .cons (h.evo E) ih

section
variable {w : World} {S : SS} {μ : MM} {x : Value}
theorem VRel.int_inv {k : IntKind} {n : Int} (h : VRel w S μ (.int k n) x) : x = .int k n := by cases h; rfl
theorem VRel.ptr_inv {id off : Nat} (h : VRel w S μ (.ptr id off) x) : ∃ m b, μ id = some m ∧ m.b = some b ∧ x = .pointer (some ⟨b, off, none⟩) := by
  cases h with
  | ptr hm hb => exact ⟨_, _, hm, hb, rfl⟩
theorem VRel.ept_inv {id c r f : Nat} (h : VRel w S μ (.ept id c r f) x) : ∃ m b, μ id = some m ∧ m.b = some b ∧ r < m.n ∧ x = .pointer (some ⟨b, r * ncell m.c + f, none⟩) := by
  cases h with
  | ept hm hb hr => exact ⟨_, _, hm, hb, hr, rfl⟩
theorem VRel.ipt_inv {p : Bool} {cs : List AV} {off : Nat} (h : VRel w S μ (.ipt p cs off) x) : ∃ (u : Nat → Value) (b o : Nat), S p b ∧ (∀ j, off + j < cs.length → w.cell? ⟨b, o + j, none⟩ = some (u j)) ∧ (∀ j, off + j < cs.length → VRel w S μ (cs.getD (off + j) .undef) (u j)) ∧ x = .pointer (some ⟨b, o, none⟩) := by
  cases h with
  | ipt u hs hc hv => exact ⟨u, _, _, hs, hc, hv, rfl⟩
theorem VRel.pix_inv {id n : Nat} {i : Int} (h : VRel w S μ (.pix id i n) x) : ∃ m b, μ id = some m ∧ m.b = some b ∧ i.toNat < n ∧ x = .pointer (some ⟨b, i.toNat, none⟩) := by
  cases h with
  | pix hm hb hi => exact ⟨_, _, hm, hb, hi, rfl⟩
theorem VRel.own_inv {id c : Nat} (h : VRel w S μ (.own id c) x) : ∃ m, μ id = some m ∧ ((∃ b, m.b = some b ∧ x = .slice (some ⟨b, 0, none⟩) m.n m.cap) ∨ (m.n = 0 ∧ ∃ a, x = .slice a 0 0)) := by
  cases h with
  | own hm hb => exact ⟨_, hm, .inl ⟨_, hb, rfl⟩⟩
  | own0 a hm h0 => exact ⟨_, hm, .inr ⟨h0, a, rfl⟩⟩
theorem VRel.sub_inv {id c lo n : Nat} (h : VRel w S μ (.sub id c lo n) x) : (∃ m b cap, μ id = some m ∧ m.b = some b ∧ m.c = c ∧ lo + n ≤ m.n ∧ (n ≤ cap ∧ lo + cap ≤ m.cap) ∧ x = .slice (some ⟨b, lo * ncell c, none⟩) n cap) ∨ (n = 0 ∧ ∃ a cap, x = .slice a 0 (0 * cap)) := by
  cases h with
  | sub hm hb he hr hc => exact .inl ⟨_, _, _, hm, hb, he, hr, hc, rfl⟩
  | sub0 a cap => exact .inr ⟨rfl, a, cap, rfl⟩
theorem VRel.sub_zero {id c lo n : Nat} (a : Option Addr) (h : n = 0) : VRel w S μ (.sub id c lo 0) (.slice a 0 n) := by
  subst h; exact .sub0 a 0
theorem VRel.irec_inv {p : Bool} {c : Nat} {l : List (den c)} (h : VRel w S μ (.irec p c l) x) : (∃ (u : Nat → Nat → Value) (b o cap : Nat), S p b ∧ l.length ≤ cap ∧ (∀ i, i < l.length → ∀ j, j < ncell c → w.cell? ⟨b, o + i * ncell c + j, none⟩ = some (u i j)) ∧ (∀ i, i < l.length → ∀ j, j < ncell c → VRel w S μ ((rowAV c l i).getD j .undef) (u i j)) ∧ x = .slice (some ⟨b, o, none⟩) l.length cap) ∨ (l = [] ∧ ∃ a cap, x = .slice a 0 cap) := by
  cases h with
  | irec u hs hn hc hv => exact .inl ⟨u, _, _, _, hs, hn, hc, hv, rfl⟩
  | irec0 a cap => exact .inr ⟨rfl, a, cap, rfl⟩
theorem VRel.mp_inv {id : Nat} (h : VRel w S μ (.mp id) x) : ∃ m b, μ id = some m ∧ m.b = some b ∧ x = .map (some b) := by
  cases h with
  | mp hm hb => exact ⟨_, _, hm, hb, rfl⟩
theorem VRel.imp_inv {p g : Bool} {c : Nat} {f : Int → den c} (h : VRel w S μ (.imp p g c f) x) : ∃ (b clock : Nat) (es : Array MapEntry) (u : Int → Nat → Value), S p b ∧ w.heap[b]? = some (.map es clock) ∧ MShape es.toList g c f ∧ (∀ k v, mapGet es.toList k = some v → ∀ j, j < ncell c → v.cells.getD j Go.undef = u k j) ∧
    (∀ k, mapGet es.toList k ≠ none → ∀ j, j < ncell c → VRel w S μ ((enc c (f k)).getD j .undef) (u k j)) ∧ x = .map (some b) := by
  cases h with
  | imp u hs hh hm hu hv => exact ⟨_, _, _, u, hs, hh, hm, hu, hv, rfl⟩
theorem VRel.agg_inv {l : List AV} (h : VRel w S μ (.agg l) x) : ∃ vs : Array Value, l.length = vs.size ∧ (∀ i, i < l.length → VRel w S μ (l.getD i .undef) (vs.getD i Go.undef)) ∧ x = .agg vs := by
  cases h with
  | agg hl h => exact ⟨_, hl, h, rfl⟩
theorem VRel.tup_inv {l : List AV} (h : VRel w S μ (.tup l) x) : ∃ vs : Array Value, l.length = vs.size ∧ (∀ i, i < l.length → VRel w S μ (l.getD i .undef) (vs.getD i Go.undef)) ∧ x = .tuple vs := by
  cases h with
  | tup hl h => exact ⟨_, hl, h, rfl⟩
end

/-- What is at hand behind an operation. -/
def Out (w : World) (S : SS) (μ : MM) (h : Nat → Option OB) (base : Nat) (v : AV) (u : Upd) (w' : World) (x : Value) : Prop :=
  ∃ S' μ', Evo w S μ w' S' μ' ∧ VRel w' S' μ' v x ∧ HRel w' S' μ' (updH h u) ∧ ∀ id, μ' id ≠ none → μ id ≠ none ∨ (base ≤ id ∧ id < base + 10)

theorem Out.same {w : World} {S : SS} {μ : MM} {h : Nat → Option OB} {base : Nat} {v : AV} {x : Value} (H : HRel w S μ h) (hv : VRel w S μ v x) : Out w S μ h base v [] w x :=
  ⟨S, μ, Evo.refl _ _ _, hv, H, fun _ h => .inl h⟩

def DescOK (P : Program) (a : Act) (o : Oper) (w : World) (S : SS) (μ : MM) (h : Nat → Option OB) (base : Nat) : Desc → Prop
  | .det pre v u => (∀ p ∈ pre, p) → ∀ (K : Act → World → Prop) (Q : Exit → Act → World → Prop), (∀ x w', Out w S μ h base v u w' x → K (a.put o.dst x) w') → o.wp P a w K Q
  | .dem pre Y post v u _ => (∀ p ∈ pre, p) → ∀ (K : Act → World → Prop) (Q : Exit → Act → World → Prop), (∀ y : Y, post y → ∀ x w', Out w S μ h base (v y) (u y) w' x → K (a.put o.dst x) w') → o.wp P a w K Q
  | .bad _ => True

theorem wp_val {P : Program} {o : Oper} {a : Act} {w w' : World} {x : Value} {K : Act → World → Prop} {Q : Exit → Act → World → Prop} (h : (execOp a.eval o).run P w = .ok (.value x) w') (hk : K (a.put o.dst x) w') : o.wp P a w K Q := by
  unfold Oper.wp; rw [h]; exact hk
theorem wp_skp {P : Program} {o : Oper} {a : Act} {w w' : World} {K : Act → World → Prop} {Q : Exit → Act → World → Prop} (h : (execOp a.eval o).run P w = .ok .skip w') (hk : K (a.put o.dst Go.undef) w') : o.wp P a w K Q := by
  unfold Oper.wp; rw [h]; exact hk

section
variable {P : Program} {a : Act} {o : Oper} {w : World} {S : SS} {μ : MM} {h : Nat → Option OB} {base : Nat}

/-- An operation that only yields a value. -/
theorem ok_pure (H : HRel w S μ h) {pre : List Prop} {v : AV} (hr : (∀ p ∈ pre, p) → ∃ x, (execOp a.eval o).run P w = .ok (.value x) w ∧ VRel w S μ v x) : DescOK P a o w S μ h base (.det pre v []) := by
  intro hp K Q hK
  obtain ⟨x, hx, hv⟩ := hr hp
  exact wp_val hx (hK x w (Out.same H hv))
theorem ok_val1 (H : HRel w S μ h) {ov : Option AV} (hr : ∀ v, ov = some v → ∃ x, (execOp a.eval o).run P w = .ok (.value x) w ∧ VRel w S μ v x) : DescOK P a o w S μ h base (.val1 ov) := by
  cases ov with
  | none => trivial
  | some v => exact ok_pure H fun _ => hr v rfl

theorem addr_add (b off n : Nat) : (⟨b, off, none⟩ : Addr).add n = ⟨b, off + n, none⟩ := by
  unfold Addr.add; split <;> simp_all

theorem wrap_in {k : IntKind} {n : Int} (h : kindR k n) : k.wrap n = n := by
  cases k <;> simp only [kindR, i64R] at h <;> simp only [IntKind.wrap, IntKind.bits, IntKind.signed] <;> simp <;> omega

theorem kindEq_spec {k k' : IntKind} (h : kindEq k k' = true) : k = k' := by
  cases k <;> cases k' <;> first | rfl | (simp [kindEq] at h)

theorem asB_rel {v : AV} {x : Value} {b : Bool} (h : VRel w S μ v x) (hb : v.asB = some b) : x = .bool b := by
  cases h <;> simp [AV.asB] at hb <;> first | (subst hb; rfl) | contradiction

theorem av1_rel (x : Value) : VRel w S μ (av1 x) x := by
  unfold av1
  split <;> first | exact .tt | exact .ff | exact .int _ _ | exact .str _ | exact .nilp | exact .nsl | exact .nfn | exact .undef _
theorem avOf_rel (x : Value) : VRel w S μ (avOf x) x := by
  unfold avOf
  split
  · rename_i cs
    refine .agg (by simp) fun i hi => ?_
    have hi' : i < cs.size := by simpa using hi
    simp [List.getElem?_eq_getElem, hi', Array.getD, Array.getElem?_eq_getElem]
    exact av1_rel _
  · exact av1_rel x
end
end Go.Proofs.Ytemffnpliflkgaa
