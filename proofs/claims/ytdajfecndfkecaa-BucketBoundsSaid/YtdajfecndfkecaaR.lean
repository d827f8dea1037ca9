/-
  Lemmas and contracts on the way to the laws of this seat; each theorem states its own conditions, and there are no others.
-/
import Derived.OrdersHeld
import Derived.StillTail
import Derived.Deep.RegionHeld3
namespace Go.Proofs.Ytdajfecndfkecaa
open Go

section
variable {P : Program} {ops : Array Oper} {Q : Exit → Act → World → Prop} {md : Region.Mode} {S : World → Prop}

/-- S, as long as operation t has not come up. -/
def Till (S : World → Prop) (t : Nat) (listed : Array Bool) (w : World) : Prop := listed.getD t false = true ∨ S w

/-- A region in whatever order; till operation t has come up S is shown anew behind each operation. -/
def AnyT (P : Program) (md : Region.Mode) (ops : Array Oper) (Q : Exit → Act → World → Prop) (S : World → Prop) (t : Nat) : Nat → Array Bool → Act → World → Prop
  | 0, listed, a, w => Region.ready md ops listed = [] ∧ Q .normal a w
  | n + 1, listed, a, w =>
    (Region.ready md ops listed = [] → Q .normal a w) ∧
    ∀ j ∈ Region.ready md ops listed, wpOp P ops Q j (fun a' w' => Till S t (listed.setIfInBounds j true) w' ∧ AnyT P md ops Q S t n (listed.setIfInBounds j true) a' w') a w

theorem AnyT.any {t : Nat} : ∀ (n : Nat) (listed : Array Bool) (a : Act) (w : World), AnyT P md ops Q S t n listed a w → wpAny P md ops Q n listed a w
  | 0, _, _, _, h => h
  | n + 1, _, _, _, h => ⟨h.1, fun j hj => wpOp_mono (fun a' w' h' => AnyT.any n _ a' w' h'.2) (h.2 j hj)⟩

theorem listed_of_waits {t i : Nat} {listed : Array Bool} (hw : Region.waitsFor md ops t i = true) (ht : t ∈ Region.ready md ops listed) : listed.getD i false = true := by
  obtain ⟨ot, hot, e, he, hb, hon⟩ := Region.waitsFor_spec hw
  obtain ⟨_, o', ho', hall⟩ := mem_ready.1 ht
  have : o' = ot := Option.some.inj (ho'.symm.trans hot)
  subst this
  have := hall e he hb
  rwa [hon] at this

/-- The free operation i is taken first: either it yields v wherever S holds, and t waits for it; or it yields v anywhere. -/
theorem AnyT.first {t i : Nat} {oi : Oper} {v : Value} {S' : World → Prop} (hi : ops[i]? = some oi) (hsel : ∀ (j : Nat) (o : Oper) cs b, ops[j]? = some o → o.op ≠ .select cs b)
    (hQ : ∀ c a w, Q (.panic c) (a.put oi.dst v) w → Q (.panic c) a w) (hit : i ≠ t) (hw : (∀ w, S' w) ∨ (S' = S ∧ Region.waitsFor md ops t i = true)) :
    ∀ (n : Nat) (listed : Array Bool) (a : Act) (w : World),
      (∀ j oj, ops[j]? = some oj → j ≠ i → listed.getD j true = false → (∀ e ∈ oj.after, Region.binds md e = true → e.on ≠ i) → oi.apart ops oj = true) →
      i ∈ Region.ready md ops listed → YieldsIf P ops S' oi v a → Till S t listed w → ((∀ w, S' w) ∨ listed.getD t false = false) →
      AnyT P md ops Q S t n (listed.setIfInBounds i true) (a.put oi.dst v) w → AnyT P md ops Q S t (n + 1) listed a w := by
  have grow : ∀ (listed : Array Bool) (j : Nat) (w : World), Till S t listed w → Till S t (listed.setIfInBounds j true) w := fun listed j w h => h.imp (fun h => getD_set_true h) id
  have here : ∀ (listed : Array Bool) (w : World), Till S t listed w → ((∀ w, S' w) ∨ listed.getD t false = false) → S' w := fun listed w h1 h2 => by
    rcases h2 with h2 | h2
    · exact h2 w
    · rcases hw with hw | hw
      · exact hw w
      · rw [hw.1]
        rcases h1 with h1 | h1
        · rw [h2] at h1; cases h1
        · exact h1
  intro n
  induction n with
  | zero =>
    intro listed a w _ hr hy hS hT H
    refine ⟨fun h => absurd hr (by rw [h]; exact List.not_mem_nil), fun j hj => ?_⟩
    by_cases hji : j = i
    · rw [hji]; exact hy.wpOp hi (here _ _ hS hT) ⟨grow _ _ _ hS, H⟩
    · have hj' := ready_mono hj hji
      rw [H.1] at hj'
      cases hj'
  | succ n ih =>
    intro listed a w hfree hr hy hS hT H
    have hun : listed.getD i false = false := getD_both (mem_ready.1 hr).1
    refine ⟨fun h => absurd hr (by rw [h]; exact List.not_mem_nil), fun j hj => ?_⟩
    by_cases hji : j = i
    · rw [hji]; exact hy.wpOp hi (here _ _ hS hT) ⟨grow _ _ _ hS, H⟩
    · have hT' : (∀ w, S' w) ∨ (listed.setIfInBounds j true).getD t false = false := by
        rcases hw with hw | hw
        · exact .inl hw
        · refine hT.imp id fun hT => ?_
          have hjt : j ≠ t := fun e => by
            subst e
            rw [listed_of_waits hw.2 hj] at hun
            cases hun
          rw [getD_set_ne false hjt]; exact hT
      obtain ⟨hju, oj, hoj, hall⟩ := mem_ready.1 hj
      have hno : ∀ e ∈ oj.after, Region.binds md e = true → e.on ≠ i := fun e he hb heq => by
        have := hall e he hb
        rw [heq, hun] at this
        cases this
      have hk : ∀ k ok, ops[k]? = some ok → k ≠ i → (listed.setIfInBounds j true).getD k true = false →
          (∀ e ∈ ok.after, Region.binds md e = true → e.on ≠ i) → oi.apart ops ok = true := fun k ok hok hki hku hkn => by
        refine hfree k ok hok hki ?_ hkn
        by_cases hjk : j = k
        · rw [← hjk]; exact hju
        · rwa [getD_set_ne true hjk] at hku
      have back : ∀ w', Till S t ((listed.setIfInBounds i true).setIfInBounds j true) w' → Till S t (listed.setIfInBounds j true) w' := fun w' h => by
        rw [Array.setIfInBounds_comm _ _ (Ne.symm hji)] at h
        exact h.imp (fun h => by rwa [getD_set_ne false hit] at h) id
      refine wpOp_mono (fun a' w' h3 => ⟨back w' h3.2.1, ih (listed.setIfInBounds j true) a' w' hk (ready_mono hr (Ne.symm hji)) h3.1 (back w' h3.2.1) hT' ?_⟩)
        (wpOp_putIf hoj (hfree j oj hoj hji hju hno) (fun cs b => hsel i oi cs b hi) (fun cs b => hsel j oj cs b hoj) hQ hy (H.2 j (ready_mono hj hji)))
      rw [Array.setIfInBounds_comm _ _ hji]
      exact h3.2.2

/-- A soft operation: it may come up now, yields v wherever S holds, and t waits for it. -/
theorem AnyT.soft {t i : Nat} {oi : Oper} {v : Value} {n : Nat} {listed : Array Bool} {a : Act} {w : World} (hi : ops[i]? = some oi)
    (hc : (Region.noSelect ops && Region.free md ops listed i && (Region.ready md ops listed).contains i && Region.waitsFor md ops t i && !(listed.getD t false) && (i != t)) = true)
    (hQ : ∀ c a w, Q (.panic c) (a.put oi.dst v) w → Q (.panic c) a w) (hS : S w) (hwt : Region.wanted oi (yielded ops a.tmps) = true) (hy : ∀ w', S w' → (execOp a.eval oi).run P w' = .ok (.value v) w')
    (h : AnyT P md ops Q S t n (listed.setIfInBounds i true) (a.put oi.dst v) w) : AnyT P md ops Q S t (n + 1) listed a w := by
  simp only [Bool.and_eq_true, Bool.not_eq_true', bne_iff_ne, ne_eq] at hc
  exact AnyT.first (S' := S) hi (Region.noSelect_spec hc.1.1.1.1.1) hQ hc.2 (.inr ⟨rfl, hc.1.1.2⟩) n listed a w (Region.free_spec hi hc.1.1.1.1.2) (by simpa using hc.1.1.1.2) (.inl ⟨hwt, hy⟩) (.inr hS) (.inr hc.1.2) h

/-- A plain operation: it may come up now, and yields v anywhere. -/
theorem AnyT.pure {t i : Nat} {oi : Oper} {v : Value} {n : Nat} {listed : Array Bool} {a : Act} {w : World} (hi : ops[i]? = some oi)
    (hc : (Region.noSelect ops && Region.free md ops listed i && (Region.ready md ops listed).contains i && (i != t)) = true)
    (hQ : ∀ c a w, Q (.panic c) (a.put oi.dst v) w → Q (.panic c) a w) (hS : Till S t listed w) (hwt : Region.wanted oi (yielded ops a.tmps) = true) (hy : ∀ w', (execOp a.eval oi).run P w' = .ok (.value v) w')
    (h : AnyT P md ops Q S t n (listed.setIfInBounds i true) (a.put oi.dst v) w) : AnyT P md ops Q S t (n + 1) listed a w := by
  simp only [Bool.and_eq_true, bne_iff_ne, ne_eq] at hc
  exact AnyT.first (S' := fun _ => True) hi (Region.noSelect_spec hc.1.1.1) hQ hc.2 (.inl fun _ => trivial) n listed a w (Region.free_spec hi hc.1.1.2) (by simpa using hc.1.2) (.inl ⟨hwt, fun w' _ => hy w'⟩) hS (.inl fun _ => trivial) h

/-- A guarded operation that is passed over. -/
theorem AnyT.pass {t i : Nat} {oi : Oper} {n : Nat} {listed : Array Bool} {a : Act} {w : World} (hi : ops[i]? = some oi)
    (hc : (Region.noSelect ops && Region.free md ops listed i && (Region.ready md ops listed).contains i && (i != t)) = true)
    (hQ : ∀ c a w, Q (.panic c) (a.put oi.dst undef) w → Q (.panic c) a w) (hS : Till S t listed w) (hwt : Region.wanted oi (yielded ops a.tmps) = false)
    (h : AnyT P md ops Q S t n (listed.setIfInBounds i true) (a.put oi.dst undef) w) : AnyT P md ops Q S t (n + 1) listed a w := by
  simp only [Bool.and_eq_true, bne_iff_ne, ne_eq] at hc
  exact AnyT.first (S' := fun _ => True) hi (Region.noSelect_spec hc.1.1.1) hQ hc.2 (.inl fun _ => trivial) n listed a w (Region.free_spec hi hc.1.1.2) (by simpa using hc.1.2) (.inr ⟨hwt, rfl⟩) hS (.inl fun _ => trivial) h

/-- The one operation that may come up now: behind it S is shown anew. -/
theorem AnyT.loud {t i : Nat} {oi : Oper} {n : Nat} {listed : Array Bool} {a : Act} {w : World} (hi : ops[i]? = some oi) (hr : (Region.ready md ops listed == [i]) = true)
    (h : ∀ K : Act → World → Prop, (∀ a' w', S w' → AnyT P md ops Q S t n (listed.setIfInBounds i true) a' w' → K a' w') →
      if Region.wanted oi (yielded ops a.tmps) = true then Oper.wp P oi a w K Q else K (a.put oi.dst undef) w) : AnyT P md ops Q S t (n + 1) listed a w := by
  have hr' : Region.ready md ops listed = [i] := by simpa using hr
  refine ⟨fun h0 => (by rw [hr'] at h0; cases h0), fun j hj => ?_⟩
  rw [hr'] at hj
  obtain rfl : j = i := by simpa using hj
  have := h (fun a' w' => Till S t (listed.setIfInBounds j true) w' ∧ AnyT P md ops Q S t n (listed.setIfInBounds j true) a' w') (fun a' w' h1 h2 => ⟨.inr h1, h2⟩)
  unfold wpOp
  simp only [hi]
  split
  · rename_i hw; rw [if_pos hw] at this; exact .inl this
  · rename_i hw; rw [if_neg hw] at this; exact this

/-- Operation t itself. -/
theorem AnyT.turn {t : Nat} {oi : Oper} {n : Nat} {listed : Array Bool} {a : Act} {w : World} (hi : ops[t]? = some oi) (hr : (Region.ready md ops listed == [t] && (listed.setIfInBounds t true).getD t false) = true)
    (h : ∀ K : Act → World → Prop, (∀ a' w', AnyT P md ops Q S t n (listed.setIfInBounds t true) a' w' → K a' w') →
      if Region.wanted oi (yielded ops a.tmps) = true then Oper.wp P oi a w K Q else K (a.put oi.dst undef) w) : AnyT P md ops Q S t (n + 1) listed a w := by
  simp only [Bool.and_eq_true, beq_iff_eq] at hr
  refine ⟨fun h0 => (by rw [hr.1] at h0; cases h0), fun j hj => ?_⟩
  rw [hr.1] at hj
  obtain rfl : j = t := by simpa using hj
  have := h (fun a' w' => Till S j (listed.setIfInBounds j true) w' ∧ AnyT P md ops Q S j n (listed.setIfInBounds j true) a' w') (fun a' w' h1 => ⟨.inl hr.2, h1⟩)
  unfold wpOp
  simp only [hi]
  split
  · rename_i hw; rw [if_pos hw] at this; exact .inl this
  · rename_i hw; rw [if_neg hw] at this; exact this

/-- All have come up. -/
theorem AnyT.done {t : Nat} {listed : Array Bool} {a : Act} {w : World} (hr : (Region.ready md ops listed == []) = true) (h : Q .normal a w) : ∀ {n : Nat}, AnyT P md ops Q S t n listed a w
  | 0 => ⟨by simpa using hr, h⟩
  | n + 1 => ⟨fun _ => h, fun i hi => (by have h0 : Region.ready md ops listed = [] := by simpa using hr
                                          rw [h0] at hi; cases hi)⟩

/-- The beginning. -/
theorem wp_region_anyT {id t : Nat} {a : Act} {w : World} {l : List Oper} (S : World → Prop) (hm : P.follows .mixedOrders = true)
    (h : AnyT P .any l.toArray Q S t l.toArray.size (Array.replicate l.toArray.size false) a w.drew) : (Code.region id l.toArray true).wp P Q a w :=
  wp_region_any hm (AnyT.any _ _ _ _ h)

end
end Go.Proofs.Ytdajfecndfkecaa
