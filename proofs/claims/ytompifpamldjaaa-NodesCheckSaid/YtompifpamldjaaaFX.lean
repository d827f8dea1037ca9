/-
  Lemmas and contracts on the way to the laws of this seat; each theorem states its own conditions, and there are no others.
-/
import Derived.Test.YtompifpamldjaaaE29
import Derived.OpenShut
import Derived.ChangeSame
namespace Go.Proofs.Ytompifpamldjaaa
open Go Go.RowKit
set_option linter.unusedVariables false
set_option linter.unusedSimpArgs false
set_option linter.unusedVariables false

/-! Law arguments that are structs and slices of structs. -/
section
variable {H : Type} {en : TypeId × Value → H} {P : Program} {w : World} {base : Nat} {spare : Nat → Bool} {held : Bool}

theorem add_zero_spot {b off k : Nat} (i : Nat) : (Addr.add ⟨b, off, none⟩ i) = ⟨b, off + i, none⟩ := by
  unfold Addr.add
  split
  · rename_i h; subst h; rfl
  · rfl
theorem spot_none {a : Addr} {v : Value} (h : w.cell? a = some v) (hs : ∀ s, a.spot = some s → w.cell? a = none) : a.spot = none := by
  cases e : a.spot with
  | none => rfl
  | some s => rw [hs s e] at h; cases h
/-- A slice of rows of data, opened. -/
theorem open_rows {c : Nat} {Q : den c → Prop} {t e : TypeId} {fuel : Nat} {cs : List Value} {x : DataW H × List MemPlace} (ht : P.underlying t = some (.slice e)) (hc : P.cellsOf e = ncell c) (h0 : 0 < ncell c)
    (one : ∀ n cs y, DataW.trod en P w base spare held n e cs = some y → ∃ d : den c, Q d ∧ ∀ j, j < ncell c → ∃ v, cs[j]? = some v ∧ VRel w (S0 w) μ0 ((enc c d).getD j .undef) v)
    (h : DataW.trod en P w base spare held fuel t cs = some x) :
    ∃ (a : Option Addr) (cap : Nat) (l : List (den c)), cs = [.slice a l.length cap] ∧ l.length ≤ maxLen ∧ (∀ d ∈ l, Q d) ∧ VRel w (S0 w) μ0 (.irec true c l) (.slice a l.length cap) := by
  rcases DataW.trod_slice ht h with ⟨rfl, _⟩ | ⟨a, len, cap, elems, rest, n, _, rfl, _, _, hl, hm, hlen, hel, _, _⟩
  · exact ⟨none, 0, [], rfl, Nat.zero_le _, fun d hd => (by cases hd), .irec0 none 0⟩
  · have each : ∀ i, i < len → ∃ (d : den c) (u : Nat → Value), Q d ∧ ∀ j, j < ncell c → w.cell? ((a.add (i * ncell c)).add j) = some (u j) ∧ VRel w (S0 w) μ0 ((enc c d).getD j .undef) (u j) := fun i hi => by
      have h1 := hel i hi
      rw [List.getElem?_eq_getElem (by omega), Option.bind_eq_some_iff] at h1
      obtain ⟨cs', h2, h3⟩ := h1
      obtain ⟨d, hq, hv⟩ := one n cs' _ h3
      obtain ⟨_, h5, h6⟩ := World.cells?_some h2
      rw [hc] at h5 h6
      refine ⟨d, fun j => cs'.getD j Go.undef, hq, fun j hj => ?_⟩
      obtain ⟨v, h7, h8⟩ := hv j hj
      have e : cs'.getD j Go.undef = v := by rw [List.getD_eq_getElem?_getD, h7]; rfl
      refine ⟨?_, ?_⟩
      · rw [h6 j hj, h7]
        show some v = some (cs'.getD j Go.undef)
        rw [e]
      · show VRel w (S0 w) μ0 ((enc c d).getD j .undef) (cs'.getD j Go.undef)
        rw [e]; exact h8
    by_cases hz : len = 0
    · subst hz
      exact ⟨some a, cap, [], rfl, Nat.zero_le _, fun d hd => (by cases hd), .irec0 (some a) cap⟩
    · obtain ⟨b, off, spot⟩ := a
      have hs : spot = none := by
        cases spot with
        | none => rfl
        | some s =>
          obtain ⟨_, u, _, h4⟩ := each 0 (by omega)
          have h5 := (h4 0 h0).1
          simp only [Nat.zero_mul, Addr.add, if_true, World.cell?] at h5
          split at h5 <;> simp at h5
      subst hs
      have hb : b < w.heap.size := by
        obtain ⟨_, u, _, h4⟩ := each 0 (by omega)
        have h5 := (h4 0 h0).1
        have := World.block_lt_of_cell? _ _ h5
        simpa [Addr.add] using this
      let dd : Nat → den c := fun i => if h : i < len then (each i h).choose else dfl c
      let uu : Nat → Nat → Value := fun i => if h : i < len then (each i h).choose_spec.choose else fun _ => Go.undef
      have key : ∀ i, i < len → Q (dd i) ∧ ∀ j, j < ncell c → w.cell? ((Addr.add ⟨b, off, none⟩ (i * ncell c)).add j) = some (uu i j) ∧ VRel w (S0 w) μ0 ((enc c (dd i)).getD j .undef) (uu i j) := fun i hi => by
        have e1 : dd i = (each i hi).choose := by simp only [dd, hi, dif_pos]
        have e2 : uu i = (each i hi).choose_spec.choose := by simp only [uu, hi, dif_pos]
        rw [e1, e2]
        exact (each i hi).choose_spec.choose_spec
      have hlen2 : ((List.range len).map dd).length = len := by simp
      refine ⟨some ⟨b, off, none⟩, cap, (List.range len).map dd, by rw [hlen2], by rw [hlen2]; omega, fun d hd => ?_, ?_⟩
      · obtain ⟨i, hi, rfl⟩ := List.mem_map.1 hd
        exact (key i (by simpa using hi)).1
      · have hrow : ∀ i, i < len → rowAV c ((List.range len).map dd) i = enc c (dd i) := fun i hi => by
          unfold rowAV
          rw [List.getD_eq_getElem?_getD]
          simp [hi]
        refine .irec uu (S0_iff.2 hb) (by rw [hlen2]; exact hl) (fun i hi j hj => ?_) (fun i hi j hj => ?_)
        · rw [hlen2] at hi
          have := ((key i hi).2 j hj).1
          rw [add_zero_spot (k := 0), add_zero_spot (k := 0)] at this
          exact this
        · rw [hlen2] at hi
          rw [hrow i hi]
          exact ((key i hi).2 j hj).2
/-- The number at a place of a struct. -/
theorem leaf_int {n : Nat} {t : TypeId} {o : Nat} {cs : List Value} {y : Option (DataW H × List MemPlace)} {k : IntKind} (hy : y ≠ none) (ht : P.underlying t = some (.int k)) (hc : P.cellsOf t = 1) (h : DataW.trod en P w base spare held n t ((cs.drop o).take (P.cellsOf t)) = y) : ∃ z, cs[o]? = some (.int k z) ∧ (Lit.int k z).wf = true := by
  cases y with
  | none => exact absurd rfl hy
  | some y =>
    obtain ⟨z, h1, _, h2⟩ := DataW.trod_int ht h
    rw [hc] at h1
    refine ⟨z, ?_, h2⟩
    have h3 : ((cs.drop o).take 1)[0]? = some (.int k z) := by rw [h1]; rfl
    simpa using h3
theorem leaf_str {n : Nat} {t : TypeId} {o : Nat} {cs : List Value} {y : Option (DataW H × List MemPlace)} (hy : y ≠ none) (ht : P.underlying t = some .string) (hc : P.cellsOf t = 1) (h : DataW.trod en P w base spare held n t ((cs.drop o).take (P.cellsOf t)) = y) : ∃ s : ByteArray, cs[o]? = some (.string s) ∧ s.size ≤ maxLen := by
  cases y with
  | none => exact absurd rfl hy
  | some y =>
    obtain ⟨z, h1, _, h2⟩ := DataW.trod_string ht h
    rw [hc] at h1
    refine ⟨z, ?_, h2⟩
    have h3 : ((cs.drop o).take 1)[0]? = some (.string z) := by rw [h1]; rfl
    simpa using h3
end
end Go.Proofs.Ytompifpamldjaaa
