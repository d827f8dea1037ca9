/-
  Lemmas and contracts on the way to the laws of this seat; each theorem states its own conditions, and there are no others.
-/
import Derived.Test.YtglkagaammnojaaFX
import Derived.Test.YtglkagaammnojaaPB
namespace Go.Proofs.Ytglkagaammnojaa
open Go Go.RowKit
set_option linter.unusedVariables false
set_option linter.unusedSimpArgs false
set_option linter.unusedVariables false

section
variable {H : Type} {en : TypeId × Value → H} {w : World} {base : Nat} {spare : Nat → Bool} {held : Bool}
def NodQ (x : Nod) : Prop := (bytesOf x.name).length ≤ 9223372036854775807 ∧ x.control ≤ 9223372036854775807
theorem open_nod (n : Nat) (cs : List Value) (y : DataW H × List MemPlace) (h : DataW.trod en Try.prog w base spare held n 34 cs = some y) : ∃ d : den 3, NodQ d ∧ ∀ j, j < ncell 3 → ∃ v, cs[j]? = some v ∧ VRel w (S0 w) μ0 ((enc 3 d).getD j .undef) v := by
  obtain ⟨xs, m, _, _, _, hl, hf⟩ := DataW.trod_struct Try.underlying34 h
  have hl6 : xs.length = 6 := hl
  have nn : ∀ i, i < 6 → xs[i]? ≠ none := fun i hi e => by
    rw [List.getElem?_eq_none_iff] at e; omega
  obtain ⟨a0, e0, _⟩ := leaf_int (nn 0 (by omega)) Try.underlying3 (by kernel_rfl) (hf 0 _ rfl)
  obtain ⟨a1, e1, _⟩ := leaf_int (nn 1 (by omega)) Try.underlying3 (by kernel_rfl) (hf 1 _ rfl)
  obtain ⟨a2, e2, h2⟩ := leaf_str (nn 2 (by omega)) Try.underlying9 (by kernel_rfl) (hf 2 _ rfl)
  obtain ⟨a3, e3, h3⟩ := leaf_int (nn 3 (by omega)) Try.underlying3 (by kernel_rfl) (hf 3 _ rfl)
  obtain ⟨a4, e4, _⟩ := leaf_int (nn 4 (by omega)) Try.underlying3 (by kernel_rfl) (hf 4 _ rfl)
  obtain ⟨a5, e5, _⟩ := leaf_int (nn 5 (by omega)) Try.underlying3 (by kernel_rfl) (hf 5 _ rfl)
  refine ⟨(⟨a0, a1, a2, a3, a4, a5⟩ : Nod), ⟨?_, (wf_i64 h3).2⟩, fun j hj => ?_⟩
  · show (bytesOf a2).length ≤ 9223372036854775807
    have := size_bytes a2
    unfold maxLen at h2
    omega
  · have hj6 : j < 6 := hj
    match j, hj6 with
    | 0, _ => exact ⟨_, e0, .int _ _⟩
    | 1, _ => exact ⟨_, e1, .int _ _⟩
    | 2, _ => exact ⟨_, e2, .str _⟩
    | 3, _ => exact ⟨_, e3, .int _ _⟩
    | 4, _ => exact ⟨_, e4, .int _ _⟩
    | 5, _ => exact ⟨_, e5, .int _ _⟩
theorem open_cnd (n : Nat) (cs : List Value) (y : DataW H × List MemPlace) (h : DataW.trod en Try.prog w base spare held n 40 cs = some y) : ∃ d : den 4, (fun _ => True) d ∧ ∀ j, j < ncell 4 → ∃ v, cs[j]? = some v ∧ VRel w (S0 w) μ0 ((enc 4 d).getD j .undef) v := by
  obtain ⟨xs, m, _, _, _, hl, hf⟩ := DataW.trod_struct Try.underlying40 h
  have hl6 : xs.length = 4 := hl
  have nn : ∀ i, i < 4 → xs[i]? ≠ none := fun i hi e => by
    rw [List.getElem?_eq_none_iff] at e; omega
  obtain ⟨a0, e0, _⟩ := leaf_int (nn 0 (by omega)) Try.underlying3 (by kernel_rfl) (hf 0 _ rfl)
  obtain ⟨a1, e1, _⟩ := leaf_int (nn 1 (by omega)) Try.underlying3 (by kernel_rfl) (hf 1 _ rfl)
  obtain ⟨a2, e2, _⟩ := leaf_int (nn 2 (by omega)) Try.underlying3 (by kernel_rfl) (hf 2 _ rfl)
  obtain ⟨a3, e3, _⟩ := leaf_int (nn 3 (by omega)) Try.underlying3 (by kernel_rfl) (hf 3 _ rfl)
  refine ⟨(⟨a0, a1, a2, a3⟩ : Cnd), trivial, fun j hj => ?_⟩
  have hj6 : j < 4 := hj
  match j, hj6 with
  | 0, _ => exact ⟨_, e0, .int _ _⟩
  | 1, _ => exact ⟨_, e1, .int _ _⟩
  | 2, _ => exact ⟨_, e2, .int _ _⟩
  | 3, _ => exact ⟨_, e3, .int _ _⟩
theorem open_dep (n : Nat) (cs : List Value) (y : DataW H × List MemPlace) (h : DataW.trod en Try.prog w base spare held n 57 cs = some y) : ∃ d : den 5, (fun _ => True) d ∧ ∀ j, j < ncell 5 → ∃ v, cs[j]? = some v ∧ VRel w (S0 w) μ0 ((enc 5 d).getD j .undef) v := by
  obtain ⟨xs, m, _, _, _, hl, hf⟩ := DataW.trod_struct Try.underlying57 h
  have hl6 : xs.length = 3 := hl
  have nn : ∀ i, i < 3 → xs[i]? ≠ none := fun i hi e => by
    rw [List.getElem?_eq_none_iff] at e; omega
  obtain ⟨a0, e0, _⟩ := leaf_int (nn 0 (by omega)) Try.underlying3 (by kernel_rfl) (hf 0 _ rfl)
  obtain ⟨a1, e1, _⟩ := leaf_int (nn 1 (by omega)) Try.underlying3 (by kernel_rfl) (hf 1 _ rfl)
  obtain ⟨a2, e2, _⟩ := leaf_int (nn 2 (by omega)) Try.underlying3 (by kernel_rfl) (hf 2 _ rfl)
  refine ⟨(⟨a0, a1, a2⟩ : Dep), trivial, fun j hj => ?_⟩
  have hj6 : j < 3 := hj
  match j, hj6 with
  | 0, _ => exact ⟨_, e0, .int _ _⟩
  | 1, _ => exact ⟨_, e1, .int _ _⟩
  | 2, _ => exact ⟨_, e2, .int _ _⟩
theorem open_smp (n : Nat) (cs : List Value) (y : DataW H × List MemPlace) (h : DataW.trod en Try.prog w base spare held n 61 cs = some y) : ∃ d : den 6, (fun _ => True) d ∧ ∀ j, j < ncell 6 → ∃ v, cs[j]? = some v ∧ VRel w (S0 w) μ0 ((enc 6 d).getD j .undef) v := by
  obtain ⟨xs, m, _, _, _, hl, hf⟩ := DataW.trod_struct Try.underlying61 h
  have hl6 : xs.length = 2 := hl
  have nn : ∀ i, i < 2 → xs[i]? ≠ none := fun i hi e => by
    rw [List.getElem?_eq_none_iff] at e; omega
  obtain ⟨a0, e0, _⟩ := leaf_int (nn 0 (by omega)) Try.underlying3 (by kernel_rfl) (hf 0 _ rfl)
  obtain ⟨a1, e1, _⟩ := leaf_int (nn 1 (by omega)) Try.underlying3 (by kernel_rfl) (hf 1 _ rfl)
  refine ⟨(⟨a0, a1⟩ : Smp), trivial, fun j hj => ?_⟩
  have hj6 : j < 2 := hj
  match j, hj6 with
  | 0, _ => exact ⟨_, e0, .int _ _⟩
  | 1, _ => exact ⟨_, e1, .int _ _⟩
theorem open_chg (n : Nat) (cs : List Value) (y : DataW H × List MemPlace) (h : DataW.trod en Try.prog w base spare held n 71 cs = some y) : ∃ d : den 7, (fun _ => True) d ∧ ∀ j, j < ncell 7 → ∃ v, cs[j]? = some v ∧ VRel w (S0 w) μ0 ((enc 7 d).getD j .undef) v := by
  obtain ⟨xs, m, _, _, _, hl, hf⟩ := DataW.trod_struct Try.underlying71 h
  have hl6 : xs.length = 2 := hl
  have nn : ∀ i, i < 2 → xs[i]? ≠ none := fun i hi e => by
    rw [List.getElem?_eq_none_iff] at e; omega
  obtain ⟨a0, e0, _⟩ := leaf_int (nn 0 (by omega)) Try.underlying3 (by kernel_rfl) (hf 0 _ rfl)
  obtain ⟨a1, e1, _⟩ := leaf_int (nn 1 (by omega)) Try.underlying3 (by kernel_rfl) (hf 1 _ rfl)
  refine ⟨(⟨a0, a1⟩ : Chg), trivial, fun j hj => ?_⟩
  have hj6 : j < 2 := hj
  match j, hj6 with
  | 0, _ => exact ⟨_, e0, .int _ _⟩
  | 1, _ => exact ⟨_, e1, .int _ _⟩
/-- A tree, opened. -/
theorem open_tree {fuel : Nat} {cs : List Value} {x : DataW H × List MemPlace} (h : DataW.trod en Try.prog w base spare held fuel 29 cs = some x) : ∃ (a : Option Addr) (cap : Nat) (l : List Nod) (n : Int), cs = [.slice a l.length cap, .int .i64 n] ∧ WfN l ∧ VRel w (S0 w) μ0 (.agg [.irec true 3 l, .int .i64 n]) (.agg #[.slice a l.length cap, .int .i64 n]) := by
  obtain ⟨xs, m, _, _, hcl, hl, hf⟩ := DataW.trod_struct Try.underlying29 h
  have hl2 : xs.length = 2 := hl
  have hc2 : cs.length = 2 := hcl.trans (by kernel_rfl)
  have nn : ∀ i, i < 2 → xs[i]? ≠ none := fun i hi e => by
    rw [List.getElem?_eq_none_iff] at e; omega
  obtain ⟨n, e1, _⟩ := leaf_int (nn 1 (by omega)) Try.underlying3 (by kernel_rfl) (hf 1 _ rfl)
  have h0 := hf 0 _ rfl
  rw [List.getElem?_eq_getElem (show 0 < xs.length by omega)] at h0
  obtain ⟨a, cap, l, g1, g2, g3, g4⟩ := open_rows (c := 3) (Q := NodQ) Try.underlying27 (by kernel_rfl) (by decide) open_nod h0
  have e0 : cs[0]? = some (.slice a l.length cap) := by
    have h3 : ((cs.drop 0).take 1)[0]? = some (.slice a l.length cap) := by
      have hc27 : Try.prog.cellsOf 27 = 1 := by kernel_rfl
      have g5 : ((cs.drop 0).take (Try.prog.cellsOf 27)) = [.slice a l.length cap] := g1
      rw [hc27] at g5
      rw [g5]; rfl
    simpa using h3
  refine ⟨a, cap, l, n, ?_, ⟨fun i hi => ?_, fun i hi => ?_, ?_⟩, .agg rfl fun i hi => ?_⟩
  · apply List.ext_getElem? 
    intro i
    match i with
    | 0 => exact e0
    | 1 => exact e1
    | i + 2 => rw [List.getElem?_eq_none (by omega)]; simp
  · exact (g3 _ (nd_mem hi)).1
  · exact (g3 _ (nd_mem hi)).2
  · unfold maxLen at g2; omega
  · match i, hi with
    | 0, _ => exact g4
    | 1, _ => exact .int _ _
end
end Go.Proofs.Ytglkagaammnojaa
