/-
  Lemmas and contracts on the way to the laws of this seat; each theorem states its own conditions, and there are no others.
-/
import Derived.Test.YtgaeomkjpcpogaaFX
import Derived.Test.YtgaeomkjpcpogaaPB
namespace Go.Proofs.Ytgaeomkjpcpogaa
open Go Go.RowKit
set_option linter.unusedVariables false
set_option linter.unusedSimpArgs false
set_option linter.unusedVariables false

section
variable {H : Type} {en : TypeId × Value → H} {w : World} {base : Nat} {spare : Nat → Bool} {held : Bool}
theorem open_stp (n : Nat) (cs : List Value) (y : DataW H × List MemPlace) (h : DataW.trod en Try.prog w base spare held n 28 cs = some y) : ∃ d : den 3, (fun _ => True) d ∧ ∀ j, j < ncell 3 → ∃ v, cs[j]? = some v ∧ VRel w (S0 w) μ0 ((enc 3 d).getD j .undef) v := by
  obtain ⟨xs, m, _, _, _, hl, hf⟩ := DataW.trod_struct Try.underlying28 h
  have hl6 : xs.length = 4 := hl
  have nn : ∀ i, i < 4 → xs[i]? ≠ none := fun i hi e => by
    rw [List.getElem?_eq_none_iff] at e; omega
  obtain ⟨a0, e0, _⟩ := leaf_int (nn 0 (by omega)) Try.underlying3 (by kernel_rfl) (hf 0 _ rfl)
  obtain ⟨a1, e1, _⟩ := leaf_int (nn 1 (by omega)) Try.underlying3 (by kernel_rfl) (hf 1 _ rfl)
  obtain ⟨a2, e2, _⟩ := leaf_int (nn 2 (by omega)) Try.underlying3 (by kernel_rfl) (hf 2 _ rfl)
  obtain ⟨a3, e3, _⟩ := leaf_int (nn 3 (by omega)) Try.underlying3 (by kernel_rfl) (hf 3 _ rfl)
  refine ⟨(⟨a0, a1, a2, a3⟩ : Stp), trivial, fun j hj => ?_⟩
  have hj6 : j < 4 := hj
  match j, hj6 with
  | 0, _ => exact ⟨_, e0, .int _ _⟩
  | 1, _ => exact ⟨_, e1, .int _ _⟩
  | 2, _ => exact ⟨_, e2, .int _ _⟩
  | 3, _ => exact ⟨_, e3, .int _ _⟩
theorem open_prg (n : Nat) (cs : List Value) (y : DataW H × List MemPlace) (h : DataW.trod en Try.prog w base spare held n 31 cs = some y) : ∃ d : den 4, (fun _ => True) d ∧ ∀ j, j < ncell 4 → ∃ v, cs[j]? = some v ∧ VRel w (S0 w) μ0 ((enc 4 d).getD j .undef) v := by
  obtain ⟨xs, m, _, _, hcl, hl, hf⟩ := DataW.trod_struct Try.underlying31 h
  have hl2 : xs.length = 1 := hl
  have h0 := hf 0 _ rfl
  rw [List.getElem?_eq_getElem (show 0 < xs.length by omega)] at h0
  obtain ⟨a, cap, l, g1, g2, g3, g4⟩ := open_rows (c := 3) (Q := fun _ => True) Try.underlying29 (by kernel_rfl) (by decide) open_stp h0
  have e0 : cs[0]? = some (.slice a l.length cap) := by
    have h3 : ((cs.drop 0).take 1)[0]? = some (.slice a l.length cap) := by
      have hc27 : Try.prog.cellsOf 29 = 1 := by kernel_rfl
      have g5 : ((cs.drop 0).take (Try.prog.cellsOf 29)) = [.slice a l.length cap] := g1
      rw [hc27] at g5
      rw [g5]; rfl
    simpa using h3
  refine ⟨(l : List Stp), trivial, fun j hj => ?_⟩
  have hj1 : j < 1 := hj
  match j, hj1 with
  | 0, _ => exact ⟨_, e0, g4⟩
theorem open_run {fuel : Nat} {cs : List Value} {x : DataW H × List MemPlace} (h : DataW.trod en Try.prog w base spare held fuel 34 cs = some x) : ∃ r : Run, cs = [.int .i64 r.t, .int .i64 r.p, .int .i64 r.a, .int .i64 r.l, .int .i64 r.s, .int .i64 r.u] := by
  obtain ⟨xs, m, _, _, hcl, hl, hf⟩ := DataW.trod_struct Try.underlying34 h
  have hl6 : xs.length = 6 := hl
  have hc6 : cs.length = 6 := hcl.trans (by kernel_rfl)
  have nn : ∀ i, i < 6 → xs[i]? ≠ none := fun i hi e => by
    rw [List.getElem?_eq_none_iff] at e; omega
  obtain ⟨a0, e0, _⟩ := leaf_int (nn 0 (by omega)) Try.underlying3 (by kernel_rfl) (hf 0 _ rfl)
  obtain ⟨a1, e1, _⟩ := leaf_int (nn 1 (by omega)) Try.underlying3 (by kernel_rfl) (hf 1 _ rfl)
  obtain ⟨a2, e2, _⟩ := leaf_int (nn 2 (by omega)) Try.underlying3 (by kernel_rfl) (hf 2 _ rfl)
  obtain ⟨a3, e3, _⟩ := leaf_int (nn 3 (by omega)) Try.underlying3 (by kernel_rfl) (hf 3 _ rfl)
  obtain ⟨a4, e4, _⟩ := leaf_int (nn 4 (by omega)) Try.underlying3 (by kernel_rfl) (hf 4 _ rfl)
  obtain ⟨a5, e5, _⟩ := leaf_int (nn 5 (by omega)) Try.underlying3 (by kernel_rfl) (hf 5 _ rfl)
  refine ⟨⟨a0, a1, a2, a3, a4, a5⟩, ?_⟩
  apply List.ext_getElem?
  intro i
  match i with
  | 0 => exact e0
  | 1 => exact e1
  | 2 => exact e2
  | 3 => exact e3
  | 4 => exact e4
  | 5 => exact e5
  | i + 6 => rw [List.getElem?_eq_none (by omega)]; simp
end
end Go.Proofs.Ytgaeomkjpcpogaa
