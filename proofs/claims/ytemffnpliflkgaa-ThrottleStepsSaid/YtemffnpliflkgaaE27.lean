/-
  Lemmas and contracts on the way to the laws of this seat; each theorem states its own conditions, and there are no others.
-/
import Derived.Test.YtemffnpliflkgaaE26
import Derived.Below
import Derived.OpenShut
import Derived.KernelRfl
namespace Go.Proofs.Ytemffnpliflkgaa
open Go Go.RowKit
set_option linter.unusedVariables false
set_option linter.unusedSimpArgs false

/-- What is known of a slice of integers that came in: it is nil, or leads to a row of cells. -/
def IsRow (k : IntKind) (w : World) (a : Option Addr) (len cap : Nat) (zs : List Int) : Prop :=
  (a = none ∧ len = 0 ∧ cap = 0 ∧ zs = []) ∨
  ∃ x, a = some x ∧ len ≤ cap ∧ cap ≤ maxLen ∧ zs.length = cap ∧ (∀ i, i < zs.length → w.cell? (x.add i) = some (.int k (zs.getD i 0))) ∧ ∀ n ∈ zs, (Lit.int k n).wf = true

theorem IsRow.len {k : IntKind} {w : World} {a : Option Addr} {len cap : Nat} {zs : List Int} (h : IsRow k w a len cap zs) : len ≤ maxLen := by
  rcases h with ⟨_, rfl, _, _⟩ | ⟨x, _, h1, h2, _⟩
  · exact Nat.zero_le _
  · omega

def μ0 : MM := fun _ => none
def h0 : Nat → Option OB := fun _ => none
/-- All that is there is read only, for good. -/
def S0 (w : World) : SS := ZL w (fun b => b < w.heap.size) μ0 h0

theorem S0_iff {w : World} {p : Bool} {b : Nat} : S0 w p b ↔ b < w.heap.size := by
  unfold S0 ZL
  cases p
  · simp only [Bool.false_eq_true, if_false]
    exact ⟨fun h => h.1, fun h => ⟨h, fun i o m hi => by cases hi⟩⟩
  · simp

theorem heap0_rel (w : World) : HRel w (S0 w) μ0 h0 where
  blk := fun id o hi => by cases hi
  injH := fun i j oi oj mi mj b hi => by cases hi
  sepH := fun i o m b p hi => by cases hi
  bd := fun p b hs => S0_iff.1 hs

theorem row_rel {w : World} {a : Option Addr} {len cap : Nat} {zs : List Int} (h : IsRow .i64 w a len cap zs) : VRel w (S0 w) μ0 (.irec true 0 (zs.take len)) (.slice a len cap) := by
  rcases h with ⟨_, rfl, _, rfl⟩ | ⟨x, rfl, h1, h2, h3, hc, _⟩
  · exact .irec0 a cap
  · by_cases hz : len = 0
    · subst hz
      exact .irec0 (some x) cap
    · have h4 := hc 0 (by omega)
      obtain ⟨b, off, spot⟩ := x
      have hs : spot = none := by
        cases spot with
        | none => rfl
        | some s =>
          simp only [Addr.add, if_true, World.cell?] at h4
          split at h4 <;> simp at h4
      subst hs
      have hb : b < w.heap.size := by
        have := World.block_lt_of_cell? _ _ h4
        simpa [Addr.add] using this
      have hl : (zs.take len).length = len := by simp; omega
      have := VRel.irec (w := w) (S := S0 w) (μ := μ0) (p := true) (c := 0) (l := zs.take len) (b := b) (o := off) (cap := cap) (fun i _ => .int .i64 (zs.getD i 0)) (S0_iff.2 hb) (by omega) (fun i hi j hj => by
        have hj' : j = 0 := by simp only [ncell] at hj; omega
        subst hj'
        have := hc i (by omega)
        simp only [ncell, Nat.mul_one, Nat.add_zero]
        unfold Addr.add at this
        split at this
        · rename_i hi0; subst hi0; simpa using this
        · exact this) (fun i hi j hj => by
        have hj' : j = 0 := by simp only [ncell] at hj; omega
        subst hj'
        have hi' : i < len := by omega
        have e : (rowAV 0 (zs.take len) i).getD 0 .undef = .int .i64 (zs.getD i 0) := by
          unfold rowAV enc
          simp [List.getD_eq_getElem?_getD, List.getElem?_take_of_lt hi', dfl]
        rw [e]
        exact .int _ _)
      rw [hl] at this
      exact this

/-- A law's walk, of what it is said to do. -/
theorem law_calls {P : Program} {f : FuncId} {avs : List AV} {xs : List Value} {w : World} (hm : Meets P f avs h0 fun r u => ∃ _ : Unit, True ∧ r = .bool true ∧ u = []) (hv : VRs w (S0 w) μ0 avs xs) :
    Calls P f xs.toArray w fun e w' => e = .returned (.bool true) ∧ Below w.heap.size w w' :=
  (hm w (fun b => b < w.heap.size) μ0 xs (fun _ _ => rfl) (fun b hb => S0_iff.2 hb) (heap0_rel w) hv).mono fun e w' ⟨r, u, v, S', μ', hR, he, E, hr, _⟩ => by
    obtain ⟨_, _, rfl, rfl⟩ := hR
    cases hr
    exact ⟨he, E.os, E.tape, E.output, E.size, fun k hk => E.keep true k (S0_iff.2 hk)⟩

/-- A law's walk, of its condition. -/
theorem law_of (E : Env) (henv : ∀ f s, E.spec f = some s → Callable E.P f ∧ Valid E.P f s) (hmix : E.P.follows .mixedOrders = true) {f : FuncId} {fn : Func} (hf : E.P.funcs[f]? = some fn) {avs : List AV} {xs : List Value} {w : World} (hv : VRs w (S0 w) μ0 avs xs)
    (hvc : fnVC E fn avs [] Unit (fun _ => True) (fun _ => .bool true) (fun _ => [])) : Calls E.P f xs.toArray w fun e w' => e = .returned (.bool true) ∧ Below w.heap.size w w' :=
  law_calls (meets_of_vc E henv hmix hf (boxes := []) (fun i o h => by simp [numb, heapOf] at h) hvc) hv
end Go.Proofs.Ytemffnpliflkgaa
