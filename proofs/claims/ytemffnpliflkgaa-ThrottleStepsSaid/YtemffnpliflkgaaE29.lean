/-
  Lemmas and contracts on the way to the laws of this seat; each theorem states its own conditions, and there are no others.
-/
import Derived.Test.YtemffnpliflkgaaE28
namespace Go.Proofs.Ytemffnpliflkgaa
open Go Go.RowKit
set_option linter.unusedVariables false
set_option linter.unusedSimpArgs false
theorem AllOK.head {P : Program} {l : List (FuncId × Spec)} {f : FuncId} {s : Spec} (h : AllOK P ((f, s) :: l)) : Callable P f ∧ Valid P f s := h f s (by simp only [look, nbeq_same, cond_true])
theorem AllOK.and {P : Program} {l : List (FuncId × Spec)} {f : FuncId} {s : Spec} (h : AllOK P l) (k : Callable P f ∧ Valid P f s) : AllOK P ((f, s) :: l) := h.cons k.1 k.2
/-- A law's walk, of its condition. -/
theorem law_ofD {D : DS} {x : D.X} (E : Env) (henv : ∀ f s, E.spec f = some s → Callable E.P f ∧ Valid E.P f s) (hmix : E.P.follows .mixedOrders = true) {f : FuncId} {fn : Func} (hf : E.P.funcs[f]? = some fn) {avs : List AV} {xs : List Value} {w : World} (hv : VRs w (S0 w) μ0 avs xs)
    (hvc : D.vc E fn x) (ha : D.sig.args x = avs) (hb : D.sig.boxes x = []) (hr : D.res x = .bool true) (hu : D.upd x = []) : Calls E.P f xs.toArray w fun e w' => e = .returned (.bool true) ∧ Below w.heap.size w w' := by
  have h := D.vc_iff.1 hvc
  rw [ha, hb, hr, hu] at h
  exact law_of E henv hmix hf hv h
theorem mixed : Try.prog.follows .mixedOrders = true := by kernel_rfl
theorem wf_u8 {n : Int} (h : (Lit.int .u8 n).wf = true) : 0 ≤ n ∧ n ≤ 255 := by
  simp [Lit.wf, IntKind.min, IntKind.max, IntKind.signed, IntKind.bits] at h
  omega
theorem wf_u16 {n : Int} (h : (Lit.int .u16 n).wf = true) : 0 ≤ n ∧ n ≤ 65535 := by
  simp [Lit.wf, IntKind.min, IntKind.max, IntKind.signed, IntKind.bits] at h
  omega
theorem wf_i64 {n : Int} (h : (Lit.int .i64 n).wf = true) : -9223372036854775808 ≤ n ∧ n ≤ 9223372036854775807 := by
  simp [Lit.wf, IntKind.min, IntKind.max, IntKind.signed, IntKind.bits] at h
  omega
theorem gd1 (a b : Bool) : (a = false → b = true → (!a && b) = true) ↔ True := by cases a <;> cases b <;> simp
theorem gd2 (a b : Bool) : (a = true → b = true → (a && b) = true) ↔ True := by cases a <;> cases b <;> simp
theorem gd3 (a b : Bool) : (a = false → b = false → (a || b) = false) ↔ True := by cases a <;> cases b <;> simp
theorem gd4 (a b : Bool) : (a = true → b = false → (!a || b) = false) ↔ True := by cases a <;> cases b <;> simp
theorem gd5 (a b : Bool) : (a = false → b = false → (!a && b) = false) ↔ True := by cases a <;> cases b <;> simp
theorem gd6 (a b : Bool) : (a = true → b = false → (a && b) = false) ↔ True := by cases a <;> cases b <;> simp
end Go.Proofs.Ytemffnpliflkgaa
