/-
  Lemmas and contracts on the way to the laws of this seat; each theorem states its own conditions, and there are no others.
-/
import Derived.Test.YtemffnpliflkgaaE1
namespace Go.Proofs.Ytemffnpliflkgaa
open Go
set_option linter.unusedVariables false
set_option linter.unusedSimpArgs false

/-- A row's cells. -/
def enc : (c : Nat) → den c → List AV
  | 0, x => [.int .i64 x]
  | 1, x => [.bool x]
  | 2, x => [.str x]
  | 3, x => [.int .i64 x.id, .int .i64 x.parent, .str x.name, .int .i64 x.control, .int .i64 x.kind, .int .i64 x.owner]
  | 4, x => [.int .i64 x.g, .int .i64 x.q, .int .i64 x.bu, .int .i64 x.s, .int .i64 x.le, .irec true 0 x.l, .int .i64 x.sp, .int .i64 x.pe, .int .i64 x.th, .bool x.em]
  | 5, x => [.int .i64 x.dev, .int .i64 x.weight, .int .i64 x.rp, .int .i64 x.wp, .int .i64 x.ro, .int .i64 x.wo, .int .i64 x.tgt]
  | 6, x => [.int .i64 x.grp, .int .i64 x.pids, .int .i64 x.weight, .int .i64 x.quota, .int .i64 x.period, .int .i64 x.burst, .int .i64 x.cmin, .int .i64 x.cmax, .irec true 0 x.cpus, .irec true 0 x.mems, .int .i64 x.part, .int .i64 x.mmin, .int .i64 x.mlow, .int .i64 x.mhigh, .int .i64 x.mmax, .int .i64 x.mswap, .bool x.mtog, .irec true 5 x.devs]
  | 7, x => [.int .i64 x.pids, .int .i64 x.weight, .int .i64 x.quota, .int .i64 x.period, .int .i64 x.burst, .int .i64 x.cmin, .int .i64 x.cmax, .irec true 0 x.cpus, .irec true 0 x.mems, .int .i64 x.part, .int .i64 x.mmin, .int .i64 x.mlow, .int .i64 x.mhigh, .int .i64 x.mmax, .int .i64 x.mswap, .bool x.mtog, .irec true 5 x.devs]
  | 8, x => [.irec true 4 x]
  | 9, x => [.irec true 3 x.nodes, .int .i64 x.next]
  | 10, x => [.int .u8 x]
  | _ + 11, _ => []
def castL {c : Nat} (l : List (den c)) (d : Nat) : Option (List (den d)) :=
  if h : c = d then some (h ▸ l) else none
def decI : AV → Option Int
  | .int .i64 x => some x
  | _ => none
def decY : AV → Option Int
  | .int .u8 x => some x
  | _ => none
def decS : AV → Option ByteArray
  | .str s => some s
  | _ => none
def decL (c : Nat) : AV → Option (List (den c))
  | .irec true c' l => castL l c
  | .nsl => some []
  | _ => none
def dec : (c : Nat) → List AV → Option (den c)
  | 0, [v] => decI v
  | 1, [v] => AV.asB v
  | 2, [v] => decS v
  | 3, [v0, v1, v2, v3, v4, v5] => (decI v0).bind fun x0 => (decI v1).bind fun x1 => (decS v2).bind fun x2 => (decI v3).bind fun x3 => (decI v4).bind fun x4 => (decI v5).bind fun x5 => some ⟨x0, x1, x2, x3, x4, x5⟩
  | 4, [v0, v1, v2, v3, v4, v5, v6, v7, v8, v9] => (decI v0).bind fun x0 => (decI v1).bind fun x1 => (decI v2).bind fun x2 => (decI v3).bind fun x3 => (decI v4).bind fun x4 => (decL 0 v5).bind fun x5 => (decI v6).bind fun x6 => (decI v7).bind fun x7 => (decI v8).bind fun x8 => (AV.asB v9).bind fun x9 => some ⟨x0, x1, x2, x3, x4, x5, x6, x7, x8, x9⟩
  | 5, [v0, v1, v2, v3, v4, v5, v6] => (decI v0).bind fun x0 => (decI v1).bind fun x1 => (decI v2).bind fun x2 => (decI v3).bind fun x3 => (decI v4).bind fun x4 => (decI v5).bind fun x5 => (decI v6).bind fun x6 => some ⟨x0, x1, x2, x3, x4, x5, x6⟩
  | 6, [v0, v1, v2, v3, v4, v5, v6, v7, v8, v9, v10, v11, v12, v13, v14, v15, v16, v17] => (decI v0).bind fun x0 => (decI v1).bind fun x1 => (decI v2).bind fun x2 => (decI v3).bind fun x3 => (decI v4).bind fun x4 => (decI v5).bind fun x5 => (decI v6).bind fun x6 => (decI v7).bind fun x7 => (decL 0 v8).bind fun x8 => (decL 0 v9).bind fun x9 => (decI v10).bind fun x10 => (decI v11).bind fun x11 => (decI v12).bind fun x12 => (decI v13).bind fun x13 => (decI v14).bind fun x14 => (decI v15).bind fun x15 => (AV.asB v16).bind fun x16 => (decL 5 v17).bind fun x17 => some ⟨x0, x1, x2, x3, x4, x5, x6, x7, x8, x9, x10, x11, x12, x13, x14, x15, x16, x17⟩
  | 7, [v0, v1, v2, v3, v4, v5, v6, v7, v8, v9, v10, v11, v12, v13, v14, v15, v16] => (decI v0).bind fun x0 => (decI v1).bind fun x1 => (decI v2).bind fun x2 => (decI v3).bind fun x3 => (decI v4).bind fun x4 => (decI v5).bind fun x5 => (decI v6).bind fun x6 => (decL 0 v7).bind fun x7 => (decL 0 v8).bind fun x8 => (decI v9).bind fun x9 => (decI v10).bind fun x10 => (decI v11).bind fun x11 => (decI v12).bind fun x12 => (decI v13).bind fun x13 => (decI v14).bind fun x14 => (AV.asB v15).bind fun x15 => (decL 5 v16).bind fun x16 => some ⟨x0, x1, x2, x3, x4, x5, x6, x7, x8, x9, x10, x11, x12, x13, x14, x15, x16⟩
  | 8, [v] => decL 4 v
  | 9, [v0, v1] => (decL 3 v0).bind fun x0 => (decI v1).bind fun x1 => some ⟨x0, x1⟩
  | 10, [v] => decY v
  | _, _ => none
/-- How many cells a row has. -/
def ncell : Nat → Nat
  | 0 => 1
  | 1 => 1
  | 2 => 1
  | 3 => 6
  | 4 => 10
  | 5 => 7
  | 6 => 18
  | 7 => 17
  | 8 => 1
  | 9 => 2
  | 10 => 1
  | _ => 0
/-- The code of a slice's elements, by their type. -/
def codeOf : TypeId → Option Nat
  | 3 => some 0
  | 4 => some 1
  | 9 => some 2
  | 34 => some 3
  | 80 => some 4
  | 108 => some 5
  | 96 => some 6
  | 39 => some 7
  | 59 => some 8
  | 29 => some 9
  | 5 => some 10
  | _ => none
theorem enc_len : ∀ (c : Nat) (x : den c), (enc c x).length = ncell c
  | 0, _ => rfl
  | 1, _ => rfl
  | 2, _ => rfl
  | 3, _ => rfl
  | 4, _ => rfl
  | 5, _ => rfl
  | 6, _ => rfl
  | 7, _ => rfl
  | 8, _ => rfl
  | 9, _ => rfl
  | 10, _ => rfl
  | _ + 11, _ => rfl
/-- Bytes as a row. -/
def u8c : Nat := 10
def u8mk (l : List Int) : List (den u8c) := l
end Go.Proofs.Ytemffnpliflkgaa
