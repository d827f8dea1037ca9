/-
  Lemmas and contracts on the way to the laws of this seat; each theorem states its own conditions, and there are no others.
-/
import Derived.Test.YtemffnpliflkgaaPL2

namespace Go.Proofs.Ytemffnpliflkgaa
open Go
set_option linter.unusedVariables false
set_option linter.unusedSimpArgs false
set_option linter.unusedVariables false

def sLaw11 : DS := ⟨_, one pkIntsP, fun _ => True, fun _ => .bool true, nou⟩
def contF (s : St) (v : AV) : List Cfg := match v with
  | .nsl => []
  | v => match contentA s.h v with
    | some ⟨6, l⟩ => l
    | _ => []
def rowsN (s : St) (id : Nat) : List Nod := match s.h id with
  | some (.rows _ 3 l) => l
  | _ => []
def treeN (s : St) (id : Nat) : List Nod := match s.h id with
  | some (.cells _ [v, _]) => (match contentA s.h v with
    | some ⟨3, l⟩ => l
    | _ => [])
  | _ => []
def cellI1 (s : St) (id : Nat) : Int := match s.h id with
  | some (.cells _ [_, .int _ n]) => n
  | _ => 0

def inv4j (s : St) : Inv where
  X := List Nod × Int
  ok := fun x => ChkP x.1 x.2
  sl := fun _ => [(5, .own 101 6)]
  hp := fun x => [(101, .rows 96 6 (contF s (s.t 5))), (100010, .cells 29 [.own 103 3, .int .i64 x.2]), (103, .rows 34 3 x.1)]
  keep := []
  me := fun _ => 0
def inv4a (s : St) : Inv where
  X := Int
  ok := fun i => 0 ≤ i
  sl := fun i => [(79, .int .i64 i), (5, .own 101 6), (12, .own 105 6)]
  hp := fun i => [(101, .rows 96 6 (contF s (s.t 5))), (105, .rows 96 6 (contF s (s.t 12))), (100010, .cells 29 [.own 103 3, .int .i64 (cellI1 s 100010)]), (103, .rows 34 3 (treeN s 100010))]
  keep := []
  me := fun i => ((treeN s 100010).length - i).toNat
set_option maxRecDepth 100000 in
theorem vc4 (L : List Int) (hx : True) : sLaw11.vc (EV Try.prog [(14, sLight.spec), (15, sSane11.spec), (16, sRoll.spec), (17, sTree.spec), (18, sCfgsD.spec), (23, sNext.spec), (22, sAdd.spec), (24, sRem.spec), (25, sAdjC.spec), (26, sFit.spec), (27, sGetC.spec), (28, sDefS.spec), (20, sGetC.spec), (29, sEqS.spec)] (invsS [(17, inv4a)]) (invsS [(13, inv4j)])) Try.f4 (L, ()) := by
  have e : (True ∧ ((!decide ((↑L.length : Int) ≤ 600)) = true → True ∧ ∃ (y : Unit), True ∧ true = true) ∧ ((!decide ((↑L.length : Int) ≤ 600)) = false → True ∧ (DOK (L, 0) ∧ (0 : Int) ≤ 6 ∧ (6 : Int) ≤ 20) ∧ (∀ (y : (List Nod × Int) × Int), true = true) ∧ ∀ (y : (List Nod × Int) × Int), (TreeP y.fst.fst y.fst.snd ∧ (↑y.fst.fst.length : Int) ≤ (6 : Int) + 1) ∧ 0 ≤ y.snd ∧ y.snd ≤ (↑L.length : Int) → (DOK (L, y.snd) ∧ y.fst.fst.length ≤ (64 : Nat)) ∧ (∀ (y : List Cfg × Int), true = true) ∧ ∀ (y_1 : List Cfg × Int), CfgsP y.fst.fst y_1.fst ∧ y.snd ≤ y_1.snd ∧ y_1.snd ≤ (↑L.length : Int) → (DOK (L, y_1.snd) ∧ (↑y.fst.fst.length : Int) ≤ 4611686018427387904) ∧ (∀ (y : Int × Int), true = true) ∧ ∀ (y_2 : Int × Int), (1 ≤ (↑y.fst.fst.length : Int) → 0 ≤ y_2.fst ∧ y_2.fst < (↑y.fst.fst.length : Int)) ∧ ((↑y.fst.fst.length : Int) < 1 → y_2.fst = 0) ∧ y_1.snd ≤ y_2.snd ∧ y_2.snd ≤ (↑L.length : Int) → (0 ≤ y_2.fst ∧ y_2.fst < (↑y.fst.fst.length : Int)) ∧ True ∧ ((!decide (addE y.fst.fst y.fst.snd (nd y.fst.fst y_2.fst.toNat).id { data := ((102 : UInt8) :: (114 : UInt8) :: (101 : UInt8) :: (115 : UInt8) :: (104 : UInt8) :: NilL UInt8).toArray : ByteArray } = 0)) = true → (decide (addE y.fst.fst y.fst.snd (nd y.fst.fst y_2.fst.toNat).id { data := ((102 : UInt8) :: (114 : UInt8) :: (101 : UInt8) :: (115 : UInt8) :: (104 : UInt8) :: NilL UInt8).toArray : ByteArray } = 7) = true → True) ∧ (decide (addE y.fst.fst y.fst.snd (nd y.fst.fst y_2.fst.toNat).id { data := ((102 : UInt8) :: (114 : UInt8) :: (101 : UInt8) :: (115 : UInt8) :: (104 : UInt8) :: NilL UInt8).toArray : ByteArray } = 7) = true → decide (addE y.fst.fst y.fst.snd (nd y.fst.fst y_2.fst.toNat).id { data := ((102 : UInt8) :: (114 : UInt8) :: (101 : UInt8) :: (115 : UInt8) :: (104 : UInt8) :: NilL UInt8).toArray : ByteArray } = 7) = true) ∧ ∃ (y_3 : Unit), True ∧ (decide (addE y.fst.fst y.fst.snd (nd y.fst.fst y_2.fst.toNat).id { data := ((102 : UInt8) :: (114 : UInt8) :: (101 : UInt8) :: (115 : UInt8) :: (104 : UInt8) :: NilL UInt8).toArray : ByteArray } = 7) && true) = true) ∧ ((!decide (addE y.fst.fst y.fst.snd (nd y.fst.fst y_2.fst.toNat).id { data := ((102 : UInt8) :: (114 : UInt8) :: (101 : UInt8) :: (115 : UInt8) :: (104 : UInt8) :: NilL UInt8).toArray : ByteArray } = 0)) = false → ((DOK (L, y_2.snd) ∧ (↑y.fst.fst.length : Int) ≤ 4611686018427387904) ∧ (∀ (y : Int × Int), true = true) ∧ ∀ (y_3 : Int × Int), (1 ≤ (↑y.fst.fst.length : Int) → 0 ≤ y_3.fst ∧ y_3.fst < (↑y.fst.fst.length : Int)) ∧ ((↑y.fst.fst.length : Int) < 1 → y_3.fst = 0) ∧ y_2.snd ≤ y_3.snd ∧ y_3.snd ≤ (↑L.length : Int) → (0 ≤ y_3.fst ∧ y_3.fst < (↑y.fst.fst.length : Int)) ∧ True ∧ (decide (rmE (addL y.fst.fst y.fst.snd (nd y.fst.fst y_2.fst.toNat).id { data := ((102 : UInt8) :: (114 : UInt8) :: (101 : UInt8) :: (115 : UInt8) :: (104 : UInt8) :: NilL UInt8).toArray : ByteArray }) (addN y.fst.fst y.fst.snd (nd y.fst.fst y_2.fst.toNat).id { data := ((102 : UInt8) :: (114 : UInt8) :: (101 : UInt8) :: (115 : UInt8) :: (104 : UInt8) :: NilL UInt8).toArray : ByteArray }) (nd y.fst.fst y_3.fst.toNat).id = 0) = true → ∃ (x : List Nod × Int), ChkP x.fst x.snd ∧ y_1.fst = y_1.fst ∧ rmN (addL y.fst.fst y.fst.snd (nd y.fst.fst y_2.fst.toNat).id { data := ((102 : UInt8) :: (114 : UInt8) :: (101 : UInt8) :: (115 : UInt8) :: (104 : UInt8) :: NilL UInt8).toArray : ByteArray }) (addN y.fst.fst y.fst.snd (nd y.fst.fst y_2.fst.toNat).id { data := ((102 : UInt8) :: (114 : UInt8) :: (101 : UInt8) :: (115 : UInt8) :: (104 : UInt8) :: NilL UInt8).toArray : ByteArray }) (nd y.fst.fst y_3.fst.toNat).id = x.snd ∧ rmL (addL y.fst.fst y.fst.snd (nd y.fst.fst y_2.fst.toNat).id { data := ((102 : UInt8) :: (114 : UInt8) :: (101 : UInt8) :: (115 : UInt8) :: (104 : UInt8) :: NilL UInt8).toArray : ByteArray }) (addN y.fst.fst y.fst.snd (nd y.fst.fst y_2.fst.toNat).id { data := ((102 : UInt8) :: (114 : UInt8) :: (101 : UInt8) :: (115 : UInt8) :: (104 : UInt8) :: NilL UInt8).toArray : ByteArray }) (nd y.fst.fst y_3.fst.toNat).id = x.fst) ∧ (decide (rmE (addL y.fst.fst y.fst.snd (nd y.fst.fst y_2.fst.toNat).id { data := ((102 : UInt8) :: (114 : UInt8) :: (101 : UInt8) :: (115 : UInt8) :: (104 : UInt8) :: NilL UInt8).toArray : ByteArray }) (addN y.fst.fst y.fst.snd (nd y.fst.fst y_2.fst.toNat).id { data := ((102 : UInt8) :: (114 : UInt8) :: (101 : UInt8) :: (115 : UInt8) :: (104 : UInt8) :: NilL UInt8).toArray : ByteArray }) (nd y.fst.fst y_3.fst.toNat).id = 0) = false → ∃ (x : List Nod × Int), ChkP x.fst x.snd ∧ y_1.fst = y_1.fst ∧ addN y.fst.fst y.fst.snd (nd y.fst.fst y_2.fst.toNat).id { data := ((102 : UInt8) :: (114 : UInt8) :: (101 : UInt8) :: (115 : UInt8) :: (104 : UInt8) :: NilL UInt8).toArray : ByteArray } = x.snd ∧ addL y.fst.fst y.fst.snd (nd y.fst.fst y_2.fst.toNat).id { data := ((102 : UInt8) :: (114 : UInt8) :: (101 : UInt8) :: (115 : UInt8) :: (104 : UInt8) :: NilL UInt8).toArray : ByteArray } = x.fst)) ∧ ∀ (x : List Nod × Int), ChkP x.fst x.snd → (WfN x.fst ∧ CL y_1.fst) ∧ (WfN x.fst ∧ CL (adjL x.fst x.snd y_1.fst)) ∧ ((!fitB x.fst x.snd (adjL x.fst x.snd y_1.fst)) = true → ∃ (y : Unit), True ∧ false = true) ∧ ((!fitB x.fst x.snd (adjL x.fst x.snd y_1.fst)) = false → (∃ (x_1 : Int), 0 ≤ x_1 ∧ 0 = x_1 ∧ y_1.fst = y_1.fst ∧ adjL x.fst x.snd y_1.fst = adjL x.fst x.snd y_1.fst ∧ x.snd = x.snd ∧ x.fst = x.fst) ∧ ∀ (x_1 : Int), 0 ≤ x_1 → (decide (x_1 < (↑x.fst.length : Int)) = true → (0 ≤ x_1 ∧ x_1 < (↑x.fst.length : Int)) ∧ CL y_1.fst ∧ (decide ((nd x.fst x_1.toNat).id = addI y.fst.fst y.fst.snd (nd y.fst.fst y_2.fst.toNat).id { data := ((102 : UInt8) :: (114 : UInt8) :: (101 : UInt8) :: (115 : UInt8) :: (104 : UInt8) :: NilL UInt8).toArray : ByteArray }) = true → True ∧ CL (adjL x.fst x.snd y_1.fst) ∧ SOk (getC (adjL x.fst x.snd y_1.fst) (nd x.fst x_1.toNat).id) ∧ ((!eqS (getC (adjL x.fst x.snd y_1.fst) (nd x.fst x_1.toNat).id) { pids := 4611686018427387904, weight := 100, quota := 4611686018427387904, period := 100000, burst := 0, cmin := 0, cmax := 10000, cpus := NilL Int, mems := NilL Int, part := 0, mmin := 0, mlow := 0, mhigh := 4611686018427387904, mmax := 4611686018427387904, mswap := 4611686018427387904, mtog := false, devs := NilL Dev : Stg }) = true → ∃ (y : Unit), True ∧ false = true) ∧ ((!eqS (getC (adjL x.fst x.snd y_1.fst) (nd x.fst x_1.toNat).id) { pids := 4611686018427387904, weight := 100, quota := 4611686018427387904, period := 100000, burst := 0, cmin := 0, cmax := 10000, cpus := NilL Int, mems := NilL Int, part := 0, mmin := 0, mlow := 0, mhigh := 4611686018427387904, mmax := 4611686018427387904, mswap := 4611686018427387904, mtog := false, devs := NilL Dev : Stg }) = false → i64R (x_1 + 1) ∧ ∃ (x' : Int), 0 ≤ x' ∧ ((↑x.fst.length : Int) - x').toNat < ((↑x.fst.length : Int) - x_1).toNat ∧ x_1 + 1 = x' ∧ y_1.fst = y_1.fst ∧ adjL x.fst x.snd y_1.fst = adjL x.fst x.snd y_1.fst ∧ x.snd = x.snd ∧ x.fst = x.fst)) ∧ (decide ((nd x.fst x_1.toNat).id = addI y.fst.fst y.fst.snd (nd y.fst.fst y_2.fst.toNat).id { data := ((102 : UInt8) :: (114 : UInt8) :: (101 : UInt8) :: (115 : UInt8) :: (104 : UInt8) :: NilL UInt8).toArray : ByteArray }) = false → CL (adjL x.fst x.snd y_1.fst) ∧ SOk (getC (adjL x.fst x.snd y_1.fst) (nd x.fst x_1.toNat).id) ∧ ((!eqS (getC (adjL x.fst x.snd y_1.fst) (nd x.fst x_1.toNat).id) (getC y_1.fst (nd x.fst x_1.toNat).id)) = true → ∃ (y : Unit), True ∧ false = true) ∧ ((!eqS (getC (adjL x.fst x.snd y_1.fst) (nd x.fst x_1.toNat).id) (getC y_1.fst (nd x.fst x_1.toNat).id)) = false → i64R (x_1 + 1) ∧ ∃ (x' : Int), 0 ≤ x' ∧ ((↑x.fst.length : Int) - x').toNat < ((↑x.fst.length : Int) - x_1).toNat ∧ x_1 + 1 = x' ∧ y_1.fst = y_1.fst ∧ adjL x.fst x.snd y_1.fst = adjL x.fst x.snd y_1.fst ∧ x.snd = x.snd ∧ x.fst = x.fst))) ∧ (decide (x_1 < (↑x.fst.length : Int)) = false → True ∧ ∃ (y : Unit), True ∧ true = true))))) = sLaw11.vc (EV Try.prog [(14, sLight.spec), (15, sSane11.spec), (16, sRoll.spec), (17, sTree.spec), (18, sCfgsD.spec), (23, sNext.spec), (22, sAdd.spec), (24, sRem.spec), (25, sAdjC.spec), (26, sFit.spec), (27, sGetC.spec), (28, sDefS.spec), (20, sGetC.spec), (29, sEqS.spec)] (invsS [(17, inv4a)]) (invsS [(13, inv4j)])) Try.f4 (L, ()) := by kernel_rfl
  rw [← e]
  clear e
  simp only [imp_self, true_and, and_true, exists_const, implies_true, gd1, gd2, gd3, gd4, gd5, gd6 ]
  simp only [Prod.forall, Prod.exists, exists_const, implies_true, not_true_eq_false, not_false_eq_true, or_self, or_false, false_or, or_true, true_or, and_false, false_and, forall_const, true_and, and_true, i64R, imp_self, Int.reduceLE, Int.reduceLT, Int.reduceNeg, false_implies, true_implies, decide_eq_true_eq, decide_eq_false_iff_not, Bool.not_eq_true', Bool.not_eq_false', Bool.true_eq_false, Bool.false_eq_true, Bool.and_eq_true, Bool.or_eq_true, Bool.and_eq_false_iff, Bool.or_eq_false_iff ]
  have eF : ({ data := (102 :: 114 :: 101 :: 115 :: 104 :: NilL UInt8).toArray } : ByteArray) = ⟨#[102, 114, 101, 115, 104]⟩ := rfl
  rw [eF]
  intro hL
  have hd : ∀ j : Int, 0 ≤ j → j ≤ L.length → DOK (L, j) := fun j h1 h2 => ⟨h1, h2, by show L.length ≤ 600; omega⟩
  refine ⟨hd 0 (by omega) (by omega), fun l n j1 ht => ?_⟩
  obtain ⟨⟨htp, htl⟩, t1, t2⟩ := ht
  have hc := htp.chk
  have l1 := hc.len1
  have l2 := hc.len2
  refine ⟨⟨hd _ (by omega) (by omega), l2⟩, fun c j2 hp => ⟨⟨hd _ (by omega) (by omega), by omega⟩, fun r j3 hr => ?_⟩⟩
  have hr1 := hr.1 (by omega)
  have hcl := hp.1.cl hc
  have hid : (nd l r.toNat).id ∈ ids l := ids_mem.2 ⟨r.toNat, by omega, rfl⟩
  refine ⟨by omega, fun h => (fresh_er htp hid).resolve_left h, fun h => ⟨⟨⟨hd _ (by omega) (by omega), by omega⟩, fun q j4 hq => ?_⟩, fun z m hz => ?_⟩⟩
  · have hq1 := hq.1 (by omega)
    refine ⟨by omega, fun h2 => ⟨_, _, rm_chk h2, rfl, rfl⟩, fun _ => ⟨_, _, add_chk h, rfl, rfl⟩⟩
  · have hz2 := adj_cfgs hp.1 hc hz
    have hf := hz2.fit hz
    have hcl2 := hz2.cl hz
    have z2 := hz.len2
    rw [hf]
    refine ⟨⟨hz.wf, hcl⟩, ⟨hz.wf, hcl2⟩, fun h => (Bool.noConfusion h), fun _ => ⟨⟨0, by omega, rfl⟩, fun x hx hlt => ⟨by omega, hcl, fun he => ⟨hcl2, getC_ok hcl2 _, fun h2 => ?_, fun _ => ⟨by omega, x + 1, by omega, by omega, rfl⟩⟩, fun hne => ⟨hcl2, getC_ok hcl2 _, fun h2 => ?_, fun _ => ⟨by omega, x + 1, by omega, by omega, rfl⟩⟩⟩⟩⟩
    · rw [adj_get hp.1 hc hz (by omega), he, addI, if_pos h, get_new hp.1 hc] at h2
      have h3 : eqS dS dS = false := h2
      rw [eqS_refl] at h3
      cases h3
    · rw [adj_get hp.1 hc hz (by omega), eqS_refl] at h2
      cases h2
end Go.Proofs.Ytemffnpliflkgaa
