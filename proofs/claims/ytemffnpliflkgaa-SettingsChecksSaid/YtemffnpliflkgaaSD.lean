/-
  Lemmas and contracts on the way to the laws of this seat; each theorem states its own conditions, and there are no others.
-/
import Derived.Test.YtemffnpliflkgaaSC

namespace Go.Proofs.Ytemffnpliflkgaa
open Go
set_option linter.unusedVariables false
set_option linter.unusedSimpArgs false
set_option linter.unusedVariables false

def anyI (g : Int) (l : List Int) : Bool := l.any fun x => decide (x = g)
def sSubR : FSp := ⟨_, two pkTree pkI, fun x => ChkP x.1.1 x.1.2, List Int, fun x y => Sub x.1.1 x.2.1 y, fun _ _ => .own 101 0, fun _ y => [(101, .rows 3 0 y)], fun x h => sub_ex h.asc x.2.1⟩
def mSubR : sSubR.X → Nat := fun x => abv x.1.1 x.2.1
theorem has_chk {l : List Nod} {n g : Int} (h : ChkP l n) : hasR l n g = hasB l g := by rw [hasR, chkB_iff.2 h, Bool.true_and]
theorem chn_chk {l : List Nod} {n g : Int} (h : ChkP l n) (hg : g ∈ ids l) : chnR l n g = chn l g := by rw [chnR, has_chk h, if_pos (hasB_iff.2 hg)]
def u2Ex : List Nod := [⟨1, 0, ByteArray.empty, 0, 0, 0⟩, ⟨2, 1, ⟨#[97]⟩, 0, 0, 0⟩]
def u3Ex : List Nod := [⟨1, 0, ByteArray.empty, 0, 0, 0⟩, ⟨2, 1, ⟨#[97]⟩, 0, 0, 0⟩, ⟨3, 2, ⟨#[98]⟩, 0, 0, 0⟩]
theorem u3Ex_chk : ChkP u3Ex 4 := chkB_iff.1 (by kernel_rfl)
theorem cl_of {l : List Cfg} (h : (l.all fun c => decide (c.cpus.length ≤ 1048576) && (decide (c.mems.length ≤ 1048576) && decide (c.devs.length ≤ 1048576))) = true) (h2 : decide (l.length ≤ 1048576) = true) : CL l := by
  refine ⟨fun c hc => ?_, by simpa using h2⟩
  rw [List.all_eq_true] at h
  have := h c hc
  simp only [Bool.and_eq_true, decide_eq_true_eq] at this
  exact this
def sSane11 : DS := ⟨_, Sig.nil, fun _ => True, fun _ => .bool true, nou⟩

def inv32 (l : List Nod) (n g : Int) : Inv where
  X := Int × List Int
  ok := fun x => 0 ≤ x.1 ∧ x.1 ≤ (chnR l n g).length ∧ SubK l g x.1.toNat x.2
  sl := fun x => [(7, .int .i64 x.1), (5, .own 101 0), (6, .own 103 0)]
  hp := fun x => [(101, .rows 3 0 x.2), (103, .rows 3 0 (chnR l n g))]
  keep := [10000]
  me := fun x => ((chnR l n g).length - x.1).toNat
set_option maxRecDepth 100000 in
theorem vc32 (k : Nat) (l : List Nod) (n : Int) (g : Int) (hx : ChkP l n ∧ abv l g ≤ k) : sSubR.vc (EV Try.prog [(32, (sSubR.lim mSubR k).spec), (76, sHas.spec), (82, sChn.spec)] (invs [(6, inv32 l n g)]) noInv) Try.f32 ((l, n), g, ()) := by
  have e : (True ∧ ((!hasR l n g) = true → ∃ (y : List Int), Sub l g y ∧ NilL Int = y) ∧ ((!hasR l n g) = false → True ∧ (∃ (x : Int × List Int), (0 ≤ x.fst ∧ x.fst ≤ (↑(chnR l n g).length : Int) ∧ SubK l g x.fst.toNat x.snd) ∧ 0 = x.fst ∧ g :: NilL Int = x.snd ∧ chnR l n g = chnR l n g ∧ l = l ∧ n = n) ∧ ∀ (x : Int × List Int), 0 ≤ x.fst ∧ x.fst ≤ (↑(chnR l n g).length : Int) ∧ SubK l g x.fst.toNat x.snd → (decide (x.fst < (↑(chnR l n g).length : Int)) = true → (0 ≤ x.fst ∧ x.fst < (↑(chnR l n g).length : Int)) ∧ (ChkP l n ∧ abv l ((chnR l n g).getD x.fst.toNat 0) < k) ∧ (∀ (y : List Int), true = true) ∧ ∀ (y : List Int), Sub l ((chnR l n g).getD x.fst.toNat 0) y → x.snd.length + y.length ≤ (68719476736 : Nat) ∧ i64R (x.fst + 1) ∧ ∃ (x' : Int × List Int), (0 ≤ x'.fst ∧ x'.fst ≤ (↑(chnR l n g).length : Int) ∧ SubK l g x'.fst.toNat x'.snd) ∧ ((↑(chnR l n g).length : Int) - x'.fst).toNat < ((↑(chnR l n g).length : Int) - x.fst).toNat ∧ x.fst + 1 = x'.fst ∧ x.snd ++ y = x'.snd ∧ chnR l n g = chnR l n g ∧ l = l ∧ n = n) ∧ (decide (x.fst < (↑(chnR l n g).length : Int)) = false → ∃ (y : List Int), Sub l g y ∧ x.snd = y))) = sSubR.vc (EV Try.prog [(32, (sSubR.lim mSubR k).spec), (76, sHas.spec), (82, sChn.spec)] (invs [(6, inv32 l n g)]) noInv) Try.f32 ((l, n), g, ()) := by kernel_rfl
  rw [← e]
  clear e
  simp only [imp_self, true_and, and_true, exists_const, implies_true, gd1, gd2, gd3, gd4, gd5, gd6, NilL_eq ]
  simp only [Prod.forall, Prod.exists, exists_const, implies_true, not_true_eq_false, not_false_eq_true, or_self, or_false, false_or, or_true, true_or, and_false, false_and, forall_const, true_and, and_true, i64R, imp_self, Int.reduceLE, Int.reduceLT, Int.reduceNeg, false_implies, true_implies, decide_eq_true_eq, decide_eq_false_iff_not, Bool.not_eq_true', Bool.not_eq_false', Bool.true_eq_false, Bool.false_eq_true, Bool.and_eq_true, Bool.or_eq_true, NilL_eq, Bool.and_eq_false_iff, Bool.or_eq_false_iff ]
  obtain ⟨hc, hk⟩ := hx
  rw [has_chk hc]
  have ha := hc.asc
  have l2 := hc.len2
  refine ⟨fun h => ⟨[], sub_nil (fun hm => by rw [hasB_iff.2 hm] at h; cases h), rfl⟩, fun h => ?_⟩
  have hg := hasB_iff.1 h
  rw [chn_chk hc hg]
  have hcl := chn_len (l := l) g
  refine ⟨⟨0, [g], ⟨by omega, by omega, subK_zero l g⟩, rfl, rfl⟩, fun i s hi => ⟨fun hlt => ⟨⟨hi.1, hlt⟩, ⟨hc, ?_⟩, fun y hy => ?_⟩, fun hge => ⟨s, ?_, rfl⟩⟩⟩
  · have := abv_lt ha hg (cn__mem (l := l) (g := g) (k := i.toNat) (by omega))
    rw [cn_] at this
    omega
  · have h2 := subK_step ha hg (k := i.toNat) (by omega) hi.2.2 hy
    have e : (i + 1).toNat = i.toNat + 1 := by omega
    have h3 := subK_len hg h2
    rw [List.length_append] at h3
    exact ⟨by omega, by omega, i + 1, s ++ y, ⟨by omega, by omega, by rw [e]; exact h2⟩, by omega, rfl, rfl⟩
  · have e : i.toNat = (chn l g).length := by omega
    exact subK_fin ha hg (by rw [← e]; exact hi.2.2)


set_option maxRecDepth 100000 in
theorem vc15 (u : Unit) (hx : True) : sSane11.vc (EV Try.prog [(70, sNew.spec), (22, sAdd.spec), (37, sDefS.spec), (71, sNewC.spec), (30, sSetC.spec), (19, sLow.spec), (34, sChkS.spec)] noInv noInv) Try.f15 () := by
  have e : (True ∧ True ∧ True ∧ True ∧ WfN (addL (addL ({ id := 1, parent := 0, name := ByteArray.empty, control := 0, kind := 0, owner := 0 : Nod } :: NilL Nod) 2 1 { data := ((97 : UInt8) :: NilL UInt8).toArray : ByteArray }) (addN ({ id := 1, parent := 0, name := ByteArray.empty, control := 0, kind := 0, owner := 0 : Nod } :: NilL Nod) 2 1 { data := ((97 : UInt8) :: NilL UInt8).toArray : ByteArray }) (addI ({ id := 1, parent := 0, name := ByteArray.empty, control := 0, kind := 0, owner := 0 : Nod } :: NilL Nod) 2 1 { data := ((97 : UInt8) :: NilL UInt8).toArray : ByteArray }) { data := ((98 : UInt8) :: NilL UInt8).toArray : ByteArray }) ∧ ((WfN (addL (addL ({ id := 1, parent := 0, name := ByteArray.empty, control := 0, kind := 0, owner := 0 : Nod } :: NilL Nod) 2 1 { data := ((97 : UInt8) :: NilL UInt8).toArray : ByteArray }) (addN ({ id := 1, parent := 0, name := ByteArray.empty, control := 0, kind := 0, owner := 0 : Nod } :: NilL Nod) 2 1 { data := ((97 : UInt8) :: NilL UInt8).toArray : ByteArray }) (addI ({ id := 1, parent := 0, name := ByteArray.empty, control := 0, kind := 0, owner := 0 : Nod } :: NilL Nod) 2 1 { data := ((97 : UInt8) :: NilL UInt8).toArray : ByteArray }) { data := ((98 : UInt8) :: NilL UInt8).toArray : ByteArray }) ∧ CL (adjL (addL (addL ({ id := 1, parent := 0, name := ByteArray.empty, control := 0, kind := 0, owner := 0 : Nod } :: NilL Nod) 2 1 { data := ((97 : UInt8) :: NilL UInt8).toArray : ByteArray }) (addN ({ id := 1, parent := 0, name := ByteArray.empty, control := 0, kind := 0, owner := 0 : Nod } :: NilL Nod) 2 1 { data := ((97 : UInt8) :: NilL UInt8).toArray : ByteArray }) (addI ({ id := 1, parent := 0, name := ByteArray.empty, control := 0, kind := 0, owner := 0 : Nod } :: NilL Nod) 2 1 { data := ((97 : UInt8) :: NilL UInt8).toArray : ByteArray }) { data := ((98 : UInt8) :: NilL UInt8).toArray : ByteArray }) (addN (addL ({ id := 1, parent := 0, name := ByteArray.empty, control := 0, kind := 0, owner := 0 : Nod } :: NilL Nod) 2 1 { data := ((97 : UInt8) :: NilL UInt8).toArray : ByteArray }) (addN ({ id := 1, parent := 0, name := ByteArray.empty, control := 0, kind := 0, owner := 0 : Nod } :: NilL Nod) 2 1 { data := ((97 : UInt8) :: NilL UInt8).toArray : ByteArray }) (addI ({ id := 1, parent := 0, name := ByteArray.empty, control := 0, kind := 0, owner := 0 : Nod } :: NilL Nod) 2 1 { data := ((97 : UInt8) :: NilL UInt8).toArray : ByteArray }) { data := ((98 : UInt8) :: NilL UInt8).toArray : ByteArray }) (NilL Cfg))) ∧ SOk { pids := 5, weight := 100, quota := 4611686018427387904, period := 100000, burst := 0, cmin := 0, cmax := 10000, cpus := NilL Int, mems := NilL Int, part := 0, mmin := 0, mlow := 0, mhigh := 4611686018427387904, mmax := 4611686018427387904, mswap := 4611686018427387904, mtog := false, devs := NilL Dev : Stg }) ∧ (true = true → true = true) ∧ (true = true → true = true) ∧ (true = true → true = true) ∧ (true = true → ChkP (addL (addL ({ id := 1, parent := 0, name := ByteArray.empty, control := 0, kind := 0, owner := 0 : Nod } :: NilL Nod) 2 1 { data := ((97 : UInt8) :: NilL UInt8).toArray : ByteArray }) (addN ({ id := 1, parent := 0, name := ByteArray.empty, control := 0, kind := 0, owner := 0 : Nod } :: NilL Nod) 2 1 { data := ((97 : UInt8) :: NilL UInt8).toArray : ByteArray }) (addI ({ id := 1, parent := 0, name := ByteArray.empty, control := 0, kind := 0, owner := 0 : Nod } :: NilL Nod) 2 1 { data := ((97 : UInt8) :: NilL UInt8).toArray : ByteArray }) { data := ((98 : UInt8) :: NilL UInt8).toArray : ByteArray }) (addN (addL ({ id := 1, parent := 0, name := ByteArray.empty, control := 0, kind := 0, owner := 0 : Nod } :: NilL Nod) 2 1 { data := ((97 : UInt8) :: NilL UInt8).toArray : ByteArray }) (addN ({ id := 1, parent := 0, name := ByteArray.empty, control := 0, kind := 0, owner := 0 : Nod } :: NilL Nod) 2 1 { data := ((97 : UInt8) :: NilL UInt8).toArray : ByteArray }) (addI ({ id := 1, parent := 0, name := ByteArray.empty, control := 0, kind := 0, owner := 0 : Nod } :: NilL Nod) 2 1 { data := ((97 : UInt8) :: NilL UInt8).toArray : ByteArray }) { data := ((98 : UInt8) :: NilL UInt8).toArray : ByteArray }) ∧ CL (setL (addL (addL ({ id := 1, parent := 0, name := ByteArray.empty, control := 0, kind := 0, owner := 0 : Nod } :: NilL Nod) 2 1 { data := ((97 : UInt8) :: NilL UInt8).toArray : ByteArray }) (addN ({ id := 1, parent := 0, name := ByteArray.empty, control := 0, kind := 0, owner := 0 : Nod } :: NilL Nod) 2 1 { data := ((97 : UInt8) :: NilL UInt8).toArray : ByteArray }) (addI ({ id := 1, parent := 0, name := ByteArray.empty, control := 0, kind := 0, owner := 0 : Nod } :: NilL Nod) 2 1 { data := ((97 : UInt8) :: NilL UInt8).toArray : ByteArray }) { data := ((98 : UInt8) :: NilL UInt8).toArray : ByteArray }) (addN (addL ({ id := 1, parent := 0, name := ByteArray.empty, control := 0, kind := 0, owner := 0 : Nod } :: NilL Nod) 2 1 { data := ((97 : UInt8) :: NilL UInt8).toArray : ByteArray }) (addN ({ id := 1, parent := 0, name := ByteArray.empty, control := 0, kind := 0, owner := 0 : Nod } :: NilL Nod) 2 1 { data := ((97 : UInt8) :: NilL UInt8).toArray : ByteArray }) (addI ({ id := 1, parent := 0, name := ByteArray.empty, control := 0, kind := 0, owner := 0 : Nod } :: NilL Nod) 2 1 { data := ((97 : UInt8) :: NilL UInt8).toArray : ByteArray }) { data := ((98 : UInt8) :: NilL UInt8).toArray : ByteArray }) (adjL (addL (addL ({ id := 1, parent := 0, name := ByteArray.empty, control := 0, kind := 0, owner := 0 : Nod } :: NilL Nod) 2 1 { data := ((97 : UInt8) :: NilL UInt8).toArray : ByteArray }) (addN ({ id := 1, parent := 0, name := ByteArray.empty, control := 0, kind := 0, owner := 0 : Nod } :: NilL Nod) 2 1 { data := ((97 : UInt8) :: NilL UInt8).toArray : ByteArray }) (addI ({ id := 1, parent := 0, name := ByteArray.empty, control := 0, kind := 0, owner := 0 : Nod } :: NilL Nod) 2 1 { data := ((97 : UInt8) :: NilL UInt8).toArray : ByteArray }) { data := ((98 : UInt8) :: NilL UInt8).toArray : ByteArray }) (addN (addL ({ id := 1, parent := 0, name := ByteArray.empty, control := 0, kind := 0, owner := 0 : Nod } :: NilL Nod) 2 1 { data := ((97 : UInt8) :: NilL UInt8).toArray : ByteArray }) (addN ({ id := 1, parent := 0, name := ByteArray.empty, control := 0, kind := 0, owner := 0 : Nod } :: NilL Nod) 2 1 { data := ((97 : UInt8) :: NilL UInt8).toArray : ByteArray }) (addI ({ id := 1, parent := 0, name := ByteArray.empty, control := 0, kind := 0, owner := 0 : Nod } :: NilL Nod) 2 1 { data := ((97 : UInt8) :: NilL UInt8).toArray : ByteArray }) { data := ((98 : UInt8) :: NilL UInt8).toArray : ByteArray }) (NilL Cfg)) (addI ({ id := 1, parent := 0, name := ByteArray.empty, control := 0, kind := 0, owner := 0 : Nod } :: NilL Nod) 2 1 { data := ((97 : UInt8) :: NilL UInt8).toArray : ByteArray }) { pids := 5, weight := 100, quota := 4611686018427387904, period := 100000, burst := 0, cmin := 0, cmax := 10000, cpus := NilL Int, mems := NilL Int, part := 0, mmin := 0, mlow := 0, mhigh := 4611686018427387904, mmax := 4611686018427387904, mswap := 4611686018427387904, mtog := false, devs := NilL Dev : Stg })) ∧ (true = true → true = true) ∧ (true = true → true = true) ∧ (true = true → true = true) ∧ (true = true → True) ∧ (true = true → true = true) ∧ (true = true → SOk { pids := 4611686018427387904, weight := 100, quota := 4611686018427387904, period := 100000, burst := 0, cmin := 0, cmax := 10000, cpus := NilL Int, mems := NilL Int, part := 0, mmin := 0, mlow := 0, mhigh := 4611686018427387904, mmax := 4611686018427387904, mswap := 4611686018427387904, mtog := false, devs := NilL Dev : Stg }) ∧ (true = true → true = true) ∧ ∃ (y : Unit), True ∧ true = true) = sSane11.vc (EV Try.prog [(70, sNew.spec), (22, sAdd.spec), (37, sDefS.spec), (71, sNewC.spec), (30, sSetC.spec), (19, sLow.spec), (34, sChkS.spec)] noInv noInv) Try.f15 () := by kernel_rfl
  rw [← e]
  clear e
  try simp only [NilL_eq]
  have a1 : addL [⟨1, 0, ByteArray.empty, 0, 0, 0⟩] 2 1 { data := [97].toArray } = u2Ex := by kernel_rfl
  have a2 : addN [⟨1, 0, ByteArray.empty, 0, 0, 0⟩] 2 1 { data := [97].toArray } = 3 := by kernel_rfl
  have a3 : addI [⟨1, 0, ByteArray.empty, 0, 0, 0⟩] 2 1 { data := [97].toArray } = 2 := by kernel_rfl
  simp only [a1, a2, a3]
  have b1 : addL u2Ex 3 2 { data := [98].toArray } = u3Ex := by kernel_rfl
  have b2 : addN u2Ex 3 2 { data := [98].toArray } = 4 := by kernel_rfl
  have b3 : addI u2Ex 3 2 { data := [98].toArray } = 3 := by kernel_rfl
  simp only [b1, b2, b3]
  have w : WfN u3Ex := u3Ex_chk.wf
  have k1 : CL (adjL u3Ex 4 []) := cl_of (by kernel_rfl) (by kernel_rfl)
  have so : ∀ p : Int, SOk ⟨p, 100, 4611686018427387904, 100000, 0, 0, 10000, [], [], 0, 0, 0, 4611686018427387904, 4611686018427387904, 4611686018427387904, false, []⟩ := fun p => ⟨by simp, by simp, by simp⟩
  refine ⟨trivial, trivial, trivial, trivial, w, ⟨⟨w, k1⟩, so 5⟩, fun h => h, fun h => h, fun h => h, fun _ => ⟨u3Ex_chk, cl_of (by kernel_rfl) (by kernel_rfl)⟩, fun h => h, fun h => h, fun h => h, fun h => h, fun h => h, fun _ => so _, fun h => h, (), trivial, trivial⟩
end Go.Proofs.Ytemffnpliflkgaa
