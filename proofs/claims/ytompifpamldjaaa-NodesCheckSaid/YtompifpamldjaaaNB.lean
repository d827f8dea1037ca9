/-
  Lemmas and contracts on the way to the laws of this seat; each theorem states its own conditions, and there are no others.
-/
import Derived.Test.YtompifpamldjaaaNA
import Derived.Test.YtompifpamldjaaaM3

namespace Go.Proofs.Ytompifpamldjaaa
open Go
set_option linter.unusedVariables false
set_option linter.unusedSimpArgs false
set_option linter.unusedVariables false

def sPush : FSp := ⟨_, Sig.flw (four pkPth pkI pkI pkI) (fun _ => rfl), fun x => PPre x.1.a x.1.l x.1.m x.2.1.1 x.2.1.2 x.2.2.1 x.2.2.2.1 x.2.2.2.2.1, Int × List (List Int), fun x y => Pushed x.1.a x.1.l x.1.m x.2.2.1 x.2.2.2.1 x.2.2.2.2.1 y.1 y.2, fun _ y => .int .i64 y.1, fun x y => [(0, flw0 x.1), (1, .rows 3 0 (x.1.l.set x.2.2.2.1.toNat (nth x.1.l x.2.2.2.1.toNat - y.1))), (2, .deep 22 6 [3] y.2 none)], fun x h => by
  obtain ⟨c, M', hc⟩ := pushed_ex h
  exact ⟨(c, M'), hc⟩⟩

noncomputable def inv33a (A : List NSet) (L : List Int) (M : List (List Int)) (N D : List Int) (d e k : Int) (s : St) : Inv where
  X := Int × Int × Int
  ok := fun x => PA1 A L M N D d e k x.1 x.2.1 x.2.2
  sl := fun x => [(11, .int .i64 x.1), (12, .int .i64 x.2.1), (4, .int .i64 x.2.2)]
  hp := fun x => []
  keep := [0, 1, 2, 10000]
  me := fun x => (rks A L N D).1 x.1.toNat
  pre := [(false, 2)]
  pre2 := [(false, 2)]
noncomputable def inv33b (A : List NSet) (L : List Int) (M : List (List Int)) (N D : List Int) (d e : Int) (s : St) : Inv where
  X := Int × List (List Int)
  ok := fun x => PB1 A L M N D d e (slotI s 4) x.1 x.2
  sl := fun x => [(13, .int .i64 x.1)]
  hp := fun x => [(2, .deep 22 6 [3] x.2 none)]
  keep := [0, 1, 10000]
  me := fun x => (rks A L N D).1 x.1.toNat
  pre := [(false, 2)]
  pre2 := [(false, 2)]
set_option maxRecDepth 100000 in
theorem vc33 (A : List NSet) (L : List Int) (M : List (List Int)) (N D : List Int) (d e k : Int) (hx : PPre A L M N D d e k) : sPush.vc (EVD Try.prog [] (invsS [(3, inv33a A L M N D d e k), (9, inv33b A L M N D d e)]) noInv [22]) Try.f33 (⟨A, L, M⟩, (N, D), d, e, k, ()) := by
  have e : (((0 : Int) ≤ e ∧ e < (↑L.length : Int)) ∧ ((0 : Int) ≤ e ∧ e < (↑N.length : Int)) ∧ (∃ (x : Int × Int × Int), PA1 A L M N D d e k x.1 x.2.1 x.2.2 ∧ e = x.1 ∧ nth N e.toNat = x.2.1 ∧ Min.min k (nth L e.toNat) = x.2.2 ∧ A = A ∧ L = L ∧ M = M ∧ N = N ∧ D = D) ∧ ∀ (x : Int × Int × Int), PA1 A L M N D d e k x.1 x.2.1 x.2.2 → ((!decide (x.2.1 = d)) = true → ((0 : Int) ≤ x.2.1 ∧ x.2.1 < (↑D.length : Int)) ∧ ((0 : Int) ≤ x.2.1 ∧ x.2.1 < (↑M.length : Int)) ∧ ((0 : Int) ≤ nth D x.2.1.toNat ∧ nth D x.2.1.toNat < (↑(M.getD x.2.1.toNat (NilL Int)).length : Int)) ∧ ((0 : Int) ≤ nth D x.2.1.toNat ∧ nth D x.2.1.toNat < (↑N.length : Int)) ∧ AV.irec true (0 : Nat) (M.getD x.2.1.toNat (NilL Int)) :: NilL AV = (AV.irec true (0 : Nat) (M.getD x.2.1.toNat (NilL Int)) :: NilL AV).set (0 : Nat) (AV.irec true (0 : Nat) (M.getD x.2.1.toNat (NilL Int))) ∧ ∃ (x' : Int × Int × Int), PA1 A L M N D d e k x'.1 x'.2.1 x'.2.2 ∧ (rks A L N D).1 x'.1.toNat < (rks A L N D).1 x.1.toNat ∧ nth D x.2.1.toNat = x'.1 ∧ nth N (nth D x.2.1.toNat).toNat = x'.2.1 ∧ Min.min x.2.2 (nth (M.getD x.2.1.toNat (NilL Int)) (nth D x.2.1.toNat).toNat) = x'.2.2 ∧ A = A ∧ L = L ∧ M.set x.2.1.toNat (M.getD x.2.1.toNat (NilL Int)) = M ∧ N = N ∧ D = D) ∧ ((!decide (x.2.1 = d)) = false → ((0 : Int) ≤ e ∧ e < (↑L.length : Int)) ∧ i64R (nth L e.toNat - x.2.2) ∧ ((0 : Int) ≤ e ∧ e < (↑L.length : Int)) ∧ (∃ (x_1 : Int × List (List Int)), PB1 A L M N D d e x.2.2 x_1.1 x_1.2 ∧ e = x_1.1 ∧ M = x_1.2 ∧ A = A ∧ L.set e.toNat (nth L e.toNat - x.2.2) = L.set e.toNat (nth L e.toNat - x.2.2) ∧ N = N ∧ D = D) ∧ ∀ (x_1 : Int × List (List Int)), PB1 A L M N D d e x.2.2 x_1.1 x_1.2 → ((0 : Int) ≤ x_1.1 ∧ x_1.1 < (↑N.length : Int)) ∧ ((0 : Int) ≤ nth N x_1.1.toNat ∧ nth N x_1.1.toNat < (↑x_1.2.length : Int)) ∧ ((0 : Int) ≤ x_1.1 ∧ x_1.1 < (↑(x_1.2.getD (nth N x_1.1.toNat).toNat (NilL Int)).length : Int)) ∧ i64R (nth (x_1.2.getD (nth N x_1.1.toNat).toNat (NilL Int)) x_1.1.toNat + x.2.2) ∧ ((0 : Int) ≤ x_1.1 ∧ x_1.1 < (↑(x_1.2.getD (nth N x_1.1.toNat).toNat (NilL Int)).length : Int)) ∧ (decide (nth N x_1.1.toNat = d) = true → ∃ (y : Int × List (List Int)), Pushed A L M d e k y.1 y.2 ∧ AV.irec true (0 : Nat) ((x_1.2.getD (nth N x_1.1.toNat).toNat (NilL Int)).set x_1.1.toNat (nth (x_1.2.getD (nth N x_1.1.toNat).toNat (NilL Int)) x_1.1.toNat + x.2.2)) :: NilL AV = (AV.irec true (0 : Nat) (x_1.2.getD (nth N x_1.1.toNat).toNat (NilL Int)) :: NilL AV).set (0 : Nat) (AV.irec true (0 : Nat) ((x_1.2.getD (nth N x_1.1.toNat).toNat (NilL Int)).set x_1.1.toNat (nth (x_1.2.getD (nth N x_1.1.toNat).toNat (NilL Int)) x_1.1.toNat + x.2.2))) ∧ x.2.2 = y.1 ∧ A = A ∧ L.set e.toNat (nth L e.toNat - x.2.2) = L.set e.toNat (nth L e.toNat - y.1) ∧ x_1.2.set (nth N x_1.1.toNat).toNat ((x_1.2.getD (nth N x_1.1.toNat).toNat (NilL Int)).set x_1.1.toNat (nth (x_1.2.getD (nth N x_1.1.toNat).toNat (NilL Int)) x_1.1.toNat + x.2.2)) = y.2) ∧ (decide (nth N x_1.1.toNat = d) = false → ((0 : Int) ≤ nth N x_1.1.toNat ∧ nth N x_1.1.toNat < (↑D.length : Int)) ∧ ((0 : Int) ≤ nth N x_1.1.toNat ∧ nth N x_1.1.toNat < (↑x_1.2.length : Int)) ∧ AV.irec true (0 : Nat) ((x_1.2.getD (nth N x_1.1.toNat).toNat (NilL Int)).set x_1.1.toNat (nth (x_1.2.getD (nth N x_1.1.toNat).toNat (NilL Int)) x_1.1.toNat + x.2.2)) :: NilL AV = (AV.irec true (0 : Nat) (x_1.2.getD (nth N x_1.1.toNat).toNat (NilL Int)) :: NilL AV).set (0 : Nat) (AV.irec true (0 : Nat) ((x_1.2.getD (nth N x_1.1.toNat).toNat (NilL Int)).set x_1.1.toNat (nth (x_1.2.getD (nth N x_1.1.toNat).toNat (NilL Int)) x_1.1.toNat + x.2.2))) ∧ ((0 : Int) ≤ nth D (nth N x_1.1.toNat).toNat ∧ nth D (nth N x_1.1.toNat).toNat < (↑((x_1.2.set (nth N x_1.1.toNat).toNat ((x_1.2.getD (nth N x_1.1.toNat).toNat (NilL Int)).set x_1.1.toNat (nth (x_1.2.getD (nth N x_1.1.toNat).toNat (NilL Int)) x_1.1.toNat + x.2.2))).getD (nth N x_1.1.toNat).toNat (NilL Int)).length : Int)) ∧ i64R (nth ((x_1.2.set (nth N x_1.1.toNat).toNat ((x_1.2.getD (nth N x_1.1.toNat).toNat (NilL Int)).set x_1.1.toNat (nth (x_1.2.getD (nth N x_1.1.toNat).toNat (NilL Int)) x_1.1.toNat + x.2.2))).getD (nth N x_1.1.toNat).toNat (NilL Int)) (nth D (nth N x_1.1.toNat).toNat).toNat - x.2.2) ∧ ((0 : Int) ≤ nth D (nth N x_1.1.toNat).toNat ∧ nth D (nth N x_1.1.toNat).toNat < (↑((x_1.2.set (nth N x_1.1.toNat).toNat ((x_1.2.getD (nth N x_1.1.toNat).toNat (NilL Int)).set x_1.1.toNat (nth (x_1.2.getD (nth N x_1.1.toNat).toNat (NilL Int)) x_1.1.toNat + x.2.2))).getD (nth N x_1.1.toNat).toNat (NilL Int)).length : Int)) ∧ AV.irec true (0 : Nat) (((x_1.2.set (nth N x_1.1.toNat).toNat ((x_1.2.getD (nth N x_1.1.toNat).toNat (NilL Int)).set x_1.1.toNat (nth (x_1.2.getD (nth N x_1.1.toNat).toNat (NilL Int)) x_1.1.toNat + x.2.2))).getD (nth N x_1.1.toNat).toNat (NilL Int)).set (nth D (nth N x_1.1.toNat).toNat).toNat (nth ((x_1.2.set (nth N x_1.1.toNat).toNat ((x_1.2.getD (nth N x_1.1.toNat).toNat (NilL Int)).set x_1.1.toNat (nth (x_1.2.getD (nth N x_1.1.toNat).toNat (NilL Int)) x_1.1.toNat + x.2.2))).getD (nth N x_1.1.toNat).toNat (NilL Int)) (nth D (nth N x_1.1.toNat).toNat).toNat - x.2.2)) :: NilL AV = (AV.irec true (0 : Nat) ((x_1.2.set (nth N x_1.1.toNat).toNat ((x_1.2.getD (nth N x_1.1.toNat).toNat (NilL Int)).set x_1.1.toNat (nth (x_1.2.getD (nth N x_1.1.toNat).toNat (NilL Int)) x_1.1.toNat + x.2.2))).getD (nth N x_1.1.toNat).toNat (NilL Int)) :: NilL AV).set (0 : Nat) (AV.irec true (0 : Nat) (((x_1.2.set (nth N x_1.1.toNat).toNat ((x_1.2.getD (nth N x_1.1.toNat).toNat (NilL Int)).set x_1.1.toNat (nth (x_1.2.getD (nth N x_1.1.toNat).toNat (NilL Int)) x_1.1.toNat + x.2.2))).getD (nth N x_1.1.toNat).toNat (NilL Int)).set (nth D (nth N x_1.1.toNat).toNat).toNat (nth ((x_1.2.set (nth N x_1.1.toNat).toNat ((x_1.2.getD (nth N x_1.1.toNat).toNat (NilL Int)).set x_1.1.toNat (nth (x_1.2.getD (nth N x_1.1.toNat).toNat (NilL Int)) x_1.1.toNat + x.2.2))).getD (nth N x_1.1.toNat).toNat (NilL Int)) (nth D (nth N x_1.1.toNat).toNat).toNat - x.2.2))) ∧ ∃ (x' : Int × List (List Int)), PB1 A L M N D d e x.2.2 x'.1 x'.2 ∧ (rks A L N D).1 x'.1.toNat < (rks A L N D).1 x_1.1.toNat ∧ nth D (nth N x_1.1.toNat).toNat = x'.1 ∧ (x_1.2.set (nth N x_1.1.toNat).toNat ((x_1.2.getD (nth N x_1.1.toNat).toNat (NilL Int)).set x_1.1.toNat (nth (x_1.2.getD (nth N x_1.1.toNat).toNat (NilL Int)) x_1.1.toNat + x.2.2))).set (nth N x_1.1.toNat).toNat (((x_1.2.set (nth N x_1.1.toNat).toNat ((x_1.2.getD (nth N x_1.1.toNat).toNat (NilL Int)).set x_1.1.toNat (nth (x_1.2.getD (nth N x_1.1.toNat).toNat (NilL Int)) x_1.1.toNat + x.2.2))).getD (nth N x_1.1.toNat).toNat (NilL Int)).set (nth D (nth N x_1.1.toNat).toNat).toNat (nth ((x_1.2.set (nth N x_1.1.toNat).toNat ((x_1.2.getD (nth N x_1.1.toNat).toNat (NilL Int)).set x_1.1.toNat (nth (x_1.2.getD (nth N x_1.1.toNat).toNat (NilL Int)) x_1.1.toNat + x.2.2))).getD (nth N x_1.1.toNat).toNat (NilL Int)) (nth D (nth N x_1.1.toNat).toNat).toNat - x.2.2)) = x'.2 ∧ A = A ∧ L.set e.toNat (nth L e.toNat - x.2.2) = L.set e.toNat (nth L e.toNat - x.2.2) ∧ N = N ∧ D = D))) = sPush.vc (EVD Try.prog [] (invsS [(3, inv33a A L M N D d e k), (9, inv33b A L M N D d e)]) noInv [22]) Try.f33 (⟨A, L, M⟩, (N, D), d, e, k, ()) := by kernel_rfl
  rw [← e]
  clear e
  simp only [imp_self, true_and, and_true, exists_const, implies_true, gd1, gd2, gd3, gd4, gd5, gd6 ]
  simp only [Prod.forall, Prod.exists, exists_const, implies_true, not_true_eq_false, not_false_eq_true, or_self, or_false, false_or, or_true, true_or, and_false, false_and, forall_const, true_and, and_true, i64R, imp_self, Int.reduceLE, Int.reduceLT, Int.reduceNeg, false_implies, true_implies, decide_eq_true_eq, decide_eq_false_iff_not, Bool.not_eq_true', Bool.not_eq_false', Bool.true_eq_false, Bool.false_eq_true, Bool.and_eq_true, Bool.or_eq_true, Bool.and_eq_false_iff, Bool.or_eq_false_iff ]
  simp only [NilL_eq]
  have hMR : ∀ (X : List (List Int)) z, X.getD z [] = rowAt X z := fun _ _ => rfl
  have hput : ∀ (X : List (List Int)) i j v, X.set i ((rowAt X i).set j v) = put X i j v := fun _ _ _ _ => rfl
  have hset0 : ∀ (a b : AV), ([b] = [a].set 0 b) ↔ True := fun _ _ => ⟨fun _ => trivial, fun _ => rfl⟩
  simp only [hMR, hput, hset0, true_and]
  have e0 := hx.e0
  have e1 := hx.e1
  have k1 := hx.k1
  have hlN := hx.s.ln
  have hlD := hx.s.ld
  have hlM := hx.f.ok.lm
  have hle := hx.f.l0 e.toNat
  refine ⟨⟨e0, e1⟩, ⟨e0, by omega⟩, ⟨e, _, _, hx.start, rfl, rfl, rfl⟩, fun n i c hA => ?_⟩
  have i0 := hA.i0
  have i1 := hA.i1
  have c0 := hA.c0
  have ck := hA.ck
  have cl := hA.cl
  refine ⟨fun hd => ?_, fun hd => ?_⟩
  · obtain ⟨g1, g2, g3, g4⟩ := hA.step hx hd
    have hr := hx.f.ok.row i.toNat (by omega)
    exact ⟨⟨i0, by omega⟩, ⟨i0, by omega⟩, ⟨g1, by omega⟩, ⟨g1, by omega⟩, _, _, _, g4, g3, rfl, rfl, rfl, row_self (by omega)⟩
  · refine ⟨⟨e0, e1⟩, ⟨by omega, by omega⟩, ⟨e0, e1⟩, ⟨e, M, hA.fin hx hd, rfl, rfl⟩, fun n' M' hB => ?_⟩
    obtain ⟨u1, u2, u3⟩ := hB.up hx c0
    have n0 := hB.n0
    have n1 := hB.n1
    have j0 := hB.i0
    have hlm := hB.lm
    have hm0 := hB.m0 (nth N n'.toNat).toNat n'.toNat
    refine ⟨⟨n0, by omega⟩, ⟨j0, by omega⟩, ⟨n0, by omega⟩, ⟨by omega, by omega⟩, ⟨n0, by omega⟩, fun hd => ⟨c, _, hB.last hx c0 ck cl hd, rfl, rfl, rfl⟩, fun hd => ?_⟩
    obtain ⟨v1, v2, v3, v4, v5, v6, v7, v8⟩ := hB.step hx c0 ck hd rfl rfl
    exact ⟨⟨j0, by omega⟩, ⟨j0, by omega⟩, ⟨v1, by omega⟩, ⟨by omega, by omega⟩, ⟨v1, by omega⟩, _, _, v8, v3, rfl, rfl⟩
end Go.Proofs.Ytompifpamldjaaa
