/-
  Lemmas and contracts on the way to the laws of this seat; each theorem states its own conditions, and there are no others.
-/
import Derived.Test.YtaipgdhaoldhjaaM3

namespace Go.Proofs.Ytaipgdhaoldhjaa
open Go
set_option linter.unusedVariables false
set_option linter.unusedSimpArgs false
set_option linter.unusedVariables false

def ownId (v : AV) : Nat := match v with
  | .own id _ => id
  | _ => 0
def sClone : DS := ⟨_, one pkInts, fun x => x.1.length ≤ 1048576, fun _ => .own 101 0, fun x => [(101, .rows 3 0 x.1)]⟩
theorem take_snoc {l : List Int} {k : Nat} (h : k < l.length) : l.take (k + 1) = l.take k ++ [nth l k] := by
  rw [List.take_add_one, List.getElem?_eq_getElem h, nth, List.getD_eq_getElem?_getD, List.getElem?_eq_getElem h]; rfl
theorem sumAt_le {W cs : List Int} (h : ∀ c ∈ cs, nth W c.toNat ≤ 65536) : sumAt W cs ≤ 65536 * cs.length := by
  induction cs with
  | nil => simp [sumAt]
  | cons c r ih =>
    have h1 := h c (by simp)
    have h2 := ih fun c hc => h c (by simp [hc])
    simp only [sumAt, List.map_cons, List.sum_cons, List.length_cons] at h2 ⊢
    omega
theorem getD_nth (l : List Int) (i : Nat) : l.getD i 0 = nth l i := rfl
theorem kids_ok {p w d W : List Int} (hP : PaOK p d.length) (hI : InOK w d) (hW : WOK p d W 0) (q : Int) : InOK ((chL p d.length q).map fun c => nth w c.toNat) ((chL p d.length q).map fun c => nth W c.toNat) := by
  refine ⟨by simp, by have := chL_len (p := p) (q := q) (i := d.length); have := hI.n; simp; omega, fun i hi => ?_, fun i hi => ?_⟩
  · have hi' : i < (chL p d.length q).length := by simpa using hi
    have hm : (chL p d.length q)[i] ∈ chL p d.length q := List.getElem_mem _
    have := hP.gt hm
    have := hI.w ((chL p d.length q)[i]).toNat (by have := hI.len; omega)
    show 1 ≤ ((chL p d.length q).map fun c => nth w c.toNat).getD i 0 ∧ _
    rw [nth, List.getD_eq_getElem?_getD]
    simpa [hi'] using this
  · have hi' : i < (chL p d.length q).length := by simpa using hi
    have hm : (chL p d.length q)[i] ∈ chL p d.length q := List.getElem_mem _
    have := hP.gt hm
    have := hW.rng ((chL p d.length q)[i]).toNat (by omega)
    show 0 ≤ ((chL p d.length q).map fun c => nth W c.toNat).getD i 0 ∧ _
    rw [nth, List.getD_eq_getElem?_getD]
    simpa [hi'] using this
theorem OOK.has {p d W O : List Int} {total q : Int} (hP : PaOK p d.length) (hW : WOK p d W 0) (h : OOK p W O total q) (ht : Units total) (h0 : -1 ≤ q) (h1 : q < d.length) : Units (if q = -1 then total else nth O q.toNat) := by
  by_cases e : q = -1
  · rw [if_pos e]; exact ht
  · rw [if_neg e]
    have hl := hW.len
    have a := h.val q.toNat (by omega) (by have := hP.2 q.toNat (by omega); omega)
    have b := hW.rng q.toNat (by omega)
    exact ⟨by omega, by omega⟩
theorem tree_ex {p w d : List Int} {total : Int} (hP : PaOK p d.length) (hI : InOK w d) (ht : Units total) : ∃ y, TreeOK p d total y := by
  obtain ⟨W, hW⟩ := wants_ex hP (fun j _ => hI.dpos j)
  have hl := hW.len
  have hP' : PaOK p W.length := by rw [hl]; exact hP
  have key : ∀ n : Nat, n ≤ d.length + 1 → ∃ O, OOK p W O total ((n : Int) - 1) := by
    intro n
    induction n with
    | zero => exact fun _ => ⟨W, by simpa using OOK.start hP' rfl⟩
    | succ n ih =>
      intro hn
      obtain ⟨O, hO⟩ := ih (by omega)
      have hu := hO.has hP hW ht (by omega) (by omega)
      obtain ⟨y, hy⟩ := part_is (kids_ok hP hI hW ((n : Int) - 1 + 1)) hu.lo
      rw [← hl] at hy
      have := hO.step hP' (by omega) (by omega) hy
      rw [show ((n : Int) - 1 + 1) = ((n + 1 : Nat) : Int) - 1 by omega] at this
      exact ⟨_, this⟩
  obtain ⟨O, hO⟩ := key (d.length + 1) (Nat.le_refl _)
  rw [show ((d.length + 1 : Nat) : Int) - 1 = (W.length : Int) by omega] at hO
  exact ⟨O, OOK.tree hP hW hO⟩
def sLaw16 : DS := ⟨_, two pkIntsP (pkK .u16), fun x => 0 ≤ x.2.1 ∧ x.2.1 ≤ 65535, fun _ => .bool true, nou⟩
def sTree : FSp := ⟨_, four pkI pkInts pkInts pkInts, fun x => Units x.1 ∧ InOK x.2.2.1 x.2.2.2.1 ∧ PaOK x.2.1 x.2.2.2.1.length, List Int, fun x y => TreeOK x.2.1 x.2.2.2.1 x.1 y, fun _ _ => .own 101 0, fun _ y => [(101, .rows 3 0 y)], fun x h => tree_ex h.2.2 h.2.1 h.1⟩


set_option maxRecDepth 100000 in
theorem vc24 (l : List Int) (hx : l.length ≤ 1048576) : sClone.vc (EV Try.prog [] noInv noInv) Try.f24 (l, ()) := by
  have e : (∀ (y : Bool), (y = true → l = NilL Int) → (y = true → ∃ (y : Unit), True ∧ NilL Int = l) ∧ (y = false → (NilL Int).length + l.length ≤ (68719476736 : Nat) ∧ ∃ (y : Unit), True ∧ NilL Int ++ l = l)) = sClone.vc (EV Try.prog [] noInv noInv) Try.f24 (l, ()) := by kernel_rfl
  rw [← e]
  clear e
  simp only [NilL_eq]
  intro y hy
  refine ⟨fun h => ⟨(), trivial, (hy h).symm⟩, fun _ => ⟨by simp; omega, (), trivial, rfl⟩⟩

def inv17a (p : List Int) (s : St) : Inv where
  X := Int
  ok := fun i => 0 ≤ i ∧ i ≤ p.length
  sl := fun i => [(43, .int .i64 i), (9, .own 101 3)]
  hp := fun i => [(101, .deep 22 3 [3] (tab p p.length i.toNat) none)]
  keep := []
  me := fun i => (p.length - i).toNat
def inv17b (p d : List Int) (s : St) : Inv where
  X := Int × List Int
  ok := fun x => -1 ≤ x.1 ∧ x.1 < p.length ∧ WOK p d x.2 (x.1 + 1)
  sl := fun x => [(13, .int .i64 x.1), (9, .own 101 3), (12, .own 103 0)]
  hp := fun x => [(101, .rows 22 3 (tab p p.length p.length)), (103, .rows 3 0 x.2)]
  keep := []
  me := fun x => (x.1 + 1).toNat
  pre := [(true, ownId (s.t 9))]
def inv17c (p d : List Int) (s : St) : Inv where
  X := Int × List Int
  ok := fun x => 0 ≤ x.1 ∧ x.1 ≤ (chL p p.length (slotI s 13 + 1)).length ∧ ∃ W, WOK p d W (slotI s 13 + 1) ∧ x.2 = wantT W (chL p p.length (slotI s 13 + 1)) (slotI s 13).toNat x.1.toNat
  sl := fun x => [(93, .int .i64 x.1), (9, .own 101 3), (12, .own 103 0)]
  hp := fun x => [(101, .rows 22 3 (tab p p.length p.length)), (103, .rows 3 0 x.2)]
  keep := []
  me := fun x => ((chL p p.length (slotI s 13 + 1)).length - x.1).toNat
def inv17d (p d : List Int) (k : Int) (s : St) : Inv where
  X := Int × List Int
  ok := fun x => -1 ≤ x.1 ∧ x.1 ≤ p.length ∧ OOK p (contI s (s.t 12)) x.2 k x.1
  sl := fun x => [(17, .int .i64 x.1), (9, .own 101 3), (12, .own 103 0), (16, .own 105 0)]
  hp := fun x => [(101, .rows 22 3 (tab p p.length p.length)), (103, .rows 3 0 (contI s (s.t 12))), (105, .rows 3 0 x.2)]
  keep := []
  me := fun x => (p.length - x.1).toNat
def inv17e (p w : List Int) (s : St) : Inv where
  X := Int
  ok := fun t => 0 ≤ t ∧ t ≤ (chL p p.length (slotI s 17 + 1)).length
  sl := fun t => [(133, .int .i64 t), (9, .own 101 3), (12, .own 103 0), (16, .own 105 0), (19, .own 107 0), (20, .own 109 0)]
  hp := fun t => [(101, .rows 22 3 (tab p p.length p.length)), (103, .rows 3 0 (contI s (s.t 12))), (105, .rows 3 0 (contI s (s.t 16))), (107, .rows 3 0 (((chL p p.length (slotI s 17 + 1)).take t.toNat).map fun c => nth w c.toNat)), (109, .rows 3 0 (((chL p p.length (slotI s 17 + 1)).take t.toNat).map fun c => nth (contI s (s.t 12)) c.toNat))]
  keep := []
  me := fun t => ((chL p p.length (slotI s 17 + 1)).length - t).toNat
def inv17f (p : List Int) (s : St) : Inv where
  X := Int
  ok := fun t => 0 ≤ t ∧ t ≤ (contI s (s.t 155)).length
  sl := fun t => [(157, .int .i64 t), (9, .own 101 3), (12, .own 103 0), (16, .own 105 0), (155, .own 111 0)]
  hp := fun t => [(101, .rows 22 3 (tab p p.length p.length)), (103, .rows 3 0 (contI s (s.t 12))), (105, .rows 3 0 (putL (contI s (s.t 16)) ((chL p p.length (slotI s 17 + 1)).take t.toNat) ((contI s (s.t 155)).take t.toNat))), (111, .rows 3 0 (contI s (s.t 155)))]
  keep := []
  me := fun t => ((contI s (s.t 155)).length - t).toNat
set_option maxRecDepth 100000 in
theorem vc17 (k : Int) (p w d : List Int) (hx : Units k ∧ InOK w d ∧ PaOK p d.length) : sTree.vc (EVD Try.prog [(18, sValid.spec), (19, sDivide.spec), (24, sClone.spec)] (invsS [(5, inv17a p), (13, inv17b p d), (18, inv17c p d), (24, inv17d p d k), (31, inv17e p w), (36, inv17f p)]) noInv [22]) Try.f17 (k, p, w, d, ()) := by
  have e : ((0 ≤ k ∧ k ≤ 65536 ∧ InOK w d) ∧ (false = false → false = false) ∧ (false = false → false = false) ∧ (false = false → false = false) ∧ (false = false → false = false) ∧ (false = false → false = false) ∧ ((!true || !decide ((↑p.length : Int) = (↑w.length : Int))) = true → ∃ (y : List Int), TreeOK p d k y ∧ NilL Int = y) ∧ ((!true || !decide ((↑p.length : Int) = (↑w.length : Int))) = false → i64R ((↑p.length : Int) + 1) ∧ (0 ≤ (↑p.length : Int) + 1 ∧ (↑p.length : Int) + 1 ≤ (↑p.length : Int) + 1 ∧ (↑(24 : Nat) : Int) * ((↑p.length : Int) + 1) ≤ 281474976710656 ∧ (↑p.length : Int) + (1 : Int) ≤ 1099511627776) ∧ (∃ (x : Int), (0 ≤ x ∧ x ≤ (↑p.length : Int)) ∧ 0 = x ∧ List.replicate ((↑p.length : Int) + 1).toNat (NilL Int) = tab p p.length x.toNat) ∧ ∀ (x : Int), 0 ≤ x ∧ x ≤ (↑p.length : Int) → (decide (x < (↑p.length : Int)) = true → (0 ≤ x ∧ x < (↑p.length : Int)) ∧ (decide (nth p x.toNat < (-1)) = false → decide (nth p x.toNat < (-1)) = false) ∧ (decide (nth p x.toNat < (-1)) = false → decide (nth p x.toNat < (-1)) = false) ∧ (decide (nth p x.toNat < (-1)) = false → decide (nth p x.toNat < (-1)) = false) ∧ ((decide (nth p x.toNat < (-1)) || decide (x ≤ nth p x.toNat)) = true → ∃ (y : List Int), TreeOK p d k y ∧ NilL Int = y) ∧ ((decide (nth p x.toNat < (-1)) || decide (x ≤ nth p x.toNat)) = false → i64R (nth p x.toNat + 1) ∧ i64R (nth p x.toNat + 1) ∧ (0 ≤ nth p x.toNat + 1 ∧ nth p x.toNat + 1 < (↑(tab p p.length x.toNat).length : Int)) ∧ ((tab p p.length x.toNat).getD (nth p x.toNat + 1).toNat (NilL Int)).length + (x :: NilL Int).length ≤ (68719476736 : Nat) ∧ (0 ≤ nth p x.toNat + 1 ∧ nth p x.toNat + 1 < (↑(tab p p.length x.toNat).length : Int)) ∧ (nth p x.toNat + 1).toNat = (nth p x.toNat + 1).toNat ∧ AV.irec true (0 : Nat) ((tab p p.length x.toNat).getD (nth p x.toNat + 1).toNat (NilL Int) ++ x :: NilL Int) :: NilL AV = (AV.irec true (0 : Nat) ((tab p p.length x.toNat).getD (nth p x.toNat + 1).toNat (NilL Int)) :: NilL AV).set (0 : Nat) (AV.irec true (0 : Nat) ((tab p p.length x.toNat).getD (nth p x.toNat + 1).toNat (NilL Int) ++ x :: NilL Int)) ∧ i64R (x + 1) ∧ ∃ (x' : Int), (0 ≤ x' ∧ x' ≤ (↑p.length : Int)) ∧ ((↑p.length : Int) - x').toNat < ((↑p.length : Int) - x).toNat ∧ x + 1 = x' ∧ (tab p p.length x.toNat).set (nth p x.toNat + 1).toNat ((tab p p.length x.toNat).getD (nth p x.toNat + 1).toNat (NilL Int) ++ x :: NilL Int) = tab p p.length x'.toNat)) ∧ (decide (x < (↑p.length : Int)) = false → d.length ≤ (1048576 : Nat) ∧ i64R ((↑d.length : Int) - 1) ∧ (∃ (x_1 : Int × List Int), ((-1) ≤ x_1.1 ∧ x_1.1 < (↑p.length : Int) ∧ WOK p d x_1.2 (x_1.1 + 1)) ∧ (↑d.length : Int) - 1 = x_1.1 ∧ tab p p.length x.toNat = tab p p.length p.length ∧ d = x_1.2) ∧ ∀ (x : Int × List Int), (-1) ≤ x.1 ∧ x.1 < (↑p.length : Int) ∧ WOK p d x.2 (x.1 + 1) → (decide (0 ≤ x.1) = true → i64R (x.1 + 1) ∧ (0 ≤ x.1 + 1 ∧ x.1 + 1 < (↑(tab p p.length p.length).length : Int)) ∧ (decide (0 < (↑((tab p p.length p.length).getD (x.1 + 1).toNat (NilL Int)).length : Int)) = true → (0 ≤ x.1 ∧ x.1 < (↑x.2.length : Int)) ∧ i64R (x.1 + 1) ∧ (0 ≤ x.1 + 1 ∧ x.1 + 1 < (↑(tab p p.length p.length).length : Int)) ∧ (∃ (x_1 : Int × List Int), (0 ≤ x_1.1 ∧ x_1.1 ≤ (↑(chL p p.length (x.1 + 1)).length : Int) ∧ ∃ (W : List Int), WOK p d W (x.1 + 1) ∧ x_1.2 = wantT W (chL p p.length (x.1 + 1)) x.1.toNat x_1.1.toNat) ∧ 0 = x_1.1 ∧ tab p p.length p.length = tab p p.length p.length ∧ x.2.set x.1.toNat 0 = x_1.2) ∧ ∀ (x_1 : Int × List Int), (0 ≤ x_1.1 ∧ x_1.1 ≤ (↑(chL p p.length (x.1 + 1)).length : Int) ∧ ∃ (W : List Int), WOK p d W (x.1 + 1) ∧ x_1.2 = wantT W (chL p p.length (x.1 + 1)) x.1.toNat x_1.1.toNat) → (decide (x_1.1 < (↑((tab p p.length p.length).getD (x.1 + 1).toNat (NilL Int)).length : Int)) = true → (0 ≤ x_1.1 ∧ x_1.1 < (↑((tab p p.length p.length).getD (x.1 + 1).toNat (NilL Int)).length : Int)) ∧ (0 ≤ x.1 ∧ x.1 < (↑x_1.2.length : Int)) ∧ (0 ≤ nth ((tab p p.length p.length).getD (x.1 + 1).toNat (NilL Int)) x_1.1.toNat ∧ nth ((tab p p.length p.length).getD (x.1 + 1).toNat (NilL Int)) x_1.1.toNat < (↑x_1.2.length : Int)) ∧ i64R (nth x_1.2 x.1.toNat + nth x_1.2 (nth ((tab p p.length p.length).getD (x.1 + 1).toNat (NilL Int)) x_1.1.toNat).toNat) ∧ (0 ≤ x.1 ∧ x.1 < (↑x_1.2.length : Int)) ∧ i64R (x_1.1 + 1) ∧ ∃ (x' : Int × List Int), (0 ≤ x'.1 ∧ x'.1 ≤ (↑(chL p p.length (x.1 + 1)).length : Int) ∧ ∃ (W : List Int), WOK p d W (x.1 + 1) ∧ x'.2 = wantT W (chL p p.length (x.1 + 1)) x.1.toNat x'.1.toNat) ∧ ((↑(chL p p.length (x.1 + 1)).length : Int) - x'.1).toNat < ((↑(chL p p.length (x.1 + 1)).length : Int) - x_1.1).toNat ∧ x_1.1 + 1 = x'.1 ∧ tab p p.length p.length = tab p p.length p.length ∧ x_1.2.set x.1.toNat (Min.min (nth x_1.2 x.1.toNat + nth x_1.2 (nth ((tab p p.length p.length).getD (x.1 + 1).toNat (NilL Int)) x_1.1.toNat).toNat) 65536) = x'.2) ∧ (decide (x_1.1 < (↑((tab p p.length p.length).getD (x.1 + 1).toNat (NilL Int)).length : Int)) = false → i64R (x.1 - 1) ∧ ∃ (x' : Int × List Int), ((-1) ≤ x'.1 ∧ x'.1 < (↑p.length : Int) ∧ WOK p d x'.2 (x'.1 + 1)) ∧ (x'.1 + 1).toNat < (x.1 + 1).toNat ∧ x.1 - 1 = x'.1 ∧ tab p p.length p.length = tab p p.length p.length ∧ x_1.2 = x'.2)) ∧ (decide (0 < (↑((tab p p.length p.length).getD (x.1 + 1).toNat (NilL Int)).length : Int)) = false → i64R (x.1 - 1) ∧ ∃ (x' : Int × List Int), ((-1) ≤ x'.1 ∧ x'.1 < (↑p.length : Int) ∧ WOK p d x'.2 (x'.1 + 1)) ∧ (x'.1 + 1).toNat < (x.1 + 1).toNat ∧ x.1 - 1 = x'.1 ∧ tab p p.length p.length = tab p p.length p.length ∧ x.2 = x'.2)) ∧ (decide (0 ≤ x.1) = false → (0 ≤ (↑p.length : Int) ∧ (↑p.length : Int) ≤ (↑p.length : Int) ∧ (↑(8 : Nat) : Int) * (↑p.length : Int) ≤ 281474976710656 ∧ (↑p.length : Int) ≤ 1099511627776) ∧ (∃ (x_1 : Int × List Int), ((-1) ≤ x_1.1 ∧ x_1.1 ≤ (↑p.length : Int) ∧ OOK p x.2 x_1.2 k x_1.1) ∧ (-1) = x_1.1 ∧ tab p p.length p.length = tab p p.length p.length ∧ x.2 = x.2 ∧ List.replicate (↑p.length : Int).toNat 0 = x_1.2) ∧ ∀ (x_1 : Int × List Int), (-1) ≤ x_1.1 ∧ x_1.1 ≤ (↑p.length : Int) ∧ OOK p x.2 x_1.2 k x_1.1 → (decide (x_1.1 < (↑p.length : Int)) = true → (decide (0 ≤ x_1.1) = true → (0 ≤ x_1.1 ∧ x_1.1 < (↑x_1.2.length : Int)) ∧ i64R (x_1.1 + 1) ∧ (0 ≤ x_1.1 + 1 ∧ x_1.1 + 1 < (↑(tab p p.length p.length).length : Int)) ∧ (∃ (x_2 : Int), (0 ≤ x_2 ∧ x_2 ≤ (↑(chL p p.length (x_1.1 + 1)).length : Int)) ∧ 0 = x_2 ∧ tab p p.length p.length = tab p p.length p.length ∧ x.2 = x.2 ∧ x_1.2 = x_1.2 ∧ NilL Int = List.map (fun (c : Int) ↦ nth w c.toNat) (List.take x_2.toNat (chL p p.length (x_1.1 + 1))) ∧ NilL Int = List.map (fun (c : Int) ↦ nth x.2 c.toNat) (List.take x_2.toNat (chL p p.length (x_1.1 + 1)))) ∧ ∀ (x_2 : Int), 0 ≤ x_2 ∧ x_2 ≤ (↑(chL p p.length (x_1.1 + 1)).length : Int) → (decide (x_2 < (↑((tab p p.length p.length).getD (x_1.1 + 1).toNat (NilL Int)).length : Int)) = true → (0 ≤ x_2 ∧ x_2 < (↑((tab p p.length p.length).getD (x_1.1 + 1).toNat (NilL Int)).length : Int)) ∧ (0 ≤ nth ((tab p p.length p.length).getD (x_1.1 + 1).toNat (NilL Int)) x_2.toNat ∧ nth ((tab p p.length p.length).getD (x_1.1 + 1).toNat (NilL Int)) x_2.toNat < (↑w.length : Int)) ∧ (List.map (fun (c : Int) ↦ nth w c.toNat) (List.take x_2.toNat (chL p p.length (x_1.1 + 1)))).length + (nth w (nth ((tab p p.length p.length).getD (x_1.1 + 1).toNat (NilL Int)) x_2.toNat).toNat :: NilL Int).length ≤ (68719476736 : Nat) ∧ (0 ≤ nth ((tab p p.length p.length).getD (x_1.1 + 1).toNat (NilL Int)) x_2.toNat ∧ nth ((tab p p.length p.length).getD (x_1.1 + 1).toNat (NilL Int)) x_2.toNat < (↑x.2.length : Int)) ∧ (List.map (fun (c : Int) ↦ nth x.2 c.toNat) (List.take x_2.toNat (chL p p.length (x_1.1 + 1)))).length + (nth x.2 (nth ((tab p p.length p.length).getD (x_1.1 + 1).toNat (NilL Int)) x_2.toNat).toNat :: NilL Int).length ≤ (68719476736 : Nat) ∧ i64R (x_2 + 1) ∧ ∃ (x' : Int), (0 ≤ x' ∧ x' ≤ (↑(chL p p.length (x_1.1 + 1)).length : Int)) ∧ ((↑(chL p p.length (x_1.1 + 1)).length : Int) - x').toNat < ((↑(chL p p.length (x_1.1 + 1)).length : Int) - x_2).toNat ∧ x_2 + 1 = x' ∧ tab p p.length p.length = tab p p.length p.length ∧ x.2 = x.2 ∧ x_1.2 = x_1.2 ∧ List.map (fun (c : Int) ↦ nth w c.toNat) (List.take x_2.toNat (chL p p.length (x_1.1 + 1))) ++ nth w (nth ((tab p p.length p.length).getD (x_1.1 + 1).toNat (NilL Int)) x_2.toNat).toNat :: NilL Int = List.map (fun (c : Int) ↦ nth w c.toNat) (List.take x'.toNat (chL p p.length (x_1.1 + 1))) ∧ List.map (fun (c : Int) ↦ nth x.2 c.toNat) (List.take x_2.toNat (chL p p.length (x_1.1 + 1))) ++ nth x.2 (nth ((tab p p.length p.length).getD (x_1.1 + 1).toNat (NilL Int)) x_2.toNat).toNat :: NilL Int = List.map (fun (c : Int) ↦ nth x.2 c.toNat) (List.take x'.toNat (chL p p.length (x_1.1 + 1)))) ∧ (decide (x_2 < (↑((tab p p.length p.length).getD (x_1.1 + 1).toNat (NilL Int)).length : Int)) = false → (Units (nth x_1.2 x_1.1.toNat) ∧ InOK (List.map (fun (c : Int) ↦ nth w c.toNat) (List.take x_2.toNat (chL p p.length (x_1.1 + 1)))) (List.map (fun (c : Int) ↦ nth x.2 c.toNat) (List.take x_2.toNat (chL p p.length (x_1.1 + 1))))) ∧ (∀ (y : List Int), true = true) ∧ ∀ (y : List Int), Part (nth x_1.2 x_1.1.toNat) (List.map (fun (c : Int) ↦ nth w c.toNat) (List.take x_2.toNat (chL p p.length (x_1.1 + 1)))) (List.map (fun (c : Int) ↦ nth x.2 c.toNat) (List.take x_2.toNat (chL p p.length (x_1.1 + 1)))) y → (∃ (x_3 : Int), (0 ≤ x_3 ∧ x_3 ≤ (↑y.length : Int)) ∧ 0 = x_3 ∧ tab p p.length p.length = tab p p.length p.length ∧ x.2 = x.2 ∧ x_1.2 = putL x_1.2 (List.take x_3.toNat (chL p p.length (x_1.1 + 1))) (List.take x_3.toNat y) ∧ y = y) ∧ ∀ (x_3 : Int), 0 ≤ x_3 ∧ x_3 ≤ (↑y.length : Int) → (decide (x_3 < (↑y.length : Int)) = true → (0 ≤ x_3 ∧ x_3 < (↑y.length : Int)) ∧ i64R (x_1.1 + 1) ∧ (0 ≤ x_1.1 + 1 ∧ x_1.1 + 1 < (↑(tab p p.length p.length).length : Int)) ∧ (0 ≤ x_3 ∧ x_3 < (↑((tab p p.length p.length).getD (x_1.1 + 1).toNat (NilL Int)).length : Int)) ∧ (0 ≤ nth ((tab p p.length p.length).getD (x_1.1 + 1).toNat (NilL Int)) x_3.toNat ∧ nth ((tab p p.length p.length).getD (x_1.1 + 1).toNat (NilL Int)) x_3.toNat < (↑(putL x_1.2 (List.take x_3.toNat (chL p p.length (x_1.1 + 1))) (List.take x_3.toNat y)).length : Int)) ∧ i64R (x_3 + 1) ∧ ∃ (x' : Int), (0 ≤ x' ∧ x' ≤ (↑y.length : Int)) ∧ ((↑y.length : Int) - x').toNat < ((↑y.length : Int) - x_3).toNat ∧ x_3 + 1 = x' ∧ tab p p.length p.length = tab p p.length p.length ∧ x.2 = x.2 ∧ (putL x_1.2 (List.take x_3.toNat (chL p p.length (x_1.1 + 1))) (List.take x_3.toNat y)).set (nth ((tab p p.length p.length).getD (x_1.1 + 1).toNat (NilL Int)) x_3.toNat).toNat (nth y x_3.toNat) = putL x_1.2 (List.take x'.toNat (chL p p.length (x_1.1 + 1))) (List.take x'.toNat y) ∧ y = y) ∧ (decide (x_3 < (↑y.length : Int)) = false → i64R (x_1.1 + 1) ∧ ∃ (x' : Int × List Int), ((-1) ≤ x'.1 ∧ x'.1 ≤ (↑p.length : Int) ∧ OOK p x.2 x'.2 k x'.1) ∧ ((↑p.length : Int) - x'.1).toNat < ((↑p.length : Int) - x_1.1).toNat ∧ x_1.1 + 1 = x'.1 ∧ tab p p.length p.length = tab p p.length p.length ∧ x.2 = x.2 ∧ putL x_1.2 (List.take x_3.toNat (chL p p.length (x_1.1 + 1))) (List.take x_3.toNat y) = x'.2))) ∧ (decide (0 ≤ x_1.1) = false → i64R (x_1.1 + 1) ∧ (0 ≤ x_1.1 + 1 ∧ x_1.1 + 1 < (↑(tab p p.length p.length).length : Int)) ∧ (∃ (x_2 : Int), (0 ≤ x_2 ∧ x_2 ≤ (↑(chL p p.length (x_1.1 + 1)).length : Int)) ∧ 0 = x_2 ∧ tab p p.length p.length = tab p p.length p.length ∧ x.2 = x.2 ∧ x_1.2 = x_1.2 ∧ NilL Int = List.map (fun (c : Int) ↦ nth w c.toNat) (List.take x_2.toNat (chL p p.length (x_1.1 + 1))) ∧ NilL Int = List.map (fun (c : Int) ↦ nth x.2 c.toNat) (List.take x_2.toNat (chL p p.length (x_1.1 + 1)))) ∧ ∀ (x_2 : Int), 0 ≤ x_2 ∧ x_2 ≤ (↑(chL p p.length (x_1.1 + 1)).length : Int) → (decide (x_2 < (↑((tab p p.length p.length).getD (x_1.1 + 1).toNat (NilL Int)).length : Int)) = true → (0 ≤ x_2 ∧ x_2 < (↑((tab p p.length p.length).getD (x_1.1 + 1).toNat (NilL Int)).length : Int)) ∧ (0 ≤ nth ((tab p p.length p.length).getD (x_1.1 + 1).toNat (NilL Int)) x_2.toNat ∧ nth ((tab p p.length p.length).getD (x_1.1 + 1).toNat (NilL Int)) x_2.toNat < (↑w.length : Int)) ∧ (List.map (fun (c : Int) ↦ nth w c.toNat) (List.take x_2.toNat (chL p p.length (x_1.1 + 1)))).length + (nth w (nth ((tab p p.length p.length).getD (x_1.1 + 1).toNat (NilL Int)) x_2.toNat).toNat :: NilL Int).length ≤ (68719476736 : Nat) ∧ (0 ≤ nth ((tab p p.length p.length).getD (x_1.1 + 1).toNat (NilL Int)) x_2.toNat ∧ nth ((tab p p.length p.length).getD (x_1.1 + 1).toNat (NilL Int)) x_2.toNat < (↑x.2.length : Int)) ∧ (List.map (fun (c : Int) ↦ nth x.2 c.toNat) (List.take x_2.toNat (chL p p.length (x_1.1 + 1)))).length + (nth x.2 (nth ((tab p p.length p.length).getD (x_1.1 + 1).toNat (NilL Int)) x_2.toNat).toNat :: NilL Int).length ≤ (68719476736 : Nat) ∧ i64R (x_2 + 1) ∧ ∃ (x' : Int), (0 ≤ x' ∧ x' ≤ (↑(chL p p.length (x_1.1 + 1)).length : Int)) ∧ ((↑(chL p p.length (x_1.1 + 1)).length : Int) - x').toNat < ((↑(chL p p.length (x_1.1 + 1)).length : Int) - x_2).toNat ∧ x_2 + 1 = x' ∧ tab p p.length p.length = tab p p.length p.length ∧ x.2 = x.2 ∧ x_1.2 = x_1.2 ∧ List.map (fun (c : Int) ↦ nth w c.toNat) (List.take x_2.toNat (chL p p.length (x_1.1 + 1))) ++ nth w (nth ((tab p p.length p.length).getD (x_1.1 + 1).toNat (NilL Int)) x_2.toNat).toNat :: NilL Int = List.map (fun (c : Int) ↦ nth w c.toNat) (List.take x'.toNat (chL p p.length (x_1.1 + 1))) ∧ List.map (fun (c : Int) ↦ nth x.2 c.toNat) (List.take x_2.toNat (chL p p.length (x_1.1 + 1))) ++ nth x.2 (nth ((tab p p.length p.length).getD (x_1.1 + 1).toNat (NilL Int)) x_2.toNat).toNat :: NilL Int = List.map (fun (c : Int) ↦ nth x.2 c.toNat) (List.take x'.toNat (chL p p.length (x_1.1 + 1)))) ∧ (decide (x_2 < (↑((tab p p.length p.length).getD (x_1.1 + 1).toNat (NilL Int)).length : Int)) = false → (Units k ∧ InOK (List.map (fun (c : Int) ↦ nth w c.toNat) (List.take x_2.toNat (chL p p.length (x_1.1 + 1)))) (List.map (fun (c : Int) ↦ nth x.2 c.toNat) (List.take x_2.toNat (chL p p.length (x_1.1 + 1))))) ∧ (∀ (y : List Int), true = true) ∧ ∀ (y : List Int), Part k (List.map (fun (c : Int) ↦ nth w c.toNat) (List.take x_2.toNat (chL p p.length (x_1.1 + 1)))) (List.map (fun (c : Int) ↦ nth x.2 c.toNat) (List.take x_2.toNat (chL p p.length (x_1.1 + 1)))) y → (∃ (x_3 : Int), (0 ≤ x_3 ∧ x_3 ≤ (↑y.length : Int)) ∧ 0 = x_3 ∧ tab p p.length p.length = tab p p.length p.length ∧ x.2 = x.2 ∧ x_1.2 = putL x_1.2 (List.take x_3.toNat (chL p p.length (x_1.1 + 1))) (List.take x_3.toNat y) ∧ y = y) ∧ ∀ (x_3 : Int), 0 ≤ x_3 ∧ x_3 ≤ (↑y.length : Int) → (decide (x_3 < (↑y.length : Int)) = true → (0 ≤ x_3 ∧ x_3 < (↑y.length : Int)) ∧ i64R (x_1.1 + 1) ∧ (0 ≤ x_1.1 + 1 ∧ x_1.1 + 1 < (↑(tab p p.length p.length).length : Int)) ∧ (0 ≤ x_3 ∧ x_3 < (↑((tab p p.length p.length).getD (x_1.1 + 1).toNat (NilL Int)).length : Int)) ∧ (0 ≤ nth ((tab p p.length p.length).getD (x_1.1 + 1).toNat (NilL Int)) x_3.toNat ∧ nth ((tab p p.length p.length).getD (x_1.1 + 1).toNat (NilL Int)) x_3.toNat < (↑(putL x_1.2 (List.take x_3.toNat (chL p p.length (x_1.1 + 1))) (List.take x_3.toNat y)).length : Int)) ∧ i64R (x_3 + 1) ∧ ∃ (x' : Int), (0 ≤ x' ∧ x' ≤ (↑y.length : Int)) ∧ ((↑y.length : Int) - x').toNat < ((↑y.length : Int) - x_3).toNat ∧ x_3 + 1 = x' ∧ tab p p.length p.length = tab p p.length p.length ∧ x.2 = x.2 ∧ (putL x_1.2 (List.take x_3.toNat (chL p p.length (x_1.1 + 1))) (List.take x_3.toNat y)).set (nth ((tab p p.length p.length).getD (x_1.1 + 1).toNat (NilL Int)) x_3.toNat).toNat (nth y x_3.toNat) = putL x_1.2 (List.take x'.toNat (chL p p.length (x_1.1 + 1))) (List.take x'.toNat y) ∧ y = y) ∧ (decide (x_3 < (↑y.length : Int)) = false → i64R (x_1.1 + 1) ∧ ∃ (x' : Int × List Int), ((-1) ≤ x'.1 ∧ x'.1 ≤ (↑p.length : Int) ∧ OOK p x.2 x'.2 k x'.1) ∧ ((↑p.length : Int) - x'.1).toNat < ((↑p.length : Int) - x_1.1).toNat ∧ x_1.1 + 1 = x'.1 ∧ tab p p.length p.length = tab p p.length p.length ∧ x.2 = x.2 ∧ putL x_1.2 (List.take x_3.toNat (chL p p.length (x_1.1 + 1))) (List.take x_3.toNat y) = x'.2)))) ∧ (decide (x_1.1 < (↑p.length : Int)) = false → ∃ (y : List Int), TreeOK p d k y ∧ x_1.2 = y))))) = sTree.vc (EVD Try.prog [(18, sValid.spec), (19, sDivide.spec), (24, sClone.spec)] (invsS [(5, inv17a p), (13, inv17b p d), (18, inv17c p d), (24, inv17d p d k), (31, inv17e p w), (36, inv17f p)]) noInv [22]) Try.f17 (k, p, w, d, ()) := by kernel_rfl
  rw [← e]
  clear e
  simp only [imp_self, true_and, and_true, exists_const, implies_true, gd1, gd2, gd3, gd4, gd5, gd6 ]
  simp only [Prod.forall, Prod.exists, exists_const, implies_true, not_true_eq_false, not_false_eq_true, or_self, or_false, false_or, or_true, true_or, and_false, false_and, forall_const, true_and, and_true, i64R, imp_self, Int.reduceLE, Int.reduceLT, Int.reduceNeg, false_implies, true_implies, decide_eq_true_eq, decide_eq_false_iff_not, Bool.not_eq_true', Bool.not_eq_false', Bool.true_eq_false, Bool.false_eq_true, Bool.and_eq_true, Bool.or_eq_true, Bool.and_eq_false_iff, Bool.or_eq_false_iff ]
  simp only [NilL_eq]
  obtain ⟨ht, hI, hP⟩ := hx
  have hpl := hP.1
  have hlw := hI.len
  have hn := hI.n
  have hk0 := ht.lo
  have hk1 := ht.hi
  simp only [hpl]
  have hL : (tab p d.length d.length).length = d.length + 1 := tab_len
  have hT : ∀ z : Int, -1 ≤ z → z < d.length → (tab p d.length d.length).getD (z + 1).toNat [] = chL p d.length (z + 1) := fun z h0 h1 => by
    rw [tab_at (by omega), show (((z + 1).toNat : Nat) : Int) = z + 1 by omega]
  refine ⟨⟨hk0, hk1, hI⟩, fun h => absurd hlw.symm (by omega), fun _ => ⟨by omega, ⟨by omega, by omega, by omega, by omega⟩, ⟨0, ⟨by omega, by omega⟩, rfl, ?_⟩, fun i hi => ⟨fun hlt => ?_, fun hge => ?_⟩⟩⟩
  · rw [show ((d.length : Int) + 1).toNat = d.length + 1 by omega]
    exact tab_zero
  · have hp := hP.2 i.toNat (by omega)
    have hl1 : (tab p d.length i.toNat).length = d.length + 1 := tab_len
    have e1 : (tab p d.length i.toNat).getD (nth p i.toNat + 1).toNat [] = chL p i.toNat ((nth p i.toNat + 1).toNat : Nat) := tab_at (by omega)
    have hcl := chL_len (p := p) (q := ((nth p i.toNat + 1).toNat : Nat)) (i := i.toNat)
    refine ⟨⟨hi.1, hlt⟩, fun h => absurd h (by omega), fun _ => ⟨by omega, by omega, by omega, ?_, by omega, rfl, by omega, i + 1, by omega, by omega, rfl, ?_⟩⟩
    · rw [e1]; simp only [List.length_cons, List.length_nil]; omega
    · rw [e1, show (i + 1).toNat = i.toNat + 1 by omega]
      have := tab_step (p := p) (m := d.length) (i := i.toNat) (by omega) (by omega)
      rw [show ((i.toNat : Nat) : Int) = i by omega] at this
      exact this
  · refine ⟨by omega, by omega, ⟨(d.length : Int) - 1, d, ⟨by omega, by omega, ?_⟩, rfl, by rw [show i.toNat = d.length by omega], rfl⟩, fun a W hW => ⟨fun h0 => ?_, fun h0 => ?_⟩⟩
    · rw [show (d.length : Int) - 1 + 1 = d.length by omega]
      exact WOK.start fun j _ => hI.dpos j
    · obtain ⟨ha0, ha1, hW⟩ := hW
      obtain ⟨n, rfl⟩ := Int.eq_ofNat_of_zero_le h0
      have en : ((n : Int)).toNat = n := rfl
      rw [hT _ (by omega) (by omega)]
      have hWl := hW.len
      refine ⟨by omega, ⟨by omega, by omega⟩, fun hc => ⟨⟨h0, by omega⟩, by omega, ⟨by omega, by omega⟩, ⟨0, W.set n 0, ⟨by omega, by omega, W, hW, by simp [wantT, sumAt]; rfl⟩, rfl, rfl⟩, fun t V hV => ⟨fun hlt => ?_, fun hge => ?_⟩⟩, fun hc => ?_⟩
      · obtain ⟨t0, t1, W', hW', rfl⟩ := hV
        have hWl' := hW'.len
        have hcl := chL_len (p := p) (q := (n : Int) + 1) (i := d.length)
        have ht' : t.toNat < (chL p d.length ((n : Int) + 1)).length := by omega
        have hm : nth (chL p d.length ((n : Int) + 1)) t.toNat ∈ chL p d.length ((n : Int) + 1) := by
          rw [nth, List.getD_eq_getElem?_getD, List.getElem?_eq_getElem ht']; exact List.getElem_mem _
        have hg := hP.gt hm
        have hst := wantT_step hP hW' (by omega) ht'
        have hVl : (wantT W' (chL p d.length ((n : Int) + 1)) n t.toNat).length = d.length := by rw [wantT, List.length_set]; exact hWl'
        have e1 : nth (wantT W' (chL p d.length ((n : Int) + 1)) n t.toNat) n = min (sumAt W' ((chL p d.length ((n : Int) + 1)).take t.toNat)) 65536 := by rw [wantT, nth_set' (by omega), if_pos rfl]
        have p1 : 0 ≤ sumAt W' ((chL p d.length ((n : Int) + 1)).take t.toNat) := sumAt_pos fun c hc => (hW'.rng c.toNat (by have := hP.gt (List.mem_of_mem_take hc); omega)).1
        have e2 : nth (wantT W' (chL p d.length ((n : Int) + 1)) n t.toNat) (nth (chL p d.length ((n : Int) + 1)) t.toNat).toNat = nth W' (nth (chL p d.length ((n : Int) + 1)) t.toNat).toNat := by rw [wantT, nth_set' (by omega), if_neg (by omega)]
        have p2 := hW'.rng (nth (chL p d.length ((n : Int) + 1)) t.toNat).toNat (by omega)
        simp only [en] at t1 ⊢
        rw [hVl]
        refine ⟨⟨t0, hlt⟩, ⟨h0, ha1⟩, ⟨hg.2.1, hg.2.2.1⟩, ⟨by rw [e1, e2]; omega, by rw [e1, e2]; omega⟩, ⟨h0, ha1⟩, by omega, t + 1, wantT W' (chL p d.length ((n : Int) + 1)) n (t.toNat + 1), ⟨by omega, by omega, W', hW', by rw [show (t + 1).toNat = t.toNat + 1 by omega]⟩, by omega, rfl, hst⟩
      · obtain ⟨t0, t1, W', hW', rfl⟩ := hV
        have := hW'.step hP (by omega) (fun j _ => hI.dpos j)
        rw [if_neg (fun h => by rw [h] at hc; simp at hc)] at this
        rw [show t.toNat = (chL p d.length ((n : Int) + 1)).length by omega]
        exact ⟨by omega, (n : Int) - 1, _, ⟨by omega, by omega, by rw [show (n : Int) - 1 + 1 = n by omega]; exact this⟩, by omega, rfl, rfl⟩
      · have := hW.step hP (by omega) (fun j _ => hI.dpos j)
        rw [if_pos (List.eq_nil_of_length_eq_zero (by omega))] at this
        exact ⟨by omega, (n : Int) - 1, _, ⟨by omega, by omega, by rw [show (n : Int) - 1 + 1 = n by omega]; exact this⟩, by omega, rfl, rfl⟩
    · obtain ⟨ha0, ha1, hW⟩ := hW
      have ea : a = -1 := by omega
      subst ea
      have hW0 : WOK p d W 0 := hW
      have hWl := hW0.len
      have hP' : PaOK p W.length := by rw [hWl]; exact hP
      refine ⟨⟨by omega, by omega, by omega, by omega⟩, ⟨-1, List.replicate d.length 0, ⟨by omega, by omega, OOK.start hP' (by simp; omega)⟩, rfl, rfl⟩, fun q O hO => ⟨fun hlt => ?_, fun hge => ?_⟩⟩
      · obtain ⟨q0, q1, hO⟩ := hO
        have hOl := hO.len
        rw [hT q (by omega) (by omega)]
        have hU := hO.has hP hW0 ht q0 hlt
        have hK := kids_ok hP hI hW0 (q + 1)
        have hcl := chL_len (p := p) (q := q + 1) (i := d.length)
        have hm : ∀ t : Int, 0 ≤ t → t < (chL p d.length (q + 1)).length → 0 ≤ nth (chL p d.length (q + 1)) t.toNat ∧ nth (chL p d.length (q + 1)) t.toNat < d.length := fun t t0 t1 => by
          have hm : nth (chL p d.length (q + 1)) t.toNat ∈ chL p d.length (q + 1) := by
            rw [nth, List.getD_eq_getElem?_getD, List.getElem?_eq_getElem (by omega)]; exact List.getElem_mem _
          have := hP.gt hm
          omega
        refine ⟨fun h0 => ⟨⟨h0, by omega⟩, ?_⟩, fun h0 => ?_⟩
        all_goals
          refine ⟨by omega, ⟨by omega, by omega⟩, ⟨0, ⟨by omega, by omega⟩, rfl, by simp, by simp⟩, fun t h => ⟨fun hlt => ?_, fun hge => ?_⟩⟩
          · have h1 := hm t h.1 hlt
            have e1 : (t + 1).toNat = t.toNat + 1 := by omega
            refine ⟨⟨h.1, hlt⟩, ⟨h1.1, by omega⟩, by simp only [List.length_map, List.length_take, List.length_cons, List.length_nil]; omega, ⟨h1.1, by omega⟩, by simp only [List.length_map, List.length_take, List.length_cons, List.length_nil]; omega, by omega, t + 1, by omega, by omega, rfl, ?_, ?_⟩
            · rw [e1, take_snoc (by omega), List.map_append]; rfl
            · rw [e1, take_snoc (by omega), List.map_append]; rfl
          · rw [List.take_of_length_le (show (chL p d.length (q + 1)).length ≤ t.toNat by omega)]
            refine ⟨⟨by first | exact ht | (rw [if_neg (by omega)] at hU; exact hU), hK⟩, fun y hy => ?_⟩
            have hyl : y.length = (chL p d.length (q + 1)).length := by rw [hy.len, List.length_map]
            have hy' : Part (if q = -1 then k else nth O q.toNat) ((chL p d.length (q + 1)).map fun c => nth w c.toNat) ((chL p d.length (q + 1)).map fun c => nth W c.toNat) y := by first | (rw [if_neg (by omega)]; exact hy) | (rw [if_pos (by omega)]; exact hy)
            rw [← hWl] at hy'
            have hs := hO.step hP' q0 (by omega) hy'
            rw [hWl] at hs
            refine ⟨⟨0, ⟨by omega, by omega⟩, rfl, rfl⟩, fun u hu => ⟨fun hlt2 => ?_, fun hge2 => ?_⟩⟩
            · have h1 := hm u hu.1 (by omega)
              refine ⟨⟨hu.1, hlt2⟩, by omega, ⟨by omega, by omega⟩, ⟨by omega, by omega⟩, ⟨h1.1, by rw [putL_len]; omega⟩, by omega, u + 1, by omega, by omega, rfl, ?_⟩
              rw [show (u + 1).toNat = u.toNat + 1 by omega, take_snoc (show u.toNat < y.length by omega), take_snoc (show u.toNat < (chL p d.length (q + 1)).length by omega), putL_snoc (by simp only [List.length_take]; omega)]
            · rw [List.take_of_length_le (show (chL p d.length (q + 1)).length ≤ u.toNat by omega), List.take_of_length_le (show y.length ≤ u.toNat by omega)]
              exact ⟨by omega, q + 1, _, ⟨by omega, by omega, hs⟩, by omega, rfl, rfl⟩
      · have eq : q = W.length := by omega
        exact ⟨O, OOK.tree hP hW0 (by rw [← eq]; exact hO.2.2), rfl⟩

def inv7a (L : List Int) (s : St) : Inv where
  X := Int × List Int × Int
  ok := fun x => 0 ≤ x.1 ∧ x.1 ≤ (contI s (s.t 6)).length ∧ x.2.1.length = (contI s (s.t 6)).length ∧ (∀ j : Nat, (j : Int) < x.1 → -1 ≤ nth x.2.1 j ∧ nth x.2.1 j < j) ∧ 0 ≤ x.2.2 ∧ x.2.2 ≤ L.length
  sl := fun x => [(33, .int .i64 x.1), (6, .own 101 0), (7, .own 103 0), (8, .own 105 0)]
  hp := fun x => [(40010, diceO (L, x.2.2)), (101, .rows 3 0 (contI s (s.t 6))), (103, .rows 3 0 (contI s (s.t 7))), (105, .rows 3 0 x.2.1)]
  keep := []
  me := fun x => ((contI s (s.t 6)).length - x.1).toNat
def inv7b (s : St) : Inv where
  X := Int
  ok := fun i => 0 ≤ i ∧ i ≤ (contI s (s.t 11)).length
  sl := fun i => [(60, .int .i64 i), (12, .int .i64 (sumAt (contI s (s.t 11)) (chL (contI s (s.t 8)) i.toNat 0))), (7, .own 103 0), (8, .own 105 0), (11, .own 107 0)]
  hp := fun i => [(103, .rows 3 0 (contI s (s.t 7))), (105, .rows 3 0 (contI s (s.t 8))), (107, .rows 3 0 (contI s (s.t 11)))]
  keep := []
  me := fun i => ((contI s (s.t 11)).length - i).toNat
def inv7c (s : St) : Inv where
  X := Int
  ok := fun i => 0 ≤ i ∧ i ≤ (contI s (s.t 11)).length
  sl := fun i => [(65, .int .i64 i), (14, .int .i64 ((chL (contI s (s.t 8)) i.toNat (slotI s 13 + 1)).length)), (15, .int .i64 (sumAt (contI s (s.t 11)) (chL (contI s (s.t 8)) i.toNat (slotI s 13 + 1)))), (7, .own 103 0), (8, .own 105 0), (11, .own 107 0)]
  hp := fun i => [(103, .rows 3 0 (contI s (s.t 7))), (105, .rows 3 0 (contI s (s.t 8))), (107, .rows 3 0 (contI s (s.t 11)))]
  keep := []
  me := fun i => ((contI s (s.t 11)).length - i).toNat
set_option maxRecDepth 100000 in
theorem vc7 (L : List Int) (n : Int) (hx : 0 ≤ n ∧ n ≤ 65535) : sLaw16.vc (EV Try.prog [(8, sLight.spec), (9, sSane.spec), (10, sRoll.spec), (14, sDraw.spec), (11, sNext.spec), (17, sTree.spec)] (invsS [(7, inv7a L), (17, inv7b), (21, inv7c)]) noInv) Try.f7 (L, n, ()) := by
  have e : (True ∧ ((!decide ((↑L.length : Int) ≤ (600 : Int))) = true → True ∧ ∃ (y : Unit), True ∧ true = true) ∧ ((!decide ((↑L.length : Int) ≤ (600 : Int))) = false → True ∧ DOK (L, (0 : Int)) ∧ (∀ (y : List Int × List Int × Int), true = true) ∧ ∀ (y : List Int × List Int × Int), InOK y.1 y.2.1 ∧ y.1.length ≤ (5 : Nat) ∧ (0 : Int) ≤ y.2.2 ∧ y.2.2 ≤ (↑L.length : Int) → ((0 : Int) ≤ (↑y.1.length : Int) ∧ (↑y.1.length : Int) ≤ (↑y.1.length : Int) ∧ (↑(8 : Nat) : Int) * (↑y.1.length : Int) ≤ (281474976710656 : Int) ∧ (↑y.1.length : Int) ≤ (1099511627776 : Int)) ∧ (∃ (x : Int × List Int × Int), ((0 : Int) ≤ x.1 ∧ x.1 ≤ (↑y.1.length : Int) ∧ x.2.1.length = y.1.length ∧ (∀ (j : Nat), (↑j : Int) < x.1 → (-1 : Int) ≤ nth x.2.1 j ∧ nth x.2.1 j < (↑j : Int)) ∧ (0 : Int) ≤ x.2.2 ∧ x.2.2 ≤ (↑L.length : Int)) ∧ (0 : Int) = x.1 ∧ L = L ∧ y.2.2 = x.2.2 ∧ y.1 = y.1 ∧ y.2.1 = y.2.1 ∧ List.replicate (↑y.1.length : Int).toNat (0 : Int) = x.2.1) ∧ ∀ (x : Int × List Int × Int), (0 : Int) ≤ x.1 ∧ x.1 ≤ (↑y.1.length : Int) ∧ x.2.1.length = y.1.length ∧ (∀ (j : Nat), (↑j : Int) < x.1 → (-1 : Int) ≤ nth x.2.1 j ∧ nth x.2.1 j < (↑j : Int)) ∧ (0 : Int) ≤ x.2.2 ∧ x.2.2 ≤ (↑L.length : Int) → (decide (x.1 < (↑(List.replicate (↑y.1.length : Int).toNat (0 : Int)).length : Int)) = true → i64R (x.1 + (1 : Int)) ∧ (DOK (L, x.2.2) ∧ x.1 + (1 : Int) ≤ (4611686018427387904 : Int)) ∧ (∀ (y : Int × Int), true = true) ∧ ∀ (y_1 : Int × Int), ((1 : Int) ≤ x.1 + (1 : Int) → (0 : Int) ≤ y_1.1 ∧ y_1.1 < x.1 + (1 : Int)) ∧ (x.1 + (1 : Int) < (1 : Int) → y_1.1 = (0 : Int)) ∧ x.2.2 ≤ y_1.2 ∧ y_1.2 ≤ (↑L.length : Int) → i64R (y_1.1 - (1 : Int)) ∧ ((0 : Int) ≤ x.1 ∧ x.1 < (↑x.2.1.length : Int)) ∧ i64R (x.1 + (1 : Int)) ∧ ∃ (x' : Int × List Int × Int), ((0 : Int) ≤ x'.1 ∧ x'.1 ≤ (↑y.1.length : Int) ∧ x'.2.1.length = y.1.length ∧ (∀ (j : Nat), (↑j : Int) < x'.1 → (-1 : Int) ≤ nth x'.2.1 j ∧ nth x'.2.1 j < (↑j : Int)) ∧ (0 : Int) ≤ x'.2.2 ∧ x'.2.2 ≤ (↑L.length : Int)) ∧ ((↑y.1.length : Int) - x'.1).toNat < ((↑y.1.length : Int) - x.1).toNat ∧ x.1 + (1 : Int) = x'.1 ∧ L = L ∧ y_1.2 = x'.2.2 ∧ y.1 = y.1 ∧ y.2.1 = y.2.1 ∧ x.2.1.set x.1.toNat (y_1.1 - (1 : Int)) = x'.2.1) ∧ (decide (x.1 < (↑(List.replicate (↑y.1.length : Int).toNat (0 : Int)).length : Int)) = false → i64R n ∧ (0 : Int) < (2000 : Int) ∧ (Units (n.tmod (2000 : Int)) ∧ InOK y.1 y.2.1 ∧ PaOK x.2.1 y.2.1.length) ∧ (∀ (y : List Int), true = true) ∧ ∀ (y_1 : List Int), TreeOK x.2.1 y.2.1 (n.tmod (2000 : Int)) y_1 → ((!decide ((↑y_1.length : Int) = (↑y.1.length : Int))) = true → ∃ (y : Unit), True ∧ false = true) ∧ ((!decide ((↑y_1.length : Int) = (↑y.1.length : Int))) = false → (∃ (x_1 : Int), ((0 : Int) ≤ x_1 ∧ x_1 ≤ (↑y_1.length : Int)) ∧ (0 : Int) = x_1 ∧ (0 : Int) = sumAt y_1 (chL x.2.1 x_1.toNat (0 : Int)) ∧ y.2.1 = y.2.1 ∧ x.2.1 = x.2.1 ∧ y_1 = y_1) ∧ ∀ (x_1 : Int), (0 : Int) ≤ x_1 ∧ x_1 ≤ (↑y_1.length : Int) → (decide (x_1 < (↑y_1.length : Int)) = true → (∃ (x_2 : Int), ((0 : Int) ≤ x_2 ∧ x_2 ≤ (↑y_1.length : Int)) ∧ (0 : Int) = x_2 ∧ (0 : Int) = (↑(chL x.2.1 x_2.toNat (x_1 + (1 : Int))).length : Int) ∧ (0 : Int) = sumAt y_1 (chL x.2.1 x_2.toNat (x_1 + (1 : Int))) ∧ y.2.1 = y.2.1 ∧ x.2.1 = x.2.1 ∧ y_1 = y_1) ∧ ∀ (x_2 : Int), (0 : Int) ≤ x_2 ∧ x_2 ≤ (↑y_1.length : Int) → (decide (x_2 < (↑y_1.length : Int)) = true → ((0 : Int) ≤ x_2 ∧ x_2 < (↑x.2.1.length : Int)) ∧ (decide (nth x.2.1 x_2.toNat = x_1) = true → i64R ((↑(chL x.2.1 x_2.toNat (x_1 + (1 : Int))).length : Int) + (1 : Int)) ∧ ((0 : Int) ≤ x_2 ∧ x_2 < (↑y_1.length : Int)) ∧ i64R (sumAt y_1 (chL x.2.1 x_2.toNat (x_1 + (1 : Int))) + nth y_1 x_2.toNat) ∧ i64R (x_2 + (1 : Int)) ∧ ∃ (x' : Int), ((0 : Int) ≤ x' ∧ x' ≤ (↑y_1.length : Int)) ∧ ((↑y_1.length : Int) - x').toNat < ((↑y_1.length : Int) - x_2).toNat ∧ x_2 + (1 : Int) = x' ∧ (↑(chL x.2.1 x_2.toNat (x_1 + (1 : Int))).length : Int) + (1 : Int) = (↑(chL x.2.1 x'.toNat (x_1 + (1 : Int))).length : Int) ∧ sumAt y_1 (chL x.2.1 x_2.toNat (x_1 + (1 : Int))) + nth y_1 x_2.toNat = sumAt y_1 (chL x.2.1 x'.toNat (x_1 + (1 : Int))) ∧ y.2.1 = y.2.1 ∧ x.2.1 = x.2.1 ∧ y_1 = y_1) ∧ (decide (nth x.2.1 x_2.toNat = x_1) = false → i64R (x_2 + (1 : Int)) ∧ ∃ (x' : Int), ((0 : Int) ≤ x' ∧ x' ≤ (↑y_1.length : Int)) ∧ ((↑y_1.length : Int) - x').toNat < ((↑y_1.length : Int) - x_2).toNat ∧ x_2 + (1 : Int) = x' ∧ (↑(chL x.2.1 x_2.toNat (x_1 + (1 : Int))).length : Int) = (↑(chL x.2.1 x'.toNat (x_1 + (1 : Int))).length : Int) ∧ sumAt y_1 (chL x.2.1 x_2.toNat (x_1 + (1 : Int))) = sumAt y_1 (chL x.2.1 x'.toNat (x_1 + (1 : Int))) ∧ y.2.1 = y.2.1 ∧ x.2.1 = x.2.1 ∧ y_1 = y_1)) ∧ (decide (x_2 < (↑y_1.length : Int)) = false → ((0 : Int) ≤ x_1 ∧ x_1 < (↑x.2.1.length : Int)) ∧ (decide (nth x.2.1 x_1.toNat = (-1 : Int)) = true → ((0 : Int) ≤ x_1 ∧ x_1 < (↑y_1.length : Int)) ∧ i64R (sumAt y_1 (chL x.2.1 x_1.toNat (0 : Int)) + nth y_1 x_1.toNat) ∧ (decide ((0 : Int) < (↑(chL x.2.1 x_2.toNat (x_1 + (1 : Int))).length : Int)) = true → decide ((0 : Int) < (↑(chL x.2.1 x_2.toNat (x_1 + (1 : Int))).length : Int)) = true) ∧ (decide ((0 : Int) < (↑(chL x.2.1 x_2.toNat (x_1 + (1 : Int))).length : Int)) = true → decide ((0 : Int) < (↑(chL x.2.1 x_2.toNat (x_1 + (1 : Int))).length : Int)) = true) ∧ (decide ((0 : Int) < (↑(chL x.2.1 x_2.toNat (x_1 + (1 : Int))).length : Int)) = true → (0 : Int) ≤ x_1 ∧ x_1 < (↑y_1.length : Int)) ∧ (decide ((0 : Int) < (↑(chL x.2.1 x_2.toNat (x_1 + (1 : Int))).length : Int)) = true → decide ((0 : Int) < (↑(chL x.2.1 x_2.toNat (x_1 + (1 : Int))).length : Int)) = true) ∧ (decide ((0 : Int) < (↑(chL x.2.1 x_2.toNat (x_1 + (1 : Int))).length : Int)) = true → decide ((0 : Int) < (↑(chL x.2.1 x_2.toNat (x_1 + (1 : Int))).length : Int)) = true) ∧ (decide ((0 : Int) < (↑(chL x.2.1 x_2.toNat (x_1 + (1 : Int))).length : Int)) = true → decide ((0 : Int) < (↑(chL x.2.1 x_2.toNat (x_1 + (1 : Int))).length : Int)) = true) ∧ (decide ((0 : Int) < (↑(chL x.2.1 x_2.toNat (x_1 + (1 : Int))).length : Int)) = true → decide ((0 : Int) < (↑(chL x.2.1 x_2.toNat (x_1 + (1 : Int))).length : Int)) = true) ∧ ((decide ((0 : Int) < (↑(chL x.2.1 x_2.toNat (x_1 + (1 : Int))).length : Int)) && !decide (sumAt y_1 (chL x.2.1 x_2.toNat (x_1 + (1 : Int))) = nth y_1 x_1.toNat)) = false → (decide ((0 : Int) < (↑(chL x.2.1 x_2.toNat (x_1 + (1 : Int))).length : Int)) && !decide (sumAt y_1 (chL x.2.1 x_2.toNat (x_1 + (1 : Int))) = nth y_1 x_1.toNat)) = false) ∧ ((decide ((0 : Int) < (↑(chL x.2.1 x_2.toNat (x_1 + (1 : Int))).length : Int)) && !decide (sumAt y_1 (chL x.2.1 x_2.toNat (x_1 + (1 : Int))) = nth y_1 x_1.toNat)) = false → (decide ((0 : Int) < (↑(chL x.2.1 x_2.toNat (x_1 + (1 : Int))).length : Int)) && !decide (sumAt y_1 (chL x.2.1 x_2.toNat (x_1 + (1 : Int))) = nth y_1 x_1.toNat)) = false) ∧ ((!(decide ((0 : Int) < (↑(chL x.2.1 x_2.toNat (x_1 + (1 : Int))).length : Int)) && !decide (sumAt y_1 (chL x.2.1 x_2.toNat (x_1 + (1 : Int))) = nth y_1 x_1.toNat)) && decide ((↑(chL x.2.1 x_2.toNat (x_1 + (1 : Int))).length : Int) = (0 : Int))) = true → (!(decide ((0 : Int) < (↑(chL x.2.1 x_2.toNat (x_1 + (1 : Int))).length : Int)) && !decide (sumAt y_1 (chL x.2.1 x_2.toNat (x_1 + (1 : Int))) = nth y_1 x_1.toNat)) && decide ((↑(chL x.2.1 x_2.toNat (x_1 + (1 : Int))).length : Int) = (0 : Int))) = true) ∧ ((!(decide ((0 : Int) < (↑(chL x.2.1 x_2.toNat (x_1 + (1 : Int))).length : Int)) && !decide (sumAt y_1 (chL x.2.1 x_2.toNat (x_1 + (1 : Int))) = nth y_1 x_1.toNat)) && decide ((↑(chL x.2.1 x_2.toNat (x_1 + (1 : Int))).length : Int) = (0 : Int))) = true → (!(decide ((0 : Int) < (↑(chL x.2.1 x_2.toNat (x_1 + (1 : Int))).length : Int)) && !decide (sumAt y_1 (chL x.2.1 x_2.toNat (x_1 + (1 : Int))) = nth y_1 x_1.toNat)) && decide ((↑(chL x.2.1 x_2.toNat (x_1 + (1 : Int))).length : Int) = (0 : Int))) = true) ∧ ((!(decide ((0 : Int) < (↑(chL x.2.1 x_2.toNat (x_1 + (1 : Int))).length : Int)) && !decide (sumAt y_1 (chL x.2.1 x_2.toNat (x_1 + (1 : Int))) = nth y_1 x_1.toNat)) && decide ((↑(chL x.2.1 x_2.toNat (x_1 + (1 : Int))).length : Int) = (0 : Int))) = true → (0 : Int) ≤ x_1 ∧ x_1 < (↑y_1.length : Int)) ∧ ((!(decide ((0 : Int) < (↑(chL x.2.1 x_2.toNat (x_1 + (1 : Int))).length : Int)) && !decide (sumAt y_1 (chL x.2.1 x_2.toNat (x_1 + (1 : Int))) = nth y_1 x_1.toNat)) && decide ((↑(chL x.2.1 x_2.toNat (x_1 + (1 : Int))).length : Int) = (0 : Int))) = true → (!(decide ((0 : Int) < (↑(chL x.2.1 x_2.toNat (x_1 + (1 : Int))).length : Int)) && !decide (sumAt y_1 (chL x.2.1 x_2.toNat (x_1 + (1 : Int))) = nth y_1 x_1.toNat)) && decide ((↑(chL x.2.1 x_2.toNat (x_1 + (1 : Int))).length : Int) = (0 : Int))) = true) ∧ ((!(decide ((0 : Int) < (↑(chL x.2.1 x_2.toNat (x_1 + (1 : Int))).length : Int)) && !decide (sumAt y_1 (chL x.2.1 x_2.toNat (x_1 + (1 : Int))) = nth y_1 x_1.toNat)) && decide ((↑(chL x.2.1 x_2.toNat (x_1 + (1 : Int))).length : Int) = (0 : Int))) = true → (!(decide ((0 : Int) < (↑(chL x.2.1 x_2.toNat (x_1 + (1 : Int))).length : Int)) && !decide (sumAt y_1 (chL x.2.1 x_2.toNat (x_1 + (1 : Int))) = nth y_1 x_1.toNat)) && decide ((↑(chL x.2.1 x_2.toNat (x_1 + (1 : Int))).length : Int) = (0 : Int))) = true) ∧ ((!(decide ((0 : Int) < (↑(chL x.2.1 x_2.toNat (x_1 + (1 : Int))).length : Int)) && !decide (sumAt y_1 (chL x.2.1 x_2.toNat (x_1 + (1 : Int))) = nth y_1 x_1.toNat)) && decide ((↑(chL x.2.1 x_2.toNat (x_1 + (1 : Int))).length : Int) = (0 : Int))) = true → (!(decide ((0 : Int) < (↑(chL x.2.1 x_2.toNat (x_1 + (1 : Int))).length : Int)) && !decide (sumAt y_1 (chL x.2.1 x_2.toNat (x_1 + (1 : Int))) = nth y_1 x_1.toNat)) && decide ((↑(chL x.2.1 x_2.toNat (x_1 + (1 : Int))).length : Int) = (0 : Int))) = true) ∧ ((!(decide ((0 : Int) < (↑(chL x.2.1 x_2.toNat (x_1 + (1 : Int))).length : Int)) && !decide (sumAt y_1 (chL x.2.1 x_2.toNat (x_1 + (1 : Int))) = nth y_1 x_1.toNat)) && decide ((↑(chL x.2.1 x_2.toNat (x_1 + (1 : Int))).length : Int) = (0 : Int))) = true → (0 : Int) ≤ x_1 ∧ x_1 < (↑y.2.1.length : Int)) ∧ ((!(decide ((0 : Int) < (↑(chL x.2.1 x_2.toNat (x_1 + (1 : Int))).length : Int)) && !decide (sumAt y_1 (chL x.2.1 x_2.toNat (x_1 + (1 : Int))) = nth y_1 x_1.toNat)) && decide ((↑(chL x.2.1 x_2.toNat (x_1 + (1 : Int))).length : Int) = (0 : Int))) = true → (!(decide ((0 : Int) < (↑(chL x.2.1 x_2.toNat (x_1 + (1 : Int))).length : Int)) && !decide (sumAt y_1 (chL x.2.1 x_2.toNat (x_1 + (1 : Int))) = nth y_1 x_1.toNat)) && decide ((↑(chL x.2.1 x_2.toNat (x_1 + (1 : Int))).length : Int) = (0 : Int))) = true) ∧ ((!(decide ((0 : Int) < (↑(chL x.2.1 x_2.toNat (x_1 + (1 : Int))).length : Int)) && !decide (sumAt y_1 (chL x.2.1 x_2.toNat (x_1 + (1 : Int))) = nth y_1 x_1.toNat)) && decide ((↑(chL x.2.1 x_2.toNat (x_1 + (1 : Int))).length : Int) = (0 : Int))) = true → (!(decide ((0 : Int) < (↑(chL x.2.1 x_2.toNat (x_1 + (1 : Int))).length : Int)) && !decide (sumAt y_1 (chL x.2.1 x_2.toNat (x_1 + (1 : Int))) = nth y_1 x_1.toNat)) && decide ((↑(chL x.2.1 x_2.toNat (x_1 + (1 : Int))).length : Int) = (0 : Int))) = true) ∧ ((!(decide ((0 : Int) < (↑(chL x.2.1 x_2.toNat (x_1 + (1 : Int))).length : Int)) && !decide (sumAt y_1 (chL x.2.1 x_2.toNat (x_1 + (1 : Int))) = nth y_1 x_1.toNat)) && decide ((↑(chL x.2.1 x_2.toNat (x_1 + (1 : Int))).length : Int) = (0 : Int))) = true → (!(decide ((0 : Int) < (↑(chL x.2.1 x_2.toNat (x_1 + (1 : Int))).length : Int)) && !decide (sumAt y_1 (chL x.2.1 x_2.toNat (x_1 + (1 : Int))) = nth y_1 x_1.toNat)) && decide ((↑(chL x.2.1 x_2.toNat (x_1 + (1 : Int))).length : Int) = (0 : Int))) = true) ∧ ((decide ((0 : Int) < (↑(chL x.2.1 x_2.toNat (x_1 + (1 : Int))).length : Int)) && !decide (sumAt y_1 (chL x.2.1 x_2.toNat (x_1 + (1 : Int))) = nth y_1 x_1.toNat)) = false → (decide ((0 : Int) < (↑(chL x.2.1 x_2.toNat (x_1 + (1 : Int))).length : Int)) && !decide (sumAt y_1 (chL x.2.1 x_2.toNat (x_1 + (1 : Int))) = nth y_1 x_1.toNat)) = false) ∧ ((decide ((0 : Int) < (↑(chL x.2.1 x_2.toNat (x_1 + (1 : Int))).length : Int)) && !decide (sumAt y_1 (chL x.2.1 x_2.toNat (x_1 + (1 : Int))) = nth y_1 x_1.toNat)) = false → decide ((↑(chL x.2.1 x_2.toNat (x_1 + (1 : Int))).length : Int) = (0 : Int)) = true → (!(decide ((0 : Int) < (↑(chL x.2.1 x_2.toNat (x_1 + (1 : Int))).length : Int)) && !decide (sumAt y_1 (chL x.2.1 x_2.toNat (x_1 + (1 : Int))) = nth y_1 x_1.toNat)) && decide ((↑(chL x.2.1 x_2.toNat (x_1 + (1 : Int))).length : Int) = (0 : Int))) = true) ∧ ((decide ((0 : Int) < (↑(chL x.2.1 x_2.toNat (x_1 + (1 : Int))).length : Int)) && !decide (sumAt y_1 (chL x.2.1 x_2.toNat (x_1 + (1 : Int))) = nth y_1 x_1.toNat)) = false → (decide ((0 : Int) < (↑(chL x.2.1 x_2.toNat (x_1 + (1 : Int))).length : Int)) && !decide (sumAt y_1 (chL x.2.1 x_2.toNat (x_1 + (1 : Int))) = nth y_1 x_1.toNat)) = false) ∧ ((decide ((0 : Int) < (↑(chL x.2.1 x_2.toNat (x_1 + (1 : Int))).length : Int)) && !decide (sumAt y_1 (chL x.2.1 x_2.toNat (x_1 + (1 : Int))) = nth y_1 x_1.toNat) || decide ((↑(chL x.2.1 x_2.toNat (x_1 + (1 : Int))).length : Int) = (0 : Int)) && decide (nth y.2.1 x_1.toNat < nth y_1 x_1.toNat)) = true → ∃ (y : Unit), True ∧ false = true) ∧ ((decide ((0 : Int) < (↑(chL x.2.1 x_2.toNat (x_1 + (1 : Int))).length : Int)) && !decide (sumAt y_1 (chL x.2.1 x_2.toNat (x_1 + (1 : Int))) = nth y_1 x_1.toNat) || decide ((↑(chL x.2.1 x_2.toNat (x_1 + (1 : Int))).length : Int) = (0 : Int)) && decide (nth y.2.1 x_1.toNat < nth y_1 x_1.toNat)) = false → i64R (x_1 + (1 : Int)) ∧ ∃ (x' : Int), ((0 : Int) ≤ x' ∧ x' ≤ (↑y_1.length : Int)) ∧ ((↑y_1.length : Int) - x').toNat < ((↑y_1.length : Int) - x_1).toNat ∧ x_1 + (1 : Int) = x' ∧ sumAt y_1 (chL x.2.1 x_1.toNat (0 : Int)) + nth y_1 x_1.toNat = sumAt y_1 (chL x.2.1 x'.toNat (0 : Int)) ∧ y.2.1 = y.2.1 ∧ x.2.1 = x.2.1 ∧ y_1 = y_1)) ∧ (decide (nth x.2.1 x_1.toNat = (-1 : Int)) = false → (decide ((0 : Int) < (↑(chL x.2.1 x_2.toNat (x_1 + (1 : Int))).length : Int)) = true → decide ((0 : Int) < (↑(chL x.2.1 x_2.toNat (x_1 + (1 : Int))).length : Int)) = true) ∧ (decide ((0 : Int) < (↑(chL x.2.1 x_2.toNat (x_1 + (1 : Int))).length : Int)) = true → decide ((0 : Int) < (↑(chL x.2.1 x_2.toNat (x_1 + (1 : Int))).length : Int)) = true) ∧ (decide ((0 : Int) < (↑(chL x.2.1 x_2.toNat (x_1 + (1 : Int))).length : Int)) = true → (0 : Int) ≤ x_1 ∧ x_1 < (↑y_1.length : Int)) ∧ (decide ((0 : Int) < (↑(chL x.2.1 x_2.toNat (x_1 + (1 : Int))).length : Int)) = true → decide ((0 : Int) < (↑(chL x.2.1 x_2.toNat (x_1 + (1 : Int))).length : Int)) = true) ∧ (decide ((0 : Int) < (↑(chL x.2.1 x_2.toNat (x_1 + (1 : Int))).length : Int)) = true → decide ((0 : Int) < (↑(chL x.2.1 x_2.toNat (x_1 + (1 : Int))).length : Int)) = true) ∧ (decide ((0 : Int) < (↑(chL x.2.1 x_2.toNat (x_1 + (1 : Int))).length : Int)) = true → decide ((0 : Int) < (↑(chL x.2.1 x_2.toNat (x_1 + (1 : Int))).length : Int)) = true) ∧ (decide ((0 : Int) < (↑(chL x.2.1 x_2.toNat (x_1 + (1 : Int))).length : Int)) = true → decide ((0 : Int) < (↑(chL x.2.1 x_2.toNat (x_1 + (1 : Int))).length : Int)) = true) ∧ ((decide ((0 : Int) < (↑(chL x.2.1 x_2.toNat (x_1 + (1 : Int))).length : Int)) && !decide (sumAt y_1 (chL x.2.1 x_2.toNat (x_1 + (1 : Int))) = nth y_1 x_1.toNat)) = false → (decide ((0 : Int) < (↑(chL x.2.1 x_2.toNat (x_1 + (1 : Int))).length : Int)) && !decide (sumAt y_1 (chL x.2.1 x_2.toNat (x_1 + (1 : Int))) = nth y_1 x_1.toNat)) = false) ∧ ((decide ((0 : Int) < (↑(chL x.2.1 x_2.toNat (x_1 + (1 : Int))).length : Int)) && !decide (sumAt y_1 (chL x.2.1 x_2.toNat (x_1 + (1 : Int))) = nth y_1 x_1.toNat)) = false → (decide ((0 : Int) < (↑(chL x.2.1 x_2.toNat (x_1 + (1 : Int))).length : Int)) && !decide (sumAt y_1 (chL x.2.1 x_2.toNat (x_1 + (1 : Int))) = nth y_1 x_1.toNat)) = false) ∧ ((!(decide ((0 : Int) < (↑(chL x.2.1 x_2.toNat (x_1 + (1 : Int))).length : Int)) && !decide (sumAt y_1 (chL x.2.1 x_2.toNat (x_1 + (1 : Int))) = nth y_1 x_1.toNat)) && decide ((↑(chL x.2.1 x_2.toNat (x_1 + (1 : Int))).length : Int) = (0 : Int))) = true → (!(decide ((0 : Int) < (↑(chL x.2.1 x_2.toNat (x_1 + (1 : Int))).length : Int)) && !decide (sumAt y_1 (chL x.2.1 x_2.toNat (x_1 + (1 : Int))) = nth y_1 x_1.toNat)) && decide ((↑(chL x.2.1 x_2.toNat (x_1 + (1 : Int))).length : Int) = (0 : Int))) = true) ∧ ((!(decide ((0 : Int) < (↑(chL x.2.1 x_2.toNat (x_1 + (1 : Int))).length : Int)) && !decide (sumAt y_1 (chL x.2.1 x_2.toNat (x_1 + (1 : Int))) = nth y_1 x_1.toNat)) && decide ((↑(chL x.2.1 x_2.toNat (x_1 + (1 : Int))).length : Int) = (0 : Int))) = true → (!(decide ((0 : Int) < (↑(chL x.2.1 x_2.toNat (x_1 + (1 : Int))).length : Int)) && !decide (sumAt y_1 (chL x.2.1 x_2.toNat (x_1 + (1 : Int))) = nth y_1 x_1.toNat)) && decide ((↑(chL x.2.1 x_2.toNat (x_1 + (1 : Int))).length : Int) = (0 : Int))) = true) ∧ ((!(decide ((0 : Int) < (↑(chL x.2.1 x_2.toNat (x_1 + (1 : Int))).length : Int)) && !decide (sumAt y_1 (chL x.2.1 x_2.toNat (x_1 + (1 : Int))) = nth y_1 x_1.toNat)) && decide ((↑(chL x.2.1 x_2.toNat (x_1 + (1 : Int))).length : Int) = (0 : Int))) = true → (0 : Int) ≤ x_1 ∧ x_1 < (↑y_1.length : Int)) ∧ ((!(decide ((0 : Int) < (↑(chL x.2.1 x_2.toNat (x_1 + (1 : Int))).length : Int)) && !decide (sumAt y_1 (chL x.2.1 x_2.toNat (x_1 + (1 : Int))) = nth y_1 x_1.toNat)) && decide ((↑(chL x.2.1 x_2.toNat (x_1 + (1 : Int))).length : Int) = (0 : Int))) = true → (!(decide ((0 : Int) < (↑(chL x.2.1 x_2.toNat (x_1 + (1 : Int))).length : Int)) && !decide (sumAt y_1 (chL x.2.1 x_2.toNat (x_1 + (1 : Int))) = nth y_1 x_1.toNat)) && decide ((↑(chL x.2.1 x_2.toNat (x_1 + (1 : Int))).length : Int) = (0 : Int))) = true) ∧ ((!(decide ((0 : Int) < (↑(chL x.2.1 x_2.toNat (x_1 + (1 : Int))).length : Int)) && !decide (sumAt y_1 (chL x.2.1 x_2.toNat (x_1 + (1 : Int))) = nth y_1 x_1.toNat)) && decide ((↑(chL x.2.1 x_2.toNat (x_1 + (1 : Int))).length : Int) = (0 : Int))) = true → (!(decide ((0 : Int) < (↑(chL x.2.1 x_2.toNat (x_1 + (1 : Int))).length : Int)) && !decide (sumAt y_1 (chL x.2.1 x_2.toNat (x_1 + (1 : Int))) = nth y_1 x_1.toNat)) && decide ((↑(chL x.2.1 x_2.toNat (x_1 + (1 : Int))).length : Int) = (0 : Int))) = true) ∧ ((!(decide ((0 : Int) < (↑(chL x.2.1 x_2.toNat (x_1 + (1 : Int))).length : Int)) && !decide (sumAt y_1 (chL x.2.1 x_2.toNat (x_1 + (1 : Int))) = nth y_1 x_1.toNat)) && decide ((↑(chL x.2.1 x_2.toNat (x_1 + (1 : Int))).length : Int) = (0 : Int))) = true → (!(decide ((0 : Int) < (↑(chL x.2.1 x_2.toNat (x_1 + (1 : Int))).length : Int)) && !decide (sumAt y_1 (chL x.2.1 x_2.toNat (x_1 + (1 : Int))) = nth y_1 x_1.toNat)) && decide ((↑(chL x.2.1 x_2.toNat (x_1 + (1 : Int))).length : Int) = (0 : Int))) = true) ∧ ((!(decide ((0 : Int) < (↑(chL x.2.1 x_2.toNat (x_1 + (1 : Int))).length : Int)) && !decide (sumAt y_1 (chL x.2.1 x_2.toNat (x_1 + (1 : Int))) = nth y_1 x_1.toNat)) && decide ((↑(chL x.2.1 x_2.toNat (x_1 + (1 : Int))).length : Int) = (0 : Int))) = true → (0 : Int) ≤ x_1 ∧ x_1 < (↑y.2.1.length : Int)) ∧ ((!(decide ((0 : Int) < (↑(chL x.2.1 x_2.toNat (x_1 + (1 : Int))).length : Int)) && !decide (sumAt y_1 (chL x.2.1 x_2.toNat (x_1 + (1 : Int))) = nth y_1 x_1.toNat)) && decide ((↑(chL x.2.1 x_2.toNat (x_1 + (1 : Int))).length : Int) = (0 : Int))) = true → (!(decide ((0 : Int) < (↑(chL x.2.1 x_2.toNat (x_1 + (1 : Int))).length : Int)) && !decide (sumAt y_1 (chL x.2.1 x_2.toNat (x_1 + (1 : Int))) = nth y_1 x_1.toNat)) && decide ((↑(chL x.2.1 x_2.toNat (x_1 + (1 : Int))).length : Int) = (0 : Int))) = true) ∧ ((!(decide ((0 : Int) < (↑(chL x.2.1 x_2.toNat (x_1 + (1 : Int))).length : Int)) && !decide (sumAt y_1 (chL x.2.1 x_2.toNat (x_1 + (1 : Int))) = nth y_1 x_1.toNat)) && decide ((↑(chL x.2.1 x_2.toNat (x_1 + (1 : Int))).length : Int) = (0 : Int))) = true → (!(decide ((0 : Int) < (↑(chL x.2.1 x_2.toNat (x_1 + (1 : Int))).length : Int)) && !decide (sumAt y_1 (chL x.2.1 x_2.toNat (x_1 + (1 : Int))) = nth y_1 x_1.toNat)) && decide ((↑(chL x.2.1 x_2.toNat (x_1 + (1 : Int))).length : Int) = (0 : Int))) = true) ∧ ((!(decide ((0 : Int) < (↑(chL x.2.1 x_2.toNat (x_1 + (1 : Int))).length : Int)) && !decide (sumAt y_1 (chL x.2.1 x_2.toNat (x_1 + (1 : Int))) = nth y_1 x_1.toNat)) && decide ((↑(chL x.2.1 x_2.toNat (x_1 + (1 : Int))).length : Int) = (0 : Int))) = true → (!(decide ((0 : Int) < (↑(chL x.2.1 x_2.toNat (x_1 + (1 : Int))).length : Int)) && !decide (sumAt y_1 (chL x.2.1 x_2.toNat (x_1 + (1 : Int))) = nth y_1 x_1.toNat)) && decide ((↑(chL x.2.1 x_2.toNat (x_1 + (1 : Int))).length : Int) = (0 : Int))) = true) ∧ ((decide ((0 : Int) < (↑(chL x.2.1 x_2.toNat (x_1 + (1 : Int))).length : Int)) && !decide (sumAt y_1 (chL x.2.1 x_2.toNat (x_1 + (1 : Int))) = nth y_1 x_1.toNat)) = false → (decide ((0 : Int) < (↑(chL x.2.1 x_2.toNat (x_1 + (1 : Int))).length : Int)) && !decide (sumAt y_1 (chL x.2.1 x_2.toNat (x_1 + (1 : Int))) = nth y_1 x_1.toNat)) = false) ∧ ((decide ((0 : Int) < (↑(chL x.2.1 x_2.toNat (x_1 + (1 : Int))).length : Int)) && !decide (sumAt y_1 (chL x.2.1 x_2.toNat (x_1 + (1 : Int))) = nth y_1 x_1.toNat)) = false → decide ((↑(chL x.2.1 x_2.toNat (x_1 + (1 : Int))).length : Int) = (0 : Int)) = true → (!(decide ((0 : Int) < (↑(chL x.2.1 x_2.toNat (x_1 + (1 : Int))).length : Int)) && !decide (sumAt y_1 (chL x.2.1 x_2.toNat (x_1 + (1 : Int))) = nth y_1 x_1.toNat)) && decide ((↑(chL x.2.1 x_2.toNat (x_1 + (1 : Int))).length : Int) = (0 : Int))) = true) ∧ ((decide ((0 : Int) < (↑(chL x.2.1 x_2.toNat (x_1 + (1 : Int))).length : Int)) && !decide (sumAt y_1 (chL x.2.1 x_2.toNat (x_1 + (1 : Int))) = nth y_1 x_1.toNat)) = false → (decide ((0 : Int) < (↑(chL x.2.1 x_2.toNat (x_1 + (1 : Int))).length : Int)) && !decide (sumAt y_1 (chL x.2.1 x_2.toNat (x_1 + (1 : Int))) = nth y_1 x_1.toNat)) = false) ∧ ((decide ((0 : Int) < (↑(chL x.2.1 x_2.toNat (x_1 + (1 : Int))).length : Int)) && !decide (sumAt y_1 (chL x.2.1 x_2.toNat (x_1 + (1 : Int))) = nth y_1 x_1.toNat) || decide ((↑(chL x.2.1 x_2.toNat (x_1 + (1 : Int))).length : Int) = (0 : Int)) && decide (nth y.2.1 x_1.toNat < nth y_1 x_1.toNat)) = true → ∃ (y : Unit), True ∧ false = true) ∧ ((decide ((0 : Int) < (↑(chL x.2.1 x_2.toNat (x_1 + (1 : Int))).length : Int)) && !decide (sumAt y_1 (chL x.2.1 x_2.toNat (x_1 + (1 : Int))) = nth y_1 x_1.toNat) || decide ((↑(chL x.2.1 x_2.toNat (x_1 + (1 : Int))).length : Int) = (0 : Int)) && decide (nth y.2.1 x_1.toNat < nth y_1 x_1.toNat)) = false → i64R (x_1 + (1 : Int)) ∧ ∃ (x' : Int), ((0 : Int) ≤ x' ∧ x' ≤ (↑y_1.length : Int)) ∧ ((↑y_1.length : Int) - x').toNat < ((↑y_1.length : Int) - x_1).toNat ∧ x_1 + (1 : Int) = x' ∧ sumAt y_1 (chL x.2.1 x_1.toNat (0 : Int)) = sumAt y_1 (chL x.2.1 x'.toNat (0 : Int)) ∧ y.2.1 = y.2.1 ∧ x.2.1 = x.2.1 ∧ y_1 = y_1)))) ∧ (decide (x_1 < (↑y_1.length : Int)) = false → (decide (sumAt y_1 (chL x.2.1 x_1.toNat (0 : Int)) ≤ n.tmod (2000 : Int)) = true → True) ∧ (decide (sumAt y_1 (chL x.2.1 x_1.toNat (0 : Int)) ≤ n.tmod (2000 : Int)) = true → decide (sumAt y_1 (chL x.2.1 x_1.toNat (0 : Int)) ≤ n.tmod (2000 : Int)) = true) ∧ ∃ (y : Unit), True ∧ (decide (sumAt y_1 (chL x.2.1 x_1.toNat (0 : Int)) ≤ n.tmod (2000 : Int)) && true) = true))))) = sLaw16.vc (EV Try.prog [(8, sLight.spec), (9, sSane.spec), (10, sRoll.spec), (14, sDraw.spec), (11, sNext.spec), (17, sTree.spec)] (invsS [(7, inv7a L), (17, inv7b), (21, inv7c)]) noInv) Try.f7 (L, n, ()) := by kernel_rfl
  rw [← e]
  clear e
  have ht : 0 ≤ n.tmod 2000 ∧ n.tmod 2000 < 2000 := ⟨Int.tmod_nonneg _ hx.1, Int.tmod_lt_of_pos _ (by omega)⟩
  generalize n.tmod 2000 = K at *
  simp only [imp_self, true_and, and_true, exists_const, implies_true, gd1, gd2, gd3, gd4, gd5, gd6 ]
  simp only [Prod.forall, Prod.exists, exists_const, implies_true, not_true_eq_false, not_false_eq_true, or_self, or_false, false_or, or_true, true_or, and_false, false_and, forall_const, true_and, and_true, i64R, imp_self, Int.reduceLE, Int.reduceLT, Int.reduceNeg, false_implies, true_implies, decide_eq_true_eq, decide_eq_false_iff_not, Bool.not_eq_true', Bool.not_eq_false', Bool.true_eq_false, Bool.false_eq_true, Bool.and_eq_true, Bool.or_eq_true, Bool.and_eq_false_iff, Bool.or_eq_false_iff ]
  intro hl
  have hdk : ∀ j : Int, 0 ≤ j ∧ j ≤ L.length → DOK (L, j) := fun j h => ⟨h.1, h.2, by show L.length ≤ 600; omega⟩
  refine ⟨hdk _ (by omega), fun w d b hw => ?_⟩
  obtain ⟨hI, hw5, hb⟩ := hw
  have hlw := hI.len
  have hn := hI.n
  simp only [List.length_replicate]
  refine ⟨⟨by omega, by omega, by omega, by omega⟩, ⟨0, List.replicate w.length 0, b, ⟨by omega, by omega, by simp, fun j hj => by omega, hb.1, hb.2⟩, rfl, rfl, rfl⟩, fun i p c hp => ⟨fun hlt => ?_, fun hge => ?_⟩⟩
  · obtain ⟨i0, i1, hpl, hpj, c0, c1⟩ := hp
    refine ⟨by omega, ⟨hdk _ ⟨c0, c1⟩, by omega⟩, fun v c' hv => ⟨by omega, by omega, by omega, i + 1, p.set i.toNat (v - 1), c', ⟨by omega, by omega, by rw [List.length_set]; exact hpl, fun j hj => ?_, by omega, by omega⟩, by omega, rfl, rfl, rfl⟩⟩
    rw [nth_set' (by omega)]
    by_cases e : j = i.toNat
    · rw [if_pos e]; omega
    · rw [if_neg e]; exact hpj j (by omega)
  · obtain ⟨i0, i1, hpl, hpj, c0, c1⟩ := hp
    have hPa : PaOK p d.length := ⟨by omega, fun j hj => hpj j (by omega)⟩
    refine ⟨by omega, ⟨⟨by omega, by omega⟩, hI, hPa⟩, fun y hy => ?_⟩
    have hyl := hy.len
    have hbs : ∀ (i : Nat) (q : Int), i ≤ d.length → 0 ≤ sumAt y (chL p i q) ∧ sumAt y (chL p i q) ≤ 65536 * (chL p i q).length := fun i q h => by
      have hm : ∀ c ∈ chL p i q, 0 ≤ nth y c.toNat ∧ nth y c.toNat ≤ 65536 := fun c hc => by
        obtain ⟨j, h1, h2, _⟩ := chL_mem.1 hc
        exact hy.rng c.toNat (by omega)
      exact ⟨sumAt_pos fun c hc => (hm c hc).1, sumAt_le fun c hc => (hm c hc).2⟩
    refine ⟨fun h => h (by omega), fun _ => ⟨⟨0, by omega, rfl, rfl⟩, fun i hi => ⟨fun hlt => ⟨⟨0, by omega, rfl, rfl, rfl⟩, fun j hj => ⟨fun hjl => ⟨⟨hj.1, by omega⟩, fun he => ?_, fun hne => ?_⟩, fun hjg => ?_⟩⟩, fun hge => ?_⟩⟩⟩
    · have e1 : chL p (j + 1).toNat (i + 1) = chL p j.toNat (i + 1) ++ [j] := by rw [show (j + 1).toNat = j.toNat + 1 by omega, chL, if_pos (by omega), show ((j.toNat : Nat) : Int) = j by omega]
      have b1 := hbs j.toNat (i + 1) (by omega)
      have b2 := hy.rng j.toNat (by omega)
      have b3 := chL_len (p := p) (q := i + 1) (i := j.toNat)
      refine ⟨by omega, ⟨hj.1, by omega⟩, by omega, by omega, j + 1, by omega, by omega, rfl, ?_, ?_⟩
      · rw [e1]; simp
      · rw [e1, sumAt_snoc]
    · have e1 : chL p (j + 1).toNat (i + 1) = chL p j.toNat (i + 1) := by rw [show (j + 1).toNat = j.toNat + 1 by omega, chL, if_neg (by omega), List.append_nil]
      exact ⟨by omega, j + 1, by omega, by omega, rfl, by rw [e1], by rw [e1]⟩
    · rw [show j.toNat = d.length by omega]
      have kids := hy.kids i.toNat (by omega)
      have leaf := hy.leaf i.toNat (by omega)
      rw [show ((i.toNat : Nat) : Int) = i by omega] at kids leaf
      have hsum : 0 < ((chL p d.length (i + 1)).length : Int) → sumAt y (chL p d.length (i + 1)) = nth y i.toNat := fun h => kids fun e => by rw [e] at h; simp at h
      have hleaf : ((chL p d.length (i + 1)).length : Int) = 0 → ¬ nth d i.toNat < nth y i.toNat := fun h => by
        have := leaf (List.eq_nil_of_length_eq_zero (by omega))
        omega
      have b1 := hbs i.toNat 0 (by omega)
      have b2 := hy.rng i.toNat (by omega)
      have b3 := chL_len (p := p) (q := 0) (i := i.toNat)
      have hf : ¬ (0 < ((chL p d.length (i + 1)).length : Int) ∧ ¬sumAt y (chL p d.length (i + 1)) = nth y i.toNat ∨ ((chL p d.length (i + 1)).length : Int) = 0 ∧ nth d i.toNat < nth y i.toNat) := fun h => by
        rcases h with ⟨a, b⟩ | ⟨a, b⟩
        · exact b (hsum a)
        · exact hleaf a b
      refine ⟨⟨hi.1, by omega⟩, fun h1 => ⟨⟨hi.1, by omega⟩, by omega, fun _ => ⟨hi.1, by omega⟩, fun _ => ⟨hi.1, by omega⟩, fun _ => ⟨hi.1, by omega⟩, hf, fun _ => ⟨by omega, i + 1, by omega, by omega, rfl, ?_⟩⟩, fun h1 => ⟨fun _ => ⟨hi.1, by omega⟩, fun _ => ⟨hi.1, by omega⟩, fun _ => ⟨hi.1, by omega⟩, hf, fun _ => ⟨by omega, i + 1, by omega, by omega, rfl, ?_⟩⟩⟩
      · rw [show (i + 1).toNat = i.toNat + 1 by omega, chL, if_pos (by omega), show ((i.toNat : Nat) : Int) = i by omega, sumAt_snoc]
      · rw [show (i + 1).toNat = i.toNat + 1 by omega, chL, if_neg (by omega), List.append_nil]
    · rw [show i.toNat = d.length by omega]
      exact hy.top
end Go.Proofs.Ytaipgdhaoldhjaa
