/-
  Lemmas and contracts on the way to the laws of this seat; each theorem states its own conditions, and there are no others.
-/
import Derived.Test.YtglkagaammnojaaVG

namespace Go.Proofs.Ytglkagaammnojaa
open Go
set_option linter.unusedVariables false
set_option linter.unusedSimpArgs false
set_option linter.unusedVariables false

def sCnds2 : FSp := ⟨_, Sig.dice (one pkTree) (fun _ => rfl), fun x => DOK x.1 ∧ ChkP x.2.1.1 x.2.1.2, List Cnd × Int, fun x y => (CndOK x.2.1.1 y.1 ∧ y.1.length ≤ 8 ∧ ∀ i, i < y.1.length → (cn y.1 i).pages ≤ 700) ∧ x.1.2 ≤ y.2 ∧ y.2 ≤ x.1.1.length, fun _ _ => .own 101 4, fun x y => [(0, diceO (x.1.1, y.2)), (101, .rows 40 4 y.1)], fun x h => ⟨([], x.1.2), ⟨⟨Nat.zero_le _, fun i hi => absurd hi (Nat.not_lt_zero _), fun i _ hi => absurd hi (Nat.not_lt_zero _), fun i hi => absurd hi (Nat.not_lt_zero _), fun i hi => absurd hi (Nat.not_lt_zero _)⟩, Nat.zero_le _, fun i hi => absurd hi (Nat.not_lt_zero _)⟩, Int.le_refl _, h.1.hi⟩⟩
structure Grow (cs b : List Cnd) (v : Int) (i : Nat) : Prop where
  len : b.length = cs.length
  same : ∀ m, m < cs.length → (i ≤ m ∨ (cn cs m).proc ≠ v) → cn b m = cn cs m
  grew : ∀ m, m < cs.length → m < i → (cn cs m).proc = v → (cn b m).proc = v ∧ (cn b m).group = (cn cs m).group ∧ (cn cs m).pages ≤ (cn b m).pages ∧ (cn b m).pages ≤ (cn cs m).pages + 1000 ∧ (cn cs m).adj ≤ (cn b m).adj ∧ (cn b m).adj ≤ 1000
structure Zer (cs b : List Cnd) (i : Nat) : Prop where
  len : b.length = cs.length
  el : ∀ m, m < cs.length → cn b m = if m < i then ⟨(cn cs m).proc, (cn cs m).group, (cn cs m).pages, 0⟩ else cn cs m
theorem cn_set {b : List Cnd} {i : Nat} {x : Cnd} (h : i < b.length) (m : Nat) : cn (b.set i x) m = if m = i then x else cn b m := by
  simp only [cn, List.getD_eq_getElem?_getD, List.getElem?_set]
  by_cases e : m = i
  · subst e; simp [h]
  · rw [if_neg e, if_neg (fun h => e h.symm)]
theorem Grow.start {cs : List Cnd} {v : Int} : Grow cs cs v 0 := ⟨rfl, fun _ _ _ => rfl, fun m _ h => absurd h (Nat.not_lt_zero _)⟩
theorem Grow.miss {cs b : List Cnd} {v : Int} {i : Nat} (h : Grow cs b v i) (hn : ¬ (cn b i).proc = v) : Grow cs b v (i + 1) := by
  refine ⟨h.len, fun m hm hh => h.same m hm ?_, fun m hm hi e => ?_⟩
  · rcases hh with hh | hh
    · exact .inl (by omega)
    · exact .inr hh
  · by_cases e2 : m = i
    · subst e2
      rw [h.same m hm (.inl (Nat.le_refl _))] at hn
      exact absurd e hn
    · exact h.grew m hm (by omega) e
theorem Grow.hit {cs b : List Cnd} {v x y : Int} {i : Nat} (h : Grow cs b v i) (hi : i < cs.length) (he : (cn cs i).proc = v) (ha : (cn cs i).adj ≤ 1000) (hx : 0 ≤ x ∧ x < 1000) (hy : 0 ≤ y ∧ y < 500) : Grow cs (b.set i ⟨(cn cs i).proc, (cn cs i).group, (cn cs i).pages + x, min 1000 ((cn cs i).adj + y)⟩) v (i + 1) := by
  have hl := h.len
  refine ⟨by rw [List.length_set]; exact hl, fun m hm hh => ?_, fun m hm hi2 e => ?_⟩
  · have : m ≠ i := by
      rcases hh with hh | hh
      · omega
      · intro e; rw [e] at hh; exact hh he
    rw [cn_set (by omega), if_neg this]
    refine h.same m hm ?_
    rcases hh with hh | hh
    · exact .inl (by omega)
    · exact .inr hh
  · rw [cn_set (by omega)]
    by_cases e2 : m = i
    · subst e2
      rw [if_pos rfl]
      exact ⟨he, rfl, by show _ ≤ _ + x; omega, by show _ + x ≤ _ + 1000; omega, by show _ ≤ min 1000 _; omega, by show min 1000 _ ≤ 1000; omega⟩
    · rw [if_neg e2]
      exact h.grew m hm (by omega) e
theorem Zer.start {b : List Cnd} : Zer b b 0 := ⟨rfl, fun m hm => by rw [if_neg (Nat.not_lt_zero _)]⟩
theorem Zer.step {b c : List Cnd} {i : Nat} (h : Zer b c i) (hi : i < b.length) : Zer b (c.set i ⟨(cn c i).proc, (cn c i).group, (cn c i).pages, 0⟩) (i + 1) := by
  have hl := h.len
  refine ⟨by rw [List.length_set]; exact hl, fun m hm => ?_⟩
  rw [cn_set (by omega)]
  by_cases e : m = i
  · subst e
    rw [if_pos rfl, if_pos (by omega), h.el m hm, if_neg (by omega)]
  · rw [if_neg e, h.el m hm]
    by_cases c : m < i
    · rw [if_pos c, if_pos (by omega)]
    · rw [if_neg c, if_neg (by omega)]

def inv17p (L : List Int) (l : List Nod) (k : Int) : Inv where
  X := List Cnd × Int × Int × Int
  ok := fun x => (CndOK l x.1 ∧ ∀ i, i < x.1.length → (cn x.1 i).pages ≤ 700) ∧ 0 ≤ x.2.1 ∧ x.2.1 ≤ 1000 ∧ (∀ i, i < x.1.length → (cn x.1 i).proc ≤ x.2.1) ∧ x.2.1 ≤ 3 * x.1.length ∧ 0 ≤ x.2.2.1 ∧ x.1.length + x.2.2.1 ≤ 8 ∧ DOK (L, x.2.2.2) ∧ k ≤ x.2.2.2
  sl := fun x => [(5, .own 101 4), (6, .int .i64 x.2.1), (7, .int .i64 x.2.2.1)]
  hp := fun x => [(0, diceO (L, x.2.2.2)), (101, .rows 40 4 x.1)]
  keep := [10000]
  me := fun x => x.2.2.1.toNat
set_option maxRecDepth 100000 in
theorem vc17p (L : List Int) (k : Int) (l : List Nod) (n : Int) (hx : DOK (L, k) ∧ ChkP l n) : sCnds2.vc (EV Try.prog [(18, sNext.spec), (22, sPick.spec)] (invs [(4, inv17p L l k)]) noInv) Try.f17 ((L, k), (l, n), ()) := by
  have e : ((DOK (L, k) ∧ (9 : Int) ≤ (4611686018427387904 : Int)) ∧ (∀ (y : Int × Int), Bool.true = Bool.true) ∧ ∀ (y : Int × Int), ((1 : Int) ≤ (9 : Int) → (0 : Int) ≤ y.fst ∧ y.fst < (9 : Int)) ∧ ((9 : Int) < (1 : Int) → y.fst = (0 : Int)) ∧ k ≤ y.snd ∧ y.snd ≤ (↑L.length : Int) → (∃ (x : List Cnd × Int × Int × Int), ((CndOK l x.fst ∧ ∀ (i : Nat), i < x.fst.length → (cn x.fst i).pages ≤ (700 : Int)) ∧ (0 : Int) ≤ x.snd.fst ∧ x.snd.fst ≤ (1000 : Int) ∧ (∀ (i : Nat), i < x.fst.length → (cn x.fst i).proc ≤ x.snd.fst) ∧ x.snd.fst ≤ (3 : Int) * (↑x.fst.length : Int) ∧ (0 : Int) ≤ x.snd.snd.fst ∧ (↑x.fst.length : Int) + x.snd.snd.fst ≤ (8 : Int) ∧ DOK (L, x.snd.snd.snd) ∧ k ≤ x.snd.snd.snd) ∧ (0 : Int) = x.snd.fst ∧ y.fst = x.snd.snd.fst ∧ L = L ∧ y.snd = x.snd.snd.snd ∧ NilL Cnd = x.fst ∧ l = l ∧ n = n) ∧ ∀ (x : List Cnd × Int × Int × Int), (CndOK l x.fst ∧ ∀ (i : Nat), i < x.fst.length → (cn x.fst i).pages ≤ (700 : Int)) ∧ (0 : Int) ≤ x.snd.fst ∧ x.snd.fst ≤ (1000 : Int) ∧ (∀ (i : Nat), i < x.fst.length → (cn x.fst i).proc ≤ x.snd.fst) ∧ x.snd.fst ≤ (3 : Int) * (↑x.fst.length : Int) ∧ (0 : Int) ≤ x.snd.snd.fst ∧ (↑x.fst.length : Int) + x.snd.snd.fst ≤ (8 : Int) ∧ DOK (L, x.snd.snd.snd) ∧ k ≤ x.snd.snd.snd → (Decidable.decide ((0 : Int) < x.snd.snd.fst) = Bool.true → (DOK (L, x.snd.snd.snd) ∧ (3 : Int) ≤ (4611686018427387904 : Int)) ∧ (∀ (y : Int × Int), Bool.true = Bool.true) ∧ ∀ (y : Int × Int), ((1 : Int) ≤ (3 : Int) → (0 : Int) ≤ y.fst ∧ y.fst < (3 : Int)) ∧ ((3 : Int) < (1 : Int) → y.fst = (0 : Int)) ∧ x.snd.snd.snd ≤ y.snd ∧ y.snd ≤ (↑L.length : Int) → i64R ((1 : Int) + y.fst) ∧ i64R (x.snd.fst + ((1 : Int) + y.fst)) ∧ (DOK (L, y.snd) ∧ (↑l.length : Int) ≤ (4611686018427387904 : Int)) ∧ (∀ (y : Int × Int), Bool.true = Bool.true) ∧ ∀ (y_1 : Int × Int), ((1 : Int) ≤ (↑l.length : Int) → (0 : Int) ≤ y_1.fst ∧ y_1.fst < (↑l.length : Int)) ∧ ((↑l.length : Int) < (1 : Int) → y_1.fst = (0 : Int)) ∧ y.snd ≤ y_1.snd ∧ y_1.snd ≤ (↑L.length : Int) → ((0 : Int) ≤ y_1.fst ∧ y_1.fst < (↑l.length : Int)) ∧ (DOK (L, y_1.snd) ∧ (1 : Nat) ≤ ((0 : Int) :: (10 : Int) :: (10 : Int) :: (100 : Int) :: (700 : Int) :: NilL Int).length ∧ ((0 : Int) :: (10 : Int) :: (10 : Int) :: (100 : Int) :: (700 : Int) :: NilL Int).length ≤ (1000 : Nat)) ∧ (∀ (y : Int × Int), Bool.true = Bool.true) ∧ ∀ (y_2 : Int × Int), y_2.fst ∈ (0 : Int) :: (10 : Int) :: (10 : Int) :: (100 : Int) :: (700 : Int) :: NilL Int ∧ y_1.snd ≤ y_2.snd ∧ y_2.snd ≤ (↑L.length : Int) → (DOK (L, y_2.snd) ∧ (1 : Nat) ≤ ((0 : Int) :: (0 : Int) :: (100 : Int) :: (-50 : Int) :: (-1000 : Int) :: (1000 : Int) :: (-999 : Int) :: NilL Int).length ∧ ((0 : Int) :: (0 : Int) :: (100 : Int) :: (-50 : Int) :: (-1000 : Int) :: (1000 : Int) :: (-999 : Int) :: NilL Int).length ≤ (1000 : Nat)) ∧ (∀ (y : Int × Int), Bool.true = Bool.true) ∧ ∀ (y_3 : Int × Int), y_3.fst ∈ (0 : Int) :: (0 : Int) :: (100 : Int) :: (-50 : Int) :: (-1000 : Int) :: (1000 : Int) :: (-999 : Int) :: NilL Int ∧ y_2.snd ≤ y_3.snd ∧ y_3.snd ≤ (↑L.length : Int) → x.fst.length + ({ proc := x.snd.fst + ((1 : Int) + y.fst), group := (l.getD y_1.fst.toNat { id := (0 : Int), parent := (0 : Int), name := ByteArray.empty, control := (0 : Int), kind := (0 : Int), owner := (0 : Int) : Nod }).id, pages := y_2.fst, adj := y_3.fst : Cnd } :: NilL Cnd).length ≤ (68719476736 : Nat) ∧ i64R (x.snd.snd.fst - (1 : Int)) ∧ ∃ (x' : List Cnd × Int × Int × Int), ((CndOK l x'.fst ∧ ∀ (i : Nat), i < x'.fst.length → (cn x'.fst i).pages ≤ (700 : Int)) ∧ (0 : Int) ≤ x'.snd.fst ∧ x'.snd.fst ≤ (1000 : Int) ∧ (∀ (i : Nat), i < x'.fst.length → (cn x'.fst i).proc ≤ x'.snd.fst) ∧ x'.snd.fst ≤ (3 : Int) * (↑x'.fst.length : Int) ∧ (0 : Int) ≤ x'.snd.snd.fst ∧ (↑x'.fst.length : Int) + x'.snd.snd.fst ≤ (8 : Int) ∧ DOK (L, x'.snd.snd.snd) ∧ k ≤ x'.snd.snd.snd) ∧ x'.snd.snd.fst.toNat < x.snd.snd.fst.toNat ∧ x.snd.fst + ((1 : Int) + y.fst) = x'.snd.fst ∧ x.snd.snd.fst - (1 : Int) = x'.snd.snd.fst ∧ L = L ∧ y_3.snd = x'.snd.snd.snd ∧ x.fst ++ { proc := x.snd.fst + ((1 : Int) + y.fst), group := (l.getD y_1.fst.toNat { id := (0 : Int), parent := (0 : Int), name := ByteArray.empty, control := (0 : Int), kind := (0 : Int), owner := (0 : Int) : Nod }).id, pages := y_2.fst, adj := y_3.fst : Cnd } :: NilL Cnd = x'.fst ∧ l = l ∧ n = n) ∧ (Decidable.decide ((0 : Int) < x.snd.snd.fst) = Bool.false → ∃ (y : List Cnd × Int), ((CndOK l y.fst ∧ y.fst.length ≤ (8 : Nat) ∧ ∀ (i : Nat), i < y.fst.length → (cn y.fst i).pages ≤ (700 : Int)) ∧ k ≤ y.snd ∧ y.snd ≤ (↑L.length : Int)) ∧ L = L ∧ x.snd.snd.snd = y.snd ∧ x.fst = y.fst)) = sCnds2.vc (EV Try.prog [(18, sNext.spec), (22, sPick.spec)] (invs [(4, inv17p L l k)]) noInv) Try.f17 ((L, k), (l, n), ()) := by kernel_rfl
  rw [← e]
  clear e
  simp only [imp_self, true_and, and_true, exists_const, implies_true, gd1, gd2, gd3, gd4, gd5, gd6, NilL_eq ]
  simp only [Prod.forall, Prod.exists, exists_const, implies_true, not_true_eq_false, not_false_eq_true, or_self, or_false, false_or, or_true, true_or, and_false, false_and, forall_const, true_and, and_true, i64R, imp_self, Int.reduceLE, Int.reduceLT, Int.reduceNeg, false_implies, true_implies, decide_eq_true_eq, decide_eq_false_iff_not, Bool.not_eq_true', Bool.not_eq_false', Bool.true_eq_false, Bool.false_eq_true, Bool.and_eq_true, Bool.or_eq_true, NilL_eq, Bool.and_eq_false_iff, Bool.or_eq_false_iff ]
  simp only [nd_fold, cn_fold]
  obtain ⟨hk, hc⟩ := hx
  have k0 : 0 ≤ k := hk.lo
  have hd : ∀ j : Int, 0 ≤ j → j ≤ L.length → DOK (L, j) := fun j h1 h2 => ⟨h1, h2, hk.len⟩
  have l1 := hc.len1
  have l2 := hc.len2
  have e0 : CndOK l [] := ⟨by simp, fun i hi => (by simp at hi), fun i _ hi => (by simp at hi), fun i hi => (by simp at hi), fun i hi => (by simp at hi)⟩
  refine ⟨hk, fun a j hj => ⟨⟨[], 0, a, j, ⟨⟨e0, fun i hi => (by simp at hi)⟩, by omega, by omega, fun i hi => (by simp at hi), by simp, by omega, by simp; omega, hd _ (by omega) (by omega), by omega⟩, rfl, rfl, rfl, rfl⟩, fun cs id i j1 hi => ⟨fun hp => ?_, fun hp => ⟨_, _, ⟨⟨hi.1.1, by omega, hi.1.2⟩, by omega, hi.2.2.2.2.2.2.2.1.hi⟩, rfl, rfl⟩⟩⟩⟩
  obtain ⟨⟨h1, h1p⟩, h2, h3, h4, h5, h6, h7, h8, h9⟩ := hi
  refine ⟨h8, fun b j2 hj2 => ⟨by omega, by omega, ⟨hd _ (by omega) (by omega), by omega⟩, fun q j3 hj3 => ⟨hj3.1 (by omega), ⟨hd _ (by omega) (by omega), by simp, by simp⟩, fun pg j4 hj4 => ⟨⟨hd _ (by omega) (by omega), by simp, by simp⟩, fun ad j5 hj5 => ⟨by simp; omega, by omega, _, _, _, _, ⟨⟨?_, fun i hi => ?_⟩, by omega, by omega, fun i hi => ?_, by simp; omega, by omega, by simp; omega, hd _ (by omega) (by omega), by omega⟩, by omega, rfl, rfl, rfl, rfl⟩⟩⟩⟩⟩
  · have hq := hj3.1 (by omega)
    refine h1.snoc (by omega) (by show 1 ≤ id + (1 + b); omega) (fun i hi => ?_) (ids_mem.2 ⟨q.toNat, by omega, rfl⟩) ?_
    · have := h4 i hi
      show (cn cs i).proc < id + (1 + b)
      omega
    · have hp1 := hj4.1
      have hp2 := hj5.1
      simp only [List.mem_cons, List.not_mem_nil, or_false] at hp1 hp2
      exact ⟨by show 0 ≤ pg; omega, by show pg ≤ 16777216; omega, by show -1000 ≤ ad; omega, by show ad ≤ 1000; omega⟩
  · rw [cn_app]
    by_cases c : i < cs.length
    · rw [if_pos c]; exact h1p i c
    · have : i = cs.length := by simp at hi; omega
      have hp1 := hj4.1
      simp only [List.mem_cons, List.not_mem_nil, or_false] at hp1
      rw [if_neg c, if_pos this]; show pg ≤ 700; omega
  · rw [cn_app]
    by_cases c : i < cs.length
    · rw [if_pos c]; have := h4 i c; omega
    · have : i = cs.length := by simp at hi; omega
      rw [if_neg c, if_pos this]; exact Int.le_refl _

def inv6a (L : List Int) (s : St) : Inv where
  X := List Cnd × Int × Int
  ok := fun x => Grow (contC s (s.t 10)) x.1 (slotI s 8) x.2.1.toNat ∧ 0 ≤ x.2.1 ∧ x.2.1 ≤ (contC s (s.t 10)).length ∧ DOK (L, x.2.2)
  sl := fun x => [(11, .int .i64 x.2.1), (10, .own 105 4)]
  hp := fun x => [(40010, diceO (L, x.2.2)), (105, .rows 40 4 x.1)]
  keep := [50020, 50011]
  me := fun x => ((contC s (s.t 10)).length - x.2.1).toNat
def inv6b (s : St) : Inv where
  X := List Cnd × Int
  ok := fun x => Zer (contC s (s.t 10)) x.1 x.2.toNat ∧ 0 ≤ x.2 ∧ x.2 ≤ (contC s (s.t 10)).length
  sl := fun x => [(14, .int .i64 x.2), (10, .own 107 4)]
  hp := fun x => [(107, .rows 40 4 x.1)]
  keep := [50020, 50011]
  me := fun x => ((contC s (s.t 10)).length - x.2).toNat
def inv6c (s : St) : Inv where
  X := Int
  ok := fun i => 0 ≤ i
  sl := fun i => [(18, .int .i64 i), (10, .own 109 4)]
  hp := fun i => [(109, .rows 40 4 (contC s (s.t 10)))]
  keep := [50020, 50011]
  me := fun i => ((contC s (s.t 10)).length - i).toNat
set_option maxRecDepth 100000 in
theorem vc6 (L : List Int) (t : Int) (hx : True) : sLaw2.vc (EV Try.prog [(13, sLight.spec), (14, sSane29.spec), (15, sRoll.spec), (16, sTree.spec), (17, sCnds2.spec), (18, sNext.spec), (19, sVicP.spec), (26, sFreed.spec)] (invsS [(11, inv6a L), (18, inv6b), (26, inv6c)]) noInv) Try.f6 (L, t, ()) := by
  have e : (True ∧ ((!Decidable.decide ((↑L.length : Int) ≤ (600 : Int))) = Bool.true → True ∧ ∃ (y : Unit), True ∧ Bool.true = Bool.true) ∧ ((!Decidable.decide ((↑L.length : Int) ≤ (600 : Int))) = Bool.false → True ∧ (DOK (L, (0 : Int)) ∧ (0 : Int) ≤ (6 : Int) ∧ (6 : Int) ≤ (20 : Int)) ∧ (∀ (y : (List Nod × Int) × Int), Bool.true = Bool.true) ∧ ∀ (y : (List Nod × Int) × Int), (TreeP y.fst.fst y.fst.snd ∧ (↑y.fst.fst.length : Int) ≤ (6 : Int) + (1 : Int)) ∧ (0 : Int) ≤ y.snd ∧ y.snd ≤ (↑L.length : Int) → (DOK (L, y.snd) ∧ ChkP y.fst.fst y.fst.snd) ∧ (∀ (y : List Cnd × Int), Bool.true = Bool.true) ∧ ∀ (y_1 : List Cnd × Int), (CndOK y.fst.fst y_1.fst ∧ y_1.fst.length ≤ (8 : Nat) ∧ ∀ (i : Nat), i < y_1.fst.length → (cn y_1.fst i).pages ≤ (700 : Int)) ∧ y.snd ≤ y_1.snd ∧ y_1.snd ≤ (↑L.length : Int) → WfN y.fst.fst ∧ ((!Decidable.decide (vicE y.fst.fst y.fst.snd y_1.fst (1 : Int) (1000 : Int) = (0 : Int))) = Bool.true → (Decidable.decide (vicE y.fst.fst y.fst.snd y_1.fst (1 : Int) (1000 : Int) = (21 : Int)) = Bool.true → True) ∧ (Decidable.decide (vicE y.fst.fst y.fst.snd y_1.fst (1 : Int) (1000 : Int) = (21 : Int)) = Bool.true → Decidable.decide (vicE y.fst.fst y.fst.snd y_1.fst (1 : Int) (1000 : Int) = (21 : Int)) = Bool.true) ∧ ∃ (y_2 : Unit), True ∧ (Decidable.decide (vicE y.fst.fst y.fst.snd y_1.fst (1 : Int) (1000 : Int) = (21 : Int)) && Bool.true) = Bool.true) ∧ ((!Decidable.decide (vicE y.fst.fst y.fst.snd y_1.fst (1 : Int) (1000 : Int) = (0 : Int))) = Bool.false → y_1.fst.length ≤ (68719476736 : Nat) ∧ (∃ (x : List Cnd × Int × Int), (Grow y_1.fst x.fst (vicC y.fst.fst y.fst.snd y_1.fst (1 : Int) (1000 : Int)).proc x.snd.fst.toNat ∧ (0 : Int) ≤ x.snd.fst ∧ x.snd.fst ≤ (↑y_1.fst.length : Int) ∧ DOK (L, x.snd.snd)) ∧ (0 : Int) = x.snd.fst ∧ L = L ∧ y_1.snd = x.snd.snd ∧ y_1.fst = x.fst ∧ y.fst.snd = y.fst.snd ∧ y.fst.fst = y.fst.fst) ∧ ∀ (x : List Cnd × Int × Int), Grow y_1.fst x.fst (vicC y.fst.fst y.fst.snd y_1.fst (1 : Int) (1000 : Int)).proc x.snd.fst.toNat ∧ (0 : Int) ≤ x.snd.fst ∧ x.snd.fst ≤ (↑y_1.fst.length : Int) ∧ DOK (L, x.snd.snd) → (Decidable.decide (x.snd.fst < (↑x.fst.length : Int)) = Bool.true → ((0 : Int) ≤ x.snd.fst ∧ x.snd.fst < (↑x.fst.length : Int)) ∧ (Decidable.decide ((x.fst.getD x.snd.fst.toNat { proc := (0 : Int), group := (0 : Int), pages := (0 : Int), adj := (0 : Int) : Cnd }).proc = (vicC y.fst.fst y.fst.snd y_1.fst (1 : Int) (1000 : Int)).proc) = Bool.true → ((0 : Int) ≤ x.snd.fst ∧ x.snd.fst < (↑x.fst.length : Int)) ∧ True ∧ (DOK (t :: NilL Int, (0 : Int)) ∧ (1000 : Int) ≤ (4611686018427387904 : Int)) ∧ (∀ (y : Int × Int), Bool.true = Bool.true) ∧ ∀ (y_2 : Int × Int), ((1 : Int) ≤ (1000 : Int) → (0 : Int) ≤ y_2.fst ∧ y_2.fst < (1000 : Int)) ∧ ((1000 : Int) < (1 : Int) → y_2.fst = (0 : Int)) ∧ (0 : Int) ≤ y_2.snd ∧ y_2.snd ≤ (↑(t :: NilL Int).length : Int) → i64R ((x.fst.getD x.snd.fst.toNat { proc := (0 : Int), group := (0 : Int), pages := (0 : Int), adj := (0 : Int) : Cnd }).pages + y_2.fst) ∧ ((0 : Int) ≤ x.snd.fst ∧ x.snd.fst < (↑x.fst.length : Int)) ∧ ((0 : Int) ≤ x.snd.fst ∧ x.snd.fst < (↑(x.fst.set x.snd.fst.toNat { proc := (x.fst.getD x.snd.fst.toNat { proc := (0 : Int), group := (0 : Int), pages := (0 : Int), adj := (0 : Int) : Cnd }).proc, group := (x.fst.getD x.snd.fst.toNat { proc := (0 : Int), group := (0 : Int), pages := (0 : Int), adj := (0 : Int) : Cnd }).group, pages := (x.fst.getD x.snd.fst.toNat { proc := (0 : Int), group := (0 : Int), pages := (0 : Int), adj := (0 : Int) : Cnd }).pages + y_2.fst, adj := (x.fst.getD x.snd.fst.toNat { proc := (0 : Int), group := (0 : Int), pages := (0 : Int), adj := (0 : Int) : Cnd }).adj : Cnd }).length : Int)) ∧ (DOK (L, x.snd.snd) ∧ (500 : Int) ≤ (4611686018427387904 : Int)) ∧ (∀ (y : Int × Int), Bool.true = Bool.true) ∧ ∀ (y_3 : Int × Int), ((1 : Int) ≤ (500 : Int) → (0 : Int) ≤ y_3.fst ∧ y_3.fst < (500 : Int)) ∧ ((500 : Int) < (1 : Int) → y_3.fst = (0 : Int)) ∧ x.snd.snd ≤ y_3.snd ∧ y_3.snd ≤ (↑L.length : Int) → i64R (((x.fst.set x.snd.fst.toNat { proc := (x.fst.getD x.snd.fst.toNat { proc := (0 : Int), group := (0 : Int), pages := (0 : Int), adj := (0 : Int) : Cnd }).proc, group := (x.fst.getD x.snd.fst.toNat { proc := (0 : Int), group := (0 : Int), pages := (0 : Int), adj := (0 : Int) : Cnd }).group, pages := (x.fst.getD x.snd.fst.toNat { proc := (0 : Int), group := (0 : Int), pages := (0 : Int), adj := (0 : Int) : Cnd }).pages + y_2.fst, adj := (x.fst.getD x.snd.fst.toNat { proc := (0 : Int), group := (0 : Int), pages := (0 : Int), adj := (0 : Int) : Cnd }).adj : Cnd }).getD x.snd.fst.toNat { proc := (0 : Int), group := (0 : Int), pages := (0 : Int), adj := (0 : Int) : Cnd }).adj + y_3.fst) ∧ ((0 : Int) ≤ x.snd.fst ∧ x.snd.fst < (↑(x.fst.set x.snd.fst.toNat { proc := (x.fst.getD x.snd.fst.toNat { proc := (0 : Int), group := (0 : Int), pages := (0 : Int), adj := (0 : Int) : Cnd }).proc, group := (x.fst.getD x.snd.fst.toNat { proc := (0 : Int), group := (0 : Int), pages := (0 : Int), adj := (0 : Int) : Cnd }).group, pages := (x.fst.getD x.snd.fst.toNat { proc := (0 : Int), group := (0 : Int), pages := (0 : Int), adj := (0 : Int) : Cnd }).pages + y_2.fst, adj := (x.fst.getD x.snd.fst.toNat { proc := (0 : Int), group := (0 : Int), pages := (0 : Int), adj := (0 : Int) : Cnd }).adj : Cnd }).length : Int)) ∧ i64R (x.snd.fst + (1 : Int)) ∧ ∃ (x' : List Cnd × Int × Int), (Grow y_1.fst x'.fst (vicC y.fst.fst y.fst.snd y_1.fst (1 : Int) (1000 : Int)).proc x'.snd.fst.toNat ∧ (0 : Int) ≤ x'.snd.fst ∧ x'.snd.fst ≤ (↑y_1.fst.length : Int) ∧ DOK (L, x'.snd.snd)) ∧ ((↑y_1.fst.length : Int) - x'.snd.fst).toNat < ((↑y_1.fst.length : Int) - x.snd.fst).toNat ∧ x.snd.fst + (1 : Int) = x'.snd.fst ∧ L = L ∧ y_3.snd = x'.snd.snd ∧ (x.fst.set x.snd.fst.toNat { proc := (x.fst.getD x.snd.fst.toNat { proc := (0 : Int), group := (0 : Int), pages := (0 : Int), adj := (0 : Int) : Cnd }).proc, group := (x.fst.getD x.snd.fst.toNat { proc := (0 : Int), group := (0 : Int), pages := (0 : Int), adj := (0 : Int) : Cnd }).group, pages := (x.fst.getD x.snd.fst.toNat { proc := (0 : Int), group := (0 : Int), pages := (0 : Int), adj := (0 : Int) : Cnd }).pages + y_2.fst, adj := (x.fst.getD x.snd.fst.toNat { proc := (0 : Int), group := (0 : Int), pages := (0 : Int), adj := (0 : Int) : Cnd }).adj : Cnd }).set x.snd.fst.toNat { proc := ((x.fst.set x.snd.fst.toNat { proc := (x.fst.getD x.snd.fst.toNat { proc := (0 : Int), group := (0 : Int), pages := (0 : Int), adj := (0 : Int) : Cnd }).proc, group := (x.fst.getD x.snd.fst.toNat { proc := (0 : Int), group := (0 : Int), pages := (0 : Int), adj := (0 : Int) : Cnd }).group, pages := (x.fst.getD x.snd.fst.toNat { proc := (0 : Int), group := (0 : Int), pages := (0 : Int), adj := (0 : Int) : Cnd }).pages + y_2.fst, adj := (x.fst.getD x.snd.fst.toNat { proc := (0 : Int), group := (0 : Int), pages := (0 : Int), adj := (0 : Int) : Cnd }).adj : Cnd }).getD x.snd.fst.toNat { proc := (0 : Int), group := (0 : Int), pages := (0 : Int), adj := (0 : Int) : Cnd }).proc, group := ((x.fst.set x.snd.fst.toNat { proc := (x.fst.getD x.snd.fst.toNat { proc := (0 : Int), group := (0 : Int), pages := (0 : Int), adj := (0 : Int) : Cnd }).proc, group := (x.fst.getD x.snd.fst.toNat { proc := (0 : Int), group := (0 : Int), pages := (0 : Int), adj := (0 : Int) : Cnd }).group, pages := (x.fst.getD x.snd.fst.toNat { proc := (0 : Int), group := (0 : Int), pages := (0 : Int), adj := (0 : Int) : Cnd }).pages + y_2.fst, adj := (x.fst.getD x.snd.fst.toNat { proc := (0 : Int), group := (0 : Int), pages := (0 : Int), adj := (0 : Int) : Cnd }).adj : Cnd }).getD x.snd.fst.toNat { proc := (0 : Int), group := (0 : Int), pages := (0 : Int), adj := (0 : Int) : Cnd }).group, pages := ((x.fst.set x.snd.fst.toNat { proc := (x.fst.getD x.snd.fst.toNat { proc := (0 : Int), group := (0 : Int), pages := (0 : Int), adj := (0 : Int) : Cnd }).proc, group := (x.fst.getD x.snd.fst.toNat { proc := (0 : Int), group := (0 : Int), pages := (0 : Int), adj := (0 : Int) : Cnd }).group, pages := (x.fst.getD x.snd.fst.toNat { proc := (0 : Int), group := (0 : Int), pages := (0 : Int), adj := (0 : Int) : Cnd }).pages + y_2.fst, adj := (x.fst.getD x.snd.fst.toNat { proc := (0 : Int), group := (0 : Int), pages := (0 : Int), adj := (0 : Int) : Cnd }).adj : Cnd }).getD x.snd.fst.toNat { proc := (0 : Int), group := (0 : Int), pages := (0 : Int), adj := (0 : Int) : Cnd }).pages, adj := Min.min (1000 : Int) (((x.fst.set x.snd.fst.toNat { proc := (x.fst.getD x.snd.fst.toNat { proc := (0 : Int), group := (0 : Int), pages := (0 : Int), adj := (0 : Int) : Cnd }).proc, group := (x.fst.getD x.snd.fst.toNat { proc := (0 : Int), group := (0 : Int), pages := (0 : Int), adj := (0 : Int) : Cnd }).group, pages := (x.fst.getD x.snd.fst.toNat { proc := (0 : Int), group := (0 : Int), pages := (0 : Int), adj := (0 : Int) : Cnd }).pages + y_2.fst, adj := (x.fst.getD x.snd.fst.toNat { proc := (0 : Int), group := (0 : Int), pages := (0 : Int), adj := (0 : Int) : Cnd }).adj : Cnd }).getD x.snd.fst.toNat { proc := (0 : Int), group := (0 : Int), pages := (0 : Int), adj := (0 : Int) : Cnd }).adj + y_3.fst) : Cnd } = x'.fst ∧ y.fst.snd = y.fst.snd ∧ y.fst.fst = y.fst.fst) ∧ (Decidable.decide ((x.fst.getD x.snd.fst.toNat { proc := (0 : Int), group := (0 : Int), pages := (0 : Int), adj := (0 : Int) : Cnd }).proc = (vicC y.fst.fst y.fst.snd y_1.fst (1 : Int) (1000 : Int)).proc) = Bool.false → i64R (x.snd.fst + (1 : Int)) ∧ ∃ (x' : List Cnd × Int × Int), (Grow y_1.fst x'.fst (vicC y.fst.fst y.fst.snd y_1.fst (1 : Int) (1000 : Int)).proc x'.snd.fst.toNat ∧ (0 : Int) ≤ x'.snd.fst ∧ x'.snd.fst ≤ (↑y_1.fst.length : Int) ∧ DOK (L, x'.snd.snd)) ∧ ((↑y_1.fst.length : Int) - x'.snd.fst).toNat < ((↑y_1.fst.length : Int) - x.snd.fst).toNat ∧ x.snd.fst + (1 : Int) = x'.snd.fst ∧ L = L ∧ x.snd.snd = x'.snd.snd ∧ x.fst = x'.fst ∧ y.fst.snd = y.fst.snd ∧ y.fst.fst = y.fst.fst)) ∧ (Decidable.decide (x.snd.fst < (↑x.fst.length : Int)) = Bool.false → WfN y.fst.fst ∧ (∃ (x_1 : List Cnd × Int), (Zer x.fst x_1.fst x_1.snd.toNat ∧ (0 : Int) ≤ x_1.snd ∧ x_1.snd ≤ (↑x.fst.length : Int)) ∧ (0 : Int) = x_1.snd ∧ x.fst = x_1.fst ∧ y.fst.snd = y.fst.snd ∧ y.fst.fst = y.fst.fst) ∧ ∀ (x_1 : List Cnd × Int), Zer x.fst x_1.fst x_1.snd.toNat ∧ (0 : Int) ≤ x_1.snd ∧ x_1.snd ≤ (↑x.fst.length : Int) → (Decidable.decide (x_1.snd < (↑x_1.fst.length : Int)) = Bool.true → ((0 : Int) ≤ x_1.snd ∧ x_1.snd < (↑x_1.fst.length : Int)) ∧ i64R (x_1.snd + (1 : Int)) ∧ ∃ (x' : List Cnd × Int), (Zer x.fst x'.fst x'.snd.toNat ∧ (0 : Int) ≤ x'.snd ∧ x'.snd ≤ (↑x.fst.length : Int)) ∧ ((↑x.fst.length : Int) - x'.snd).toNat < ((↑x.fst.length : Int) - x_1.snd).toNat ∧ x_1.snd + (1 : Int) = x'.snd ∧ x_1.fst.set x_1.snd.toNat { proc := (x_1.fst.getD x_1.snd.toNat { proc := (0 : Int), group := (0 : Int), pages := (0 : Int), adj := (0 : Int) : Cnd }).proc, group := (x_1.fst.getD x_1.snd.toNat { proc := (0 : Int), group := (0 : Int), pages := (0 : Int), adj := (0 : Int) : Cnd }).group, pages := (x_1.fst.getD x_1.snd.toNat { proc := (0 : Int), group := (0 : Int), pages := (0 : Int), adj := (0 : Int) : Cnd }).pages, adj := (0 : Int) : Cnd } = x'.fst ∧ y.fst.snd = y.fst.snd ∧ y.fst.fst = y.fst.fst) ∧ (Decidable.decide (x_1.snd < (↑x_1.fst.length : Int)) = Bool.false → WfN y.fst.fst ∧ ((!Decidable.decide (vicE y.fst.fst y.fst.snd x.fst (1 : Int) (1000 : Int) = (0 : Int))) = Bool.false → (!Decidable.decide (vicE y.fst.fst y.fst.snd x.fst (1 : Int) (1000 : Int) = (0 : Int))) = Bool.false) ∧ ((!Decidable.decide (vicE y.fst.fst y.fst.snd x.fst (1 : Int) (1000 : Int) = (0 : Int))) = Bool.false → (!Decidable.decide (vicE y.fst.fst y.fst.snd x.fst (1 : Int) (1000 : Int) = (0 : Int))) = Bool.false) ∧ ((!Decidable.decide (vicE y.fst.fst y.fst.snd x.fst (1 : Int) (1000 : Int) = (0 : Int))) = Bool.false → (!Decidable.decide (vicE y.fst.fst y.fst.snd x.fst (1 : Int) (1000 : Int) = (0 : Int))) = Bool.false) ∧ ((!Decidable.decide (vicE y.fst.fst y.fst.snd x.fst (1 : Int) (1000 : Int) = (0 : Int)) || !Decidable.decide ((vicC y.fst.fst y.fst.snd x.fst (1 : Int) (1000 : Int)).proc = (vicC y.fst.fst y.fst.snd y_1.fst (1 : Int) (1000 : Int)).proc)) = Bool.false → (!Decidable.decide (vicE y.fst.fst y.fst.snd x.fst (1 : Int) (1000 : Int) = (0 : Int)) || !Decidable.decide ((vicC y.fst.fst y.fst.snd x.fst (1 : Int) (1000 : Int)).proc = (vicC y.fst.fst y.fst.snd y_1.fst (1 : Int) (1000 : Int)).proc)) = Bool.false) ∧ ((!Decidable.decide (vicE y.fst.fst y.fst.snd x.fst (1 : Int) (1000 : Int) = (0 : Int)) || !Decidable.decide ((vicC y.fst.fst y.fst.snd x.fst (1 : Int) (1000 : Int)).proc = (vicC y.fst.fst y.fst.snd y_1.fst (1 : Int) (1000 : Int)).proc)) = Bool.false → (!Decidable.decide (vicE y.fst.fst y.fst.snd x.fst (1 : Int) (1000 : Int) = (0 : Int)) || !Decidable.decide ((vicC y.fst.fst y.fst.snd x.fst (1 : Int) (1000 : Int)).proc = (vicC y.fst.fst y.fst.snd y_1.fst (1 : Int) (1000 : Int)).proc)) = Bool.false) ∧ ((!Decidable.decide (vicE y.fst.fst y.fst.snd x.fst (1 : Int) (1000 : Int) = (0 : Int)) || !Decidable.decide ((vicC y.fst.fst y.fst.snd x.fst (1 : Int) (1000 : Int)).proc = (vicC y.fst.fst y.fst.snd y_1.fst (1 : Int) (1000 : Int)).proc) || !Decidable.decide (vicE y.fst.fst y.fst.snd x_1.fst (1 : Int) (1000 : Int) = (0 : Int))) = Bool.true → ∃ (y : Unit), True ∧ Bool.false = Bool.true) ∧ ((!Decidable.decide (vicE y.fst.fst y.fst.snd x.fst (1 : Int) (1000 : Int) = (0 : Int)) || !Decidable.decide ((vicC y.fst.fst y.fst.snd x.fst (1 : Int) (1000 : Int)).proc = (vicC y.fst.fst y.fst.snd y_1.fst (1 : Int) (1000 : Int)).proc) || !Decidable.decide (vicE y.fst.fst y.fst.snd x_1.fst (1 : Int) (1000 : Int) = (0 : Int))) = Bool.false → ((x_1.fst.length ≤ (1024 : Nat) ∧ ∀ (i : Nat), i < x_1.fst.length → (0 : Int) ≤ (cn x_1.fst i).pages ∧ (cn x_1.fst i).pages ≤ (1099511627776 : Int)) ∧ ((vicC y.fst.fst y.fst.snd x_1.fst (1 : Int) (1000 : Int)).proc :: NilL Int).length ≤ (4611686018427387904 : Nat)) ∧ (∃ (x : Int), (0 : Int) ≤ x ∧ (0 : Int) = x ∧ x_1.fst = x_1.fst ∧ y.fst.snd = y.fst.snd ∧ y.fst.fst = y.fst.fst) ∧ ∀ (x : Int), (0 : Int) ≤ x → (Decidable.decide (x < (↑x_1.fst.length : Int)) = Bool.true → ((0 : Int) ≤ x ∧ x < (↑x_1.fst.length : Int)) ∧ (Decidable.decide (frd x_1.fst ((vicC y.fst.fst y.fst.snd x_1.fst (1 : Int) (1000 : Int)).proc :: NilL Int) x_1.fst.length < (x_1.fst.getD x.toNat { proc := (0 : Int), group := (0 : Int), pages := (0 : Int), adj := (0 : Int) : Cnd }).pages) = Bool.true → ∃ (y : Unit), True ∧ Bool.false = Bool.true) ∧ (Decidable.decide (frd x_1.fst ((vicC y.fst.fst y.fst.snd x_1.fst (1 : Int) (1000 : Int)).proc :: NilL Int) x_1.fst.length < (x_1.fst.getD x.toNat { proc := (0 : Int), group := (0 : Int), pages := (0 : Int), adj := (0 : Int) : Cnd }).pages) = Bool.false → i64R (x + (1 : Int)) ∧ ∃ (x' : Int), (0 : Int) ≤ x' ∧ ((↑x_1.fst.length : Int) - x').toNat < ((↑x_1.fst.length : Int) - x).toNat ∧ x + (1 : Int) = x' ∧ x_1.fst = x_1.fst ∧ y.fst.snd = y.fst.snd ∧ y.fst.fst = y.fst.fst)) ∧ (Decidable.decide (x < (↑x_1.fst.length : Int)) = Bool.false → True ∧ ∃ (y : Unit), True ∧ Bool.true = Bool.true))))))) = sLaw2.vc (EV Try.prog [(13, sLight.spec), (14, sSane29.spec), (15, sRoll.spec), (16, sTree.spec), (17, sCnds2.spec), (18, sNext.spec), (19, sVicP.spec), (26, sFreed.spec)] (invsS [(11, inv6a L), (18, inv6b), (26, inv6c)]) noInv) Try.f6 (L, t, ()) := by kernel_rfl
  rw [← e]
  clear e
  simp only [imp_self, true_and, and_true, exists_const, implies_true, gd1, gd2, gd3, gd4, gd5, gd6, NilL_eq ]
  simp only [Prod.forall, Prod.exists, exists_const, implies_true, not_true_eq_false, not_false_eq_true, or_self, or_false, false_or, or_true, true_or, and_false, false_and, forall_const, true_and, and_true, i64R, imp_self, Int.reduceLE, Int.reduceLT, Int.reduceNeg, false_implies, true_implies, decide_eq_true_eq, decide_eq_false_iff_not, Bool.not_eq_true', Bool.not_eq_false', Bool.true_eq_false, Bool.false_eq_true, Bool.and_eq_true, Bool.or_eq_true, NilL_eq, Bool.and_eq_false_iff, Bool.or_eq_false_iff ]
  simp only [nd_fold, cn_fold]
  intro hL
  have hd : ∀ j : Int, 0 ≤ j → j ≤ L.length → DOK (L, j) := fun j h1 h2 => ⟨h1, h2, by show L.length ≤ 600; omega⟩
  refine ⟨hd 0 (by omega) (by omega), fun l n j1 h1 => ⟨⟨hd _ (by omega) (by omega), h1.1.1.chk⟩, fun cs j2 h2 => ?_⟩⟩
  obtain ⟨⟨ht, hlen⟩, _⟩ := h1
  obtain ⟨⟨ho, hcl, hpg⟩, _⟩ := h2
  have hc := ht.chk
  have ha := hc.asc
  have hg : (1 : Int) ∈ ids l := ids_mem.2 ⟨0, by have := hc.len1; omega, (ha.root (by have := hc.len1; omega)).1⟩
  have hv := vic_cases hc ho hg (t := 1000) (by omega) (by omega)
  refine ⟨hc.wf, fun hE => by rcases hv with h | h <;> omega, fun hE => ?_⟩
  have hi2 := vic_is hE
  generalize vicC l n cs 1 1000 = V at hi2 ⊢
  obtain ⟨kv, hkv, ekv⟩ := mem_cn hi2.mem
  refine ⟨by omega, ⟨cs, 0, j2, ⟨Grow.start, by omega, by omega, hd _ (by omega) (by omega)⟩, rfl, rfl, rfl⟩, fun b i j3 hi => ?_⟩
  obtain ⟨hb, hi0, hi1, hj3⟩ := hi
  have hbl := hb.len
  have nxt : (i + 1).toNat = i.toNat + 1 := by omega
  refine ⟨fun hlt => ⟨by omega, fun he => ⟨by omega, ⟨by show (0 : Int) ≤ 0; omega, by show (0 : Int) ≤ ((1 : Nat) : Int); omega, by show 1 ≤ 600; omega⟩, fun x j4 hx => ?_⟩, fun he => ⟨by omega, b, i + 1, j3, ⟨by rw [nxt]; exact hb.miss he, by omega, by omega, hj3⟩, by omega, rfl, rfl, rfl⟩⟩, fun hge => ?_⟩
  · have e1 : ∀ z, cn (b.set i.toNat z) i.toNat = z := fun z => by rw [cn_set (by omega), if_pos rfl]
    simp only [e1, List.set_set, List.length_set]
    have h5 := hb.same i.toNat (by omega) (.inl (Nat.le_refl _))
    have h6 := hpg i.toNat (by omega)
    have h7 := ho.snd_mem (cn_mem (cs := cs) (i := i.toNat) (by omega))
    have h8 := h7.p0
    have h9 := h7.a0
    have h10 := h7.a1
    rw [h5] at he ⊢
    refine ⟨by omega, by omega, by omega, hj3, fun y j5 hy => ⟨by omega, by omega, by omega, _, i + 1, j5, ⟨?_, by omega, by omega, hd _ (by have := hj3.lo; omega) (by omega)⟩, by omega, rfl, rfl, rfl⟩⟩
    rw [nxt]
    exact hb.hit (by omega) he h10 hx.1 hy.1
  have ei : i.toNat = cs.length := by omega
  rw [ei] at hb
  have hG : ∀ m, m < cs.length → (cn b m).proc = (cn cs m).proc ∧ (cn b m).group = (cn cs m).group ∧ (cn cs m).pages ≤ (cn b m).pages ∧ (cn b m).pages ≤ (cn cs m).pages + 1000 ∧ (cn cs m).adj ≤ (cn b m).adj ∧ (cn b m).adj ≤ 1000 := fun m hm => by
    by_cases e : (cn cs m).proc = V.proc
    · have := hb.grew m hm hm e
      rw [e]; exact this
    · rw [hb.same m hm (.inr e)]
      have := (ho.snd m hm).a1
      exact ⟨rfl, rfl, Int.le_refl _, by omega, Int.le_refl _, this⟩
  have hob : CndOK l b := by
    refine ⟨by omega, fun k hk => ?_, fun k h0 hk => ?_, fun k hk => ?_, fun k hk => ?_⟩
    · rw [(hG k (by omega)).1]; exact ho.pos k (by omega)
    · rw [(hG k (by omega)).1, (hG (k - 1) (by omega)).1]; exact ho.asc k h0 (by omega)
    · rw [(hG k (by omega)).2.1]; exact ho.grp k (by omega)
    · have h5 := hG k (by omega)
      have h6 := ho.snd k (by omega)
      have h7 := hpg k (by omega)
      have h8 := h6.p0
      have h9 := h6.a0
      exact ⟨by omega, by omega, by omega, by omega⟩
  have hsc : ∀ c : Cnd, scoreI c 1000 = c.pages + c.adj := fun c => by unfold scoreI; omega
  have hmay : ∀ c : Cnd, c.group ∈ ids l → -1000 < c.adj → mayB l 1 c = true := fun c h1 h2 => by
    unfold mayB
    obtain ⟨k, hk, ek⟩ := ids_mem.1 h1
    have := ha.root_mem k hk
    rw [ek] at this
    rw [memB_iff.2 this]; simp; omega
  have hVa : V.adj ≠ -1000 := by
    have := hi2.may
    unfold mayB at this
    simp only [Bool.and_eq_true, Bool.not_eq_true', decide_eq_false_iff_not] at this
    exact this.1
  have hV2 : vicE l n b 1 1000 = 0 ∧ (vicC l n b 1 1000).proc = V.proc := by
    have h5 := hG kv hkv
    have h6 := (ho.snd kv hkv).a0
    have hm : mayB l 1 (cn b kv) = true := hmay _ (hob.grp kv (by omega)) (by rw [ekv] at h5 h6; omega)
    have hmem : cn b kv ∈ b := cn_mem (by omega)
    have hE2 : vicE l n b 1 1000 = 0 := by
      rcases vic_cases hc hob hg (t := 1000) (by omega) (by omega) with h | ⟨_, _, h⟩
      · exact h
      · rw [h _ hmem] at hm; cases hm
    refine ⟨hE2, ?_⟩
    have hj := vic_is hE2
    generalize vicC l n b 1 1000 = W at hj ⊢
    obtain ⟨kw, hkw, ekw⟩ := mem_cn hj.mem
    by_cases e : (cn cs kw).proc = V.proc
    · rw [← ekw, (hG kw (by omega)).1]; exact e
    · have e2 := hb.same kw (by omega) (.inr e)
      have hW : W ∈ cs := by rw [← ekw, e2]; exact cn_mem (by omega)
      have q1 := hi2.max W hW hj.may
      have q2 := hj.max _ hmem hm
      have q3 := hi2.fst W hW hj.may
      have q4 := hj.fst _ hmem hm
      rw [hsc] at q1 q2 q3 q4
      rw [hsc] at q1 q2 q3 q4
      rw [ekv] at h5
      have q5 := q3 (by omega)
      have q6 := q4 (by omega)
      omega
  refine ⟨hc.wf, ⟨b, 0, ⟨Zer.start, by omega, by omega⟩, rfl, rfl⟩, fun b2 k hk => ?_⟩
  obtain ⟨hz, hk0, hk1⟩ := hk
  have hzl := hz.len
  have nxk : (k + 1).toNat = k.toNat + 1 := by omega
  refine ⟨fun hlt => ⟨by omega, by omega, _, k + 1, ⟨by rw [nxk]; exact hz.step (by omega), by omega, by omega⟩, by omega, rfl, rfl⟩, fun hge => ?_⟩
  have ek : k.toNat = b.length := by omega
  rw [ek] at hz
  have hZ : ∀ m, m < b.length → cn b2 m = ⟨(cn b m).proc, (cn b m).group, (cn b m).pages, 0⟩ := fun m hm => by rw [hz.el m hm, if_pos hm]
  have hoz : CndOK l b2 := by
    refine ⟨by omega, fun k hk => ?_, fun k h0 hk => ?_, fun k hk => ?_, fun k hk => ?_⟩
    · rw [hZ k (by omega)]; exact hob.pos k (by omega)
    · rw [hZ k (by omega), hZ (k - 1) (by omega)]; exact hob.asc k h0 (by omega)
    · rw [hZ k (by omega)]; exact hob.grp k (by omega)
    · rw [hZ k (by omega)]
      have h6 := hob.snd k (by omega)
      exact ⟨h6.p0, h6.p1, by show (-1000 : Int) ≤ 0; omega, by show (0 : Int) ≤ 1000; omega⟩
  have hz0 : ∀ m, m < b2.length → mayB l 1 (cn b2 m) = true := fun m hm => hmay _ (hoz.grp m hm) (by rw [hZ m (by omega)]; show (-1000 : Int) < 0; omega)
  have hE3 : vicE l n b2 1 1000 = 0 := by
    rcases vic_cases hc hoz hg (t := 1000) (by omega) (by omega) with h | ⟨_, _, h⟩
    · exact h
    · have h5 := hz0 kv (by omega)
      rw [h _ (cn_mem (by omega))] at h5; cases h5
  have hj := vic_is hE3
  refine ⟨hc.wf, fun h => ?_, fun _ => ?_⟩
  · rcases h with (h | h) | h
    · exact h hV2.1
    · exact h hV2.2
    · exact h hE3
  generalize vicC l n b2 1 1000 = W at hj ⊢
  obtain ⟨kw, hkw, ekw⟩ := mem_cn hj.mem
  have hpz : ∀ i, i < b2.length → 0 ≤ (cn b2 i).pages ∧ (cn b2 i).pages ≤ 1099511627776 := fun i hi => by
    have h5 := hoz.snd i hi
    exact ⟨h5.p0, by have := h5.p1; omega⟩
  refine ⟨⟨⟨by omega, hpz⟩, by simp⟩, ⟨0, by omega, rfl⟩, fun x hx hlt => ?_⟩
  have h5 : W.pages ≤ frd b2 [W.proc] b2.length := by
    rw [← ekw]
    exact frd_ge hpz (by simp [memB]) _ (Nat.le_refl _) hkw
  have h6 := hj.max _ (cn_mem (i := x.toNat) (by omega)) (hz0 x.toNat (by omega))
  have h7 : (cn b2 x.toNat).pages ≤ W.pages := by
    rw [hsc, hsc] at h6
    have h8 : (cn b2 x.toNat).adj = 0 := by rw [hZ x.toNat (by omega)]
    have h9 : W.adj = 0 := by rw [← ekw, hZ kw (by omega)]
    omega
  exact ⟨by omega, fun h => by have := of_decide_eq_true h; omega, fun _ => ⟨by omega, x + 1, by omega, by omega, rfl⟩⟩
end Go.Proofs.Ytglkagaammnojaa
