/-
  Lemmas and contracts on the way to the laws of this seat; each theorem states its own conditions, and there are no others.
-/
import Derived.Test.YtglkagaammnojaaVK
import Derived.Test.YtglkagaammnojaaPD

namespace Go.Proofs.Ytglkagaammnojaa
open Go
set_option linter.unusedVariables false
set_option linter.unusedSimpArgs false
set_option linter.unusedVariables false

def sLawL1 : DS := ⟨_, one pkIntsP, fun _ => True, fun _ => .bool true, nou⟩
def contG (s : St) (v : AV) : List Chg := match v with
  | .nsl => []
  | v => match contentA s.h v with
    | some ⟨7, l⟩ => l
    | _ => []
def rowsN (s : St) (b : Nat) : List Nod := match s.h b with
  | some (.rows _ 3 l) => l
  | _ => []
structure ChgOK (l : List Nod) (gs : List Chg) : Prop where
  asc : ∀ i, 0 < i → i < gs.length → (gn gs (i - 1)).group < (gn gs i).group
  grp : ∀ i, i < gs.length → (gn gs i).group ∈ ids l
  own : ∀ i, i < gs.length → 0 ≤ (gn gs i).own ∧ (gn gs i).own ≤ 256
theorem ChgOK.gv {l : List Nod} {gs : List Chg} (h : ChgOK l gs) : gvB l gs = true := gvB_all.2 fun i hi => by
  simp only [gv1, inB, Bool.and_eq_true, Bool.or_eq_true, decide_eq_true_eq, hasB_iff]
  refine ⟨⟨h.grp i hi, ?_⟩, h.own i hi⟩
  by_cases e : i = 0
  · exact .inl e
  · exact .inr (h.asc i (by omega) hi)
theorem gn_app {l : List Chg} {x : Chg} {i : Nat} : gn (l ++ [x]) i = if i < l.length then gn l i else if i = l.length then x else ⟨0, 0⟩ := by
  unfold gn
  rw [List.getD_eq_getElem?_getD, List.getElem?_append]
  split
  · rw [List.getD_eq_getElem?_getD]
  · split
    · rename_i h1 h2; subst h2; simp
    · rename_i h1 h2
      rw [List.getElem?_eq_none (by simp; omega)]; rfl
theorem ChgOK.snoc {l : List Nod} {gs : List Chg} (h : ChgOK l gs) {x : Chg} (h2 : ∀ i, i < gs.length → (gn gs i).group < x.group) (h3 : x.group ∈ ids l) (h4 : 0 ≤ x.own ∧ x.own ≤ 256) : ChgOK l (gs ++ [x]) := by
  have e : ∀ i, i < (gs ++ [x]).length → (i < gs.length ∧ gn (gs ++ [x]) i = gn gs i) ∨ (i = gs.length ∧ gn (gs ++ [x]) i = x) := fun i hi => by
    rw [gn_app]
    by_cases c : i < gs.length
    · exact .inl ⟨c, if_pos c⟩
    · have : i = gs.length := by simp at hi; omega
      exact .inr ⟨this, by rw [if_neg c, if_pos this]⟩
  refine ⟨fun i h0 hi => ?_, fun i hi => ?_, fun i hi => ?_⟩
  · have e2 : gn (gs ++ [x]) (i - 1) = gn gs (i - 1) := by rw [gn_app, if_pos (by simp at hi; omega)]
    rw [e2]
    rcases e i hi with ⟨c, e1⟩ | ⟨c, e1⟩
    · rw [e1]; exact h.asc i h0 c
    · rw [e1]; exact h2 _ (by omega)
  · rcases e i hi with ⟨c, e1⟩ | ⟨c, e1⟩
    · rw [e1]; exact h.grp i c
    · rw [e1]; exact h3
  · rcases e i hi with ⟨c, e1⟩ | ⟨c, e1⟩
    · rw [e1]; exact h.own i c
    · rw [e1]; exact h4
theorem ChgOK.lt {l : List Nod} {gs : List Chg} (h : ChgOK l gs) {i j : Nat} (hij : i < j) (hj : j < gs.length) : (gn gs i).group < (gn gs j).group := asc_lt (f := fun i => (gn gs i).group) h.asc j hj i hij
/-- What is under way below a group. -/
def wSum (l : List Nod) (gs : List Chg) (w : Int) : Nat → Int
  | 0 => 0
  | j + 1 => wSum l gs w j + (if memB (upT l (gn gs j).group) w = true then (gn gs j).own else 0)
theorem wSum_rng {l : List Nod} {gs : List Chg} (h : ChgOK l gs) (w : Int) : ∀ j, j ≤ gs.length → 0 ≤ wSum l gs w j ∧ wSum l gs w j ≤ 256 * j
  | 0, _ => by simp [wSum]
  | j + 1, hj => by
    have h1 := wSum_rng h w j (by omega)
    have h2 := h.own j (by omega)
    rw [wSum]
    split <;> omega
def wantB (l : List Nod) (ds : List Dep) (gs : List Chg) (w : Int) : Bool := decide (wSum l gs w gs.length < (gDep ds w).depth)
theorem ownF_not {gs : List Chg} {g : Int} : ∀ i, i ≤ gs.length → (∀ j, j < i → (gn gs j).group ≠ g) → ownF (gs.take i) g = 0
  | 0, _, _ => rfl
  | i + 1, hi, h => by
    rw [ownF_step (by omega), updF, if_neg (fun e => h i (by omega) e.symm)]
    exact ownF_not i (by omega) fun j hj => h j (by omega)
theorem sumI_upd {F : Int → Int} {g o : Int} (h0 : F g = 0) : ∀ {s : List Int}, s.Nodup → sumI (updF 0 F g o) s = sumI F s + (if memB s g = true then o else 0)
  | [], _ => by simp [sumI, memB]
  | x :: s, h => by
    rw [List.nodup_cons] at h
    have ih := sumI_upd (o := o) h0 h.2
    unfold sumI at ih ⊢
    simp only [List.map_cons, List.sum_cons]
    rw [ih]
    by_cases e : x = g
    · subst e
      have n1 : ¬ memB s x = true := fun hm => h.1 (memB_iff.1 hm)
      have n2 : memB (x :: s) x = true := memB_iff.2 (by simp)
      rw [if_neg n1, if_pos n2]
      simp only [updF, if_true]
      rw [h0]; omega
    · have n2 : memB (x :: s) g = memB s g := by
        rw [Bool.eq_iff_iff, memB_iff, memB_iff, List.mem_cons]
        exact ⟨fun hh => hh.elim (fun hh => absurd hh.symm e) id, .inr⟩
      rw [n2]
      simp only [updF, if_neg e]
      omega
theorem own_sum {l : List Nod} {gs : List Chg} (h : ChgOK l gs) (ha : Asc l) (w : Int) : ∀ i, i ≤ gs.length → sumI (ownF (gs.take i)) (subL l w) = wSum l gs w i
  | 0, _ => by
    have : ∀ s : List Int, sumI (fun _ => 0) s = 0 := fun s => by
      induction s with
      | nil => rfl
      | cons x s ih => unfold sumI at ih ⊢; simp only [List.map_cons, List.sum_cons, ih]; rfl
    exact this _
  | i + 1, hi => by
    have ih := own_sum h ha w i (by omega)
    have hs := subL_sub ha w
    rw [ownF_step (by omega), sumI_upd (ownF_not i (by omega) fun j hj e => by have := h.lt hj (by omega); omega) hs.1, ih, wSum]
    have : memB (subL l w) (gn gs i).group = memB (upT l (gn gs i).group) w := by
      rw [Bool.eq_iff_iff, memB_iff, memB_iff]; exact hs.2 _
    rw [this]
theorem room_want {l : List Nod} {ds : List Dep} {gs : List Chg} (h : ChgOK l gs) (ha : Asc l) : roomB l ds (ownF gs) = wantB l ds gs := by
  funext w
  have := own_sum h ha w gs.length (Nat.le_refl _)
  rw [List.take_length] at this
  rw [roomB, wantB, this]

def inv12a (L : List Int) (s : St) : Inv where
  X := List Chg × Int × Int
  ok := fun x => (ChgOK (rowsN s 50011) x.1 ∧ x.1.length ≤ x.2.1 ∧ ∀ i j, i < x.1.length → x.2.1 ≤ (j : Nat) → j < (rowsN s 50011).length → (gn x.1 i).group < (nd (rowsN s 50011) j).id) ∧ 0 ≤ x.2.1 ∧ x.2.1 ≤ (rowsN s 50011).length ∧ DOK (L, x.2.2)
  sl := fun x => [(7, .int .i64 x.2.1), (5, .own 103 5), (6, .own 105 7)]
  hp := fun x => [(40010, diceO (L, x.2.2)), (103, .rows 57 5 (contD s (s.t 5))), (105, .rows 71 7 x.1)]
  keep := [50020, 50011]
  me := fun x => ((rowsN s 50011).length - x.2.1).toNat
def inv12b (s : St) : Inv where
  X := Int
  ok := fun i => 0 ≤ i
  sl := fun i => [(9, .int .i64 i), (5, .own 103 5), (6, .own 105 7)]
  hp := fun _ => [(103, .rows 57 5 (contD s (s.t 5))), (105, .rows 71 7 (contG s (s.t 6)))]
  keep := [50020, 50011]
  me := fun i => (4611686018427387904 - i).toNat
def inv12c (s : St) : Inv where
  X := Int
  ok := fun k => 0 ≤ k ∧ k ≤ (contI s (s.t 13)).length
  sl := fun k => [(14, .int .i64 k), (12, .bool (((contI s (s.t 13)).take k.toNat).all (wantB (rowsN s 50011) (contD s (s.t 5)) (contG s (s.t 6))))), (13, .own 107 0), (5, .own 103 5), (6, .own 105 7)]
  hp := fun _ => [(107, .rows 3 0 (contI s (s.t 13))), (103, .rows 57 5 (contD s (s.t 5))), (105, .rows 71 7 (contG s (s.t 6)))]
  keep := [50020, 50011]
  me := fun k => ((contI s (s.t 13)).length - k).toNat
def inv12d (s : St) : Inv where
  X := Int
  ok := fun j => 0 ≤ j ∧ j ≤ (contG s (s.t 6)).length
  sl := fun j => [(16, .int .i64 j), (15, .int .i64 (wSum (rowsN s 50011) (contG s (s.t 6)) ((contI s (s.t 13)).getD (slotI s 14).toNat 0) j.toNat)), (13, .own 107 0), (5, .own 103 5), (6, .own 105 7)]
  hp := fun _ => [(107, .rows 3 0 (contI s (s.t 13))), (103, .rows 57 5 (contD s (s.t 5))), (105, .rows 71 7 (contG s (s.t 6)))]
  keep := [50020, 50011]
  me := fun j => ((contG s (s.t 6)).length - j).toNat
set_option maxRecDepth 100000 in
theorem vc12 (L : List Int) (hx : True) : sLawL1.vc (EV Try.prog [(13, sLight.spec), (33, sSane33.spec), (15, sRoll.spec), (16, sTree.spec), (34, sDeps.spec), (22, sPick.spec), (40, sAlw.spec), (41, sAnc.spec), (28, sHasI.spec), (32, sGet.spec)] (invsS [(8, inv12a L), (14, inv12b), (20, inv12c), (24, inv12d)]) noInv) Try.f12 (L, ()) := by
  have e : (True ∧ ((!Decidable.decide ((↑L.length : Int) ≤ (600 : Int))) = Bool.true → True ∧ ∃ (y : Unit), True ∧ Bool.true = Bool.true) ∧ ((!Decidable.decide ((↑L.length : Int) ≤ (600 : Int))) = Bool.false → True ∧ (DOK (L, (0 : Int)) ∧ (0 : Int) ≤ (6 : Int) ∧ (6 : Int) ≤ (20 : Int)) ∧ (∀ (y : (List Nod × Int) × Int), Bool.true = Bool.true) ∧ ∀ (y : (List Nod × Int) × Int), (TreeP y.fst.fst y.fst.snd ∧ (↑y.fst.fst.length : Int) ≤ (6 : Int) + (1 : Int)) ∧ (0 : Int) ≤ y.snd ∧ y.snd ≤ (↑L.length : Int) → (DOK (L, y.snd) ∧ ChkP y.fst.fst y.fst.snd) ∧ (∀ (y : List Dep × Int), Bool.true = Bool.true) ∧ ∀ (y_1 : List Dep × Int), DepOK y.fst.fst y_1.fst ∧ y.snd ≤ y_1.snd ∧ y_1.snd ≤ (↑L.length : Int) → (∃ (x : List Chg × Int × Int), ((ChgOK y.fst.fst x.fst ∧ (↑x.fst.length : Int) ≤ x.snd.fst ∧ ∀ (i j : Nat), i < x.fst.length → x.snd.fst ≤ (↑j : Int) → j < y.fst.fst.length → (gn x.fst i).group < (nd y.fst.fst j).id) ∧ (0 : Int) ≤ x.snd.fst ∧ x.snd.fst ≤ (↑y.fst.fst.length : Int) ∧ DOK (L, x.snd.snd)) ∧ (0 : Int) = x.snd.fst ∧ L = L ∧ y_1.snd = x.snd.snd ∧ y_1.fst = y_1.fst ∧ NilL Chg = x.fst ∧ y.fst.snd = y.fst.snd ∧ y.fst.fst = y.fst.fst) ∧ ∀ (x : List Chg × Int × Int), (ChgOK y.fst.fst x.fst ∧ (↑x.fst.length : Int) ≤ x.snd.fst ∧ ∀ (i j : Nat), i < x.fst.length → x.snd.fst ≤ (↑j : Int) → j < y.fst.fst.length → (gn x.fst i).group < (nd y.fst.fst j).id) ∧ (0 : Int) ≤ x.snd.fst ∧ x.snd.fst ≤ (↑y.fst.fst.length : Int) ∧ DOK (L, x.snd.snd) → (Decidable.decide (x.snd.fst < (↑y.fst.fst.length : Int)) = Bool.true → (DOK (L, x.snd.snd) ∧ (1 : Nat) ≤ ((0 : Int) :: (0 : Int) :: (1 : Int) :: (2 : Int) :: (64 : Int) :: NilL Int).length ∧ ((0 : Int) :: (0 : Int) :: (1 : Int) :: (2 : Int) :: (64 : Int) :: NilL Int).length ≤ (1000 : Nat)) ∧ (∀ (y : Int × Int), Bool.true = Bool.true) ∧ ∀ (y_2 : Int × Int), y_2.fst ∈ (0 : Int) :: (0 : Int) :: (1 : Int) :: (2 : Int) :: (64 : Int) :: NilL Int ∧ x.snd.snd ≤ y_2.snd ∧ y_2.snd ≤ (↑L.length : Int) → (Decidable.decide ((0 : Int) < y_2.fst) = Bool.true → ((0 : Int) ≤ x.snd.fst ∧ x.snd.fst < (↑y.fst.fst.length : Int)) ∧ x.fst.length + ({ group := (y.fst.fst.getD x.snd.fst.toNat { id := (0 : Int), parent := (0 : Int), name := ByteArray.empty, control := (0 : Int), kind := (0 : Int), owner := (0 : Int) : Nod }).id, own := y_2.fst : Chg } :: NilL Chg).length ≤ (68719476736 : Nat) ∧ i64R (x.snd.fst + (1 : Int)) ∧ ∃ (x' : List Chg × Int × Int), ((ChgOK y.fst.fst x'.fst ∧ (↑x'.fst.length : Int) ≤ x'.snd.fst ∧ ∀ (i j : Nat), i < x'.fst.length → x'.snd.fst ≤ (↑j : Int) → j < y.fst.fst.length → (gn x'.fst i).group < (nd y.fst.fst j).id) ∧ (0 : Int) ≤ x'.snd.fst ∧ x'.snd.fst ≤ (↑y.fst.fst.length : Int) ∧ DOK (L, x'.snd.snd)) ∧ ((↑y.fst.fst.length : Int) - x'.snd.fst).toNat < ((↑y.fst.fst.length : Int) - x.snd.fst).toNat ∧ x.snd.fst + (1 : Int) = x'.snd.fst ∧ L = L ∧ y_2.snd = x'.snd.snd ∧ y_1.fst = y_1.fst ∧ x.fst ++ { group := (y.fst.fst.getD x.snd.fst.toNat { id := (0 : Int), parent := (0 : Int), name := ByteArray.empty, control := (0 : Int), kind := (0 : Int), owner := (0 : Int) : Nod }).id, own := y_2.fst : Chg } :: NilL Chg = x'.fst ∧ y.fst.snd = y.fst.snd ∧ y.fst.fst = y.fst.fst) ∧ (Decidable.decide ((0 : Int) < y_2.fst) = Bool.false → i64R (x.snd.fst + (1 : Int)) ∧ ∃ (x' : List Chg × Int × Int), ((ChgOK y.fst.fst x'.fst ∧ (↑x'.fst.length : Int) ≤ x'.snd.fst ∧ ∀ (i j : Nat), i < x'.fst.length → x'.snd.fst ≤ (↑j : Int) → j < y.fst.fst.length → (gn x'.fst i).group < (nd y.fst.fst j).id) ∧ (0 : Int) ≤ x'.snd.fst ∧ x'.snd.fst ≤ (↑y.fst.fst.length : Int) ∧ DOK (L, x'.snd.snd)) ∧ ((↑y.fst.fst.length : Int) - x'.snd.fst).toNat < ((↑y.fst.fst.length : Int) - x.snd.fst).toNat ∧ x.snd.fst + (1 : Int) = x'.snd.fst ∧ L = L ∧ y_2.snd = x'.snd.snd ∧ y_1.fst = y_1.fst ∧ x.fst = x'.fst ∧ y.fst.snd = y.fst.snd ∧ y.fst.fst = y.fst.fst)) ∧ (Decidable.decide (x.snd.fst < (↑y.fst.fst.length : Int)) = Bool.false → (∃ (x_1 : Int), (0 : Int) ≤ x_1 ∧ (0 : Int) = x_1 ∧ y_1.fst = y_1.fst ∧ x.fst = x.fst ∧ y.fst.snd = y.fst.snd ∧ y.fst.fst = y.fst.fst) ∧ ∀ (x_1 : Int), (0 : Int) ≤ x_1 → (Decidable.decide (x_1 < (↑y.fst.fst.length : Int)) = Bool.true → ((0 : Int) ≤ x_1 ∧ x_1 < (↑y.fst.fst.length : Int)) ∧ (WfN y.fst.fst ∧ y_1.fst.length ≤ (4611686018427387904 : Nat) ∧ x.fst.length ≤ (4611686018427387904 : Nat)) ∧ ((0 : Int) ≤ x_1 ∧ x_1 < (↑y.fst.fst.length : Int)) ∧ True ∧ (∃ (x_2 : Int), ((0 : Int) ≤ x_2 ∧ x_2 ≤ (↑(ancR y.fst.fst y.fst.snd (y.fst.fst.getD x_1.toNat { id := (0 : Int), parent := (0 : Int), name := ByteArray.empty, control := (0 : Int), kind := (0 : Int), owner := (0 : Int) : Nod }).id).length : Int)) ∧ (0 : Int) = x_2 ∧ Bool.true = (List.take x_2.toNat (ancR y.fst.fst y.fst.snd (y.fst.fst.getD x_1.toNat { id := (0 : Int), parent := (0 : Int), name := ByteArray.empty, control := (0 : Int), kind := (0 : Int), owner := (0 : Int) : Nod }).id)).all (wantB y.fst.fst y_1.fst x.fst) ∧ ancR y.fst.fst y.fst.snd (y.fst.fst.getD x_1.toNat { id := (0 : Int), parent := (0 : Int), name := ByteArray.empty, control := (0 : Int), kind := (0 : Int), owner := (0 : Int) : Nod }).id = ancR y.fst.fst y.fst.snd (y.fst.fst.getD x_1.toNat { id := (0 : Int), parent := (0 : Int), name := ByteArray.empty, control := (0 : Int), kind := (0 : Int), owner := (0 : Int) : Nod }).id ∧ y_1.fst = y_1.fst ∧ x.fst = x.fst ∧ y.fst.snd = y.fst.snd ∧ y.fst.fst = y.fst.fst) ∧ ∀ (x_2 : Int), (0 : Int) ≤ x_2 ∧ x_2 ≤ (↑(ancR y.fst.fst y.fst.snd (y.fst.fst.getD x_1.toNat { id := (0 : Int), parent := (0 : Int), name := ByteArray.empty, control := (0 : Int), kind := (0 : Int), owner := (0 : Int) : Nod }).id).length : Int) → (Decidable.decide (x_2 < (↑(ancR y.fst.fst y.fst.snd (y.fst.fst.getD x_1.toNat { id := (0 : Int), parent := (0 : Int), name := ByteArray.empty, control := (0 : Int), kind := (0 : Int), owner := (0 : Int) : Nod }).id).length : Int)) = Bool.true → (∃ (x_3 : Int), ((0 : Int) ≤ x_3 ∧ x_3 ≤ (↑x.fst.length : Int)) ∧ (0 : Int) = x_3 ∧ (0 : Int) = wSum y.fst.fst x.fst ((ancR y.fst.fst y.fst.snd (y.fst.fst.getD x_1.toNat { id := (0 : Int), parent := (0 : Int), name := ByteArray.empty, control := (0 : Int), kind := (0 : Int), owner := (0 : Int) : Nod }).id).getD x_2.toNat (0 : Int)) x_3.toNat ∧ ancR y.fst.fst y.fst.snd (y.fst.fst.getD x_1.toNat { id := (0 : Int), parent := (0 : Int), name := ByteArray.empty, control := (0 : Int), kind := (0 : Int), owner := (0 : Int) : Nod }).id = ancR y.fst.fst y.fst.snd (y.fst.fst.getD x_1.toNat { id := (0 : Int), parent := (0 : Int), name := ByteArray.empty, control := (0 : Int), kind := (0 : Int), owner := (0 : Int) : Nod }).id ∧ y_1.fst = y_1.fst ∧ x.fst = x.fst ∧ y.fst.snd = y.fst.snd ∧ y.fst.fst = y.fst.fst) ∧ ∀ (x_3 : Int), (0 : Int) ≤ x_3 ∧ x_3 ≤ (↑x.fst.length : Int) → (Decidable.decide (x_3 < (↑x.fst.length : Int)) = Bool.true → ((0 : Int) ≤ x_3 ∧ x_3 < (↑x.fst.length : Int)) ∧ True ∧ ((0 : Int) ≤ x_2 ∧ x_2 < (↑(ancR y.fst.fst y.fst.snd (y.fst.fst.getD x_1.toNat { id := (0 : Int), parent := (0 : Int), name := ByteArray.empty, control := (0 : Int), kind := (0 : Int), owner := (0 : Int) : Nod }).id).length : Int)) ∧ (ancR y.fst.fst y.fst.snd (x.fst.getD x_3.toNat { group := (0 : Int), own := (0 : Int) : Chg }).group).length ≤ (4611686018427387904 : Nat) ∧ (memB (ancR y.fst.fst y.fst.snd (x.fst.getD x_3.toNat { group := (0 : Int), own := (0 : Int) : Chg }).group) ((ancR y.fst.fst y.fst.snd (y.fst.fst.getD x_1.toNat { id := (0 : Int), parent := (0 : Int), name := ByteArray.empty, control := (0 : Int), kind := (0 : Int), owner := (0 : Int) : Nod }).id).getD x_2.toNat (0 : Int)) = Bool.true → ((0 : Int) ≤ x_3 ∧ x_3 < (↑x.fst.length : Int)) ∧ i64R (wSum y.fst.fst x.fst ((ancR y.fst.fst y.fst.snd (y.fst.fst.getD x_1.toNat { id := (0 : Int), parent := (0 : Int), name := ByteArray.empty, control := (0 : Int), kind := (0 : Int), owner := (0 : Int) : Nod }).id).getD x_2.toNat (0 : Int)) x_3.toNat + (x.fst.getD x_3.toNat { group := (0 : Int), own := (0 : Int) : Chg }).own) ∧ i64R (x_3 + (1 : Int)) ∧ ∃ (x' : Int), ((0 : Int) ≤ x' ∧ x' ≤ (↑x.fst.length : Int)) ∧ ((↑x.fst.length : Int) - x').toNat < ((↑x.fst.length : Int) - x_3).toNat ∧ x_3 + (1 : Int) = x' ∧ wSum y.fst.fst x.fst ((ancR y.fst.fst y.fst.snd (y.fst.fst.getD x_1.toNat { id := (0 : Int), parent := (0 : Int), name := ByteArray.empty, control := (0 : Int), kind := (0 : Int), owner := (0 : Int) : Nod }).id).getD x_2.toNat (0 : Int)) x_3.toNat + (x.fst.getD x_3.toNat { group := (0 : Int), own := (0 : Int) : Chg }).own = wSum y.fst.fst x.fst ((ancR y.fst.fst y.fst.snd (y.fst.fst.getD x_1.toNat { id := (0 : Int), parent := (0 : Int), name := ByteArray.empty, control := (0 : Int), kind := (0 : Int), owner := (0 : Int) : Nod }).id).getD x_2.toNat (0 : Int)) x'.toNat ∧ ancR y.fst.fst y.fst.snd (y.fst.fst.getD x_1.toNat { id := (0 : Int), parent := (0 : Int), name := ByteArray.empty, control := (0 : Int), kind := (0 : Int), owner := (0 : Int) : Nod }).id = ancR y.fst.fst y.fst.snd (y.fst.fst.getD x_1.toNat { id := (0 : Int), parent := (0 : Int), name := ByteArray.empty, control := (0 : Int), kind := (0 : Int), owner := (0 : Int) : Nod }).id ∧ y_1.fst = y_1.fst ∧ x.fst = x.fst ∧ y.fst.snd = y.fst.snd ∧ y.fst.fst = y.fst.fst) ∧ (memB (ancR y.fst.fst y.fst.snd (x.fst.getD x_3.toNat { group := (0 : Int), own := (0 : Int) : Chg }).group) ((ancR y.fst.fst y.fst.snd (y.fst.fst.getD x_1.toNat { id := (0 : Int), parent := (0 : Int), name := ByteArray.empty, control := (0 : Int), kind := (0 : Int), owner := (0 : Int) : Nod }).id).getD x_2.toNat (0 : Int)) = Bool.false → i64R (x_3 + (1 : Int)) ∧ ∃ (x' : Int), ((0 : Int) ≤ x' ∧ x' ≤ (↑x.fst.length : Int)) ∧ ((↑x.fst.length : Int) - x').toNat < ((↑x.fst.length : Int) - x_3).toNat ∧ x_3 + (1 : Int) = x' ∧ wSum y.fst.fst x.fst ((ancR y.fst.fst y.fst.snd (y.fst.fst.getD x_1.toNat { id := (0 : Int), parent := (0 : Int), name := ByteArray.empty, control := (0 : Int), kind := (0 : Int), owner := (0 : Int) : Nod }).id).getD x_2.toNat (0 : Int)) x_3.toNat = wSum y.fst.fst x.fst ((ancR y.fst.fst y.fst.snd (y.fst.fst.getD x_1.toNat { id := (0 : Int), parent := (0 : Int), name := ByteArray.empty, control := (0 : Int), kind := (0 : Int), owner := (0 : Int) : Nod }).id).getD x_2.toNat (0 : Int)) x'.toNat ∧ ancR y.fst.fst y.fst.snd (y.fst.fst.getD x_1.toNat { id := (0 : Int), parent := (0 : Int), name := ByteArray.empty, control := (0 : Int), kind := (0 : Int), owner := (0 : Int) : Nod }).id = ancR y.fst.fst y.fst.snd (y.fst.fst.getD x_1.toNat { id := (0 : Int), parent := (0 : Int), name := ByteArray.empty, control := (0 : Int), kind := (0 : Int), owner := (0 : Int) : Nod }).id ∧ y_1.fst = y_1.fst ∧ x.fst = x.fst ∧ y.fst.snd = y.fst.snd ∧ y.fst.fst = y.fst.fst)) ∧ (Decidable.decide (x_3 < (↑x.fst.length : Int)) = Bool.false → ((List.take x_2.toNat (ancR y.fst.fst y.fst.snd (y.fst.fst.getD x_1.toNat { id := (0 : Int), parent := (0 : Int), name := ByteArray.empty, control := (0 : Int), kind := (0 : Int), owner := (0 : Int) : Nod }).id)).all (wantB y.fst.fst y_1.fst x.fst) = Bool.true → (List.take x_2.toNat (ancR y.fst.fst y.fst.snd (y.fst.fst.getD x_1.toNat { id := (0 : Int), parent := (0 : Int), name := ByteArray.empty, control := (0 : Int), kind := (0 : Int), owner := (0 : Int) : Nod }).id)).all (wantB y.fst.fst y_1.fst x.fst) = Bool.true) ∧ ((List.take x_2.toNat (ancR y.fst.fst y.fst.snd (y.fst.fst.getD x_1.toNat { id := (0 : Int), parent := (0 : Int), name := ByteArray.empty, control := (0 : Int), kind := (0 : Int), owner := (0 : Int) : Nod }).id)).all (wantB y.fst.fst y_1.fst x.fst) = Bool.true → (List.take x_2.toNat (ancR y.fst.fst y.fst.snd (y.fst.fst.getD x_1.toNat { id := (0 : Int), parent := (0 : Int), name := ByteArray.empty, control := (0 : Int), kind := (0 : Int), owner := (0 : Int) : Nod }).id)).all (wantB y.fst.fst y_1.fst x.fst) = Bool.true) ∧ ((List.take x_2.toNat (ancR y.fst.fst y.fst.snd (y.fst.fst.getD x_1.toNat { id := (0 : Int), parent := (0 : Int), name := ByteArray.empty, control := (0 : Int), kind := (0 : Int), owner := (0 : Int) : Nod }).id)).all (wantB y.fst.fst y_1.fst x.fst) = Bool.true → (0 : Int) ≤ x_2 ∧ x_2 < (↑(ancR y.fst.fst y.fst.snd (y.fst.fst.getD x_1.toNat { id := (0 : Int), parent := (0 : Int), name := ByteArray.empty, control := (0 : Int), kind := (0 : Int), owner := (0 : Int) : Nod }).id).length : Int)) ∧ ((List.take x_2.toNat (ancR y.fst.fst y.fst.snd (y.fst.fst.getD x_1.toNat { id := (0 : Int), parent := (0 : Int), name := ByteArray.empty, control := (0 : Int), kind := (0 : Int), owner := (0 : Int) : Nod }).id)).all (wantB y.fst.fst y_1.fst x.fst) = Bool.true → (List.take x_2.toNat (ancR y.fst.fst y.fst.snd (y.fst.fst.getD x_1.toNat { id := (0 : Int), parent := (0 : Int), name := ByteArray.empty, control := (0 : Int), kind := (0 : Int), owner := (0 : Int) : Nod }).id)).all (wantB y.fst.fst y_1.fst x.fst) = Bool.true) ∧ ((List.take x_2.toNat (ancR y.fst.fst y.fst.snd (y.fst.fst.getD x_1.toNat { id := (0 : Int), parent := (0 : Int), name := ByteArray.empty, control := (0 : Int), kind := (0 : Int), owner := (0 : Int) : Nod }).id)).all (wantB y.fst.fst y_1.fst x.fst) = Bool.true → (List.take x_2.toNat (ancR y.fst.fst y.fst.snd (y.fst.fst.getD x_1.toNat { id := (0 : Int), parent := (0 : Int), name := ByteArray.empty, control := (0 : Int), kind := (0 : Int), owner := (0 : Int) : Nod }).id)).all (wantB y.fst.fst y_1.fst x.fst) = Bool.true) ∧ ((List.take x_2.toNat (ancR y.fst.fst y.fst.snd (y.fst.fst.getD x_1.toNat { id := (0 : Int), parent := (0 : Int), name := ByteArray.empty, control := (0 : Int), kind := (0 : Int), owner := (0 : Int) : Nod }).id)).all (wantB y.fst.fst y_1.fst x.fst) = Bool.true → (List.take x_2.toNat (ancR y.fst.fst y.fst.snd (y.fst.fst.getD x_1.toNat { id := (0 : Int), parent := (0 : Int), name := ByteArray.empty, control := (0 : Int), kind := (0 : Int), owner := (0 : Int) : Nod }).id)).all (wantB y.fst.fst y_1.fst x.fst) = Bool.true) ∧ ((List.take x_2.toNat (ancR y.fst.fst y.fst.snd (y.fst.fst.getD x_1.toNat { id := (0 : Int), parent := (0 : Int), name := ByteArray.empty, control := (0 : Int), kind := (0 : Int), owner := (0 : Int) : Nod }).id)).all (wantB y.fst.fst y_1.fst x.fst) = Bool.true → y_1.fst.length ≤ (4611686018427387904 : Nat)) ∧ ((List.take x_2.toNat (ancR y.fst.fst y.fst.snd (y.fst.fst.getD x_1.toNat { id := (0 : Int), parent := (0 : Int), name := ByteArray.empty, control := (0 : Int), kind := (0 : Int), owner := (0 : Int) : Nod }).id)).all (wantB y.fst.fst y_1.fst x.fst) = Bool.true → (List.take x_2.toNat (ancR y.fst.fst y.fst.snd (y.fst.fst.getD x_1.toNat { id := (0 : Int), parent := (0 : Int), name := ByteArray.empty, control := (0 : Int), kind := (0 : Int), owner := (0 : Int) : Nod }).id)).all (wantB y.fst.fst y_1.fst x.fst) = Bool.true) ∧ ((List.take x_2.toNat (ancR y.fst.fst y.fst.snd (y.fst.fst.getD x_1.toNat { id := (0 : Int), parent := (0 : Int), name := ByteArray.empty, control := (0 : Int), kind := (0 : Int), owner := (0 : Int) : Nod }).id)).all (wantB y.fst.fst y_1.fst x.fst) = Bool.true → (List.take x_2.toNat (ancR y.fst.fst y.fst.snd (y.fst.fst.getD x_1.toNat { id := (0 : Int), parent := (0 : Int), name := ByteArray.empty, control := (0 : Int), kind := (0 : Int), owner := (0 : Int) : Nod }).id)).all (wantB y.fst.fst y_1.fst x.fst) = Bool.true) ∧ ((List.take x_2.toNat (ancR y.fst.fst y.fst.snd (y.fst.fst.getD x_1.toNat { id := (0 : Int), parent := (0 : Int), name := ByteArray.empty, control := (0 : Int), kind := (0 : Int), owner := (0 : Int) : Nod }).id)).all (wantB y.fst.fst y_1.fst x.fst) = Bool.true → (List.take x_2.toNat (ancR y.fst.fst y.fst.snd (y.fst.fst.getD x_1.toNat { id := (0 : Int), parent := (0 : Int), name := ByteArray.empty, control := (0 : Int), kind := (0 : Int), owner := (0 : Int) : Nod }).id)).all (wantB y.fst.fst y_1.fst x.fst) = Bool.true) ∧ ((List.take x_2.toNat (ancR y.fst.fst y.fst.snd (y.fst.fst.getD x_1.toNat { id := (0 : Int), parent := (0 : Int), name := ByteArray.empty, control := (0 : Int), kind := (0 : Int), owner := (0 : Int) : Nod }).id)).all (wantB y.fst.fst y_1.fst x.fst) = Bool.true → (List.take x_2.toNat (ancR y.fst.fst y.fst.snd (y.fst.fst.getD x_1.toNat { id := (0 : Int), parent := (0 : Int), name := ByteArray.empty, control := (0 : Int), kind := (0 : Int), owner := (0 : Int) : Nod }).id)).all (wantB y.fst.fst y_1.fst x.fst) = Bool.true) ∧ i64R (x_2 + (1 : Int)) ∧ ∃ (x' : Int), ((0 : Int) ≤ x' ∧ x' ≤ (↑(ancR y.fst.fst y.fst.snd (y.fst.fst.getD x_1.toNat { id := (0 : Int), parent := (0 : Int), name := ByteArray.empty, control := (0 : Int), kind := (0 : Int), owner := (0 : Int) : Nod }).id).length : Int)) ∧ ((↑(ancR y.fst.fst y.fst.snd (y.fst.fst.getD x_1.toNat { id := (0 : Int), parent := (0 : Int), name := ByteArray.empty, control := (0 : Int), kind := (0 : Int), owner := (0 : Int) : Nod }).id).length : Int) - x').toNat < ((↑(ancR y.fst.fst y.fst.snd (y.fst.fst.getD x_1.toNat { id := (0 : Int), parent := (0 : Int), name := ByteArray.empty, control := (0 : Int), kind := (0 : Int), owner := (0 : Int) : Nod }).id).length : Int) - x_2).toNat ∧ x_2 + (1 : Int) = x' ∧ ((List.take x_2.toNat (ancR y.fst.fst y.fst.snd (y.fst.fst.getD x_1.toNat { id := (0 : Int), parent := (0 : Int), name := ByteArray.empty, control := (0 : Int), kind := (0 : Int), owner := (0 : Int) : Nod }).id)).all (wantB y.fst.fst y_1.fst x.fst) && Decidable.decide (wSum y.fst.fst x.fst ((ancR y.fst.fst y.fst.snd (y.fst.fst.getD x_1.toNat { id := (0 : Int), parent := (0 : Int), name := ByteArray.empty, control := (0 : Int), kind := (0 : Int), owner := (0 : Int) : Nod }).id).getD x_2.toNat (0 : Int)) x_3.toNat < (gDep y_1.fst ((ancR y.fst.fst y.fst.snd (y.fst.fst.getD x_1.toNat { id := (0 : Int), parent := (0 : Int), name := ByteArray.empty, control := (0 : Int), kind := (0 : Int), owner := (0 : Int) : Nod }).id).getD x_2.toNat (0 : Int))).depth)) = (List.take x'.toNat (ancR y.fst.fst y.fst.snd (y.fst.fst.getD x_1.toNat { id := (0 : Int), parent := (0 : Int), name := ByteArray.empty, control := (0 : Int), kind := (0 : Int), owner := (0 : Int) : Nod }).id)).all (wantB y.fst.fst y_1.fst x.fst) ∧ ancR y.fst.fst y.fst.snd (y.fst.fst.getD x_1.toNat { id := (0 : Int), parent := (0 : Int), name := ByteArray.empty, control := (0 : Int), kind := (0 : Int), owner := (0 : Int) : Nod }).id = ancR y.fst.fst y.fst.snd (y.fst.fst.getD x_1.toNat { id := (0 : Int), parent := (0 : Int), name := ByteArray.empty, control := (0 : Int), kind := (0 : Int), owner := (0 : Int) : Nod }).id ∧ y_1.fst = y_1.fst ∧ x.fst = x.fst ∧ y.fst.snd = y.fst.snd ∧ y.fst.fst = y.fst.fst)) ∧ (Decidable.decide (x_2 < (↑(ancR y.fst.fst y.fst.snd (y.fst.fst.getD x_1.toNat { id := (0 : Int), parent := (0 : Int), name := ByteArray.empty, control := (0 : Int), kind := (0 : Int), owner := (0 : Int) : Nod }).id).length : Int)) = Bool.false → ((!Decidable.decide (alwE y.fst.fst y.fst.snd y_1.fst x.fst (y.fst.fst.getD x_1.toNat { id := (0 : Int), parent := (0 : Int), name := ByteArray.empty, control := (0 : Int), kind := (0 : Int), owner := (0 : Int) : Nod }).id = (0 : Int))) = Bool.false → (!Decidable.decide (alwE y.fst.fst y.fst.snd y_1.fst x.fst (y.fst.fst.getD x_1.toNat { id := (0 : Int), parent := (0 : Int), name := ByteArray.empty, control := (0 : Int), kind := (0 : Int), owner := (0 : Int) : Nod }).id = (0 : Int))) = Bool.false) ∧ ((!Decidable.decide (alwE y.fst.fst y.fst.snd y_1.fst x.fst (y.fst.fst.getD x_1.toNat { id := (0 : Int), parent := (0 : Int), name := ByteArray.empty, control := (0 : Int), kind := (0 : Int), owner := (0 : Int) : Nod }).id = (0 : Int))) = Bool.false → (!Decidable.decide (alwE y.fst.fst y.fst.snd y_1.fst x.fst (y.fst.fst.getD x_1.toNat { id := (0 : Int), parent := (0 : Int), name := ByteArray.empty, control := (0 : Int), kind := (0 : Int), owner := (0 : Int) : Nod }).id = (0 : Int))) = Bool.false) ∧ ((!Decidable.decide (alwE y.fst.fst y.fst.snd y_1.fst x.fst (y.fst.fst.getD x_1.toNat { id := (0 : Int), parent := (0 : Int), name := ByteArray.empty, control := (0 : Int), kind := (0 : Int), owner := (0 : Int) : Nod }).id = (0 : Int))) = Bool.false → (!Decidable.decide (alwE y.fst.fst y.fst.snd y_1.fst x.fst (y.fst.fst.getD x_1.toNat { id := (0 : Int), parent := (0 : Int), name := ByteArray.empty, control := (0 : Int), kind := (0 : Int), owner := (0 : Int) : Nod }).id = (0 : Int))) = Bool.false) ∧ ((!Decidable.decide (alwE y.fst.fst y.fst.snd y_1.fst x.fst (y.fst.fst.getD x_1.toNat { id := (0 : Int), parent := (0 : Int), name := ByteArray.empty, control := (0 : Int), kind := (0 : Int), owner := (0 : Int) : Nod }).id = (0 : Int)) || alwB y.fst.fst y.fst.snd y_1.fst x.fst (y.fst.fst.getD x_1.toNat { id := (0 : Int), parent := (0 : Int), name := ByteArray.empty, control := (0 : Int), kind := (0 : Int), owner := (0 : Int) : Nod }).id != (List.take x_2.toNat (ancR y.fst.fst y.fst.snd (y.fst.fst.getD x_1.toNat { id := (0 : Int), parent := (0 : Int), name := ByteArray.empty, control := (0 : Int), kind := (0 : Int), owner := (0 : Int) : Nod }).id)).all (wantB y.fst.fst y_1.fst x.fst)) = Bool.true → ∃ (y : Unit), True ∧ Bool.false = Bool.true) ∧ ((!Decidable.decide (alwE y.fst.fst y.fst.snd y_1.fst x.fst (y.fst.fst.getD x_1.toNat { id := (0 : Int), parent := (0 : Int), name := ByteArray.empty, control := (0 : Int), kind := (0 : Int), owner := (0 : Int) : Nod }).id = (0 : Int)) || alwB y.fst.fst y.fst.snd y_1.fst x.fst (y.fst.fst.getD x_1.toNat { id := (0 : Int), parent := (0 : Int), name := ByteArray.empty, control := (0 : Int), kind := (0 : Int), owner := (0 : Int) : Nod }).id != (List.take x_2.toNat (ancR y.fst.fst y.fst.snd (y.fst.fst.getD x_1.toNat { id := (0 : Int), parent := (0 : Int), name := ByteArray.empty, control := (0 : Int), kind := (0 : Int), owner := (0 : Int) : Nod }).id)).all (wantB y.fst.fst y_1.fst x.fst)) = Bool.false → i64R (x_1 + (1 : Int)) ∧ ∃ (x' : Int), (0 : Int) ≤ x' ∧ ((4611686018427387904 : Int) - x').toNat < ((4611686018427387904 : Int) - x_1).toNat ∧ x_1 + (1 : Int) = x' ∧ y_1.fst = y_1.fst ∧ x.fst = x.fst ∧ y.fst.snd = y.fst.snd ∧ y.fst.fst = y.fst.fst))) ∧ (Decidable.decide (x_1 < (↑y.fst.fst.length : Int)) = Bool.false → True ∧ ∃ (y : Unit), True ∧ Bool.true = Bool.true)))) = sLawL1.vc (EV Try.prog [(13, sLight.spec), (33, sSane33.spec), (15, sRoll.spec), (16, sTree.spec), (34, sDeps.spec), (22, sPick.spec), (40, sAlw.spec), (41, sAnc.spec), (28, sHasI.spec), (32, sGet.spec)] (invsS [(8, inv12a L), (14, inv12b), (20, inv12c), (24, inv12d)]) noInv) Try.f12 (L, ()) := by kernel_rfl
  rw [← e]
  clear e
  simp only [imp_self, true_and, and_true, exists_const, implies_true, gd1, gd2, gd3, gd4, gd5, gd6, NilL_eq ]
  simp only [Prod.forall, Prod.exists, exists_const, implies_true, not_true_eq_false, not_false_eq_true, or_self, or_false, false_or, or_true, true_or, and_false, false_and, forall_const, true_and, and_true, i64R, imp_self, Int.reduceLE, Int.reduceLT, Int.reduceNeg, false_implies, true_implies, decide_eq_true_eq, decide_eq_false_iff_not, Bool.not_eq_true', Bool.not_eq_false', Bool.true_eq_false, Bool.false_eq_true, Bool.and_eq_true, Bool.or_eq_true, NilL_eq, Bool.and_eq_false_iff, Bool.or_eq_false_iff ]
  simp only [nd_fold, gn_fold]
  intro hL
  have hd : ∀ j : Int, 0 ≤ j → j ≤ L.length → DOK (L, j) := fun j h1 h2 => ⟨h1, h2, by show L.length ≤ 600; omega⟩
  refine ⟨hd 0 (by omega) (by omega), fun l n j1 h1 => ⟨⟨hd _ (by omega) (by omega), h1.1.1.chk⟩, fun ds j2 h2 => ?_⟩⟩
  obtain ⟨⟨ht, hlen⟩, _⟩ := h1
  obtain ⟨ho, _⟩ := h2
  have hc := ht.chk
  have ha := hc.asc
  have l2 := hc.len2
  have dl := ho.len
  refine ⟨⟨[], 0, j2, ⟨⟨⟨fun i _ hi => (by simp at hi), fun i hi => (by simp at hi), fun i hi => (by simp at hi)⟩, by simp, fun i j hi => (by simp at hi)⟩, by omega, by omega, hd _ (by omega) (by omega)⟩, rfl, rfl, rfl⟩, fun gs i j3 hi => ?_⟩
  obtain ⟨⟨hg, hgl, hgn⟩, hi0, hi1, hj3⟩ := hi
  have k3 : 0 ≤ j3 := hj3.lo
  refine ⟨fun hlt => ⟨⟨hj3, by simp, by simp⟩, fun v j4 hv => ⟨fun hp => ⟨by omega, by simp; omega, by omega, _, i + 1, j4, ⟨⟨?_, by simp; omega, fun a c hla hac hc2 => ?_⟩, by omega, by omega, hd _ (by omega) (by omega)⟩, by omega, rfl, rfl, rfl⟩, fun hp => ⟨by omega, gs, i + 1, j4, ⟨⟨hg, by omega, fun a c hla hac hc2 => hgn a c hla (by omega) hc2⟩, by omega, by omega, hd _ (by omega) (by omega)⟩, by omega, rfl, rfl, rfl⟩⟩⟩, fun hge => ⟨⟨0, by omega, rfl⟩, fun x hx0 hx1 => ?_⟩⟩
  · have hv1 := hv.1
    simp only [List.mem_cons, List.not_mem_nil, or_false] at hv1
    exact hg.snoc (fun a hla => hgn a i.toNat hla (by omega) (by omega)) (ids_mem.2 ⟨i.toNat, by omega, rfl⟩) ⟨by show 0 ≤ v; omega, by show v ≤ 256; omega⟩
  · rw [gn_app]
    by_cases c1 : a < gs.length
    · rw [if_pos c1]; exact hgn a c c1 (by omega) hc2
    · have : a = gs.length := by simp at hla; omega
      rw [if_neg c1, if_pos this]
      exact ha.lt _ _ (by omega) hc2
  have hmem : (nd l x.toNat).id ∈ ids l := ids_mem.2 ⟨x.toNat, by omega, rfl⟩
  have e0 : alwE l n ds gs (nd l x.toNat).id = 0 := by
    rw [alwE, if_neg (by rw [dvB_iff.2 ⟨hc, ho⟩]; simp), if_neg (by rw [hg.gv]; simp), if_neg (by rw [hasB_iff.2 hmem]; simp)]
  have eB : alwB l n ds gs (nd l x.toNat).id = (upT l (nd l x.toNat).id).all (wantB l ds gs) := by
    rw [alwB, e0, room_want hg ha]; simp
  have hul := up_len64 hc (nd l x.toNat).id
  simp only [anc_eq hc]
  rw [e0, eB]
  refine ⟨by omega, ⟨hc.wf, by omega, by omega⟩, by omega, ⟨0, by omega, rfl, rfl⟩, fun k hk => ⟨fun hkl => ⟨⟨0, by omega, rfl, rfl⟩, fun q hq => ⟨fun hql => ?_, fun hqg => ⟨fun _ => by omega, fun _ => by omega, by omega, k + 1, by omega, by omega, rfl, ?_⟩⟩⟩, fun hkg => ⟨fun hb => ?_, fun _ => ⟨by omega, x + 1, by omega, by omega, rfl⟩⟩⟩⟩
  · have eq1 : (q + 1).toNat = q.toNat + 1 := by omega
    have hw := wSum_rng hg ((upT l (nd l x.toNat).id).getD k.toNat 0) q.toNat (by omega)
    have ho2 := hg.own q.toNat (by omega)
    have hul2 := up_len64 hc (gn gs q.toNat).group
    refine ⟨by omega, by omega, by omega, fun hm => ⟨by omega, by omega, by omega, q + 1, by omega, by omega, rfl, ?_⟩, fun hm => ⟨by omega, q + 1, by omega, by omega, rfl, ?_⟩⟩
    · rw [eq1, wSum, if_pos hm]
    · rw [eq1, wSum, if_neg (by rw [hm]; simp), Int.add_zero]
  · have eq1 : (k + 1).toNat = k.toNat + 1 := by omega
    have eq2 : q.toNat = gs.length := by omega
    rw [eq1, List.take_add_one, List.getElem?_eq_getElem (by omega)]
    simp only [Option.toList_some, List.all_append, List.all_cons, List.all_nil, Bool.and_true]
    congr 1
    have e3 : (upT l (nd l x.toNat).id)[k.toNat]'(by omega) = (upT l (nd l x.toNat).id).getD k.toNat 0 := by
      rw [List.getD_eq_getElem?_getD, List.getElem?_eq_getElem (by omega), Option.getD_some]
    rw [e3, wantB]
    rw [eq2]
  · rw [List.take_of_length_le (by omega)] at hb
    rcases hb with h | h
    · exact h rfl
    · simp at h
end Go.Proofs.Ytglkagaammnojaa
