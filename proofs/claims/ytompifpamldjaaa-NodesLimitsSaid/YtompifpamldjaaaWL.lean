/-
  Lemmas and contracts on the way to the laws of this seat; each theorem states its own conditions, and there are no others.
-/
import Derived.Test.YtompifpamldjaaaWX
import Derived.Test.YtompifpamldjaaaE29
namespace Go.Proofs.Ytompifpamldjaaa
set_option linter.unusedVariables false
set_option linter.unusedSimpArgs false
set_option linter.unusedVariables false
set_option linter.unusedSimpArgs false
set_option linter.unusedVariables false

/-- The first numbers. -/
def upTo (n : Nat) : List Int := (List.range n).map fun (k : Nat) => (Int.ofNat k)
def chgs (o : Int) (n : Nat) : List Chg := (List.range n).map fun (k : Nat) => ⟨Int.ofNat k + 1, o⟩
def nsts (l : List Int) (n : Nat) : List NSet := (List.range n).map fun (k : Nat) => ⟨Int.ofNat k + 1, l⟩
def fillI (v n i : Int) : List Int := List.replicate i.toNat v ++ List.replicate (n - i).toNat 0
def big9 : List Int := List.replicate 9 0
def fillC (n : Nat) : List Chg := chgs 1 n ++ List.replicate (65 - n) ⟨0, 0⟩
def fillN (n : Nat) : List NSet := nsts [0] n ++ List.replicate (65 - n) ⟨0, []⟩
theorem getD_map {α : Type} {f : Nat → α} {n i : Nat} (d : α) (h : i < n) : ((List.range n).map f).getD i d = f i := by
  rw [List.getD_eq_getElem?_getD, List.getElem?_map, List.getElem?_range h]; rfl
theorem upTo_len (n : Nat) : (upTo n).length = n := by simp [upTo]
theorem chgs_len (o : Int) (n : Nat) : (chgs o n).length = n := by simp [chgs]
theorem nsts_len (l : List Int) (n : Nat) : (nsts l n).length = n := by simp [nsts]
theorem upTo_at {n i : Nat} (h : i < n) : nth (upTo n) i = i := getD_map _ h
theorem upTo_mem {n : Nat} {x : Int} : x ∈ upTo n ↔ ∃ k : Nat, k < n ∧ x = k := by
  rw [upTo, List.mem_map]
  constructor
  · rintro ⟨k, h1, h2⟩; exact ⟨k, List.mem_range.1 h1, h2.symm⟩
  · rintro ⟨k, h1, h2⟩; exact ⟨k, List.mem_range.2 h1, h2.symm⟩
theorem upTo_succ (n : Nat) : upTo (n + 1) = upTo n ++ [(n : Int)] := by rw [upTo, List.range_succ, List.map_append]; rfl
theorem chgs_succ (o : Int) (n : Nat) : chgs o (n + 1) = chgs o n ++ [⟨(n : Int) + 1, o⟩] := by rw [chgs, List.range_succ, List.map_append]; rfl
theorem nsts_succ (l : List Int) (n : Nat) : nsts l (n + 1) = nsts l n ++ [⟨(n : Int) + 1, l⟩] := by rw [nsts, List.range_succ, List.map_append]; rfl
theorem upTo_asc : ∀ n : Nat, Asc (upTo n) n
  | 0 => Asc.nil _
  | n + 1 => by rw [upTo_succ]; exact (upTo_asc n).snoc (by omega)
theorem chgs_grp {o : Int} {n i : Nat} (h : i < n) : grpAt (chgs o n) i = (i : Int) + 1 := congrArg Chg.grp (getD_map (⟨0, 0⟩ : Chg) h)
theorem chgs_own {o : Int} {n i : Nat} (h : i < n) : ownAt (chgs o n) i = o := congrArg Chg.own (getD_map (⟨0, 0⟩ : Chg) h)
theorem nsts_grp {l : List Int} {n i : Nat} (h : i < n) : setAt (nsts l n) i = (i : Int) + 1 := congrArg NSet.grp (getD_map (⟨0, []⟩ : NSet) h)
theorem nsts_nds {l : List Int} {n i : Nat} (h : i < n) : nodesAt (nsts l n) i = l := congrArg NSet.nodes (getD_map (⟨0, []⟩ : NSet) h)
theorem fillI_len {v n i : Int} (h : 0 ≤ i ∧ i ≤ n) : ((fillI v n i).length : Int) = n := by simp [fillI]; omega
theorem fillI_zero {v n : Int} : List.replicate n.toNat 0 = fillI v n 0 := by simp [fillI]
theorem fillI_set {v n i : Int} (h : 0 ≤ i ∧ i < n) : (fillI v n i).set i.toNat v = fillI v n (i + 1) := by
  have e1 : (i + 1).toNat = i.toNat + 1 := by omega
  have e2 : (n - i).toNat = (n - (i + 1)).toNat + 1 := by omega
  rw [fillI, fillI, e1, e2, set_mid]
theorem fillI_all {v n : Int} : fillI v n n = List.replicate n.toNat v := by simp [fillI]
theorem fillC_len {n : Nat} (h : n ≤ 65) : (fillC n).length = 65 := by simp [fillC, chgs_len]; omega
theorem fillN_len {n : Nat} (h : n ≤ 65) : (fillN n).length = 65 := by simp [fillN, nsts_len]; omega
theorem set_tail {α : Type} (l : List α) (d x : α) (k : Nat) : (l ++ List.replicate (k + 1) d).set l.length x = (l ++ [x]) ++ List.replicate k d := by
  rw [List.set_append_right _ _ (Nat.le_refl _), Nat.sub_self, List.replicate_succ, List.set_cons_zero, List.append_assoc]; rfl
theorem fillC_set {n : Nat} (h : n < 65) : (fillC n).set n ⟨(n : Int) + 1, 1⟩ = fillC (n + 1) := by
  have e : 65 - n = (65 - (n + 1)) + 1 := by omega
  have := set_tail (chgs 1 n) ⟨0, 0⟩ ⟨(n : Int) + 1, 1⟩ (65 - (n + 1))
  rw [chgs_len] at this
  rw [fillC, e, this, fillC, chgs_succ]
theorem fillN_set {n : Nat} (h : n < 65) : (fillN n).set n ⟨(n : Int) + 1, [0]⟩ = fillN (n + 1) := by
  have e : 65 - n = (65 - (n + 1)) + 1 := by omega
  have := set_tail (nsts [0] n) ⟨0, []⟩ ⟨(n : Int) + 1, [0]⟩ (65 - (n + 1))
  rw [nsts_len] at this
  rw [fillN, e, this, fillN, nsts_succ]
theorem sumF_const (c : Int) (n : Nat) : sumF (fun _ => c) n = c * n := by
  induction n with
  | zero => simp [sumF]
  | succ n ih =>
    rw [sumF, ih]
    have e : c * ((n + 1 : Nat) : Int) = c * n + c := by rw [Int.natCast_add, Int.mul_add]; simp
    rw [e]
theorem upTo_ne {n : Nat} (h : 1 ≤ n) : upTo n ≠ [] := fun e => by
  have := upTo_len n
  rw [e] at this; simp at this; omega
theorem vokL {n m : Nat} {o v : Int} (h1 : 1 ≤ n) (h8 : n ≤ 8) (hm : m ≤ 64) (ho : 1 ≤ o ∧ o ≤ 16777216) (hv : 0 ≤ v ∧ v ≤ 16777216) : VOK (chgs o m) (nsts (upTo n) m) (List.replicate n v) := by
  refine ⟨by simp; omega, by simp; omega, by rw [chgs_len]; omega, by rw [chgs_len, nsts_len], fun j hj => ?_, fun i hi => ?_⟩
  · rw [List.length_replicate] at hj
    rw [nth_repl _ _ _ hj]; exact hv
  · rw [chgs_len] at hi
    unfold chgO
    rw [chgs_grp hi, chgs_own hi, nsts_grp hi, nsts_nds hi, List.length_replicate]
    refine ⟨by omega, fun h0 => ?_, ho.1, ho.2, rfl, upTo_ne h1, upTo_asc n⟩
    rw [chgs_grp (by omega)]; omega
theorem capL {n : Nat} {v : Int} {S : List Int} (h : Asc S n) : (S.map fun x => nth (List.replicate n v) x.toNat).sum = sumF (fun j => if (j : Int) ∈ S then v else 0) n := by
  rw [sum_asc (f := fun j => nth (List.replicate n v) j) h]
  refine sumF_congr fun j hj => ?_
  rw [nth_repl _ _ _ hj]
theorem needL {n m : Nat} {o : Int} {S : List Int} : need (chgs o m) (nsts (upTo n) m) S = if ∀ x ∈ upTo n, x ∈ S then o * m else 0 := by
  unfold need
  rw [chgs_len]
  have e : sumF (fun i => if ∀ x ∈ nodesAt (nsts (upTo n) m) i, x ∈ S then ownAt (chgs o m) i else 0) m = sumF (fun _ => if ∀ x ∈ upTo n, x ∈ S then o else 0) m := sumF_congr fun i hi => by rw [nsts_nds hi, chgs_own hi]
  rw [e, sumF_const]
  split <;> simp
theorem capAll {n : Nat} {v : Int} {S : List Int} (h : Asc S n) (ha : ∀ x ∈ upTo n, x ∈ S) : (S.map fun x => nth (List.replicate n v) x.toNat).sum = v * n := by
  rw [capL h, ← sumF_const]
  refine sumF_congr fun j hj => ?_
  rw [if_pos (ha _ (upTo_mem.2 ⟨j, hj, rfl⟩))]
/-- Demands that fill all nodes exactly are not refused. -/
theorem noRefL {n m : Nat} : ∀ S, ¬ IsRef (chgs n m) (nsts (upTo n) m) (List.replicate n (m : Int)) S := fun S h => by
  have h1 := h.gt
  have ha := h.asc
  rw [List.length_replicate] at ha
  rw [needL] at h1
  split at h1
  · rename_i c
    rw [capAll ha c, Int.mul_comm] at h1
    omega
  · rw [capL ha] at h1
    have : (0 : Int) ≤ sumF (fun j => if (j : Int) ∈ S then (m : Int) else 0) n := sumF_nonneg fun j hj => by split <;> omega
    omega
theorem upTo_sub : ∀ {n : Nat} {S : List Int}, Asc S n → (∀ x ∈ upTo n, x ∈ S) → S = upTo n
  | 0, S, h, _ => by
    cases S with
    | nil => rfl
    | cons a r =>
      have := h 0 (by simp)
      unfold ascO at this
      omega
  | n + 1, S, h, ha => by
    rcases h.cut with ⟨_, h2⟩ | ⟨S', e, h1⟩
    · exact absurd (ha n (upTo_mem.2 ⟨n, by omega, rfl⟩)) h2
    · rw [e, upTo_succ, upTo_sub h1 fun x hx => ?_]
      obtain ⟨k, hk, ek⟩ := upTo_mem.1 hx
      have := ha x (upTo_mem.2 ⟨k, by omega, ek⟩)
      rw [e, List.mem_append, List.mem_singleton] at this
      rcases this with h | h
      · exact h
      · omega
theorem sumF_split {f g : Nat → Int} {n k : Nat} (hk : k < n) (h : ∀ i, i < n → i ≠ k → f i = g i) : sumF f n = sumF g n + (f k - g k) := by
  have key : ∀ m, m ≤ n → sumF f m = sumF g m + if k < m then f k - g k else 0 := fun m => by
    induction m with
    | zero => intro _; simp [sumF]
    | succ m ih =>
      intro hm
      rw [sumF, sumF, ih (by omega)]
      by_cases e : m = k
      · subst e
        rw [if_neg (Nat.lt_irrefl m), if_pos (Nat.lt_succ_self m)]; omega
      · rw [h m (by omega) e]
        by_cases c : k < m
        · rw [if_pos c, if_pos (by omega)]; omega
        · rw [if_neg c, if_neg (by omega)]; omega
  have := key n (Nat.le_refl _)
  rw [if_pos hk] at this
  exact this
theorem needM {n m : Nat} {o : Int} {S : List Int} (hm : 1 ≤ m) : need (setOwn (chgs o m) (m - 1) (o + 1)) (nsts (upTo n) m) S = if ∀ x ∈ upTo n, x ∈ S then o * m + 1 else 0 := by
  have hl : (setOwn (chgs o m) (m - 1) (o + 1)).length = m := by simp [setOwn, chgs_len]
  have h0 := needL (n := n) (m := m) (o := o) (S := S)
  unfold need at h0 ⊢
  rw [chgs_len] at h0
  rw [hl, sumF_split (k := m - 1) (g := fun i => if ∀ x ∈ nodesAt (nsts (upTo n) m) i, x ∈ S then ownAt (chgs o m) i else 0) (by omega) fun i hi hne => ?_, h0]
  · rw [setOwn_own (by rw [chgs_len]; omega), if_pos rfl, nsts_nds (by omega), chgs_own (by omega)]
    split <;> omega
  · rw [setOwn_own (by rw [chgs_len]; omega), if_neg hne]
/-- One page more is refused by all nodes. -/
theorem isRefL {n m : Nat} (hm : 1 ≤ m) : IsRef (setOwn (chgs n m) (m - 1) ((n : Int) + 1)) (nsts (upTo n) m) (List.replicate n (m : Int)) (upTo n) := by
  refine ⟨by rw [List.length_replicate]; exact upTo_asc n, ?_⟩
  rw [needM hm, if_pos fun x hx => hx, capAll (upTo_asc n) fun x hx => hx, Int.mul_comm]
  omega
theorem refAll {n m : Nat} (hm : 1 ≤ m) {S : List Int} (h : IsRef (setOwn (chgs n m) (m - 1) ((n : Int) + 1)) (nsts (upTo n) m) (List.replicate n (m : Int)) S) : S = upTo n := by
  have h1 := h.gt
  have ha := h.asc
  rw [List.length_replicate] at ha
  rw [needM hm] at h1
  split at h1
  · rename_i c; exact upTo_sub ha c
  · rw [capL ha] at h1
    have : (0 : Int) ≤ sumF (fun j => if (j : Int) ∈ S then (m : Int) else 0) n := sumF_nonneg fun j hj => by split <;> omega
    omega
theorem sumF_pos {f : Nat → Int} {n : Nat} (h : 0 < sumF f n) : ∃ j, j < n ∧ 0 < f j := by
  induction n with
  | zero => simp [sumF] at h
  | succ n ih =>
    rw [sumF] at h
    by_cases c : 0 < f n
    · exact ⟨n, by omega, c⟩
    · obtain ⟨j, h1, h2⟩ := ih (by omega)
      exact ⟨j, by omega, h2⟩
theorem IsPl.len {C : List Chg} {A : List NSet} {cap : List Int} {p : List Spt} (hv : VOK C A cap) (h : IsPl C A cap p) : C.length ≤ p.length := by
  obtain ⟨M, hM, rfl⟩ := h
  have key : ∀ t, t ≤ C.length → t ≤ (allS C M cap.length t).length := fun t => by
    induction t with
    | zero => intro _; simp
    | succ t ih =>
      intro ht
      have h1 := ih (by omega)
      rw [allS, List.length_append]
      have h2 : 0 < sumF (cell M t) cap.length := by
        rw [hM.row_sum (by omega)]
        have := (hv.chg t (by omega)).2.2.1
        omega
      obtain ⟨j, hj, hp⟩ := sumF_pos h2
      have h3 := mem_spotsR (g := grpAt C t) (row := rowAt M t) (n := cap.length) |>.2 ⟨j, hj, rfl, hp⟩
      have h4 := List.length_pos_of_mem h3
      omega
  exact key C.length (Nat.le_refl _)
theorem vok9 : VOK ([] : List Chg) [] (List.replicate 8 0) := by
  refine ⟨by simp, by simp, by simp, rfl, fun j hj => ?_, fun i hi => by simp at hi⟩
  rw [List.length_replicate] at hj
  rw [nth_repl _ _ _ hj]; omega
theorem vok65 : VOK ((chgs 1 65).drop 1 |>.take 64) ((nsts [0] 65).drop 1 |>.take 64) [9] := by
  have l1 : ((chgs 1 65).drop 1 |>.take 64).length = 64 := by rw [List.length_take, List.length_drop, chgs_len]; omega
  have l2 : ((nsts [0] 65).drop 1 |>.take 64).length = 64 := by rw [List.length_take, List.length_drop, nsts_len]; omega
  have gC : ∀ i, i < 64 → ((chgs 1 65).drop 1 |>.take 64).getD i (⟨0, 0⟩ : Chg) = ⟨((i + 1 : Nat) : Int) + 1, 1⟩ := fun i hi => by
    rw [List.getD_eq_getElem?_getD, List.getElem?_take_of_lt hi, List.getElem?_drop, ← List.getD_eq_getElem?_getD, Nat.add_comm]
    exact getD_map _ (by omega)
  have gN : ∀ i, i < 64 → ((nsts [0] 65).drop 1 |>.take 64).getD i (⟨0, []⟩ : NSet) = ⟨((i + 1 : Nat) : Int) + 1, [0]⟩ := fun i hi => by
    rw [List.getD_eq_getElem?_getD, List.getElem?_take_of_lt hi, List.getElem?_drop, ← List.getD_eq_getElem?_getD, Nat.add_comm]
    exact getD_map _ (by omega)
  have a1 : ∀ i, i < 64 → grpAt ((chgs 1 65).drop 1 |>.take 64) i = ((i + 1 : Nat) : Int) + 1 := fun i hi => congrArg Chg.grp (gC i hi)
  have a2 : ∀ i, i < 64 → ownAt ((chgs 1 65).drop 1 |>.take 64) i = 1 := fun i hi => congrArg Chg.own (gC i hi)
  have a3 : ∀ i, i < 64 → setAt ((nsts [0] 65).drop 1 |>.take 64) i = ((i + 1 : Nat) : Int) + 1 := fun i hi => congrArg NSet.grp (gN i hi)
  have a4 : ∀ i, i < 64 → nodesAt ((nsts [0] 65).drop 1 |>.take 64) i = [0] := fun i hi => congrArg NSet.nodes (gN i hi)
  refine ⟨by simp, by simp, by rw [l1]; omega, by rw [l1, l2], fun j hj => ?_, fun i hi => ?_⟩
  · have : j = 0 := by simp at hj; exact hj
    subst this; decide
  · rw [l1] at hi
    unfold chgO
    rw [a1 i hi, a2 i hi, a3 i hi, a4 i hi]
    refine ⟨by omega, fun h0 => ?_, by omega, by omega, rfl, by simp, ?_⟩
    · rw [a1 _ (by omega)]; omega
    · exact ((Asc.nil 0).snoc (by omega)).up (by decide)
end Go.Proofs.Ytompifpamldjaaa

namespace Go.Proofs.Ytompifpamldjaaa
open Go
set_option linter.unusedVariables false

def sLaw28n : DS := ⟨_, two pkI pkI, fun _ => True, fun _ => .bool true, nou⟩

def inv4a (s : St) : Inv where
  X := Int
  ok := fun i => 0 ≤ i ∧ i ≤ slotI s 0
  sl := fun i => [(8, .int .i64 i), (7, .own 101 0)]
  hp := fun i => [(101, .rows 3 0 (upTo i.toNat))]
  keep := []
  me := fun i => (slotI s 0 - i).toNat
def inv4b (s : St) : Inv where
  X := Int
  ok := fun i => 0 ≤ i ∧ i ≤ slotI s 1
  sl := fun i => [(9, .int .i64 i), (5, .own 101 3), (6, .own 103 4), (7, .irec true 0 (contI s (s.t 7)))]
  hp := fun i => [(101, .rows 41 3 (chgs (slotI s 0) i.toNat)), (103, .rows 43 4 (nsts (contI s (s.t 7)) i.toNat))]
  keep := []
  me := fun i => (slotI s 1 - i).toNat
def inv4c (s : St) : Inv where
  X := Int
  ok := fun i => 0 ≤ i ∧ i ≤ slotI s 0
  sl := fun i => [(11, .int .i64 i), (5, .own 101 3), (6, .own 103 4), (10, .own 105 0)]
  hp := fun i => [(101, .rows 41 3 (contC s (s.t 5))), (103, .rows 43 4 (contN s (s.t 6))), (105, .rows 3 0 (fillI (slotI s 1) (slotI s 0) i))]
  keep := []
  me := fun i => (slotI s 0 - i).toNat
def inv4d (s : St) : Inv where
  X := Int
  ok := fun i => 0 ≤ i ∧ i ≤ 65
  sl := fun i => [(21, .int .i64 i), (18, .own 101 0), (19, .own 103 3), (20, .own 105 4)]
  hp := fun i => [(101, .rows 3 0 big9), (103, .rows 41 3 (fillC i.toNat)), (105, .rows 43 4 (fillN i.toNat))]
  keep := []
  me := fun i => (65 - i).toNat
set_option maxRecDepth 100000 in
theorem vc4 (n m : Int) (hx : True) : sLaw28n.vc (EV Try.prog [(11, sRoll.spec), (14, sNext.spec), (13, sPlace.spec), (17, sSameI.spec), (18, sValid.spec), (10, sSane.spec)] (invsS [(6, inv4a), (10, inv4b), (15, inv4c), (26, inv4d)]) noInv) Try.f4 (n, m, ()) := by
  have e : (True ∧ (DOK (n :: NilL Int, 0) ∧ (8 : Int) ≤ 4611686018427387904) ∧ (∀ (y : Int × Int), true = true) ∧ ∀ (y : Int × Int), ((1 : Int) ≤ 8 → 0 ≤ y.1 ∧ y.1 < 8) ∧ ((8 : Int) < 1 → y.1 = 0) ∧ 0 ≤ y.2 ∧ y.2 ≤ (↑(n :: NilL Int).length : Int) → i64R (1 + y.1) ∧ True ∧ (DOK (m :: NilL Int, 0) ∧ (64 : Int) ≤ 4611686018427387904) ∧ (∀ (y : Int × Int), true = true) ∧ ∀ (y_1 : Int × Int), ((1 : Int) ≤ 64 → 0 ≤ y_1.1 ∧ y_1.1 < 64) ∧ ((64 : Int) < 1 → y_1.1 = 0) ∧ 0 ≤ y_1.2 ∧ y_1.2 ≤ (↑(m :: NilL Int).length : Int) → i64R (1 + y_1.1) ∧ (∃ (x : Int), (0 ≤ x ∧ x ≤ 1 + y.1) ∧ 0 = x ∧ NilL Int = upTo x.toNat) ∧ ∀ (x : Int), 0 ≤ x ∧ x ≤ 1 + y.1 → (decide (x < 1 + y.1) = true → (upTo x.toNat).length + (x :: NilL Int).length ≤ (68719476736 : Nat) ∧ i64R (x + 1) ∧ ∃ (x' : Int), (0 ≤ x' ∧ x' ≤ 1 + y.1) ∧ (1 + y.1 - x').toNat < (1 + y.1 - x).toNat ∧ x + 1 = x' ∧ upTo x.toNat ++ x :: NilL Int = upTo x'.toNat) ∧ (decide (x < 1 + y.1) = false → (∃ (x_1 : Int), (0 ≤ x_1 ∧ x_1 ≤ 1 + y_1.1) ∧ 0 = x_1 ∧ upTo x.toNat = upTo x.toNat ∧ NilL Chg = chgs (1 + y.1) x_1.toNat ∧ NilL NSet = nsts (upTo x.toNat) x_1.toNat) ∧ ∀ (x_1 : Int), 0 ≤ x_1 ∧ x_1 ≤ 1 + y_1.1 → (decide (x_1 < 1 + y_1.1) = true → i64R (x_1 + 1) ∧ (chgs (1 + y.1) x_1.toNat).length + ({ grp := x_1 + 1, own := 1 + y.1 : Chg } :: NilL Chg).length ≤ (68719476736 : Nat) ∧ i64R (x_1 + 1) ∧ (nsts (upTo x.toNat) x_1.toNat).length + ({ grp := x_1 + 1, nodes := upTo x.toNat : NSet } :: NilL NSet).length ≤ (68719476736 : Nat) ∧ i64R (x_1 + 1) ∧ ∃ (x' : Int), (0 ≤ x' ∧ x' ≤ 1 + y_1.1) ∧ (1 + y_1.1 - x').toNat < (1 + y_1.1 - x_1).toNat ∧ x_1 + 1 = x' ∧ upTo x.toNat = upTo x.toNat ∧ chgs (1 + y.1) x_1.toNat ++ { grp := x_1 + 1, own := 1 + y.1 : Chg } :: NilL Chg = chgs (1 + y.1) x'.toNat ∧ nsts (upTo x.toNat) x_1.toNat ++ { grp := x_1 + 1, nodes := upTo x.toNat : NSet } :: NilL NSet = nsts (upTo x.toNat) x'.toNat) ∧ (decide (x_1 < 1 + y_1.1) = false → ((0 : Int) ≤ 1 + y.1 ∧ 1 + y.1 ≤ 1 + y.1 ∧ (↑(8 : Nat) : Int) * (1 + y.1) ≤ 281474976710656 ∧ 1 + y.1 ≤ 1099511627776) ∧ (∃ (x_2 : Int), (0 ≤ x_2 ∧ x_2 ≤ 1 + y.1) ∧ 0 = x_2 ∧ chgs (1 + y.1) x_1.toNat = chgs (1 + y.1) x_1.toNat ∧ nsts (upTo x.toNat) x_1.toNat = nsts (upTo x.toNat) x_1.toNat ∧ List.replicate (1 + y.1).toNat 0 = fillI (1 + y_1.1) (1 + y.1) x_2) ∧ ∀ (x_2 : Int), 0 ≤ x_2 ∧ x_2 ≤ 1 + y.1 → (decide (x_2 < 1 + y.1) = true → (0 ≤ x_2 ∧ x_2 < (↑(fillI (1 + y_1.1) (1 + y.1) x_2).length : Int)) ∧ i64R (x_2 + 1) ∧ ∃ (x' : Int), (0 ≤ x' ∧ x' ≤ 1 + y.1) ∧ (1 + y.1 - x').toNat < (1 + y.1 - x_2).toNat ∧ x_2 + 1 = x' ∧ chgs (1 + y.1) x_1.toNat = chgs (1 + y.1) x_1.toNat ∧ nsts (upTo x.toNat) x_1.toNat = nsts (upTo x.toNat) x_1.toNat ∧ (fillI (1 + y_1.1) (1 + y.1) x_2).set x_2.toNat (1 + y_1.1) = fillI (1 + y_1.1) (1 + y.1) x') ∧ (decide (x_2 < 1 + y.1) = false → Sml (chgs (1 + y.1) x_1.toNat) (nsts (upTo x.toNat) x_1.toNat) (fillI (1 + y_1.1) (1 + y.1) x_2) ∧ (∀ (y : List Spt × List Int × Int), true = true) ∧ ∀ (y_2 : List Spt × List Int × Int), PlaceR (chgs (1 + y.1) x_1.toNat) (nsts (upTo x.toNat) x_1.toNat) (fillI (1 + y_1.1) (1 + y.1) x_2) y_2 → i64R (1 + y_1.1 - 1) ∧ ((0 : Int) ≤ 1 + y_1.1 - 1 ∧ 1 + y_1.1 - 1 < (↑(chgs (1 + y.1) x_1.toNat).length : Int)) ∧ i64R (((chgs (1 + y.1) x_1.toNat).getD (1 + y_1.1 - 1).toNat { grp := 0, own := 0 : Chg }).own + 1) ∧ ((0 : Int) ≤ 1 + y_1.1 - 1 ∧ 1 + y_1.1 - 1 < (↑(chgs (1 + y.1) x_1.toNat).length : Int)) ∧ Sml ((chgs (1 + y.1) x_1.toNat).set (1 + y_1.1 - 1).toNat { grp := ((chgs (1 + y.1) x_1.toNat).getD (1 + y_1.1 - 1).toNat { grp := 0, own := 0 : Chg }).grp, own := ((chgs (1 + y.1) x_1.toNat).getD (1 + y_1.1 - 1).toNat { grp := 0, own := 0 : Chg }).own + 1 : Chg }) (nsts (upTo x.toNat) x_1.toNat) (fillI (1 + y_1.1) (1 + y.1) x_2) ∧ (∀ (y : List Spt × List Int × Int), true = true) ∧ ∀ (y_3 : List Spt × List Int × Int), PlaceR ((chgs (1 + y.1) x_1.toNat).set (1 + y_1.1 - 1).toNat { grp := ((chgs (1 + y.1) x_1.toNat).getD (1 + y_1.1 - 1).toNat { grp := 0, own := 0 : Chg }).grp, own := ((chgs (1 + y.1) x_1.toNat).getD (1 + y_1.1 - 1).toNat { grp := 0, own := 0 : Chg }).own + 1 : Chg }) (nsts (upTo x.toNat) x_1.toNat) (fillI (1 + y_1.1) (1 + y.1) x_2) y_3 → ((!decide (y_2.2.2 = 0)) = false → (!decide (y_2.2.2 = 0)) = false) ∧ ((!decide (y_2.2.2 = 0)) = false → (!decide (y_2.2.2 = 0)) = false) ∧ ((!decide (y_2.2.2 = 0)) = false → (!decide (y_2.2.2 = 0)) = false) ∧ ((!decide (y_2.2.2 = 0)) = false → (!decide (y_2.2.2 = 0)) = false) ∧ ((!decide (y_2.2.2 = 0) || decide ((↑y_2.1.length : Int) < 1 + y_1.1)) = false → (!decide (y_2.2.2 = 0) || decide ((↑y_2.1.length : Int) < 1 + y_1.1)) = false) ∧ ((!decide (y_2.2.2 = 0) || decide ((↑y_2.1.length : Int) < 1 + y_1.1)) = false → (!decide (y_2.2.2 = 0) || decide ((↑y_2.1.length : Int) < 1 + y_1.1)) = false) ∧ ((!decide (y_2.2.2 = 0) || decide ((↑y_2.1.length : Int) < 1 + y_1.1) || !decide (y_3.2.2 = 20)) = false → (!decide (y_2.2.2 = 0) || decide ((↑y_2.1.length : Int) < 1 + y_1.1) || !decide (y_3.2.2 = 20)) = false) ∧ ((!decide (y_2.2.2 = 0) || decide ((↑y_2.1.length : Int) < 1 + y_1.1) || !decide (y_3.2.2 = 20)) = false → (!decide (y_2.2.2 = 0) || decide ((↑y_2.1.length : Int) < 1 + y_1.1) || !decide (y_3.2.2 = 20)) = false) ∧ ((!decide (y_2.2.2 = 0) || decide ((↑y_2.1.length : Int) < 1 + y_1.1) || !decide (y_3.2.2 = 20)) = false → y_3.2.1.length ≤ (9223372036854775807 : Nat) ∧ (upTo x.toNat).length ≤ (9223372036854775807 : Nat)) ∧ ((!decide (y_2.2.2 = 0) || decide ((↑y_2.1.length : Int) < 1 + y_1.1) || !decide (y_3.2.2 = 20)) = false → (!decide (y_2.2.2 = 0) || decide ((↑y_2.1.length : Int) < 1 + y_1.1) || !decide (y_3.2.2 = 20)) = false) ∧ ((!decide (y_2.2.2 = 0) || decide ((↑y_2.1.length : Int) < 1 + y_1.1) || !decide (y_3.2.2 = 20)) = false → (!decide (y_2.2.2 = 0) || decide ((↑y_2.1.length : Int) < 1 + y_1.1) || !decide (y_3.2.2 = 20)) = false) ∧ ((!decide (y_2.2.2 = 0) || decide ((↑y_2.1.length : Int) < 1 + y_1.1) || !decide (y_3.2.2 = 20) || !eqL y_3.2.1 (upTo x.toNat)) = true → ∃ (y : Unit), True ∧ false = true) ∧ ((!decide (y_2.2.2 = 0) || decide ((↑y_2.1.length : Int) < 1 + y_1.1) || !decide (y_3.2.2 = 20) || !eqL y_3.2.1 (upTo x.toNat)) = false → ((0 : Int) ≤ 9 ∧ (9 : Int) ≤ 9 ∧ (↑(8 : Nat) : Int) * (9 : Int) ≤ 281474976710656 ∧ (9 : Int) ≤ 1099511627776) ∧ ((0 : Int) ≤ 65 ∧ (65 : Int) ≤ 65 ∧ (↑(16 : Nat) : Int) * (65 : Int) ≤ 281474976710656 ∧ (65 : Int) ≤ 1099511627776) ∧ ((0 : Int) ≤ 65 ∧ (65 : Int) ≤ 65 ∧ (↑(32 : Nat) : Int) * (65 : Int) ≤ 281474976710656 ∧ (65 : Int) ≤ 1099511627776) ∧ (∃ (x : Int), (0 ≤ x ∧ x ≤ 65) ∧ 0 = x ∧ List.replicate (Int.toNat 9) 0 = big9 ∧ List.replicate (Int.toNat 65) { grp := 0, own := 0 : Chg } = fillC x.toNat ∧ List.replicate (Int.toNat 65) { grp := 0, nodes := NilL Int : NSet } = fillN x.toNat) ∧ ∀ (x : Int), 0 ≤ x ∧ x ≤ 65 → (decide (x < (↑(fillC x.toNat).length : Int)) = true → i64R (x + 1) ∧ i64R (x + 1) ∧ (0 ≤ x ∧ x < (↑(fillC x.toNat).length : Int)) ∧ (0 ≤ x ∧ x < (↑(fillN x.toNat).length : Int)) ∧ i64R (x + 1) ∧ ∃ (x' : Int), (0 ≤ x' ∧ x' ≤ 65) ∧ (65 - x').toNat < (65 - x).toNat ∧ x + 1 = x' ∧ big9 = big9 ∧ (fillC x.toNat).set x.toNat { grp := x + 1, own := 1 : Chg } = fillC x'.toNat ∧ (fillN x.toNat).set x.toNat { grp := x + 1, nodes := 0 :: NilL Int : NSet } = fillN x'.toNat) ∧ (decide (x < (↑(fillC x.toNat).length : Int)) = false → Sml (NilL Chg) (NilL NSet) big9 ∧ ((!vokB (NilL Chg) (NilL NSet) big9) = true → (!vokB (NilL Chg) (NilL NSet) big9) = true) ∧ ((!vokB (NilL Chg) (NilL NSet) big9) = true → (0 : Int) ≤ 1 ∧ 1 ≤ (↑big9.length : Int)) ∧ ((!vokB (NilL Chg) (NilL NSet) big9) = true → (!vokB (NilL Chg) (NilL NSet) big9) = true) ∧ ((!vokB (NilL Chg) (NilL NSet) big9) = true → Sml (NilL Chg) (NilL NSet) (List.take ((↑big9.length : Int) - 1).toNat (List.drop (Int.toNat 1) big9))) ∧ ((!vokB (NilL Chg) (NilL NSet) big9) = true → (!vokB (NilL Chg) (NilL NSet) big9) = true) ∧ ((!vokB (NilL Chg) (NilL NSet) big9 && vokB (NilL Chg) (NilL NSet) (List.take ((↑big9.length : Int) - 1).toNat (List.drop (Int.toNat 1) big9))) = true → Sml (NilL Chg) (NilL NSet) (NilL Int)) ∧ ((!vokB (NilL Chg) (NilL NSet) big9 && vokB (NilL Chg) (NilL NSet) (List.take ((↑big9.length : Int) - 1).toNat (List.drop (Int.toNat 1) big9))) = true → (!vokB (NilL Chg) (NilL NSet) big9 && vokB (NilL Chg) (NilL NSet) (List.take ((↑big9.length : Int) - 1).toNat (List.drop (Int.toNat 1) big9))) = true) ∧ ((!vokB (NilL Chg) (NilL NSet) big9 && vokB (NilL Chg) (NilL NSet) (List.take ((↑big9.length : Int) - 1).toNat (List.drop (Int.toNat 1) big9))) = true → (!vokB (NilL Chg) (NilL NSet) big9 && vokB (NilL Chg) (NilL NSet) (List.take ((↑big9.length : Int) - 1).toNat (List.drop (Int.toNat 1) big9))) = true) ∧ ((!vokB (NilL Chg) (NilL NSet) big9 && vokB (NilL Chg) (NilL NSet) (List.take ((↑big9.length : Int) - 1).toNat (List.drop (Int.toNat 1) big9)) && !vokB (NilL Chg) (NilL NSet) (NilL Int)) = true → (!vokB (NilL Chg) (NilL NSet) big9 && vokB (NilL Chg) (NilL NSet) (List.take ((↑big9.length : Int) - 1).toNat (List.drop (Int.toNat 1) big9)) && !vokB (NilL Chg) (NilL NSet) (NilL Int)) = true) ∧ ((!vokB (NilL Chg) (NilL NSet) big9 && vokB (NilL Chg) (NilL NSet) (List.take ((↑big9.length : Int) - 1).toNat (List.drop (Int.toNat 1) big9)) && !vokB (NilL Chg) (NilL NSet) (NilL Int)) = true → (!vokB (NilL Chg) (NilL NSet) big9 && vokB (NilL Chg) (NilL NSet) (List.take ((↑big9.length : Int) - 1).toNat (List.drop (Int.toNat 1) big9)) && !vokB (NilL Chg) (NilL NSet) (NilL Int)) = true) ∧ ((!vokB (NilL Chg) (NilL NSet) big9 && vokB (NilL Chg) (NilL NSet) (List.take ((↑big9.length : Int) - 1).toNat (List.drop (Int.toNat 1) big9)) && !vokB (NilL Chg) (NilL NSet) (NilL Int)) = true → (!vokB (NilL Chg) (NilL NSet) big9 && vokB (NilL Chg) (NilL NSet) (List.take ((↑big9.length : Int) - 1).toNat (List.drop (Int.toNat 1) big9)) && !vokB (NilL Chg) (NilL NSet) (NilL Int)) = true) ∧ ((!vokB (NilL Chg) (NilL NSet) big9 && vokB (NilL Chg) (NilL NSet) (List.take ((↑big9.length : Int) - 1).toNat (List.drop (Int.toNat 1) big9)) && !vokB (NilL Chg) (NilL NSet) (NilL Int)) = true → Sml (fillC x.toNat) (fillN x.toNat) (9 :: NilL Int)) ∧ ((!vokB (NilL Chg) (NilL NSet) big9 && vokB (NilL Chg) (NilL NSet) (List.take ((↑big9.length : Int) - 1).toNat (List.drop (Int.toNat 1) big9)) && !vokB (NilL Chg) (NilL NSet) (NilL Int)) = true → (!vokB (NilL Chg) (NilL NSet) big9 && vokB (NilL Chg) (NilL NSet) (List.take ((↑big9.length : Int) - 1).toNat (List.drop (Int.toNat 1) big9)) && !vokB (NilL Chg) (NilL NSet) (NilL Int)) = true) ∧ ((!vokB (NilL Chg) (NilL NSet) big9 && vokB (NilL Chg) (NilL NSet) (List.take ((↑big9.length : Int) - 1).toNat (List.drop (Int.toNat 1) big9)) && !vokB (NilL Chg) (NilL NSet) (NilL Int)) = true → (!vokB (NilL Chg) (NilL NSet) big9 && vokB (NilL Chg) (NilL NSet) (List.take ((↑big9.length : Int) - 1).toNat (List.drop (Int.toNat 1) big9)) && !vokB (NilL Chg) (NilL NSet) (NilL Int)) = true) ∧ ((!vokB (NilL Chg) (NilL NSet) big9 && vokB (NilL Chg) (NilL NSet) (List.take ((↑big9.length : Int) - 1).toNat (List.drop (Int.toNat 1) big9)) && !vokB (NilL Chg) (NilL NSet) (NilL Int) && !vokB (fillC x.toNat) (fillN x.toNat) (9 :: NilL Int)) = true → (!vokB (NilL Chg) (NilL NSet) big9 && vokB (NilL Chg) (NilL NSet) (List.take ((↑big9.length : Int) - 1).toNat (List.drop (Int.toNat 1) big9)) && !vokB (NilL Chg) (NilL NSet) (NilL Int) && !vokB (fillC x.toNat) (fillN x.toNat) (9 :: NilL Int)) = true) ∧ ((!vokB (NilL Chg) (NilL NSet) big9 && vokB (NilL Chg) (NilL NSet) (List.take ((↑big9.length : Int) - 1).toNat (List.drop (Int.toNat 1) big9)) && !vokB (NilL Chg) (NilL NSet) (NilL Int) && !vokB (fillC x.toNat) (fillN x.toNat) (9 :: NilL Int)) = true → (0 : Int) ≤ 1 ∧ 1 ≤ (↑(fillC x.toNat).length : Int)) ∧ ((!vokB (NilL Chg) (NilL NSet) big9 && vokB (NilL Chg) (NilL NSet) (List.take ((↑big9.length : Int) - 1).toNat (List.drop (Int.toNat 1) big9)) && !vokB (NilL Chg) (NilL NSet) (NilL Int) && !vokB (fillC x.toNat) (fillN x.toNat) (9 :: NilL Int)) = true → (!vokB (NilL Chg) (NilL NSet) big9 && vokB (NilL Chg) (NilL NSet) (List.take ((↑big9.length : Int) - 1).toNat (List.drop (Int.toNat 1) big9)) && !vokB (NilL Chg) (NilL NSet) (NilL Int) && !vokB (fillC x.toNat) (fillN x.toNat) (9 :: NilL Int)) = true) ∧ ((!vokB (NilL Chg) (NilL NSet) big9 && vokB (NilL Chg) (NilL NSet) (List.take ((↑big9.length : Int) - 1).toNat (List.drop (Int.toNat 1) big9)) && !vokB (NilL Chg) (NilL NSet) (NilL Int) && !vokB (fillC x.toNat) (fillN x.toNat) (9 :: NilL Int)) = true → (0 : Int) ≤ 1 ∧ 1 ≤ (↑(fillN x.toNat).length : Int)) ∧ ((!vokB (NilL Chg) (NilL NSet) big9 && vokB (NilL Chg) (NilL NSet) (List.take ((↑big9.length : Int) - 1).toNat (List.drop (Int.toNat 1) big9)) && !vokB (NilL Chg) (NilL NSet) (NilL Int) && !vokB (fillC x.toNat) (fillN x.toNat) (9 :: NilL Int)) = true → (!vokB (NilL Chg) (NilL NSet) big9 && vokB (NilL Chg) (NilL NSet) (List.take ((↑big9.length : Int) - 1).toNat (List.drop (Int.toNat 1) big9)) && !vokB (NilL Chg) (NilL NSet) (NilL Int) && !vokB (fillC x.toNat) (fillN x.toNat) (9 :: NilL Int)) = true) ∧ ((!vokB (NilL Chg) (NilL NSet) big9 && vokB (NilL Chg) (NilL NSet) (List.take ((↑big9.length : Int) - 1).toNat (List.drop (Int.toNat 1) big9)) && !vokB (NilL Chg) (NilL NSet) (NilL Int) && !vokB (fillC x.toNat) (fillN x.toNat) (9 :: NilL Int)) = true → (!vokB (NilL Chg) (NilL NSet) big9 && vokB (NilL Chg) (NilL NSet) (List.take ((↑big9.length : Int) - 1).toNat (List.drop (Int.toNat 1) big9)) && !vokB (NilL Chg) (NilL NSet) (NilL Int) && !vokB (fillC x.toNat) (fillN x.toNat) (9 :: NilL Int)) = true) ∧ ((!vokB (NilL Chg) (NilL NSet) big9 && vokB (NilL Chg) (NilL NSet) (List.take ((↑big9.length : Int) - 1).toNat (List.drop (Int.toNat 1) big9)) && !vokB (NilL Chg) (NilL NSet) (NilL Int) && !vokB (fillC x.toNat) (fillN x.toNat) (9 :: NilL Int)) = true → (!vokB (NilL Chg) (NilL NSet) big9 && vokB (NilL Chg) (NilL NSet) (List.take ((↑big9.length : Int) - 1).toNat (List.drop (Int.toNat 1) big9)) && !vokB (NilL Chg) (NilL NSet) (NilL Int) && !vokB (fillC x.toNat) (fillN x.toNat) (9 :: NilL Int)) = true) ∧ ((!vokB (NilL Chg) (NilL NSet) big9 && vokB (NilL Chg) (NilL NSet) (List.take ((↑big9.length : Int) - 1).toNat (List.drop (Int.toNat 1) big9)) && !vokB (NilL Chg) (NilL NSet) (NilL Int) && !vokB (fillC x.toNat) (fillN x.toNat) (9 :: NilL Int)) = true → Sml (List.take ((↑(fillC x.toNat).length : Int) - 1).toNat (List.drop (Int.toNat 1) (fillC x.toNat))) (List.take ((↑(fillN x.toNat).length : Int) - 1).toNat (List.drop (Int.toNat 1) (fillN x.toNat))) (9 :: NilL Int)) ∧ ((!vokB (NilL Chg) (NilL NSet) big9 && vokB (NilL Chg) (NilL NSet) (List.take ((↑big9.length : Int) - 1).toNat (List.drop (Int.toNat 1) big9)) && !vokB (NilL Chg) (NilL NSet) (NilL Int) && !vokB (fillC x.toNat) (fillN x.toNat) (9 :: NilL Int)) = true → (!vokB (NilL Chg) (NilL NSet) big9 && vokB (NilL Chg) (NilL NSet) (List.take ((↑big9.length : Int) - 1).toNat (List.drop (Int.toNat 1) big9)) && !vokB (NilL Chg) (NilL NSet) (NilL Int) && !vokB (fillC x.toNat) (fillN x.toNat) (9 :: NilL Int)) = true) ∧ ((!vokB (NilL Chg) (NilL NSet) big9 && vokB (NilL Chg) (NilL NSet) (List.take ((↑big9.length : Int) - 1).toNat (List.drop (Int.toNat 1) big9)) && !vokB (NilL Chg) (NilL NSet) (NilL Int) && !vokB (fillC x.toNat) (fillN x.toNat) (9 :: NilL Int) && vokB (List.take ((↑(fillC x.toNat).length : Int) - 1).toNat (List.drop (Int.toNat 1) (fillC x.toNat))) (List.take ((↑(fillN x.toNat).length : Int) - 1).toNat (List.drop (Int.toNat 1) (fillN x.toNat))) (9 :: NilL Int)) = true → True) ∧ ((!vokB (NilL Chg) (NilL NSet) big9 && vokB (NilL Chg) (NilL NSet) (List.take ((↑big9.length : Int) - 1).toNat (List.drop (Int.toNat 1) big9)) && !vokB (NilL Chg) (NilL NSet) (NilL Int) && !vokB (fillC x.toNat) (fillN x.toNat) (9 :: NilL Int) && vokB (List.take ((↑(fillC x.toNat).length : Int) - 1).toNat (List.drop (Int.toNat 1) (fillC x.toNat))) (List.take ((↑(fillN x.toNat).length : Int) - 1).toNat (List.drop (Int.toNat 1) (fillN x.toNat))) (9 :: NilL Int)) = true → (!vokB (NilL Chg) (NilL NSet) big9 && vokB (NilL Chg) (NilL NSet) (List.take ((↑big9.length : Int) - 1).toNat (List.drop (Int.toNat 1) big9)) && !vokB (NilL Chg) (NilL NSet) (NilL Int) && !vokB (fillC x.toNat) (fillN x.toNat) (9 :: NilL Int) && vokB (List.take ((↑(fillC x.toNat).length : Int) - 1).toNat (List.drop (Int.toNat 1) (fillC x.toNat))) (List.take ((↑(fillN x.toNat).length : Int) - 1).toNat (List.drop (Int.toNat 1) (fillN x.toNat))) (9 :: NilL Int)) = true) ∧ ∃ (y : Unit), True ∧ (!vokB (NilL Chg) (NilL NSet) big9 && vokB (NilL Chg) (NilL NSet) (List.take ((↑big9.length : Int) - 1).toNat (List.drop (Int.toNat 1) big9)) && !vokB (NilL Chg) (NilL NSet) (NilL Int) && !vokB (fillC x.toNat) (fillN x.toNat) (9 :: NilL Int) && vokB (List.take ((↑(fillC x.toNat).length : Int) - 1).toNat (List.drop (Int.toNat 1) (fillC x.toNat))) (List.take ((↑(fillN x.toNat).length : Int) - 1).toNat (List.drop (Int.toNat 1) (fillN x.toNat))) (9 :: NilL Int) && true) = true)))))) = sLaw28n.vc (EV Try.prog [(11, sRoll.spec), (14, sNext.spec), (13, sPlace.spec), (17, sSameI.spec), (18, sValid.spec), (10, sSane.spec)] (invsS [(6, inv4a), (10, inv4b), (15, inv4c), (26, inv4d)]) noInv) Try.f4 (n, m, ()) := by kernel_rfl
  rw [← e]
  clear e
  simp only [imp_self, true_and, exists_const, implies_true]
  try simp only [Prod.forall, forall_const, true_and, and_true, i64R, Int.reduceLE, Int.reduceLT, Int.reduceNeg, false_implies, decide_eq_true_eq, decide_eq_false_iff_not, Bool.not_eq_true', Bool.not_eq_false', Bool.false_eq_true, Bool.and_eq_true, Bool.or_eq_true, Bool.or_eq_false_iff ]
  try simp only [NilL_eq]
  have d1 : ∀ n : Int, DOK ([n], 0) := fun n => ⟨by show (0 : Int) ≤ 0; omega, by show (0 : Int) ≤ ([n].length : Nat); simp, by show [n].length ≤ 600; simp⟩
  have l1 : ∀ {α : Type} (a : α), [a].length = 1 := fun _ => rfl
  refine ⟨d1 n, fun a _ ha => ⟨by omega, d1 m, fun b _ hb => ⟨by omega, ⟨0, by omega, rfl, rfl⟩, fun x hx => ⟨fun hlt => ⟨by rw [upTo_len, l1]; omega, by omega, x + 1, by omega, by omega, rfl, ?_⟩, fun hge => ?_⟩⟩⟩⟩
  · rw [show (x + 1).toNat = x.toNat + 1 by omega, upTo_succ, show ((x.toNat : Nat) : Int) = x by omega]
  obtain ⟨n', hn⟩ : ∃ n' : Nat, 1 + a = n' := ⟨(1 + a).toNat, by omega⟩
  obtain ⟨m', hm⟩ : ∃ m' : Nat, 1 + b = m' := ⟨(1 + b).toNat, by omega⟩
  have ex : x.toNat = n' := by omega
  rw [ex]
  refine ⟨⟨0, by omega, rfl, rfl, rfl⟩, fun y hy => ⟨fun hlt => ⟨by omega, by rw [chgs_len, l1]; omega, by omega, by rw [nsts_len, l1]; omega, by omega, y + 1, by omega, by omega, rfl, ?_, ?_⟩, fun hge2 => ⟨by omega, ⟨0, by omega, rfl, fillI_zero⟩, fun z hz => ⟨fun hlt => ⟨?_, by omega, z + 1, by omega, by omega, rfl, fillI_set (by omega)⟩, fun hge3 => ?_⟩⟩⟩⟩
  · rw [show (y + 1).toNat = y.toNat + 1 by omega, chgs_succ, show ((y.toNat : Nat) : Int) = y by omega]
  · rw [show (y + 1).toNat = y.toNat + 1 by omega, nsts_succ, show ((y.toNat : Nat) : Int) = y by omega]
  · have := fillI_len (v := 1 + b) (n := 1 + a) (i := z) (by omega)
    omega
  have ey : y.toNat = m' := by omega
  have ez : fillI (1 + b) (1 + a) z = List.replicate n' (m' : Int) := by
    rw [show z = 1 + a by omega, fillI_all, hm, hn]; rfl
  rw [ey, ez]
  have ek : (1 + b - 1).toNat = m' - 1 := by omega
  have hv : VOK (chgs (n' : Int) m') (nsts (upTo n') m') (List.replicate n' (m' : Int)) := vokL (by omega) (by omega) (by omega) (by omega) (by omega)
  have hv2 : VOK (setOwn (chgs n' m') (m' - 1) ((n' : Int) + 1)) (nsts (upTo n') m') (List.replicate n' (m' : Int)) := hv.ownTo (by rw [chgs_len]; omega) (by omega) (by omega)
  have eo : ((chgs (n' : Int) m').getD (m' - 1) { grp := 0, own := 0 }).own = n' := chgs_own (by omega)
  rw [hn, ek, eo]
  refine ⟨hv.sml, fun p1 s1 e1 h1 => ⟨by omega, by rw [chgs_len]; omega, by omega, by rw [chgs_len]; omega, hv2.sml, fun p2 s2 e2 h2 => ?_⟩⟩
  obtain ⟨i1, i2, i3⟩ := h1.ok hv noRefL
  have i3 : e1 = 0 := i3
  have i4 : m' ≤ p1.length := by
    have := i1.len hv
    rwa [chgs_len] at this
  have h2 : PlaceR (setOwn (chgs n' m') (m' - 1) ((n' : Int) + 1)) (nsts (upTo n') m') (List.replicate n' (m' : Int)) (p2, s2, e2) := h2
  have j : e2 = 20 ∧ s2 = upTo n' := by
    rcases h2.err hv2 with h | h
    · exact (hallI h.2.1 (isRefL (by omega))).elim
    · exact ⟨h.1, refAll (by omega) h.2.2⟩
  obtain ⟨j1, j2⟩ := j
  have j3 : eqL s2 (upTo n') = true := by rw [j2]; simp [eqL]
  refine ⟨fun _ => ⟨by rw [j2, upTo_len]; omega, by rw [upTo_len]; omega⟩, fun h => ?_, fun _ => ⟨by omega, by omega, by omega, ⟨0, by omega, rfl, rfl, rfl, rfl⟩, fun x hx => ⟨fun hlt => ?_, fun hge => ?_⟩⟩⟩
  · rcases h with ((h | h) | h) | h
    · exact h i3
    · omega
    · exact h j1
    · rw [j3] at h; cases h
  · have hl := fillC_len (n := x.toNat) (by omega)
    have hl2 := fillN_len (n := x.toNat) (by omega)
    have e1 : (x + 1).toNat = x.toNat + 1 := by omega
    have e2 : ((x.toNat : Nat) : Int) = x := by omega
    have f1 := fillC_set (n := x.toNat) (by omega)
    have f2 := fillN_set (n := x.toNat) (by omega)
    rw [e2] at f1 f2
    refine ⟨by omega, by omega, ⟨by omega, by omega⟩, ⟨by omega, by omega⟩, by omega, x + 1, by omega, by omega, rfl, ?_, ?_⟩
    · rw [e1]; exact f1
    · rw [e1]; exact f2
  · have hl := fillC_len (n := x.toNat) (by omega)
    have e65 : x.toNat = 65 := by omega
    rw [e65] at hl ⊢
    have hl2 := fillN_len (n := 65) (by omega)
    have eC : fillC 65 = chgs 1 65 := by simp [fillC]
    have eN : fillN 65 = nsts [0] 65 := by simp [fillN]
    have l9 : big9.length = 9 := rfl
    have t9 : (List.take ((↑big9.length : Int) - 1).toNat (List.drop (Int.toNat 1) big9)) = List.replicate 8 0 := rfl
    have tC : List.take ((↑(fillC 65).length : Int) - 1).toNat (List.drop (Int.toNat 1) (fillC 65)) = ((chgs 1 65).drop 1 |>.take 64) := by rw [hl, eC]; rfl
    have tN : List.take ((↑(fillN 65).length : Int) - 1).toNat (List.drop (Int.toNat 1) (fillN 65)) = ((nsts [0] 65).drop 1 |>.take 64) := by rw [hl2, eN]; rfl
    have v1 : vokB [] [] big9 = false := vokB_f.2 fun h => by have := h.c8; rw [l9] at this; omega
    have v2 : vokB [] [] (List.replicate 8 0) = true := vokB_t.2 vok9
    have v3 : vokB [] [] [] = false := vokB_f.2 fun h => by have := h.c1; simp at this
    have v4 : vokB (fillC 65) (fillN 65) [9] = false := vokB_f.2 fun h => by have := h.d64; rw [hl] at this; omega
    have v5 : vokB ((chgs 1 65).drop 1 |>.take 64) ((nsts [0] 65).drop 1 |>.take 64) [9] = true := vokB_t.2 vok65
    have s1 : Sml [] [] big9 := sml_lit (by simp) (by rw [l9]; omega) (fun i hi => by simp at hi)
    have s3 : Sml [] [] [] := sml_lit (by simp) (by simp) (fun i hi => by simp at hi)
    have s4 : Sml (fillC 65) (fillN 65) [9] := sml_lit (by omega) (by simp) (fun i hi => by
      rw [hl2] at hi
      rw [eN, nsts_nds hi]; simp)
    simp only [v1, v3, v4, hl, hl2, l9]
    repeat' apply And.intro
    all_goals first
      | exact s1
      | exact fun _ => vok9.sml
      | exact fun _ => s3
      | exact fun _ => s4
      | exact fun _ => vok65.sml
      | rfl
      | omega
      | (intros; omega)
      | (intros; rfl)
      | (intros; trivial)
      | simp
end Go.Proofs.Ytompifpamldjaaa
namespace Go.Proofs.Ytompifpamldjaaa
open Go Go.RowKit
set_option linter.unusedVariables false
set_option maxRecDepth 100000 in
theorem ok32 : Callable Try.prog 32 ∧ Valid Try.prog 32 sSearch.spec :=
  AllOK.head (AllOK.fD mixed (AllOK.nil Try.prog) Try.func32 (by kernel_rfl) sSearch [22] (fun x => (invsS [(3, inv32a x.1.a x.1.l), (8, inv32b x.1.a x.1.l), (13, inv32c x.1.a x.1.l x.1.m x.2.1), (17, inv32d x.1.a x.1.l x.1.m x.2.1), (24, inv32e x.1.a x.1.l x.1.m x.2.1)])) (fun x => noInv) fun x h => vc32 x.1.a x.1.l x.1.m x.2.1 h)
set_option maxRecDepth 100000 in
theorem ok33 : Callable Try.prog 33 ∧ Valid Try.prog 33 sPush.spec :=
  AllOK.head (AllOK.fD mixed (AllOK.nil Try.prog) Try.func33 (by kernel_rfl) sPush [22] (fun x => (invsS [(3, inv33a x.1.a x.1.l x.1.m x.2.1.1 x.2.1.2 x.2.2.1 x.2.2.2.1 x.2.2.2.2.1), (9, inv33b x.1.a x.1.l x.1.m x.2.1.1 x.2.1.2 x.2.2.1 x.2.2.2.1)])) (fun x => noInv) fun x h => vc33 x.1.a x.1.l x.1.m x.2.1.1 x.2.1.2 x.2.2.1 x.2.2.2.1 x.2.2.2.2.1 h)
set_option maxRecDepth 100000 in
theorem ok36 : Callable Try.prog 36 ∧ Valid Try.prog 36 sPages.spec :=
  AllOK.head (AllOK.d mixed (AllOK.nil Try.prog) Try.func36 (by kernel_rfl) sPages (fun x => noInv) (fun x => noInv) fun x h => vc36 x.1 h)
set_option maxRecDepth 100000 in
theorem ok37 : Callable Try.prog 37 ∧ Valid Try.prog 37 sAsc.spec :=
  AllOK.head (AllOK.d mixed (AllOK.nil Try.prog) Try.func37 (by kernel_rfl) sAsc (fun x => (invsS [(2, inv37 x.1 x.2.1)])) (fun x => noInv) fun x h => vc37 x.1 x.2.1 h)
set_option maxRecDepth 100000 in
theorem ok31 : Callable Try.prog 31 ∧ Valid Try.prog 31 sClone.spec :=
  AllOK.head (AllOK.d mixed (AllOK.nil Try.prog) Try.func31 (by kernel_rfl) sClone (fun x => noInv) (fun x => noInv) fun x h => vc31 x.1 h)
set_option maxRecDepth 100000 in
theorem ok18 : Callable Try.prog 18 ∧ Valid Try.prog 18 sValid.spec :=
  AllOK.head (AllOK.d mixed (((AllOK.nil Try.prog).and ok37).and ok36) Try.func18 (by kernel_rfl) sValid (fun x => (invsS [(4, inv18a x.2.2.1), (10, inv18b x.1 x.2.1 x.2.2.1)])) (fun x => noInv) fun x h => vc18 x.1 x.2.1 x.2.2.1 h)
set_option maxRecDepth 100000 in
theorem ok13 : Callable Try.prog 13 ∧ Valid Try.prog 13 sPlace.spec :=
  AllOK.head (AllOK.fD mixed (((((AllOK.nil Try.prog).and ok33).and ok32).and ok31).and ok18) Try.func13 (by kernel_rfl) sPlace [22] (fun x => (invsS [(5, inv13a x.1 x.2.1 x.2.2.1), (9, inv13b x.1 x.2.1 x.2.2.1), (12, inv13c x.1 x.2.1 x.2.2.1), (17, inv13d), (27, inv13e x.1 x.2.1 x.2.2.1), (30, inv13f x.1 x.2.1 x.2.2.1)])) (fun x => noInv) fun x h => vc13 x.1 x.2.1 x.2.2.1 h)
set_option maxRecDepth 100000 in
theorem ok14 : Callable Try.prog 14 ∧ Valid Try.prog 14 sNext.spec :=
  AllOK.head (AllOK.f mixed (AllOK.nil Try.prog) Try.func14 (by kernel_rfl) sNext (fun x => noInv) (fun x => noInv) fun x h => vc14 x.1.1 x.1.2 x.2.1 h)
set_option maxRecDepth 100000 in
theorem ok11 : Callable Try.prog 11 ∧ Valid Try.prog 11 sRoll.spec :=
  AllOK.head (AllOK.d mixed (AllOK.nil Try.prog) Try.func11 (by kernel_rfl) sRoll (fun x => noInv) (fun x => noInv) fun x h => vc11 x.1 h)
set_option maxRecDepth 100000 in
theorem ok9 : Callable Try.prog 9 ∧ Valid Try.prog 9 sLight.spec :=
  AllOK.head (AllOK.d mixed (AllOK.nil Try.prog) Try.func9 (by kernel_rfl) sLight (fun x => noInv) (fun x => noInv) fun x h => vc9 x.1 h)
set_option maxRecDepth 100000 in
theorem ok40 : Callable Try.prog 40 ∧ Valid Try.prog 40 sBool.spec :=
  AllOK.head (AllOK.f mixed ((AllOK.nil Try.prog).and ok14) Try.func40 (by kernel_rfl) sBool (fun x => noInv) (fun x => noInv) fun x h => vc40 x.1.1 x.1.2 x.2.1 h)
set_option maxRecDepth 100000 in
theorem ok19 : Callable Try.prog 19 ∧ Valid Try.prog 19 sPick.spec :=
  AllOK.head (AllOK.f mixed ((AllOK.nil Try.prog).and ok14) Try.func19 (by kernel_rfl) sPick (fun x => noInv) (fun x => noInv) fun x h => vc19 x.1.1 x.1.2 x.2.1 h)
set_option maxRecDepth 100000 in
theorem ok46 : Callable Try.prog 46 ∧ Valid Try.prog 46 sHasI.spec :=
  AllOK.head (AllOK.d mixed (AllOK.nil Try.prog) Try.func46 (by kernel_rfl) sHasI (fun x => (invs [(2, inv46 x.1 x.2.1)])) (fun x => noInv) fun x h => vc46 x.1 x.2.1 h)
set_option maxRecDepth 100000 in
theorem ok50 : Callable Try.prog 50 ∧ Valid Try.prog 50 sIdxI.spec :=
  AllOK.head (AllOK.d mixed (AllOK.nil Try.prog) Try.func50 (by kernel_rfl) sIdxI (fun x => (invs [(2, inv50 x.1 x.2.1)])) (fun x => noInv) fun x h => vc50 x.1 x.2.1 h)
set_option maxRecDepth 100000 in
theorem ok43 : Callable Try.prog 43 ∧ Valid Try.prog 43 sHasI.spec :=
  AllOK.head (AllOK.d mixed ((AllOK.nil Try.prog).and ok50) Try.func43 (by kernel_rfl) sHasI (fun x => noInv) (fun x => noInv) fun x h => vc43 x.1 x.2.1 h)
set_option maxRecDepth 100000 in
theorem ok39 : Callable Try.prog 39 ∧ Valid Try.prog 39 sSorted.spec :=
  AllOK.head (AllOK.f mixed (AllOK.nil Try.prog) Try.func39 (by kernel_rfl) sSorted (fun x => (invsS [(3, inv39a x.1), (6, inv39b x.1)])) (fun x => noInv) fun x h => vc39 x.1 h)
set_option maxRecDepth 100000 in
theorem ok22 : Callable Try.prog 22 ∧ Valid Try.prog 22 sSetD.spec :=
  AllOK.head (AllOK.f mixed ((AllOK.nil Try.prog).and ok40) Try.func22 (by kernel_rfl) sSetD (fun x => (invs [(3, inv22 x.1.1 x.1.2 x.2.1)])) (fun x => noInv) fun x h => vc22 x.1.1 x.1.2 x.2.1 h)
set_option maxRecDepth 100000 in
theorem ok47 : Callable Try.prog 47 ∧ Valid Try.prog 47 sAsc3.spec :=
  AllOK.head (AllOK.d mixed (AllOK.nil Try.prog) Try.func47 (by kernel_rfl) sAsc3 (fun x => (invsS [(2, inv47 x.1 x.2.1)])) (fun x => noInv) fun x h => vc47 x.1 x.2.1 h)
set_option maxRecDepth 100000 in
theorem ok53 : Callable Try.prog 53 ∧ Valid Try.prog 53 sMinus.spec :=
  AllOK.head (AllOK.f mixed (((AllOK.nil Try.prog).and ok39).and ok46) Try.func53 (by kernel_rfl) sMinus (fun x => (invsS [(3, inv53 x.1 x.2.1)])) (fun x => noInv) fun x h => vc53 x.1 x.2.1 h)
set_option maxRecDepth 100000 in
theorem ok52 : Callable Try.prog 52 ∧ Valid Try.prog 52 sWithin.spec :=
  AllOK.head (AllOK.d mixed ((AllOK.nil Try.prog).and ok53) Try.func52 (by kernel_rfl) sWithin (fun x => noInv) (fun x => noInv) fun x h => vc52 x.1 x.2.1 h)
set_option maxRecDepth 100000 in
theorem ok21 : Callable Try.prog 21 ∧ Valid Try.prog 21 sUnion.spec :=
  AllOK.head (AllOK.f mixed ((AllOK.nil Try.prog).and ok39) Try.func21 (by kernel_rfl) sUnion (fun x => noInv) (fun x => noInv) fun x h => vc21 x.1 x.2.1 h)
set_option maxRecDepth 100000 in
theorem ok16 : Callable Try.prog 16 ∧ Valid Try.prog 16 sSameS.spec :=
  AllOK.head (AllOK.d mixed (AllOK.nil Try.prog) Try.func16 (by kernel_rfl) sSameS (fun x => (invsS [(4, inv16 x.1 x.2.1)])) (fun x => noInv) fun x h => vc16 x.1 x.2.1 h)
set_option maxRecDepth 100000 in
theorem ok17 : Callable Try.prog 17 ∧ Valid Try.prog 17 sSameI.spec :=
  AllOK.head (AllOK.d mixed (AllOK.nil Try.prog) Try.func17 (by kernel_rfl) sSameI (fun x => (invsS [(4, inv17 x.1 x.2.1)])) (fun x => noInv) fun x h => vc17 x.1 x.2.1 h)
set_option maxRecDepth 100000 in
theorem ok23 : Callable Try.prog 23 ∧ Valid Try.prog 23 sLoad.spec :=
  AllOK.head (AllOK.d mixed (AllOK.nil Try.prog) Try.func23 (by kernel_rfl) sLoad (fun x => (invsS [(3, inv23 x.1 x.2.1)])) (fun x => noInv) fun x h => vc23 x.1 x.2.1 h)
set_option maxRecDepth 100000 in
theorem ok26 : Callable Try.prog 26 ∧ Valid Try.prog 26 sLoad.spec :=
  AllOK.head (AllOK.d mixed (AllOK.nil Try.prog) Try.func26 (by kernel_rfl) sLoad (fun x => (invsS [(3, inv26 x.1 x.2.1)])) (fun x => noInv) fun x h => vc26 x.1 x.2.1 h)
set_option maxRecDepth 100000 in
theorem ok35 : Callable Try.prog 35 ∧ Valid Try.prog 35 sEqS.spec :=
  AllOK.head (AllOK.d mixed (AllOK.nil Try.prog) Try.func35 (by kernel_rfl) sEqS (fun x => noInv) (fun x => noInv) fun x h => vc35 x.1.grp x.1.node x.1.pages x.2.1.grp x.2.1.node x.2.1.pages h)
set_option maxRecDepth 100000 in
theorem ok34 : Callable Try.prog 34 ∧ Valid Try.prog 34 sIdxS.spec :=
  AllOK.head (AllOK.d mixed ((AllOK.nil Try.prog).and ok35) Try.func34 (by kernel_rfl) sIdxS (fun x => (invsS [(2, inv34 x.1 x.2.1.grp x.2.1.node)])) (fun x => noInv) fun x h => vc34 x.1 x.2.1.grp x.2.1.node x.2.1.pages h)
set_option maxRecDepth 100000 in
theorem ok42 : Callable Try.prog 42 ∧ Valid Try.prog 42 sEqC.spec :=
  AllOK.head (AllOK.d mixed (AllOK.nil Try.prog) Try.func42 (by kernel_rfl) sEqC (fun x => noInv) (fun x => noInv) fun x h => vc42 x.1.grp x.1.own x.2.1.grp x.2.1.node x.2.1.pages h)
set_option maxRecDepth 100000 in
theorem ok41 : Callable Try.prog 41 ∧ Valid Try.prog 41 sIdxC.spec :=
  AllOK.head (AllOK.d mixed ((AllOK.nil Try.prog).and ok42) Try.func41 (by kernel_rfl) sIdxC (fun x => (invsS [(2, inv41 x.1 x.2.1.grp)])) (fun x => noInv) fun x h => vc41 x.1 x.2.1.grp x.2.1.node x.2.1.pages h)
set_option maxRecDepth 100000 in
theorem ok45 : Callable Try.prog 45 ∧ Valid Try.prog 45 sPosX.spec :=
  AllOK.head (AllOK.d mixed (AllOK.nil Try.prog) Try.func45 (by kernel_rfl) sPosX (fun x => noInv) (fun x => noInv) fun x h => vc45 x.1 h)
set_option maxRecDepth 100000 in
theorem ok51_sIdxP : Callable Try.prog 51 ∧ Valid Try.prog 51 sIdxP.spec :=
  AllOK.head (AllOK.d mixed ((AllOK.nil Try.prog).and ok45) Try.func51 (by kernel_rfl) sIdxP (fun x => (invsS [(2, inv51p x.1)])) (fun x => noInv) fun x h => vc51p x.1 h)
set_option maxRecDepth 100000 in
theorem ok44_sConP : Callable Try.prog 44 ∧ Valid Try.prog 44 sConP.spec :=
  AllOK.head (AllOK.d mixed ((AllOK.nil Try.prog).and ok51_sIdxP) Try.func44 (by kernel_rfl) sConP (fun x => noInv) (fun x => noInv) fun x h => vc44p x.1 h)
set_option maxRecDepth 100000 in
theorem ok48 : Callable Try.prog 48 ∧ Valid Try.prog 48 sOutX.spec :=
  AllOK.head (AllOK.d mixed ((AllOK.nil Try.prog).and ok43) Try.func48 (by kernel_rfl) sOutX (fun x => noInv) (fun x => noInv) fun x h => vc48 x.1 x.2.1 h)
set_option maxRecDepth 100000 in
theorem ok51_sIdxO : Callable Try.prog 51 ∧ Valid Try.prog 51 sIdxO.spec :=
  AllOK.head (AllOK.d mixed ((AllOK.nil Try.prog).and ok48) Try.func51 (by kernel_rfl) sIdxO (fun x => (invsS [(2, inv51o x.1 x.2.1)])) (fun x => noInv) fun x h => vc51o x.1 x.2.1 h)
set_option maxRecDepth 100000 in
theorem ok44_sConO : Callable Try.prog 44 ∧ Valid Try.prog 44 sConO.spec :=
  AllOK.head (AllOK.d mixed ((AllOK.nil Try.prog).and ok51_sIdxO) Try.func44 (by kernel_rfl) sConO (fun x => noInv) (fun x => noInv) fun x h => vc44o x.1 x.2.1 h)
set_option maxRecDepth 100000 in
theorem ok15 : Callable Try.prog 15 ∧ Valid Try.prog 15 sMoves.spec :=
  AllOK.head (AllOK.d mixed ((AllOK.nil Try.prog).and ok34) Try.func15 (by kernel_rfl) sMoves (fun x => (invsS [(3, inv15 x.1 x.2.1)])) (fun x => noInv) fun x h => vc15 x.1 x.2.1 h)
set_option maxRecDepth 100000 in
theorem ok27 : Callable Try.prog 27 ∧ Valid Try.prog 27 sMoves.spec :=
  AllOK.head (AllOK.d mixed (AllOK.nil Try.prog) Try.func27 (by kernel_rfl) sMoves (fun x => (invsS [(3, inv27a x.1 x.2.1), (7, inv27b x.1 x.2.1)])) (fun x => noInv) fun x h => vc27 x.1 x.2.1 h)
set_option maxRecDepth 100000 in
theorem ok12 : Callable Try.prog 12 ∧ Valid Try.prog 12 sDem.spec :=
  AllOK.head (AllOK.f mixed ((((AllOK.nil Try.prog).and ok22).and ok19).and ok14) Try.func12 (by kernel_rfl) sDem (fun x => (invsS [(3, inv12a x.1.1 x.1.2), (10, inv12b x.1.1 x.1.2)])) (fun x => noInv) fun x h => vc12 x.1.1 x.1.2 h)
set_option maxRecDepth 100000 in
theorem ok10 : Callable Try.prog 10 ∧ Valid Try.prog 10 sSane.spec :=
  AllOK.head (AllOK.d mixed (((((AllOK.nil Try.prog).and ok15).and ok17).and ok16).and ok13) Try.func10 (by kernel_rfl) sSane (fun x => noInv) (fun x => noInv) fun x h => vc10 () h)
set_option maxRecDepth 100000 in
theorem walk4 (a0 : Int) (a1 : Int) (w : World) (w0 : (Lit.int .i64 a0).wf = true) (w1 : (Lit.int .i64 a1).wf = true) : Calls Try.prog 4 #[.int .i64 a0, .int .i64 a1] w fun e w' => e = .returned (.bool true) ∧ Below w.heap.size w w' :=
  law_ofD (EV Try.prog [(11, sRoll.spec), (14, sNext.spec), (13, sPlace.spec), (17, sSameI.spec), (18, sValid.spec), (10, sSane.spec)] (invsS [(6, inv4a), (10, inv4b), (15, inv4c), (26, inv4d)]) noInv) (((((((AllOK.nil Try.prog).and ok10).and ok18).and ok17).and ok13).and ok14).and ok11) mixed Try.func4 (avs := [.int .i64 a0, .int .i64 a1]) (xs := [.int .i64 a0, .int .i64 a1]) (.cons (.int _ _) (.cons (.int _ _) .nil)) (vc4 a0 a1 trivial) rfl rfl rfl rfl
end Go.Proofs.Ytompifpamldjaaa
