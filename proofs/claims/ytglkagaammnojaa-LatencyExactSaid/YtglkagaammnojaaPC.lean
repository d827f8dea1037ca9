/-
  Lemmas and contracts on the way to the laws of this seat; each theorem states its own conditions, and there are no others.
-/
import Derived.Test.YtglkagaammnojaaVD
namespace Go.Proofs.Ytglkagaammnojaa
open Go Go.RowKit
set_option linter.unusedVariables false
set_option linter.unusedSimpArgs false

def scoreI (c : Cnd) (t : Int) : Int := c.pages + (c.adj * t) / 1000
theorem floor1000 (n : Int) : n.tdiv 1000 - (if n.tmod 1000 < 0 then 1 else 0) = n / 1000 := by
  have h1 := Int.tmod_add_mul_tdiv n 1000
  have h2 : -1000 < n.tmod 1000 := Int.lt_tmod_of_pos n (by omega)
  have h3 : n.tmod 1000 < 1000 := Int.tmod_lt_of_pos n (by omega)
  split <;> omega
def soundB (c : Cnd) : Bool := decide (0 ≤ c.pages) && decide (c.pages ≤ 16777216) && decide (-1000 ≤ c.adj) && decide (c.adj ≤ 1000)
theorem soundB_iff {c : Cnd} : soundB c = true ↔ SoundC c := by
  simp only [soundB, Bool.and_eq_true, decide_eq_true_eq]
  exact ⟨fun ⟨⟨⟨a, b⟩, c⟩, d⟩ => ⟨a, b, c, d⟩, fun h => ⟨⟨⟨h.p0, h.p1⟩, h.a0⟩, h.a1⟩⟩
def scE (c : Cnd) (t : Int) : Int := if soundB c = false then 1 else if t < 0 ∨ 16777216 < t then 3 else 0
def scN (c : Cnd) (t : Int) : Int := if scE c t = 0 then scoreI c t else 0
/-- One candidate, given the ones ahead. -/
def cv1 (l : List Nod) (cs : List Cnd) (i : Nat) : Bool := hasB l (cn cs i).group && decide (1 ≤ (cn cs i).proc) && (decide (i = 0) || decide ((cn cs (i - 1)).proc < (cn cs i).proc)) && soundB (cn cs i)
def cvB (l : List Nod) (n : Int) (cs : List Cnd) : Bool := chkB l n && decide (cs.length ≤ 128) && (List.range cs.length).all (cv1 l cs)
theorem cvB_all {l : List Nod} {n : Int} {cs : List Cnd} : cvB l n cs = true ↔ chkB l n = true ∧ cs.length ≤ 128 ∧ ∀ i, i < cs.length → cv1 l cs i = true := by
  simp only [cvB, Bool.and_eq_true, decide_eq_true_eq, List.all_eq_true, List.mem_range]
  exact ⟨fun ⟨⟨a, b⟩, c⟩ => ⟨a, b, c⟩, fun ⟨a, b, c⟩ => ⟨⟨a, b⟩, c⟩⟩
theorem cvB_iff {l : List Nod} {n : Int} {cs : List Cnd} : cvB l n cs = true ↔ ChkP l n ∧ CndOK l cs := by
  rw [cvB_all, chkB_iff]
  simp only [cv1, Bool.and_eq_true, Bool.or_eq_true, decide_eq_true_eq, hasB_iff, soundB_iff]
  constructor
  · rintro ⟨h1, h2, h3⟩
    exact ⟨h1, h2, fun i hi => (h3 i hi).1.1.2, fun i h0 hi => by
      rcases (h3 i hi).1.2 with e | e
      · omega
      · exact e, fun i hi => (h3 i hi).1.1.1, fun i hi => (h3 i hi).2⟩
  · rintro ⟨h1, h2⟩
    refine ⟨h1, h2.len, fun i hi => ⟨⟨⟨h2.grp i hi, h2.pos i hi⟩, ?_⟩, h2.snd i hi⟩⟩
    by_cases e : i = 0
    · exact .inl e
    · exact .inr (h2.asc i (by omega) hi)
/-- Those that may be killed for a group. -/
def mayB (l : List Nod) (g : Int) (c : Cnd) : Bool := !decide (c.adj = -1000) && memB (upT l c.group) g
def withL (l : List Nod) (cs : List Cnd) (g : Int) : List Cnd := cs.filter (mayB l g)
theorem withL_take {l : List Nod} {cs : List Cnd} {g : Int} {i : Nat} (h : i < cs.length) : withL l (cs.take (i + 1)) g = withL l (cs.take i) g ++ (if mayB l g (cn cs i) = true then [cn cs i] else []) := by
  have e : cs.take (i + 1) = cs.take i ++ [cn cs i] := by
    rw [List.take_add_one, List.getElem?_eq_getElem h]
    simp [cn, List.getD_eq_getElem?_getD, List.getElem?_eq_getElem h]
  unfold withL
  rw [e, List.filter_append]
  by_cases c : mayB l g (cn cs i) = true <;> simp [c]
/-- The best one of the first ones. -/
def mx (cs : List Cnd) (t : Int) : Nat → Cnd
  | 0 => cn cs 0
  | i + 1 => if scoreI (mx cs t i) t < scoreI (cn cs (i + 1)) t then cn cs (i + 1) else mx cs t i
def maxC (cs : List Cnd) (t : Int) : Cnd := mx cs t (cs.length - 1)
def cz : Cnd := ⟨0, 0, 0, 0⟩
def vicE (l : List Nod) (n : Int) (cs : List Cnd) (g t : Int) : Int := if cvB l n cs = false then 1 else if hasB l g = false then 4 else if t < 0 ∨ 16777216 < t then 3 else if (withL l cs g).length = 0 then 21 else 0
def vicC (l : List Nod) (n : Int) (cs : List Cnd) (g t : Int) : Cnd := if vicE l n cs g t = 0 then maxC (withL l cs g) t else cz
/-- The highest one of a list on the way, up to a group. -/
def walkG (tg : List Int) (g : Int) : List Int → Int → Int
  | [], a => a
  | x :: r, a => if x = g then (if memB tg x = true then x else a) else walkG tg g r (if memB tg x = true then x else a)
def decG (l : List Nod) (n : Int) (cs : List Cnd) (tg : List Int) (g t : Int) : Int := if vicE l n cs g t = 0 then walkG tg g (upT l (vicC l n cs g t).group) 0 else 0
def decP (l : List Nod) (n : Int) (cs : List Cnd) (tg : List Int) (g t : Int) : List Int := if vicE l n cs g t = 0 then (if decG l n cs tg g t = 0 then [(vicC l n cs g t).proc] else (withL l cs (decG l n cs tg g t)).map (·.proc)) else []
/-- The pages of those that are in a list. -/
def frd (cs : List Cnd) (ps : List Int) : Nat → Int
  | 0 => 0
  | i + 1 => frd cs ps i + (if memB ps (cn cs i).proc = true then (cn cs i).pages else 0)
theorem frd_bound {cs : List Cnd} {ps : List Int} (h : ∀ i, i < cs.length → 0 ≤ (cn cs i).pages ∧ (cn cs i).pages ≤ 1099511627776) : ∀ i, i ≤ cs.length → 0 ≤ frd cs ps i ∧ frd cs ps i ≤ 1099511627776 * i
  | 0, _ => by simp [frd]
  | i + 1, hi => by
    have h1 := frd_bound (ps := ps) h i (by omega)
    have h2 := h i (by omega)
    rw [frd]
    split <;> omega
theorem withL_sub {l : List Nod} {cs : List Cnd} {g : Int} {x : Cnd} (h : x ∈ withL l cs g) : x ∈ cs ∧ mayB l g x = true := by
  unfold withL at h
  exact List.mem_filter.1 h
theorem cn_mem {cs : List Cnd} {i : Nat} (h : i < cs.length) : cn cs i ∈ cs := by
  simp only [cn, List.getD_eq_getElem?_getD, List.getElem?_eq_getElem h, Option.getD_some]
  exact List.getElem_mem h
theorem mem_cn {cs : List Cnd} {x : Cnd} (h : x ∈ cs) : ∃ i, i < cs.length ∧ cn cs i = x := by
  obtain ⟨i, hi, e⟩ := List.getElem_of_mem h
  exact ⟨i, hi, by simp [cn, List.getD_eq_getElem?_getD, hi, e]⟩
theorem CndOK.snd_mem {l : List Nod} {cs : List Cnd} (h : CndOK l cs) {x : Cnd} (hx : x ∈ cs) : SoundC x := by
  obtain ⟨i, hi, e⟩ := mem_cn hx
  rw [← e]; exact h.snd i hi
theorem score_in {c : Cnd} {t : Int} (h : SoundC c) (t0 : 0 ≤ t) (t1 : t ≤ 16777216) : (-16777216000 ≤ c.adj * t ∧ c.adj * t ≤ 16777216000) ∧ -16777216 ≤ scoreI c t ∧ scoreI c t ≤ 33554432 := by
  have h1 : c.adj * t ≤ 1000 * t := Int.mul_le_mul_of_nonneg_right h.a1 t0
  have h2 : -1000 * t ≤ c.adj * t := Int.mul_le_mul_of_nonneg_right h.a0 t0
  have h3 := h.p0
  have h4 := h.p1
  unfold scoreI
  omega

/-- What is known where there is a victim. -/
theorem vic_ok {l : List Nod} {n : Int} {cs : List Cnd} {g t : Int} (h : vicE l n cs g t = 0) : ChkP l n ∧ CndOK l cs ∧ g ∈ ids l ∧ (0 ≤ t ∧ t ≤ 16777216) ∧ 0 < (withL l cs g).length ∧ vicC l n cs g t = maxC (withL l cs g) t := by
  have h0 := h
  unfold vicE at h
  split at h
  · omega
  rename_i h1
  split at h
  · omega
  rename_i h2
  split at h
  · omega
  rename_i h3
  split at h
  · omega
  rename_i h4
  simp only [Bool.not_eq_false] at h1 h2
  obtain ⟨h5, h6⟩ := cvB_iff.1 h1
  exact ⟨h5, h6, hasB_iff.1 h2, by omega, by omega, by rw [vicC, if_pos h0]⟩
theorem drop_step {l : List Int} {i : Nat} (h : i < l.length) : l.drop i = l.getD i 0 :: l.drop (i + 1) := by
  rw [List.drop_eq_getElem_cons h]
  congr 1
  simp [List.getD_eq_getElem?_getD, h]
theorem map_take_snoc {l : List Cnd} {i : Nat} (h : i < l.length) : (l.take i).map (fun x => x.proc) ++ [(cn l i).proc] = (l.take (i + 1)).map (fun x => x.proc) := by
  rw [List.take_add_one, List.getElem?_eq_getElem h, List.map_append]
  simp [cn, List.getD_eq_getElem?_getD, h]
end Go.Proofs.Ytglkagaammnojaa
