/-
  Lemmas and contracts on the way to the laws of this seat; each theorem states its own conditions, and there are no others.
-/
import Derived.Test.YtemffnpliflkgaaE3
import Derived.Laws.AppendOwn
import Derived.Laws.CopyRow
namespace Go.Proofs.Ytemffnpliflkgaa
open Go
set_option linter.unusedVariables false
set_option linter.unusedSimpArgs false

/-- What stands behind a block's name: the block, if there is one; of a row its length, its code and its room. -/
structure MI where
  b : Option Nat
  n : Nat
  c : Nat
  cap : Nat
abbrev MM := Nat → Option MI
abbrev SS := Bool → Nat → Prop

/-- Is the key this number? -/
def keyIs (k : Int) : Value → Bool
  | .int .i64 n => decide (n = k)
  | _ => false
/-- What a map holds at a number. -/
def mapGet : List MapEntry → Int → Option Value
  | [], _ => none
  | e :: r, k => bif keyIs k e.key then some e.val else mapGet r k
/-- A map with numbers as keys, as a function. -/
structure MShape (es : List MapEntry) (g : Bool) (c : Nat) (f : Int → den c) : Prop where
  keys : ∀ e ∈ es, ∃ n, e.key = .int .i64 n
  abs : ∀ k, mapGet es k = none → f k = dfl c
  len : ∀ k v, mapGet es k = some v → v.cells.size = ncell c
  agg : g = true → ∀ k v, mapGet es k = some v → ∃ vs, v = .agg vs
  one : g = false → ∀ k v, mapGet es k = some v → v.cells = #[v]

inductive VRel (w : World) (S : SS) (μ : MM) : AV → Value → Prop
  | undef (v : Value) : VRel w S μ .undef v
  | int (k : IntKind) (n : Int) : VRel w S μ (.int k n) (.int k n)
  | tt : VRel w S μ .tt (.bool true)
  | ff : VRel w S μ .ff (.bool false)
  | bool (b : Bool) : VRel w S μ (.bool b) (.bool b)
  | str (s : ByteArray) : VRel w S μ (.str s) (.string s)
  | nilp : VRel w S μ .nilp (.pointer none)
  | ptr {id off b : Nat} {m : MI} (hm : μ id = some m) (hb : m.b = some b) : VRel w S μ (.ptr id off) (.pointer (some ⟨b, off, none⟩))
  | ept {id c r f b : Nat} {m : MI} (hm : μ id = some m) (hb : m.b = some b) (hr : r < m.n) : VRel w S μ (.ept id c r f) (.pointer (some ⟨b, r * ncell m.c + f, none⟩))
  | ipt {p : Bool} {cs : List AV} {off b o : Nat} (u : Nat → Value) (hs : S p b) (hc : ∀ j, off + j < cs.length → w.cell? ⟨b, o + j, none⟩ = some (u j)) (hv : ∀ j, off + j < cs.length → VRel w S μ (cs.getD (off + j) .undef) (u j)) : VRel w S μ (.ipt p cs off) (.pointer (some ⟨b, o, none⟩))
  | pix {id n b : Nat} {i : Int} {m : MI} (hm : μ id = some m) (hb : m.b = some b) (hi : i.toNat < n) : VRel w S μ (.pix id i n) (.pointer (some ⟨b, i.toNat, none⟩))
  | sel {i : Int} {fs : List (Option Nat)} {x : Value} (h : ∀ f, fs[i.toNat]? = some (some f) → x = .func (.func f) #[] #[]) : VRel w S μ (.sel i fs) x
  | nfn : VRel w S μ .nfn .nilFunc
  | nsl : VRel w S μ .nsl (.slice none 0 0)
  | zsl (a : Option Addr) : VRel w S μ .zsl (.slice a 0 0)
  | own {id c b : Nat} {m : MI} (hm : μ id = some m) (hb : m.b = some b) : VRel w S μ (.own id c) (.slice (some ⟨b, 0, none⟩) m.n m.cap)
  | own0 {id c : Nat} {m : MI} (a : Option Addr) (hm : μ id = some m) (h0 : m.n = 0) : VRel w S μ (.own id c) (.slice a 0 0)
  | sub {id c lo n b cap : Nat} {m : MI} (hm : μ id = some m) (hb : m.b = some b) (he : m.c = c) (hr : lo + n ≤ m.n) (hc : n ≤ cap) : VRel w S μ (.sub id c lo n) (.slice (some ⟨b, lo * ncell c, none⟩) n cap)
  | sub0 {id c lo : Nat} (a : Option Addr) (cap : Nat) : VRel w S μ (.sub id c lo 0) (.slice a 0 cap)
  | irec {p : Bool} {c : Nat} {l : List (den c)} {b o cap : Nat} (u : Nat → Nat → Value) (hs : S p b) (hn : l.length ≤ cap) (hc : ∀ i, i < l.length → ∀ j, j < ncell c → w.cell? ⟨b, o + i * ncell c + j, none⟩ = some (u i j)) (hv : ∀ i, i < l.length → ∀ j, j < ncell c → VRel w S μ ((rowAV c l i).getD j .undef) (u i j)) : VRel w S μ (.irec p c l) (.slice (some ⟨b, o, none⟩) l.length cap)
  | irec0 {p : Bool} {c : Nat} (a : Option Addr) (cap : Nat) : VRel w S μ (.irec p c []) (.slice a 0 cap)
  | mp {id b : Nat} {m : MI} (hm : μ id = some m) (hb : m.b = some b) : VRel w S μ (.mp id) (.map (some b))
  | imp {p g : Bool} {c : Nat} {f : Int → den c} {b clock : Nat} {es : Array MapEntry} (u : Int → Nat → Value) (hs : S p b) (hh : w.heap[b]? = some (.map es clock)) (hm : MShape es.toList g c f) (hu : ∀ k v, mapGet es.toList k = some v → ∀ j, j < ncell c → v.cells.getD j Go.undef = u k j) (hv : ∀ k, mapGet es.toList k ≠ none → ∀ j, j < ncell c → VRel w S μ ((enc c (f k)).getD j .undef) (u k j)) : VRel w S μ (.imp p g c f) (.map (some b))
  | agg {l : List AV} {vs : Array Value} (hl : l.length = vs.size) (h : ∀ i, i < l.length → VRel w S μ (l.getD i .undef) (vs.getD i Go.undef)) : VRel w S μ (.agg l) (.agg vs)
  | tup {l : List AV} {vs : Array Value} (hl : l.length = vs.size) (h : ∀ i, i < l.length → VRel w S μ (l.getD i .undef) (vs.getD i Go.undef)) : VRel w S μ (.tup l) (.tuple vs)
  | fn {f : Fn} {a c : List AV} {x y : Array Value} (hl : a.length = x.size) (h : ∀ i, i < a.length → VRel w S μ (a.getD i .undef) (x.getD i Go.undef)) (hl' : c.length = y.size) (h' : ∀ i, i < c.length → VRel w S μ (c.getD i .undef) (y.getD i Go.undef)) : VRel w S μ (.fn f a c) (.func f x y)
  | opt {g b : Bool} {v : AV} {x : Value} (h : g = b → VRel w S μ v x) (h' : g ≠ b → x = Go.undef) : VRel w S μ (.opt g b v) x

/-- How the world may go on: what is fixed stays; names keep their meaning. -/
structure Evo (w : World) (S : SS) (μ : MM) (w' : World) (S' : SS) (μ' : MM) : Prop where
  os : w'.os = w.os
  tape : w'.tape = w.tape
  output : w'.output = w.output
  size : w.heap.size ≤ w'.heap.size
  keep : ∀ p b, S p b → w'.heap[b]? = w.heap[b]?
  fls : ∀ b, S' false b ↔ S false b
  tru : ∀ b, S true b → S' true b
  trn : ∀ b, S' true b → S true b ∨ ¬ S false b
  ext : ∀ id m, μ id = some m → μ' id = some m

theorem Evo.refl (w : World) (S : SS) (μ : MM) : Evo w S μ w S μ :=
  ⟨rfl, rfl, rfl, Nat.le_refl _, fun _ _ _ => rfl, fun _ => Iff.rfl, fun _ h => h, fun _ h => .inl h, fun _ _ h => h⟩
theorem Evo.mono {w w' : World} {S S' : SS} {μ μ' : MM} (h : Evo w S μ w' S' μ') {p : Bool} {b : Nat} (hs : S p b) : S' p b := by
  cases p
  · exact (h.fls b).2 hs
  · exact h.tru b hs
theorem Evo.trans {w w' w'' : World} {S S' S'' : SS} {μ μ' μ'' : MM} (h : Evo w S μ w' S' μ') (k : Evo w' S' μ' w'' S'' μ'') : Evo w S μ w'' S'' μ'' where
  os := k.os.trans h.os
  tape := k.tape.trans h.tape
  output := k.output.trans h.output
  size := Nat.le_trans h.size k.size
  keep := fun p b hs => (k.keep p b (h.mono hs)).trans (h.keep p b hs)
  fls := fun b => (k.fls b).trans (h.fls b)
  tru := fun b hs => k.tru b (h.tru b hs)
  trn := fun b hs => by
    rcases k.trn b hs with h1 | h1
    · exact h.trn b h1
    · exact .inr fun h2 => h1 ((h.fls b).2 h2)
  ext := fun id m hm => k.ext id m (h.ext id m hm)

theorem Evo.cell {w w' : World} {S S' : SS} {μ μ' : MM} (h : Evo w S μ w' S' μ') {p : Bool} {a : Addr} (hs : S p a.block) : w'.cell? a = w.cell? a :=
  World.cell?_of_block (w := w) (h.keep p a.block hs)

theorem VRel.evo {w w' : World} {S S' : SS} {μ μ' : MM} (E : Evo w S μ w' S' μ') {v : AV} {x : Value} (h : VRel w S μ v x) : VRel w' S' μ' v x := by
  induction h with
  | undef v => exact .undef v
  | int k n => exact .int k n
  | tt => exact .tt
  | ff => exact .ff
  | bool b => exact .bool b
  | str s => exact .str s
  | nilp => exact .nilp
  | ptr hm hb => exact .ptr (E.ext _ _ hm) hb
  | ept hm hb hr => exact .ept (E.ext _ _ hm) hb hr
  | ipt u hs hc _ ih => exact .ipt u (E.mono hs) (fun j hj => by rw [E.cell (p := _) (a := ⟨_, _, none⟩) hs]; exact hc j hj) ih
  | pix hm hb hi => exact .pix (E.ext _ _ hm) hb hi
  | sel h => exact .sel h
  | nfn => exact .nfn
  | nsl => exact .nsl
  | zsl a => exact .zsl a
  | own hm hb => exact .own (E.ext _ _ hm) hb
  | own0 a hm h0 => exact .own0 a (E.ext _ _ hm) h0
  | sub hm hb he hr hc => exact .sub (E.ext _ _ hm) hb he hr hc
  | sub0 a cap => exact .sub0 a cap
  | irec u hs hn hc _ ih => exact .irec u (E.mono hs) hn (fun i hi j hj => by rw [E.cell (p := _) (a := ⟨_, _, none⟩) hs]; exact hc i hi j hj) ih
  | irec0 a cap => exact .irec0 a cap
  | mp hm hb => exact .mp (E.ext _ _ hm) hb
  | imp u hs hh hm hu _ ih => exact .imp u (E.mono hs) (by rw [E.keep _ _ hs]; exact hh) hm hu ih
  | agg hl _ ih => exact .agg hl ih
  | tup hl _ ih => exact .tup hl ih
  | fn hl _ hl' _ ih ih' => exact .fn hl ih hl' ih'
  | opt _ h' ih => exact .opt ih h'

/-- A block that is one's own holds what it is said to hold. -/
def BOk (w : World) (S : SS) (μ : MM) (m : MI) : OB → Prop
  | .cells et cs => ∃ (b : Nat) (cur : Array Value), m.b = some b ∧ w.heap[b]? = some (.cells cur et (0, 0)) ∧ cs.length ≤ cur.size ∧ ∀ j, j < cs.length → VRel w S μ (cs.getD j .undef) (cur.getD j Go.undef)
  | .rows et c l => m.n = l.length ∧ m.c = c ∧ ((l = [] ∧ m.b = none) ∨ ∃ (b : Nat) (cur : Array Value), m.b = some b ∧ w.heap[b]? = some (.cells cur et (0, 0)) ∧ cur.size = m.cap * ncell c ∧ l.length ≤ m.cap ∧ m.cap ≤ maxLen ∧
      ∀ i, i < l.length → ∀ j, j < ncell c → VRel w S μ ((rowAV c l i).getD j .undef) (cur.getD (i * ncell c + j) Go.undef))
  | .imap g c f => ∃ (b clock : Nat) (es : Array MapEntry) (u : Int → Nat → Value), m.b = some b ∧ w.heap[b]? = some (.map es clock) ∧ MShape es.toList g c f ∧ (∀ k v, mapGet es.toList k = some v → ∀ j, j < ncell c → v.cells.getD j Go.undef = u k j) ∧
      ∀ k, mapGet es.toList k ≠ none → ∀ j, j < ncell c → VRel w S μ ((enc c (f k)).getD j .undef) (u k j)

theorem BOk.evo {w w' : World} {S S' : SS} {μ μ' : MM} (E : Evo w S μ w' S' μ') {m : MI} {o : OB} (h : BOk w S μ m o) (hb : ∀ b, m.b = some b → w'.heap[b]? = w.heap[b]?) : BOk w' S' μ' m o := by
  cases o with
  | cells et cs =>
    obtain ⟨b, cur, h1, h2, h3, h4⟩ := h
    exact ⟨b, cur, h1, by rw [hb b h1]; exact h2, h3, fun j hj => (h4 j hj).evo E⟩
  | rows et c l =>
    obtain ⟨h0, h1, h2⟩ := h
    refine ⟨h0, h1, ?_⟩
    rcases h2 with h2 | ⟨b, cur, h2, h3, h4, h5, h6, h7⟩
    · exact .inl h2
    · exact .inr ⟨b, cur, h2, by rw [hb b h2]; exact h3, h4, h5, h6, fun i hi j hj => (h7 i hi j hj).evo E⟩
  | imap g c f =>
    obtain ⟨b, clock, es, u, h1, h2, h3, h4, h5⟩ := h
    exact ⟨b, clock, es, u, h1, by rw [hb b h1]; exact h2, h3, h4, fun k hk j hj => (h5 k hk j hj).evo E⟩

structure HRel (w : World) (S : SS) (μ : MM) (h : Nat → Option OB) : Prop where
  blk : ∀ id o, h id = some o → ∃ m, μ id = some m ∧ BOk w S μ m o
  inj : ∀ i j mi mj b, h i ≠ none → h j ≠ none → μ i = some mi → μ j = some mj → mi.b = some b → mj.b = some b → i = j
  sep : ∀ i m b p, h i ≠ none → μ i = some m → m.b = some b → ¬ S p b
  bd : ∀ p b, S p b → b < w.heap.size

theorem BOk.lt {w : World} {S : SS} {μ : MM} {m : MI} {o : OB} (h : BOk w S μ m o) {b : Nat} (hb : m.b = some b) : b < w.heap.size := by
  have key : ∀ (b : Nat) (x : Obj), w.heap[b]? = some x → b < w.heap.size := fun b x hx => (Array.getElem?_eq_some_iff.1 hx).1
  cases o with
  | cells et cs =>
    obtain ⟨b', cur, h1, h2, _⟩ := h
    rw [hb] at h1; cases h1
    exact key _ _ h2
  | rows et c l =>
    obtain ⟨_, _, h2⟩ := h
    rcases h2 with ⟨_, h2⟩ | ⟨b', cur, h2, h3, _⟩
    · rw [hb] at h2; cases h2
    · rw [hb] at h2; cases h2
      exact key _ _ h3
  | imap g c f =>
    obtain ⟨b', clock, es, u, h1, h2, _⟩ := h
    rw [hb] at h1; cases h1
    exact key _ _ h2

/-- Memory goes on: each block is either as it was, or shown anew. -/
theorem HRel.upd {w w' : World} {S S' : SS} {μ μ' : MM} {h h' : Nat → Option OB} (H : HRel w S μ h) (E : Evo w S μ w' S' μ')
    (hb : ∀ id o, h' id = some o → (h id = some o ∧ ∀ m b, μ id = some m → m.b = some b → w'.heap[b]? = w.heap[b]?) ∨ ∃ m, μ' id = some m ∧ BOk w' S' μ' m o)
    (hinj : ∀ i j mi mj b, h' i ≠ none → h' j ≠ none → μ' i = some mi → μ' j = some mj → mi.b = some b → mj.b = some b → i = j)
    (hsep : ∀ i m b p, h' i ≠ none → μ' i = some m → m.b = some b → ¬ S' p b)
    (hbd : ∀ p b, S' p b → b < w'.heap.size) : HRel w' S' μ' h' where
  blk := fun id o ho => by
    rcases hb id o ho with ⟨h1, h2⟩ | h1
    · obtain ⟨m, hm, hB⟩ := H.blk id o h1
      exact ⟨m, E.ext _ _ hm, hB.evo E fun b hb => h2 m b hm hb⟩
    · exact h1
  inj := hinj
  sep := hsep
  bd := hbd

/-- Some blocks are forgotten. -/
theorem HRel.sub {w : World} {S : SS} {μ : MM} {h h' : Nat → Option OB} (H : HRel w S μ h) (hs : ∀ id o, h' id = some o → h id = some o) : HRel w S μ h' where
  blk := fun id o ho => H.blk id o (hs id o ho)
  inj := fun i j mi mj b hi hj => by
    refine H.inj i j mi mj b ?_ ?_
    · cases e : h' i with
      | none => exact absurd e hi
      | some o => rw [hs i o e]; simp
    · cases e : h' j with
      | none => exact absurd e hj
      | some o => rw [hs j o e]; simp
  sep := fun i m b p hi => H.sep i m b p (by
    cases e : h' i with
    | none => exact absurd e hi
    | some o => rw [hs i o e]; simp)
  bd := H.bd

/-- The blocks' names, one more. -/
def MM.add (μ : MM) (id : Nat) (m : MI) : MM := fun i => if i = id then some m else μ i
theorem MM.ext_add {μ : MM} {id : Nat} {m : MI} (h : μ id = none) : ∀ i x, μ i = some x → (μ.add id m) i = some x := fun i x hx => by
  unfold MM.add
  split
  · rename_i e; subst e; rw [h] at hx; cases hx
  · exact hx
theorem MM.add_same {μ : MM} {id : Nat} {m : MI} : (μ.add id m) id = some m := by simp [MM.add]
theorem MM.add_ne {μ : MM} {id i : Nat} {m : MI} (h : i ≠ id) : (μ.add id m) i = μ i := by simp [MM.add, h]

theorem heap_alloc_old' (w : World) (o : Obj) {b : Nat} (h : b < w.heap.size) : (w.alloc o).heap[b]? = w.heap[b]? := by
  show (w.heap.push o)[b]? = _
  rw [Array.getElem?_push]
  simp [Nat.ne_of_lt h]
theorem heap_alloc_new' (w : World) (o : Obj) : (w.alloc o).heap[w.heap.size]? = some o := by
  show (w.heap.push o)[w.heap.size]? = _
  simp
theorem size_alloc' (w : World) (o : Obj) : (w.alloc o).heap.size = w.heap.size + 1 := by
  show (w.heap.push o).size = _
  simp

theorem Evo.alloc (w : World) (S : SS) (μ : MM) (o : Obj) (hbd : ∀ p b, S p b → b < w.heap.size) {id : Nat} {m : MI} (hid : μ id = none) : Evo w S μ (w.alloc o) S (μ.add id m) where
  os := rfl
  tape := rfl
  output := rfl
  size := by rw [size_alloc']; omega
  keep := fun p b hs => heap_alloc_old' w o (hbd p b hs)
  fls := fun _ => Iff.rfl
  tru := fun _ h => h
  trn := fun _ h => .inl h
  ext := MM.ext_add hid

theorem nbeq_ne {i j : Nat} (h : i ≠ j) : Nat.beq i j = false := Bool.eq_false_iff.2 fun e => h (Nat.eq_of_beq_eq_true e)
theorem nbeq_same (i : Nat) : Nat.beq i i = true := Nat.beq_refl i

theorem upds_h (s : St) (u : Upd) : (s.upds u).h = updH s.h u := by
  induction u generalizing s with
  | nil => rfl
  | cons x r ih => obtain ⟨id, o⟩ := x; exact ih _
theorem upds_t (s : St) (u : Upd) : (s.upds u).t = s.t := by
  induction u generalizing s with
  | nil => rfl
  | cons x r ih => obtain ⟨id, o⟩ := x; exact ih _
theorem upds_nx (s : St) (u : Upd) : (s.upds u).nx = s.nx := by
  induction u generalizing s with
  | nil => rfl
  | cons x r ih => obtain ⟨id, o⟩ := x; exact ih _

/-- A block is made: it is one's own from now on. -/
theorem HRel.alloc {w : World} {S : SS} {μ : MM} {h : Nat → Option OB} (H : HRel w S μ h) {o : Obj} {id : Nat} {m : MI} {ob : OB} (hid : μ id = none) (hmb : m.b = some w.heap.size)
    (hok : BOk (w.alloc o) S (μ.add id m) m ob) : HRel (w.alloc o) S (μ.add id m) (updH h [(id, some ob)]) := by
  have E := Evo.alloc w S μ o H.bd (id := id) (m := m) hid
  have old : ∀ i mi b, h i ≠ none → μ i = some mi → mi.b = some b → b < w.heap.size := fun i mi b hi hmi hb => by
    cases e : h i with
    | none => exact absurd e hi
    | some ob' =>
      obtain ⟨m', hm', hB⟩ := H.blk i ob' e
      rw [hmi] at hm'; cases hm'
      exact hB.lt hb
  have cs : ∀ i, (updH h [(id, some ob)]) i = if i = id then some ob else h i := fun i => by
    simp only [updH]
    by_cases e : i = id
    · subst e; simp
    · simp [e, nbeq_ne e]
  refine H.upd E ?_ ?_ ?_ ?_
  · intro i o' ho
    rw [cs] at ho
    split at ho
    · rename_i e; subst e; cases ho
      exact .inr ⟨m, MM.add_same, hok⟩
    · refine .inl ⟨ho, fun m' b hm' hb => heap_alloc_old' w o (old i m' b (by rw [ho]; simp) hm' hb)⟩
  · intro i j mi mj b hi hj hmi hmj hbi hbj
    rw [cs] at hi hj
    by_cases ei : i = id <;> by_cases ej : j = id
    · rw [ei, ej]
    · subst ei
      rw [MM.add_same] at hmi; cases hmi
      rw [MM.add_ne ej] at hmj
      rw [if_neg ej] at hj
      rw [hmb] at hbi; cases hbi
      exact absurd (old j mj _ hj hmj hbj) (Nat.lt_irrefl _)
    · subst ej
      rw [MM.add_same] at hmj; cases hmj
      rw [MM.add_ne ei] at hmi
      rw [if_neg ei] at hi
      rw [hmb] at hbj; cases hbj
      exact absurd (old i mi _ hi hmi hbi) (Nat.lt_irrefl _)
    · rw [MM.add_ne ei] at hmi
      rw [MM.add_ne ej] at hmj
      rw [if_neg ei] at hi
      rw [if_neg ej] at hj
      exact H.inj i j mi mj b hi hj hmi hmj hbi hbj
  · intro i mi b p hi hmi hb hs
    rw [cs] at hi
    by_cases ei : i = id
    · subst ei
      rw [MM.add_same] at hmi; cases hmi
      rw [hmb] at hb; cases hb
      exact absurd (H.bd p _ hs) (Nat.lt_irrefl _)
    · rw [MM.add_ne ei] at hmi
      rw [if_neg ei] at hi
      exact H.sep i mi b p hi hmi hb hs
  · intro p b hs
    have := H.bd p b hs
    rw [size_alloc']; omega

/-- A block of one's own is written. -/
theorem HRel.write {w : World} {S : SS} {μ : MM} {h : Nat → Option OB} (H : HRel w S μ h) {id : Nat} {m : MI} {ob ob' : OB} {b : Nat} {cs : Array Value} (hh : h id = some ob) (hm : μ id = some m) (hmb : m.b = some b)
    (hok : ∀ E : Evo w S μ (w.setRow b cs) S μ, BOk (w.setRow b cs) S μ m ob') : Evo w S μ (w.setRow b cs) S μ ∧ HRel (w.setRow b cs) S μ (updH h [(id, some ob')]) := by
  have E : Evo w S μ (w.setRow b cs) S μ := by
    refine ⟨rfl, rfl, rfl, by simp, ?_, fun _ => Iff.rfl, fun _ h => h, fun _ h => .inl h, fun _ _ h => h⟩
    intro p b' hs
    exact setRow_other w b b' cs fun e => H.sep id m b p (by rw [hh]; simp) hm hmb (e ▸ hs)
  refine ⟨E, ?_⟩
  have cs' : ∀ i, (updH h [(id, some ob')]) i = if i = id then some ob' else h i := fun i => by
    simp only [updH]
    by_cases e : i = id
    · subst e; simp
    · simp [e, nbeq_ne e]
  have ne : ∀ i, (updH h [(id, some ob')]) i ≠ none → h i ≠ none := fun i hi => by
    rw [cs'] at hi
    split at hi
    · rename_i e; rw [e, hh]; simp
    · exact hi
  refine H.upd E ?_ ?_ ?_ ?_
  · intro i o ho
    rw [cs'] at ho
    split at ho
    · rename_i e; subst e; cases ho
      exact .inr ⟨m, hm, hok E⟩
    · rename_i e
      refine .inl ⟨ho, fun mi bi hmi hbi => setRow_other w b bi cs fun eb => e ?_⟩
      subst eb
      exact H.inj i id mi m bi (by rw [ho]; simp) (by rw [hh]; simp) hmi hm hbi hmb
  · intro i j mi mj b' hi hj
    exact H.inj i j mi mj b' (ne i hi) (ne j hj)
  · intro i mi b' p hi
    exact H.sep i mi b' p (ne i hi)
  · intro p b' hs
    simpa using H.bd p b' hs
end Go.Proofs.Ytemffnpliflkgaa
