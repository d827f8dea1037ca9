/-
  Lemmas and contracts on the way to the laws of this seat; each theorem states its own conditions, and there are no others.
-/
import Derived.Test.YtemffnpliflkgaaE3
import Derived.Laws.AppendOwn
import Derived.Laws.CopyRow
namespace Go.Proofs.Ytemffnpliflkgaa
open Go
set_option linter.unusedVariables false
set_option linter.unusedSimpArgs false

/-- What stands behind a block's name: the block, if there is one; of a row its length, its code and its room. -/
structure MI where
  b : Option Nat
  n : Nat
  c : Nat
  cap : Nat
abbrev MM := Nat → Option MI
abbrev SS := Bool → Nat → Prop

/-- Is the key this number? -/
def keyIs (k : Int) : Value → Bool
  | .int .i64 n => decide (n = k)
  | _ => false
/-- What a map holds at a number. -/
def mapGet : List MapEntry → Int → Option Value
  | [], _ => none
  | e :: r, k => bif keyIs k e.key then some e.val else mapGet r k
/-- A map with numbers as keys, as a function. -/
structure MShape (es : List MapEntry) (g : Bool) (c : Nat) (f : Int → den c) : Prop where
  keys : ∀ e ∈ es, ∃ n, e.key = .int .i64 n
  abs : ∀ k, mapGet es k = none → f k = dfl c
  len : ∀ k v, mapGet es k = some v → v.cells.size = ncell c
  agg : g = true → ∀ k v, mapGet es k = some v → ∃ vs, v = .agg vs
  one : g = false → ∀ k v, mapGet es k = some v → v.cells = #[v]

inductive VRel (w : World) (S : SS) (μ : MM) : AV → Value → Prop
  | undef (v : Value) : VRel w S μ .undef v
  | int (k : IntKind) (n : Int) : VRel w S μ (.int k n) (.int k n)
  | tt : VRel w S μ .tt (.bool true)
  | ff : VRel w S μ .ff (.bool false)
  | bool (b : Bool) : VRel w S μ (.bool b) (.bool b)
  | str (s : ByteArray) : VRel w S μ (.str s) (.string s)
  | nilp : VRel w S μ .nilp (.pointer none)
  | ptr {id off b : Nat} {m : MI} (hm : μ id = some m) (hb : m.b = some b) : VRel w S μ (.ptr id off) (.pointer (some ⟨b, off, none⟩))
  | ept {id c r f b : Nat} {m : MI} (hm : μ id = some m) (hb : m.b = some b) (hr : r < m.n) : VRel w S μ (.ept id c r f) (.pointer (some ⟨b, r * ncell m.c + f, none⟩))
  | ipt {p : Bool} {cs : List AV} {off b o : Nat} (u : Nat → Value) (hs : S p b) (hc : ∀ j, off + j < cs.length → w.cell? ⟨b, o + j, none⟩ = some (u j)) (hv : ∀ j, off + j < cs.length → VRel w S μ (cs.getD (off + j) .undef) (u j)) : VRel w S μ (.ipt p cs off) (.pointer (some ⟨b, o, none⟩))
  | pix {id n b : Nat} {i : Int} {m : MI} (hm : μ id = some m) (hb : m.b = some b) (hi : i.toNat < n) : VRel w S μ (.pix id i n) (.pointer (some ⟨b, i.toNat, none⟩))
  | sel {i : Int} {fs : List (Option Nat)} {x : Value} (h : ∀ f, fs[i.toNat]? = some (some f) → x = .func (.func f) #[] #[]) : VRel w S μ (.sel i fs) x
  | nfn : VRel w S μ .nfn .nilFunc
  | nsl : VRel w S μ .nsl (.slice none 0 0)
  | zsl (a : Option Addr) : VRel w S μ .zsl (.slice a 0 0)
  | own {id c b : Nat} {m : MI} (hm : μ id = some m) (hb : m.b = some b) : VRel w S μ (.own id c) (.slice (some ⟨b, 0, none⟩) m.n m.cap)
  | own0 {id c : Nat} {m : MI} (a : Option Addr) (hm : μ id = some m) (h0 : m.n = 0) : VRel w S μ (.own id c) (.slice a 0 0)
  | sub {id c lo n b cap : Nat} {m : MI} (hm : μ id = some m) (hb : m.b = some b) (he : m.c = c) (hr : lo + n ≤ m.n) (hc : n ≤ cap ∧ lo + cap ≤ m.cap) : VRel w S μ (.sub id c lo n) (.slice (some ⟨b, lo * ncell c, none⟩) n cap)
  | sub0 {id c lo : Nat} (a : Option Addr) (cap : Nat) : VRel w S μ (.sub id c lo 0) (.slice a 0 (0 * cap))
  | irec {p : Bool} {c : Nat} {l : List (den c)} {b o cap : Nat} (u : Nat → Nat → Value) (hs : S p b) (hn : l.length ≤ cap) (hc : ∀ i, i < l.length → ∀ j, j < ncell c → w.cell? ⟨b, o + i * ncell c + j, none⟩ = some (u i j)) (hv : ∀ i, i < l.length → ∀ j, j < ncell c → VRel w S μ ((rowAV c l i).getD j .undef) (u i j)) : VRel w S μ (.irec p c l) (.slice (some ⟨b, o, none⟩) l.length cap)
  | irec0 {p : Bool} {c : Nat} (a : Option Addr) (cap : Nat) : VRel w S μ (.irec p c []) (.slice a 0 cap)
  | mp {id b : Nat} {m : MI} (hm : μ id = some m) (hb : m.b = some b) : VRel w S μ (.mp id) (.map (some b))
  | imp {p g : Bool} {c : Nat} {f : Int → den c} {b clock : Nat} {es : Array MapEntry} (u : Int → Nat → Value) (hs : S p b) (hh : w.heap[b]? = some (.map es clock)) (hm : MShape es.toList g c f) (hu : ∀ k v, mapGet es.toList k = some v → ∀ j, j < ncell c → v.cells.getD j Go.undef = u k j) (hv : ∀ k, mapGet es.toList k ≠ none → ∀ j, j < ncell c → VRel w S μ ((enc c (f k)).getD j .undef) (u k j)) : VRel w S μ (.imp p g c f) (.map (some b))
  | agg {l : List AV} {vs : Array Value} (hl : l.length = vs.size) (h : ∀ i, i < l.length → VRel w S μ (l.getD i .undef) (vs.getD i Go.undef)) : VRel w S μ (.agg l) (.agg vs)
  | tup {l : List AV} {vs : Array Value} (hl : l.length = vs.size) (h : ∀ i, i < l.length → VRel w S μ (l.getD i .undef) (vs.getD i Go.undef)) : VRel w S μ (.tup l) (.tuple vs)
  | fn {f : Fn} {a c : List AV} {x y : Array Value} (hl : a.length = x.size) (h : ∀ i, i < a.length → VRel w S μ (a.getD i .undef) (x.getD i Go.undef)) (hl' : c.length = y.size) (h' : ∀ i, i < c.length → VRel w S μ (c.getD i .undef) (y.getD i Go.undef)) : VRel w S μ (.fn f a c) (.func f x y)
  | opt {g b : Bool} {v : AV} {x : Value} (h : g = b → VRel w S μ v x) (h' : g ≠ b → x = Go.undef) : VRel w S μ (.opt g b v) x

/-- How the world may go on: what is fixed stays; names keep their meaning. -/
structure Evo (w : World) (S : SS) (μ : MM) (w' : World) (S' : SS) (μ' : MM) : Prop where
  os : w'.os = w.os
  tape : w'.tape = w.tape
  output : w'.output = w.output
  size : w.heap.size ≤ w'.heap.size
  keep : ∀ p b, S p b → w'.heap[b]? = w.heap[b]?
  fls : ∀ b, S' false b ↔ S false b
  tru : ∀ b, S true b → S' true b
  trn : ∀ b, S' true b → S true b ∨ ¬ S false b
  ext : ∀ id m, μ id = some m → μ' id = some m

theorem Evo.refl (w : World) (S : SS) (μ : MM) : Evo w S μ w S μ :=
  ⟨rfl, rfl, rfl, Nat.le_refl _, fun _ _ _ => rfl, fun _ => Iff.rfl, fun _ h => h, fun _ h => .inl h, fun _ _ h => h⟩
theorem Evo.mono {w w' : World} {S S' : SS} {μ μ' : MM} (h : Evo w S μ w' S' μ') {p : Bool} {b : Nat} (hs : S p b) : S' p b := by
  cases p
  · exact (h.fls b).2 hs
  · exact h.tru b hs
theorem Evo.trans {w w' w'' : World} {S S' S'' : SS} {μ μ' μ'' : MM} (h : Evo w S μ w' S' μ') (k : Evo w' S' μ' w'' S'' μ'') : Evo w S μ w'' S'' μ'' where
  os := k.os.trans h.os
  tape := k.tape.trans h.tape
  output := k.output.trans h.output
  size := Nat.le_trans h.size k.size
  keep := fun p b hs => (k.keep p b (h.mono hs)).trans (h.keep p b hs)
  fls := fun b => (k.fls b).trans (h.fls b)
  tru := fun b hs => k.tru b (h.tru b hs)
  trn := fun b hs => by
    rcases k.trn b hs with h1 | h1
    · exact h.trn b h1
    · exact .inr fun h2 => h1 ((h.fls b).2 h2)
  ext := fun id m hm => k.ext id m (h.ext id m hm)

theorem Evo.cell {w w' : World} {S S' : SS} {μ μ' : MM} (h : Evo w S μ w' S' μ') {p : Bool} {a : Addr} (hs : S p a.block) : w'.cell? a = w.cell? a :=
  World.cell?_of_block (w := w) (h.keep p a.block hs)

theorem VRel.evo {w w' : World} {S S' : SS} {μ μ' : MM} (E : Evo w S μ w' S' μ') {v : AV} {x : Value} (h : VRel w S μ v x) : VRel w' S' μ' v x := by
  induction h with
  | undef v => exact .undef v
  | int k n => exact .int k n
  | tt => exact .tt
  | ff => exact .ff
  | bool b => exact .bool b
  | str s => exact .str s
  | nilp => exact .nilp
  | ptr hm hb => exact .ptr (E.ext _ _ hm) hb
  | ept hm hb hr => exact .ept (E.ext _ _ hm) hb hr
  | ipt u hs hc _ ih => exact .ipt u (E.mono hs) (fun j hj => by rw [E.cell (p := _) (a := ⟨_, _, none⟩) hs]; exact hc j hj) ih
  | pix hm hb hi => exact .pix (E.ext _ _ hm) hb hi
  | sel h => exact .sel h
  | nfn => exact .nfn
  | nsl => exact .nsl
  | zsl a => exact .zsl a
  | own hm hb => exact .own (E.ext _ _ hm) hb
  | own0 a hm h0 => exact .own0 a (E.ext _ _ hm) h0
  | sub hm hb he hr hc => exact .sub (E.ext _ _ hm) hb he hr hc
  | sub0 a cap => exact .sub0 a cap
  | irec u hs hn hc _ ih => exact .irec u (E.mono hs) hn (fun i hi j hj => by rw [E.cell (p := _) (a := ⟨_, _, none⟩) hs]; exact hc i hi j hj) ih
  | irec0 a cap => exact .irec0 a cap
  | mp hm hb => exact .mp (E.ext _ _ hm) hb
  | imp u hs hh hm hu _ ih => exact .imp u (E.mono hs) (by rw [E.keep _ _ hs]; exact hh) hm hu ih
  | agg hl _ ih => exact .agg hl ih
  | tup hl _ ih => exact .tup hl ih
  | fn hl _ hl' _ ih ih' => exact .fn hl ih hl' ih'
  | opt _ h' ih => exact .opt ih h'

/-- The block of a slice that has room. -/
def hdr : Value → Option Nat
  | .slice (some a) _ (_ + 1) => some a.block
  | _ => none
def innAt (w : World) (b k : Nat) : Option Nat := match w.heap[b]? with
  | some (.cells cur _ _) => hdr (cur.getD k Go.undef)
  | _ => none
/-- The row that is out of a deep block. -/
def outAt (out : Option (Nat × Nat × Nat)) (i j : Nat) : Bool := match out with
  | some (r, f, _) => Nat.beq r i && Nat.beq f j
  | none => false
def dpB : OB → Bool
  | .deep _ _ _ _ _ => true
  | _ => false
/-- The blocks that a block has. -/
def holds (w : World) (m : MI) (o : OB) (b : Nat) : Prop := m.b = some b ∨ (match o with
  | .deep _ c _ l out => ∃ b0 i j, m.b = some b0 ∧ i < l.length ∧ j < ncell c ∧ outAt out i j = false ∧ innAt w b0 (i * ncell c + j) = some b
  | _ => False)
/-- A row within a deep block. -/
def INN (w : World) (S : SS) (μ : MM) (et c : Nat) (l : List (den c)) (x : Value) : Prop :=
  (l = [] ∧ ∃ a, x = .slice a 0 0) ∨ ∃ (b cap : Nat) (cur : Array Value), x = .slice (some ⟨b, 0, none⟩) l.length cap ∧ 0 < cap ∧ w.heap[b]? = some (.cells cur et (0, 0)) ∧ cur.size = cap * ncell c ∧ l.length ≤ cap ∧ cap ≤ maxLen ∧
    ∀ i, i < l.length → ∀ j, j < ncell c → VRel w S μ ((rowAV c l i).getD j .undef) (cur.getD (i * ncell c + j) Go.undef)
/-- A cell of a deep block. -/
def DC (w : World) (S : SS) (μ : MM) (et : Nat) (v : AV) (x : Value) : Prop := match v with
  | .irec true c l => INN w S μ et c l x
  | v => VRel w S μ v x ∧ hdr x = none
def OutOk (w : World) (S : SS) (μ : MM) (out : Option (Nat × Nat × Nat)) (x : Value) : Prop := match out with
  | some (_, _, name) => ∃ c, VRel w S μ (.own name c) x
  | none => False

/-- A block that is one's own holds what it is said to hold. -/
def BOk (w : World) (S : SS) (μ : MM) (m : MI) : OB → Prop
  | .cells et cs => ∃ (b : Nat) (cur : Array Value), m.b = some b ∧ w.heap[b]? = some (.cells cur et (0, 0)) ∧ cs.length ≤ cur.size ∧ ∀ j, j < cs.length → VRel w S μ (cs.getD j .undef) (cur.getD j Go.undef)
  | .rows et c l => m.n = l.length ∧ m.c = c ∧ ((l = [] ∧ m.b = none) ∨ ∃ (b : Nat) (cur : Array Value), m.b = some b ∧ w.heap[b]? = some (.cells cur et (0, 0)) ∧ cur.size = m.cap * ncell c ∧ l.length ≤ m.cap ∧ m.cap ≤ maxLen ∧
      ∀ i, i < l.length → ∀ j, j < ncell c → VRel w S μ ((rowAV c l i).getD j .undef) (cur.getD (i * ncell c + j) Go.undef))
  | .imap g c f => ∃ (b clock : Nat) (es : Array MapEntry) (u : Int → Nat → Value), m.b = some b ∧ w.heap[b]? = some (.map es clock) ∧ MShape es.toList g c f ∧ (∀ k v, mapGet es.toList k = some v → ∀ j, j < ncell c → v.cells.getD j Go.undef = u k j) ∧
      ∀ k, mapGet es.toList k ≠ none → ∀ j, j < ncell c → VRel w S μ ((enc c (f k)).getD j .undef) (u k j)
  | .deep et c ts l out => m.n = l.length ∧ m.c = c ∧ ((l = [] ∧ m.b = none) ∨ ∃ (b : Nat) (cur : Array Value), m.b = some b ∧ w.heap[b]? = some (.cells cur et (0, 0)) ∧ cur.size = m.cap * ncell c ∧ l.length ≤ m.cap ∧ m.cap ≤ maxLen ∧
      (∀ i, i < l.length → ∀ j, j < ncell c → (outAt out i j = true ∧ OutOk w S μ out (cur.getD (i * ncell c + j) Go.undef)) ∨ (outAt out i j = false ∧ DC w S μ (ts.getD j 0) ((rowAV c l i).getD j .undef) (cur.getD (i * ncell c + j) Go.undef))) ∧
      (∀ i j i' j' x, i < l.length → j < ncell c → i' < l.length → j' < ncell c → outAt out i j = false → outAt out i' j' = false → hdr (cur.getD (i * ncell c + j) Go.undef) = some x → hdr (cur.getD (i' * ncell c + j') Go.undef) = some x → i = i' ∧ j = j') ∧
      ∀ i j x, i < l.length → j < ncell c → outAt out i j = false → hdr (cur.getD (i * ncell c + j) Go.undef) = some x → x ≠ b)

theorem INN.evo {w w' : World} {S S' : SS} {μ μ' : MM} (E : Evo w S μ w' S' μ') {et c : Nat} {l : List (den c)} {x : Value} (h : INN w S μ et c l x) (hb : ∀ b, hdr x = some b → w'.heap[b]? = w.heap[b]?) : INN w' S' μ' et c l x := by
  rcases h with h | ⟨b, cap, cur, rfl, h1, h2, h3, h4, h5, h6⟩
  · exact .inl h
  · obtain ⟨k, rfl⟩ : ∃ k, cap = k + 1 := ⟨cap - 1, by omega⟩
    exact .inr ⟨b, k + 1, cur, rfl, h1, by rw [hb b rfl]; exact h2, h3, h4, h5, fun i hi j hj => (h6 i hi j hj).evo E⟩
theorem DC.evo {w w' : World} {S S' : SS} {μ μ' : MM} (E : Evo w S μ w' S' μ') {et : Nat} {v : AV} {x : Value} (h : DC w S μ et v x) (hb : ∀ b, hdr x = some b → w'.heap[b]? = w.heap[b]?) : DC w' S' μ' et v x := by
  unfold DC at h ⊢
  split
  · exact INN.evo E h hb
  · rename_i hne
    split at h
    · exact absurd rfl (hne _ _)
    · exact ⟨h.1.evo E, h.2⟩
theorem OutOk.evo {w w' : World} {S S' : SS} {μ μ' : MM} (E : Evo w S μ w' S' μ') {out : Option (Nat × Nat × Nat)} {x : Value} (h : OutOk w S μ out x) : OutOk w' S' μ' out x := by
  unfold OutOk at h ⊢
  split
  · obtain ⟨c, h⟩ := h
    exact ⟨c, h.evo E⟩
  · exact h
theorem innAt_cells {w : World} {b : Nat} {cur : Array Value} {et : Nat} {q : Nat × Nat} (h : w.heap[b]? = some (.cells cur et q)) (k : Nat) : innAt w b k = hdr (cur.getD k Go.undef) := by
  unfold innAt; rw [h]
theorem BOk.evo {w w' : World} {S S' : SS} {μ μ' : MM} (E : Evo w S μ w' S' μ') {m : MI} {o : OB} (h : BOk w S μ m o) (hb : ∀ b, holds w m o b → w'.heap[b]? = w.heap[b]?) : BOk w' S' μ' m o := by
  cases o with
  | cells et cs =>
    obtain ⟨b, cur, h1, h2, h3, h4⟩ := h
    exact ⟨b, cur, h1, by rw [hb b (.inl h1)]; exact h2, h3, fun j hj => (h4 j hj).evo E⟩
  | rows et c l =>
    obtain ⟨h0, h1, h2⟩ := h
    refine ⟨h0, h1, ?_⟩
    rcases h2 with h2 | ⟨b, cur, h2, h3, h4, h5, h6, h7⟩
    · exact .inl h2
    · exact .inr ⟨b, cur, h2, by rw [hb b (.inl h2)]; exact h3, h4, h5, h6, fun i hi j hj => (h7 i hi j hj).evo E⟩
  | imap g c f =>
    obtain ⟨b, clock, es, u, h1, h2, h3, h4, h5⟩ := h
    exact ⟨b, clock, es, u, h1, by rw [hb b (.inl h1)]; exact h2, h3, h4, fun k hk j hj => (h5 k hk j hj).evo E⟩
  | deep et c ts l out =>
    obtain ⟨h0, h1, h2⟩ := h
    refine ⟨h0, h1, ?_⟩
    rcases h2 with h2 | ⟨b, cur, h2, h3, h4, h5, h6, h7, h8, h9⟩
    · exact .inl h2
    · refine .inr ⟨b, cur, h2, by rw [hb b (.inl h2)]; exact h3, h4, h5, h6, fun i hi j hj => ?_, h8, h9⟩
      rcases h7 i hi j hj with ⟨a1, a2⟩ | ⟨a1, a2⟩
      · exact .inl ⟨a1, a2.evo E⟩
      · exact .inr ⟨a1, a2.evo E fun x hx => hb x (.inr ⟨b, i, j, h2, hi, hj, a1, by rw [innAt_cells h3]; exact hx⟩)⟩

structure HRel (w : World) (S : SS) (μ : MM) (h : Nat → Option OB) : Prop where
  blk : ∀ id o, h id = some o → ∃ m, μ id = some m ∧ BOk w S μ m o
  injH : ∀ i j oi oj mi mj b, h i = some oi → h j = some oj → μ i = some mi → μ j = some mj → holds w mi oi b → holds w mj oj b → i = j
  sepH : ∀ i o m b p, h i = some o → μ i = some m → holds w m o b → ¬ S p b
  bd : ∀ p b, S p b → b < w.heap.size
theorem ne_some {α : Type} {x : Option α} (h : x ≠ none) : ∃ y, x = some y := by
  cases x with
  | none => exact absurd rfl h
  | some y => exact ⟨y, rfl⟩
theorem HRel.inj {w : World} {S : SS} {μ : MM} {h : Nat → Option OB} (H : HRel w S μ h) (i j : Nat) (mi mj : MI) (b : Nat) (hi : h i ≠ none) (hj : h j ≠ none) (hmi : μ i = some mi) (hmj : μ j = some mj) (hbi : mi.b = some b) (hbj : mj.b = some b) : i = j := by
  obtain ⟨oi, ei⟩ := ne_some hi
  obtain ⟨oj, ej⟩ := ne_some hj
  exact H.injH i j oi oj mi mj b ei ej hmi hmj (.inl hbi) (.inl hbj)
theorem HRel.sep {w : World} {S : SS} {μ : MM} {h : Nat → Option OB} (H : HRel w S μ h) (i : Nat) (m : MI) (b : Nat) (p : Bool) (hi : h i ≠ none) (hm : μ i = some m) (hb : m.b = some b) : ¬ S p b := by
  obtain ⟨oi, ei⟩ := ne_some hi
  exact H.sepH i oi m b p ei hm (.inl hb)

theorem obj_lt {w : World} {b : Nat} {x : Obj} (hx : w.heap[b]? = some x) : b < w.heap.size := (Array.getElem?_eq_some_iff.1 hx).1
theorem BOk.lt {w : World} {S : SS} {μ : MM} {m : MI} {o : OB} (h : BOk w S μ m o) {b : Nat} (hb : m.b = some b) : b < w.heap.size := by
  cases o with
  | cells et cs =>
    obtain ⟨b', cur, h1, h2, _⟩ := h
    rw [hb] at h1; cases h1
    exact obj_lt h2
  | rows et c l =>
    obtain ⟨_, _, h2⟩ := h
    rcases h2 with ⟨_, h2⟩ | ⟨b', cur, h2, h3, _⟩
    · rw [hb] at h2; cases h2
    · rw [hb] at h2; cases h2
      exact obj_lt h3
  | imap g c f =>
    obtain ⟨b', clock, es, u, h1, h2, _⟩ := h
    rw [hb] at h1; cases h1
    exact obj_lt h2
  | deep et c ts l out =>
    obtain ⟨_, _, h2⟩ := h
    rcases h2 with ⟨_, h2⟩ | ⟨b', cur, h2, h3, _⟩
    · rw [hb] at h2; cases h2
    · rw [hb] at h2; cases h2
      exact obj_lt h3
theorem INN.lt {w : World} {S : SS} {μ : MM} {et c : Nat} {l : List (den c)} {x : Value} (h : INN w S μ et c l x) {b : Nat} (hb : hdr x = some b) : b < w.heap.size := by
  rcases h with ⟨_, a, rfl⟩ | ⟨b', cap, cur, rfl, h1, h2, _⟩
  · simp [hdr] at hb
  · obtain ⟨k, rfl⟩ : ∃ k, cap = k + 1 := ⟨cap - 1, by omega⟩
    simp only [hdr, Option.some.injEq] at hb
    subst hb
    exact obj_lt h2
theorem DC.lt {w : World} {S : SS} {μ : MM} {et : Nat} {v : AV} {x : Value} (h : DC w S μ et v x) {b : Nat} (hb : hdr x = some b) : b < w.heap.size := by
  unfold DC at h
  split at h
  · exact h.lt hb
  · rw [h.2] at hb; cases hb
theorem BOk.ltH {w : World} {S : SS} {μ : MM} {m : MI} {o : OB} (h : BOk w S μ m o) {b : Nat} (hb : holds w m o b) : b < w.heap.size := by
  rcases hb with hb | hb
  · exact h.lt hb
  · cases o with
    | deep et c ts l out =>
      obtain ⟨b0, i, j, h1, h2, h3, h4, h5⟩ := hb
      obtain ⟨_, _, h6⟩ := h
      rcases h6 with ⟨_, h6⟩ | ⟨b', cur, h6, h7, _, _, _, h8, _⟩
      · rw [h1] at h6; cases h6
      · rw [h1] at h6; cases h6
        rw [innAt_cells h7] at h5
        rcases h8 i h2 j h3 with ⟨a1, _⟩ | ⟨_, a2⟩
        · rw [h4] at a1; cases a1
        · exact a2.lt h5
    | _ => exact hb.elim
/-- A deep block whose own block stays has what it had. -/
theorem holds_same {w w' : World} {m : MI} {o : OB} (hb : ∀ b, m.b = some b → w'.heap[b]? = w.heap[b]?) (b : Nat) : holds w' m o b ↔ holds w m o b := by
  unfold holds
  cases o with
  | deep et c ts l out =>
    have e : ∀ b0 k, m.b = some b0 → innAt w' b0 k = innAt w b0 k := fun b0 k h0 => by unfold innAt; rw [hb b0 h0]
    constructor
    · rintro (h | ⟨b0, i, j, h1, h2, h3, h4, h5⟩)
      · exact .inl h
      · exact .inr ⟨b0, i, j, h1, h2, h3, h4, by rw [← e b0 _ h1]; exact h5⟩
    · rintro (h | ⟨b0, i, j, h1, h2, h3, h4, h5⟩)
      · exact .inl h
      · exact .inr ⟨b0, i, j, h1, h2, h3, h4, by rw [e b0 _ h1]; exact h5⟩
  | _ => exact Iff.rfl
theorem holds_plain {w : World} {m : MI} {o : OB} (hd : dpB o = false) {b : Nat} (h : holds w m o b) : m.b = some b := by
  rcases h with h | h
  · exact h
  · cases o with
    | deep et c ts l out => cases hd
    | _ => exact h.elim

/-- Memory goes on: each block is either as it was, or shown anew. -/
theorem HRel.updH' {w w' : World} {S S' : SS} {μ μ' : MM} {h h' : Nat → Option OB} (H : HRel w S μ h) (E : Evo w S μ w' S' μ')
    (hb : ∀ id o, h' id = some o → (h id = some o ∧ ∀ m b, μ id = some m → holds w m o b → w'.heap[b]? = w.heap[b]?) ∨ ∃ m, μ' id = some m ∧ BOk w' S' μ' m o)
    (hinj : ∀ i j oi oj mi mj b, h' i = some oi → h' j = some oj → μ' i = some mi → μ' j = some mj → holds w' mi oi b → holds w' mj oj b → i = j)
    (hsep : ∀ i o m b p, h' i = some o → μ' i = some m → holds w' m o b → ¬ S' p b)
    (hbd : ∀ p b, S' p b → b < w'.heap.size) : HRel w' S' μ' h' where
  blk := fun id o ho => by
    rcases hb id o ho with ⟨h1, h2⟩ | h1
    · obtain ⟨m, hm, hB⟩ := H.blk id o h1
      exact ⟨m, E.ext _ _ hm, hB.evo E fun b hb => h2 m b hm hb⟩
    · exact h1
  injH := hinj
  sepH := hsep
  bd := hbd
/-- Where a block's memory comes from: it is new, or it was that of a plain block (or of the same one). -/
def From (w : World) (μ : MM) (h : Nat → Option OB) (id b : Nat) : Prop := w.heap.size ≤ b ∨ ∃ k ok mk, h k = some ok ∧ μ k = some mk ∧ mk.b = some b ∧ (dpB ok = true → k = id)
def FromS (w : World) (S : SS) (μ : MM) (h h' : Nat → Option OB) (b : Nat) : Prop := S true b ∨ w.heap.size ≤ b ∨ ∃ k ok mk, h k = some ok ∧ μ k = some mk ∧ mk.b = some b ∧ (dpB ok = false ∨ h' k = none)
/-- The same where deep blocks stay as they are. -/
theorem HRel.upd {w w' : World} {S S' : SS} {μ μ' : MM} {h h' : Nat → Option OB} (H : HRel w S μ h) (E : Evo w S μ w' S' μ')
    (hb : ∀ id o, h' id = some o → (h id = some o ∧ ∀ m b, μ id = some m → holds w m o b → w'.heap[b]? = w.heap[b]?) ∨ ((∀ m b, μ' id = some m → holds w' m o b → m.b = some b) ∧ ∃ m, μ' id = some m ∧ BOk w' S' μ' m o))
    (hinj : ∀ i j mi mj b, h' i ≠ none → h' j ≠ none → μ' i = some mi → μ' j = some mj → mi.b = some b → mj.b = some b → i = j)
    (hsep : ∀ i m b p, h' i ≠ none → μ' i = some m → m.b = some b → ¬ S' p b)
    (hbd : ∀ p b, S' p b → b < w'.heap.size)
    (hsrc : ∀ id m b, h' id ≠ none → μ' id = some m → m.b = some b → From w μ h id b)
    (hS : ∀ b, S' true b → FromS w S μ h h' b) : HRel w' S' μ' h' := by
  have old : ∀ i o m b, h' i = some o → μ' i = some m → holds w' m o b → m.b = some b ∨ (dpB o = true ∧ h i = some o ∧ μ i = some m ∧ holds w m o b) := fun i o m b ho hm hh => by
    rcases hb i o ho with ⟨h1, h2⟩ | ⟨h1, _⟩
    · obtain ⟨m', hm', _⟩ := H.blk i o h1
      have := E.ext i m' hm'
      rw [hm] at this; cases this
      by_cases hd : dpB o = true
      · exact .inr ⟨hd, h1, hm', (holds_same (fun b hb => h2 _ b hm' (.inl hb)) b).1 hh⟩
      · exact .inl (holds_plain (by simpa using hd) hh)
    · exact .inl (h1 m b hm hh)
  have cross : ∀ i j oi mi mj b, h' j ≠ none → (dpB oi = true ∧ h i = some oi ∧ μ i = some mi ∧ holds w mi oi b) → μ' j = some mj → mj.b = some b → i = j := fun i j oi mi mj b hj ⟨d1, d2, d3, d4⟩ hmj hbj => by
    rcases hsrc j mj b hj hmj hbj with hlt | ⟨k, ok, mk, k1, k2, k3, k4⟩
    · obtain ⟨m', hm', hB⟩ := H.blk i oi d2
      rw [d3] at hm'; cases hm'
      exact absurd (hB.ltH d4) (by omega)
    · have e := H.injH i k oi ok mi mk b d2 k1 d3 k2 d4 (.inl k3)
      subst e
      rw [d2] at k1; cases k1
      exact k4 d1
  refine H.updH' E (fun id o ho => (hb id o ho).imp_right (·.2)) ?_ ?_ hbd
  · intro i j oi oj mi mj b hi hj hmi hmj hbi hbj
    rcases old i oi mi b hi hmi hbi with a | a <;> rcases old j oj mj b hj hmj hbj with c | c
    · exact hinj i j mi mj b (by rw [hi]; simp) (by rw [hj]; simp) hmi hmj a c
    · exact (cross j i oj mj mi b (by rw [hi]; simp) c hmi a).symm
    · exact cross i j oi mi mj b (by rw [hj]; simp) a hmj c
    · exact H.injH i j oi oj mi mj b a.2.1 c.2.1 a.2.2.1 c.2.2.1 a.2.2.2 c.2.2.2
  · intro i o m b p hi hm hh
    rcases old i o m b hi hm hh with a | ⟨d1, d2, d3, d4⟩
    · exact hsep i m b p (by rw [hi]; simp) hm a
    · intro hs
      cases p
      · exact H.sepH i o m b false d2 d3 d4 ((E.fls b).1 hs)
      · rcases hS b hs with h1 | h1 | ⟨k, ok, mk, k1, k2, k3, k4⟩
        · exact H.sepH i o m b true d2 d3 d4 h1
        · obtain ⟨m', hm', hB⟩ := H.blk i o d2
          rw [d3] at hm'; cases hm'
          exact absurd (hB.ltH d4) (by omega)
        · have e := H.injH i k o ok m mk b d2 k1 d3 k2 d4 (.inl k3)
          subst e
          rw [d2] at k1; cases k1
          rcases k4 with k4 | k4
          · rw [d1] at k4; cases k4
          · rw [hi] at k4; cases k4
theorem From.same {w : World} {S : SS} {μ : MM} {h : Nat → Option OB} (H : HRel w S μ h) {id : Nat} {o : OB} (ho : h id = some o) {m : MI} (hm : μ id = some m) {b : Nat} (hb : m.b = some b) : From w μ h id b := .inr ⟨id, o, m, ho, hm, hb, fun _ => rfl⟩

/-- Some blocks are forgotten. -/
theorem HRel.sub {w : World} {S : SS} {μ : MM} {h h' : Nat → Option OB} (H : HRel w S μ h) (hs : ∀ id o, h' id = some o → h id = some o) : HRel w S μ h' where
  blk := fun id o ho => H.blk id o (hs id o ho)
  injH := fun i j oi oj mi mj b hi hj => H.injH i j oi oj mi mj b (hs i oi hi) (hs j oj hj)
  sepH := fun i o m b p hi => H.sepH i o m b p (hs i o hi)
  bd := H.bd

/-- The blocks' names, one more. -/
def MM.add (μ : MM) (id : Nat) (m : MI) : MM := fun i => if i = id then some m else μ i
theorem MM.ext_add {μ : MM} {id : Nat} {m : MI} (h : μ id = none) : ∀ i x, μ i = some x → (μ.add id m) i = some x := fun i x hx => by
  unfold MM.add
  split
  · rename_i e; subst e; rw [h] at hx; cases hx
  · exact hx
theorem MM.add_same {μ : MM} {id : Nat} {m : MI} : (μ.add id m) id = some m := by simp [MM.add]
theorem MM.add_ne {μ : MM} {id i : Nat} {m : MI} (h : i ≠ id) : (μ.add id m) i = μ i := by simp [MM.add, h]

theorem heap_alloc_old' (w : World) (o : Obj) {b : Nat} (h : b < w.heap.size) : (w.alloc o).heap[b]? = w.heap[b]? := by
  show (w.heap.push o)[b]? = _
  rw [Array.getElem?_push]
  simp [Nat.ne_of_lt h]
theorem heap_alloc_new' (w : World) (o : Obj) : (w.alloc o).heap[w.heap.size]? = some o := by
  show (w.heap.push o)[w.heap.size]? = _
  simp
theorem size_alloc' (w : World) (o : Obj) : (w.alloc o).heap.size = w.heap.size + 1 := by
  show (w.heap.push o).size = _
  simp

theorem Evo.alloc (w : World) (S : SS) (μ : MM) (o : Obj) (hbd : ∀ p b, S p b → b < w.heap.size) {id : Nat} {m : MI} (hid : μ id = none) : Evo w S μ (w.alloc o) S (μ.add id m) where
  os := rfl
  tape := rfl
  output := rfl
  size := by rw [size_alloc']; omega
  keep := fun p b hs => heap_alloc_old' w o (hbd p b hs)
  fls := fun _ => Iff.rfl
  tru := fun _ h => h
  trn := fun _ h => .inl h
  ext := MM.ext_add hid

theorem nbeq_ne {i j : Nat} (h : i ≠ j) : Nat.beq i j = false := Bool.eq_false_iff.2 fun e => h (Nat.eq_of_beq_eq_true e)
theorem nbeq_same (i : Nat) : Nat.beq i i = true := Nat.beq_refl i

theorem upds_h (s : St) (u : Upd) : (s.upds u).h = updH s.h u := by
  induction u generalizing s with
  | nil => rfl
  | cons x r ih => obtain ⟨id, o⟩ := x; exact ih _
theorem upds_t (s : St) (u : Upd) : (s.upds u).t = s.t := by
  induction u generalizing s with
  | nil => rfl
  | cons x r ih => obtain ⟨id, o⟩ := x; exact ih _
theorem upds_nx (s : St) (u : Upd) : (s.upds u).nx = s.nx := by
  induction u generalizing s with
  | nil => rfl
  | cons x r ih => obtain ⟨id, o⟩ := x; exact ih _

/-- A block is made: it is one's own from now on. -/
theorem HRel.alloc {w : World} {S : SS} {μ : MM} {h : Nat → Option OB} (H : HRel w S μ h) {o : Obj} {id : Nat} {m : MI} {ob : OB} (hid : μ id = none) (hmb : m.b = some w.heap.size)
    (hok : BOk (w.alloc o) S (μ.add id m) m ob) (hin : ∀ b, holds (w.alloc o) m ob b → m.b = some b := by exact fun _ h => holds_plain rfl h) : HRel (w.alloc o) S (μ.add id m) (updH h [(id, some ob)]) := by
  have E := Evo.alloc w S μ o H.bd (id := id) (m := m) hid
  have old : ∀ i mi b, h i ≠ none → μ i = some mi → mi.b = some b → b < w.heap.size := fun i mi b hi hmi hb => by
    cases e : h i with
    | none => exact absurd e hi
    | some ob' =>
      obtain ⟨m', hm', hB⟩ := H.blk i ob' e
      rw [hmi] at hm'; cases hm'
      exact hB.lt hb
  have oldH : ∀ i oi mi b, h i = some oi → μ i = some mi → holds w mi oi b → b < w.heap.size := fun i oi mi b hi hmi hb => by
    obtain ⟨m', hm', hB⟩ := H.blk i oi hi
    rw [hmi] at hm'; cases hm'
    exact hB.ltH hb
  have cs : ∀ i, (updH h [(id, some ob)]) i = if i = id then some ob else h i := fun i => by
    simp only [updH]
    by_cases e : i = id
    · subst e; simp
    · simp [e, nbeq_ne e]
  refine H.upd E ?_ ?_ ?_ ?_ ?_ fun _ hs => .inl hs
  · intro i o' ho
    rw [cs] at ho
    split at ho
    · rename_i e; subst e; cases ho
      exact .inr ⟨fun m' b hm' hh => by rw [MM.add_same] at hm'; cases hm'; exact hin b hh, m, MM.add_same, hok⟩
    · refine .inl ⟨ho, fun m' b hm' hb => heap_alloc_old' w o (oldH i o' m' b ho hm' hb)⟩
  · intro i j mi mj b hi hj hmi hmj hbi hbj
    rw [cs] at hi hj
    by_cases ei : i = id <;> by_cases ej : j = id
    · rw [ei, ej]
    · subst ei
      rw [MM.add_same] at hmi; cases hmi
      rw [MM.add_ne ej] at hmj
      rw [if_neg ej] at hj
      rw [hmb] at hbi; cases hbi
      exact absurd (old j mj _ hj hmj hbj) (Nat.lt_irrefl _)
    · subst ej
      rw [MM.add_same] at hmj; cases hmj
      rw [MM.add_ne ei] at hmi
      rw [if_neg ei] at hi
      rw [hmb] at hbj; cases hbj
      exact absurd (old i mi _ hi hmi hbi) (Nat.lt_irrefl _)
    · rw [MM.add_ne ei] at hmi
      rw [MM.add_ne ej] at hmj
      rw [if_neg ei] at hi
      rw [if_neg ej] at hj
      exact H.inj i j mi mj b hi hj hmi hmj hbi hbj
  · intro i mi b p hi hmi hb hs
    rw [cs] at hi
    by_cases ei : i = id
    · subst ei
      rw [MM.add_same] at hmi; cases hmi
      rw [hmb] at hb; cases hb
      exact absurd (H.bd p _ hs) (Nat.lt_irrefl _)
    · rw [MM.add_ne ei] at hmi
      rw [if_neg ei] at hi
      exact H.sep i mi b p hi hmi hb hs
  · intro p b hs
    have := H.bd p b hs
    rw [size_alloc']; omega
  · intro i mi b hi hmi hb
    rw [cs] at hi
    by_cases ei : i = id
    · subst ei
      rw [MM.add_same] at hmi; cases hmi
      rw [hmb] at hb; cases hb
      exact .inl (Nat.le_refl _)
    · rw [MM.add_ne ei] at hmi
      rw [if_neg ei] at hi
      obtain ⟨oi, hoi⟩ := ne_some hi
      exact From.same H hoi hmi hb

/-- A block of one's own is written. -/
theorem HRel.write {w : World} {S : SS} {μ : MM} {h : Nat → Option OB} (H : HRel w S μ h) {id : Nat} {m : MI} {ob ob' : OB} {b : Nat} {cs : Array Value} (hh : h id = some ob) (hm : μ id = some m) (hmb : m.b = some b)
    (hok : ∀ E : Evo w S μ (w.setRow b cs) S μ, BOk (w.setRow b cs) S μ m ob') (hd' : dpB ob' = false := by rfl) : Evo w S μ (w.setRow b cs) S μ ∧ HRel (w.setRow b cs) S μ (updH h [(id, some ob')]) := by
  have E : Evo w S μ (w.setRow b cs) S μ := by
    refine ⟨rfl, rfl, rfl, by simp, ?_, fun _ => Iff.rfl, fun _ h => h, fun _ h => .inl h, fun _ _ h => h⟩
    intro p b' hs
    exact setRow_other w b b' cs fun e => H.sep id m b p (by rw [hh]; simp) hm hmb (e ▸ hs)
  refine ⟨E, ?_⟩
  have cs' : ∀ i, (updH h [(id, some ob')]) i = if i = id then some ob' else h i := fun i => by
    simp only [updH]
    by_cases e : i = id
    · subst e; simp
    · simp [e, nbeq_ne e]
  have ne : ∀ i, (updH h [(id, some ob')]) i ≠ none → h i ≠ none := fun i hi => by
    rw [cs'] at hi
    split at hi
    · rename_i e; rw [e, hh]; simp
    · exact hi
  refine H.upd E ?_ ?_ ?_ ?_ ?_ fun _ hs => .inl hs
  · intro i o ho
    rw [cs'] at ho
    split at ho
    · rename_i e; subst e; cases ho
      exact .inr ⟨fun _ _ _ hx => holds_plain hd' hx, m, hm, hok E⟩
    · rename_i e
      refine .inl ⟨ho, fun mi bi hmi hbi => setRow_other w b bi cs fun eb => e ?_⟩
      subst eb
      exact H.injH i id o ob mi m bi ho hh hmi hm hbi (.inl hmb)
  · intro i j mi mj b' hi hj
    exact H.inj i j mi mj b' (ne i hi) (ne j hj)
  · intro i mi b' p hi
    exact H.sep i mi b' p (ne i hi)
  · intro p b' hs
    simpa using H.bd p b' hs
  · intro i mi b' hi hmi hb'
    by_cases e : i = id
    · subst e
      rw [hm] at hmi; cases hmi
      exact From.same H hh hm hb'
    · obtain ⟨oi, hoi⟩ := ne_some (ne i hi)
      exact From.same H hoi hmi hb'
end Go.Proofs.Ytemffnpliflkgaa
