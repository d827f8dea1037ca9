/-
  Lemmas and contracts on the way to the laws of this seat; each theorem states its own conditions, and there are no others.
-/
import Derived.Test.YtemffnpliflkgaaE2
namespace Go.Proofs.Ytemffnpliflkgaa
open Go
set_option linter.unusedVariables false
set_option linter.unusedSimpArgs false

def memN (x : Nat) : List Nat → Bool
  | [] => false
  | y :: r => bif Nat.beq x y then true else memN x r
def disj (a b : List Nat) : Bool := a.all fun x => !memN x b
structure Rows where
  c : Nat
  l : List (den c)

def rowAV (c : Nat) (l : List (den c)) (i : Nat) : List AV := enc c (l.getD i (dfl c))

def splice (l : List AV) (off : Nat) (vs : List AV) : List AV := l.take off ++ vs ++ l.drop (off + vs.length)

def mkA (agg : Bool) (l : List AV) : Option AV :=
  bif agg then some (.agg l) else match l with
    | [v] => some v
    | _ => none

def aggD : TypeDesc → Bool
  | .struct _ => true
  | .array _ _ => true
  | _ => false
/-- How many cells a type has, and whether it is a struct or an array. -/
def tkind (P : Program) (t : TypeId) : Option (Nat × Bool) := match P.info? t, P.underlying t with
  | some i, some d => some (i.size, aggD d)
  | _, _ => none
def tsize (P : Program) (t : TypeId) : Option Nat := match P.info? t with
  | some i => some i.size
  | none => none
def tzero (P : Program) (t : TypeId) : Option (List AV) := match P.info? t with
  | some i => match i.zero with
    | some v => some (avOf v).flat
    | none => none
  | none => none
/-- A value that is one cell. -/
def leafA : AV → Bool
  | .undef => false
  | .pix _ _ _ => false
  | .sel _ _ => false
  | .agg _ => false
  | .tup _ => false
  | .opt _ _ _ => false
  | .fn _ a b => a.isEmpty && b.isEmpty
  | _ => true
def allL : List AV → Bool
  | [] => true
  | v :: r => leafA v && allL r
def okv : AV → Bool
  | .agg l => allL l
  | v => leafA v
def sizeIs (n : Nat) : Option Nat → Bool
  | some m => Nat.beq n m
  | none => false

abbrev Upd := List (Nat × Option OB)

inductive Desc where
  | det (pre : List Prop) (val : AV) (upd : Upd)
  | dem (pre : List Prop) (Y : Type) (post : Y → Prop) (val : Y → AV) (upd : Y → Upd) (wr : List Nat)
  | bad (why : String)

def Desc.val1 (o : Option AV) : Desc := match o with
  | some v => .det [] v []
  | none => .bad "value"

def andL : List Prop → Prop → Prop
  | [], q => q
  | p :: ps, q => p ∧ andL ps q

/-- The bare values of a slice. -/
def contentA (h : Nat → Option OB) : AV → Option Rows
  | .own id _ => match h id with
    | some (.rows _ c l) => some ⟨c, l⟩
    | _ => none
  | .sub id _ lo n => match h id with
    | some (.rows _ c l) => some ⟨c, (l.drop lo).take n⟩
    | _ => none
  | .irec _ c l => some ⟨c, l⟩
  | _ => none
def contentAs (h : Nat → Option OB) (c : Nat) : AV → Option (List (den c))
  | .nsl => some []
  | v => match contentA h v with
    | some r => castL r.l c
    | none => none

/-- Slices frozen for good, and the blocks that are given up. -/
def fz1 (h : Nat → Option OB) : AV → Option (AV × List Nat)
  | .own id _ => match h id with
    | some (.rows _ c l) => some (.irec true c l, [id])
    | _ => none
  | .irec true c l => some (.irec true c l, [])
  | .irec false _ _ => none
  | .mp _ => none
  | .imp false _ _ _ => none
  | .sub _ _ _ _ => none
  | .ptr _ _ => none
  | .ept _ _ _ _ => none
  | .ipt _ _ _ => none
  | .pix _ _ _ => none
  | .sel _ _ => none
  | .agg _ => none
  | .tup _ => none
  | .fn _ _ _ => none
  | .opt _ _ _ => none
  | .undef => none
  | .zsl => none
  | v => some (v, [])
def fzs (h : Nat → Option OB) : List AV → Option (List AV × List Nat)
  | [] => some ([], [])
  | v :: r => match fz1 h v with
    | some (v', i) => match fzs h r with
      | some (r', j) => some (v' :: r', i ++ j)
      | none => none
    | none => none

def fnOf : AV → Option Nat
  | .fn (.func f) [] [] => some f
  | _ => none
def loadA (h : Nat → Option OB) (n : Nat) (agg : Bool) : AV → Option AV
  | .ptr id off => match h id with
    | some (.cells _ cs) => bif Nat.ble (off + n) cs.length then mkA agg ((cs.drop off).take n) else none
    | _ => none
  | .ept id _ r f => match h id with
    | some (.rows _ c l) => bif Nat.ble (f + n) (ncell c) then mkA agg (((rowAV c l r).drop f).take n) else none
    | _ => none
  | .ipt _ cs off => bif Nat.ble (off + n) cs.length then mkA agg ((cs.drop off).take n) else none
  | .pix id i m => match h id with
    | some (.cells _ cs) => bif Nat.beq n 1 && !agg && Nat.beq cs.length m then some (.sel i (cs.map fnOf)) else none
    | _ => none
  | _ => none

def storeA (h : Nat → Option OB) (vs : List AV) : AV → Option Upd
  | .ptr id off => match h id with
    | some (.cells et cs) => bif Nat.ble (off + vs.length) cs.length then some [(id, some (.cells et (splice cs off vs)))] else none
    | _ => none
  | .ept id _ r f => match h id with
    | some (.rows et c l) => bif Nat.ble (f + vs.length) (ncell c) then (match fzs h vs with
      | some (vs', gone) => match dec c (splice (rowAV c l r) f vs') with
        | some x => bif memN id gone then none else some (gone.map (·, none) ++ [(id, some (.rows et c (l.set r x)))])
        | none => none
      | none => none) else none
    | _ => none
  | _ => none

def shiftA (o : Nat) : AV → Option AV
  | .ptr id off => some (.ptr id (off + o))
  | .ept id c r f => some (.ept id c r (f + o))
  | .ipt p cs off => some (.ipt p cs (off + o))
  | _ => none

def lenTy (P : Program) (t : TypeId) : Bool := match P.underlying t with
  | some (.slice _) => true
  | _ => false
def strTy (P : Program) (t : TypeId) : Bool := match P.underlying t with
  | some .string => true
  | _ => false
def lenA (h : Nat → Option OB) : AV → Option AV
  | .nsl => some (.int .i64 0)
  | .sub _ _ _ n => some (.int .i64 n)
  | v => match contentA h v with
    | some r => some (.int .i64 (r.l.length : Nat))
    | none => none

def idxA (h : Nat → Option OB) (es : Option Nat) (i : Int) : AV → Desc
  | .own id _ => match h id with
    | some (.rows _ c l) => bif sizeIs (ncell c) es && Nat.blt 0 (ncell c) then .det [0 ≤ i ∧ i < l.length] (.ept id c i.toNat 0) [] else .bad "index size"
    | _ => .bad "index"
  | .sub id c lo n => bif sizeIs (ncell c) es && Nat.blt 0 (ncell c) then .det [0 ≤ i ∧ i < n] (.ept id c (lo + i.toNat) 0) [] else .bad "index size"
  | .irec p c l => bif sizeIs (ncell c) es && Nat.blt 0 (ncell c) then .det [0 ≤ i ∧ i < l.length] (.ipt p (rowAV c l i.toNat) 0) [] else .bad "index size"
  | _ => .bad "index"

def i64R (n : Int) : Prop := -9223372036854775808 ≤ n ∧ n ≤ 9223372036854775807
def kindR : IntKind → Int → Prop
  | .i64, n => i64R n
  | .i32, n => -2147483648 ≤ n ∧ n ≤ 2147483647
  | .i16, n => -32768 ≤ n ∧ n ≤ 32767
  | .i8, n => -128 ≤ n ∧ n ≤ 127
  | .u64, n => 0 ≤ n ∧ n ≤ 18446744073709551615
  | .u32, n => 0 ≤ n ∧ n ≤ 4294967295
  | .u16, n => 0 ≤ n ∧ n ≤ 65535
  | .u8, n => 0 ≤ n ∧ n ≤ 255

def kindEq : IntKind → IntKind → Bool
  | .i64, .i64 => true
  | .i32, .i32 => true
  | .i16, .i16 => true
  | .i8, .i8 => true
  | .u64, .u64 => true
  | .u32, .u32 => true
  | .u16, .u16 => true
  | .u8, .u8 => true
  | _, _ => false

/-- Operations on bits. -/
def bitI (op : BinOp) (k : IntKind) (x y : Int) : Int := k.wrap (match op with
  | .and => BitVec.ofInt k.bits x &&& BitVec.ofInt k.bits y
  | _ => BitVec.ofInt k.bits x &&& ~~~BitVec.ofInt k.bits y).toNat
def arith (k : IntKind) (n : Int) : Desc := .det [kindR k n] (.int k n) []

def binA (op : BinOp) (tb : Bool) : AV → AV → Desc
  | .int k x, .int k' y => bif kindEq k k' then (match op with
    | .add => arith k (x + y)
    | .sub => arith k (x - y)
    | .mul => arith k (x * y)
    | .quo => .det [0 ≤ x ∧ 0 < y, kindR k x] (.int k (x / y)) []
    | .rem => .det [0 < y] (.int k (x.tmod y)) []
    | .eql => .det [] (.bool (decide (x = y))) []
    | .neq => .det [] (.bool (!decide (x = y))) []
    | .lss => .det [] (.bool (decide (x < y))) []
    | .leq => .det [] (.bool (decide (x ≤ y))) []
    | .gtr => .det [] (.bool (decide (y < x))) []
    | .geq => .det [] (.bool (decide (y ≤ x))) []
    | .andNot => .det [] (.int k (bitI .andNot k x y)) []
    | .and => .det [] (.int k (bitI .and k x y)) []
    | .shl => .det [0 ≤ y, kindR k (x * 2 ^ min y.toNat k.bits)] (.int k (x * 2 ^ min y.toNat k.bits)) []
    | .shr => .det [0 ≤ y] (.int k (x.fdiv (2 ^ min y.toNat k.bits))) []
    | _ => .bad "binop") else .bad "kinds"
  | .str x, .str y => match op with
    | .eql => .det [] (.bool (decide (x = y))) []
    | .neq => .det [] (.bool (!decide (x = y))) []
    | _ => .bad "binop str"
  | a, b => match op, tb, a.asB, b.asB with
    | .eql, true, some x, some y => .det [] (.bool (x == y)) []
    | .neq, true, some x, some y => .det [] (.bool (x != y)) []
    | _, _, _, _ => .bad "binop"

def selA (x : Bool) : AV → AV → Option AV
  | .int k a, .int k' b => bif kindEq k k' then some (.int k (bif x then a else b)) else none
  | .tt, b => match b.asB with
    | some b => some (.bool (x || b))
    | none => none
  | .ff, b => match b.asB with
    | some b => some (.bool (!x && b))
    | none => none
  | a, .ff => match a.asB with
    | some a => some (.bool (x && a))
    | none => none
  | a, .tt => match a.asB with
    | some a => some (.bool (!x || a))
    | none => none
  | .bool a, .bool b => some (.bool (bif x then a else b))
  | _, _ => none
def stripA : AV → (Bool → Bool → Prop) → List Prop × AV
  | .opt g b v, f => ([f g b], v)
  | v, _ => ([], v)
def pickA : AV → AV → AV → Desc
  | .tt, a, _ => .det [] a []
  | .ff, _, b => .det [] b []
  | .bool x, a, b =>
    let (pa, a) := stripA a (fun g w => x = true → g = w)
    let (pb, b) := stripA b (fun g w => x = false → g = w)
    match selA x a b with
    | some v => .det (pa ++ pb) v []
    | none => .bad "pick"
  | _, _, _ => .bad "pick"

def isBoolT (P : Program) (t : TypeId) : Bool := match P.underlying t with
  | some .bool => true
  | _ => false

def isIntT (P : Program) (t : TypeId) : Bool := match P.underlying t with
  | some (.int _) => true
  | _ => false
/-- Fields that are numbers or bools, one cell each, in order. -/
def intsFrom (P : Program) : Nat → List Field → Bool
  | _, [] => true
  | i, f :: r => f.name != "_" && Nat.beq f.offset i && (isIntT P f.type || isBoolT P f.type) && intsFrom P (i + 1) r
/-- Which fields are bools. -/
def flagsOf (P : Program) : List Field → List Bool
  | [] => []
  | f :: r => isBoolT P f.type :: flagsOf P r
def intStruct (P : Program) (t : TypeId) : Option (List Bool) := match P.underlying t with
  | some (.struct fs) => bif intsFrom P 0 fs.toList && !P.stoodInHeld t && !P.eqGuardType P.depth t then some (flagsOf P fs.toList) else none
  | _ => none
def eqInts : List Bool → List AV → List AV → Option Bool
  | [], [], [] => some true
  | false :: fl, .int k x :: r, .int k' y :: r' => bif kindEq k k' then (match eqInts fl r r' with
    | some b => some (decide (x = y) && b)
    | none => none) else none
  | true :: fl, a :: r, a' :: r' => match a.asB, a'.asB, eqInts fl r r' with
    | some x, some y, some b => some (decide (x = y) && b)
    | _, _, _ => none
  | _, _, _ => none
def aggEq (P : Program) (op : BinOp) (t : TypeId) (l l' : List AV) : Desc := match intStruct P t with
  | some fl => (match eqInts fl l l', op with
    | some b, .eql => .det [] (.bool b) []
    | some b, .neq => .det [] (.bool (!b)) []
    | _, _ => .bad "compare structs")
  | none => .bad "compare type"
def binD (P : Program) (op : BinOp) (t : TypeId) (a b : AV) : Desc := match a, b with
  | .agg l, .agg l' => aggEq P op t l l'
  | a, b => binA op (isBoolT P t) a b

/-- A division by 1000 may be of a number below zero. -/
def isK : Operand → Bool
  | .const (.int .i64 (.ofNat n)) => Nat.beq n 1000
  | _ => false
def quoK (a b : AV) : Desc := match a, b with
  | .int .i64 x, .int .i64 _ => .det [i64R x] (.int .i64 (x.tdiv 1000)) []
  | _, _ => .bad "quotient"
def isQuo : BinOp → Bool
  | .quo => true
  | _ => false
/-- Eight times a number may leave the range. -/
def isE : Operand → Bool
  | .const (.int .i64 (.ofNat n)) => Nat.beq n 8
  | _ => false
def isMul : BinOp → Bool
  | .mul => true
  | _ => false
def mulE (a b : AV) : Desc := match a, b with
  | .int .i64 x, .int .i64 y => .det [] (.int .i64 (IntKind.i64.wrap (x * y))) []
  | _, _ => .bad "product"
def binC (P : Program) (op : BinOp) (t : TypeId) (x y : Operand) (a b : AV) : Desc := bif isQuo op && isK y then quoK a b else bif isMul op && isE x then mulE a b else binD P op t a b

/-- A difference that may leave the range. -/
def isSub : BinOp → Bool
  | .sub => true
  | _ => false
def subW (a b : AV) : Desc := match a, b with
  | .int .i64 x, .int .i64 y => .det [] (.int .i64 (IntKind.i64.wrap (x - y))) []
  | _, _ => .bad "difference"
def binW (wr : Bool) (P : Program) (op : BinOp) (t : TypeId) (x y : Operand) (a b : AV) : Desc := bif wr && isSub op then subW a b else binC P op t x y a b

def fieldOf (P : Program) (s : TypeId) (f : Nat) : Option Field := match P.underlying s with
  | some (.struct fs) => fs[f]?
  | _ => none

/-- The cells of a literal, part by part: place, size, value. -/
def fillA : List AV → List (Option (Nat × Nat) × AV) → Option (List AV)
  | cs, [] => some cs
  | cs, (some (o, n), v) :: r => bif okv v && Nat.beq v.flat.length n && Nat.ble (o + n) cs.length then fillA (splice cs o v.flat) r else none
  | _, (none, _) :: _ => none
def chunks (m : Nat) : Nat → List AV → List (List AV)
  | 0, _ => []
  | n + 1, l => l.take m :: chunks m n (l.drop m)
def decAll (c : Nat) : List (List AV) → Option (List (den c))
  | [] => some []
  | r :: rs => match dec c r, decAll c rs with
    | some x, some xs => some (x :: xs)
    | _, _ => none
def fzAll (h : Nat → Option OB) : List (List AV) → Option (List (List AV) × List Nat)
  | [] => some ([], [])
  | r :: rs => match fzs h r, fzAll h rs with
    | some (r', i), some (rs', j) => some (r' :: rs', i ++ j)
    | _, _ => none
def elemOf (P : Program) (t : TypeId) : Option TypeId := match P.underlying t with
  | some (.slice e) => some e
  | _ => none

def placeIn (P : Program) : Option Field → Option (Nat × Nat)
  | some f => match tsize P f.type with
    | some n => some (f.offset, n)
    | none => none
  | none => none
def partsS (P : Program) (fs : Array Field) (parts : List (Nat × AV)) : List (Option (Nat × Nat) × AV) := parts.map fun p => (placeIn P fs[p.1]?, p.2)
def sizesOk (P : Program) : List Field → Bool
  | [] => true
  | f :: r => (match tsize P f.type with
    | some _ => true
    | none => false) && sizesOk P r
def buildA (P : Program) (t : TypeId) (parts : List (Nat × AV)) : Option AV :=
  match tzero P t, P.underlying t with
  | some z, some (.struct fs) => bif sizesOk P fs.toList then (match fillA z (partsS P fs parts) with
    | some cs => some (.agg cs)
    | none => none) else none
  | some z, some (.array _ e) => match tsize P e with
    | some m => (match fillA z (parts.map fun p => (some (p.1 * m, m), p.2)) with
      | some cs => some (.agg cs)
      | none => none)
    | none => none
  | _, _ => none

def repl (n : Nat) (z : List AV) : List AV := match n with
  | 0 => []
  | n + 1 => z ++ repl n z
def buildSliceA (P : Program) (h : Nat → Option OB) (base : Nat) (t : TypeId) (n : Nat) (parts : List (Nat × AV)) : Desc :=
  match elemOf P t with
  | some e => match codeOf e, tzero P e, tsize P e with
    | some c, some z, some m => bif Nat.beq z.length m && Nat.beq (ncell c) m && Nat.blt 0 m && Nat.ble (n * m) 16777216 then (match fillA (repl n z) (parts.map fun (i, v) => (some (i * m, m), v)) with
      | some cs => match fzAll h (chunks m n cs) with
        | some (rs, gone) => match decAll c rs with
          | some l => .det [] (.own (base + 1) c) (gone.map (·, none) ++ [(base + 1, some (.rows e c l))])
          | none => .bad "buildSlice dec"
        | none => .bad "buildSlice freeze"
      | none => .bad "buildSlice fill") else .bad "buildSlice size"
    | _, _, _ => .bad "buildSlice code"
  | none => .bad "buildSlice type"

def makeSliceA (P : Program) (base : Nat) (t : TypeId) : AV → AV → Desc
  | .int _ n, .int _ m => match elemOf P t with
    | some e => match codeOf e, tzero P e, P.info? e with
      | some c, some z, some i => match dec c z with
        | some x => bif Nat.beq z.length i.size && Nat.beq (ncell c) i.size && Nat.blt 0 i.size then
          .det [0 ≤ n ∧ n ≤ m ∧ i.bytes * m ≤ 281474976710656 ∧ m ≤ 1099511627776] (.own (base + 1) c) [(base + 1, some (.rows e c (List.replicate n.toNat x)))] else .bad "make cells"
        | none => .bad "make dec"
      | _, _, _ => .bad "make code"
    | none => .bad "make type"
  | _, _ => .bad "make size"

def intA : Option AV → Option (Option Int)
  | none => some none
  | some (.int _ n) => some (some n)
  | some _ => none
def boundsP (lo hi : Option Int) (n : Int) : List Prop := match lo, hi with
  | none, none => []
  | some a, none => [0 ≤ a ∧ a ≤ n]
  | none, some b => [0 ≤ b ∧ b ≤ n]
  | some a, some b => [0 ≤ a ∧ a ≤ b ∧ b ≤ n]
/-- The cells of a slice's element; 0 for a string. -/
def elemSize (P : Program) (t : TypeId) : Option Nat := match P.underlying t with
  | some (.slice e) => tsize P e
  | some .string => some 0
  | _ => none
def codeA : AV → Option Nat
  | .nsl => some 0
  | _ => none
def sliceA (h : Nat → Option OB) (es : Option Nat) (x : AV) (lo hi mx : Option AV) : Desc :=
  match mx with
  | some (.int _ 0) => match lo, hi, contentA h x with
    | none, some (.int _ 0), some r => bif sizeIs (ncell r.c) es && Nat.blt 0 (ncell r.c) then .det [] .zsl [] else .bad "slice size"
    | _, _, _ => .bad "slice max"
  | some _ => .bad "slice max"
  | none => match intA lo, intA hi with
    | some lo, some hi => match x with
      | .nsl => bif sizeIs 1 es then .det (boundsP lo hi 0) .nsl [] else .bad "slice nil"
      | .irec p c l => bif sizeIs (ncell c) es && Nat.blt 0 (ncell c) then .det (boundsP lo hi l.length) (.irec p c (match lo, hi with
          | none, none => l
          | none, some b => l.take b.toNat
          | some a, none => l.drop a.toNat
          | some a, some b => (l.drop a.toNat).take (b - a).toNat)) [] else .bad "slice size"
      | .own id c => match h id with
        | some (.rows _ c' l) => bif sizeIs (ncell c') es && Nat.blt 0 (ncell c') then (match lo, hi with
          | none, none => .det [] (.own id c) []
          | _, _ => .det (boundsP lo hi l.length) (.sub id c' (lo.getD 0).toNat (hi.getD l.length - lo.getD 0).toNat) []) else .bad "slice size"
        | _ => .bad "slice"
      | .sub id c a n => bif sizeIs (ncell c) es && Nat.blt 0 (ncell c) then .det (boundsP lo hi n) (.sub id c (a + (lo.getD 0).toNat) (hi.getD n - lo.getD 0).toNat) [] else .bad "slice size"
      | _ => .bad "slice"
    | _, _ => .bad "slice"

def appendA (P : Program) (h : Nat → Option OB) (base : Nat) (ts : List TypeId) (s x : AV) : Desc :=
  match ts with
  | [t, t'] => bif Nat.beq t t' then (match elemOf P t with
    | some e => match codeOf e, tzero P e, P.info? e with
      | some c, some z, some i => bif Nat.beq z.length i.size && Nat.beq (ncell c) i.size && Nat.blt 0 i.size && Nat.ble i.bytes 2048 then (match contentAs h c x with
        | some lx => match s with
          | .nsl => .det [lx.length ≤ 68719476736] (.own (base + 1) c) [(base + 1, some (.rows e c lx))]
          | .zsl => .det [lx.length ≤ 68719476736] (.own (base + 1) c) [(base + 1, some (.rows e c lx))]
          | .own id _ => match h id with
            | some (.rows e' c' l) => bif Nat.beq e e' then (match castL l c with
              | some l => .det [l.length + lx.length ≤ 68719476736] (.own (base + 1) c) [(id, none), (base + 1, some (.rows e c (l ++ lx)))]
              | none => .bad "append code") else .bad "append elem"
            | _ => .bad "append block"
          | _ => .bad "append onto"
        | none => .bad "append what") else .bad "append cells"
      | _, _, _ => .bad "append code"
    | none => .bad "append type") else .bad "append types"
  | _ => .bad "append types"

/-- A slice onto the end of a part that ends with its block: it may be written in place or moved. -/
def appendS (P : Program) (h : Nat → Option OB) (base : Nat) (ts : List TypeId) (id lo k : Nat) (x : AV) : Desc :=
  match ts with
  | [t, t'] => bif Nat.beq t t' then (match elemOf P t with
    | some e => match codeOf e, tzero P e, P.info? e with
      | some c, some z, some i => bif Nat.beq z.length i.size && Nat.beq (ncell c) i.size && Nat.blt 0 i.size && Nat.ble i.bytes 2048 then (match contentAs h c x with
        | some lx => match h id with
            | some (.rows e' c' l) => bif Nat.beq e e' then (match castL l c with
              | some l => .dem [lo + k = l.length, 0 < lx.length, k + lx.length ≤ 68719476736] (Nat × List (den c)) (fun y => y.2.drop y.1 = l.drop lo ++ lx ∧ y.1 + (k + lx.length) = y.2.length) (fun y => .sub (base + 1) c y.1 (k + lx.length)) (fun y => [(id, none), (base + 1, some (.rows e c y.2))]) [id, base + 1]
              | none => .bad "append code") else .bad "append elem"
            | _ => .bad "append block"
        | none => .bad "append what") else .bad "append cells"
      | _, _, _ => .bad "append code"
    | none => .bad "append type") else .bad "append types"
  | _ => .bad "append types"

/-- A part of a list, written over. -/
def copyL {α : Type} (l : List α) (lo : Nat) (m : List α) : List α := l.take lo ++ m ++ l.drop (lo + m.length)
def copyA (P : Program) (h : Nat → Option OB) (ts : List TypeId) (x y : AV) : Desc := match ts with
  | [t, _] => match elemOf P t with
    | some e => match codeOf e, tsize P e with
      | some c, some 1 => (match x with
        | .sub id _ lo k => match h id with
          | some (.rows e' c' l) => match castL l c, contentAs h c y with
            | some l, some ly => bif Nat.beq (ncell c) 1 then .det [] (.int .i64 (min k ly.length : Nat)) [(id, some (.rows e' c (copyL l lo (ly.take k))))] else .bad "copy cells"
            | _, _ => .bad "copy code"
          | _ => .bad "copy block"
        | _ => .bad "copy onto")
      | _, _ => .bad "copy code"
    | none => .bad "copy type"
  | _ => .bad "copy types"

/-- What is told of a function: its data, what it wants, what it gives. -/
structure FSpec where
  X : Type
  inst : List AV → (Nat → Option OB) → Option X
  pre : X → Prop
  Y : Type
  post : X → Y → Prop
  res : X → Y → AV
  upd : X → Y → List (Nat × OB)
  feas : ∀ x, pre x → ∃ y, post x y

/-- A spec whose results are a function of its data. -/
structure DSpec where
  X : Type
  inst : List AV → (Nat → Option OB) → Option X
  pre : X → Prop
  res : X → AV
  upd : X → List (Nat × OB)

inductive Spec where
  | d (s : DSpec)
  | f (s : FSpec)

def lend1 (h : Nat → Option OB) (v : AV) : AV := match v with
  | .mp id => match h id with
    | some (.imap g c f) => .imp false g c f
    | _ => .undef
  | .own _ _ => match contentA h v with
    | some r => .irec false r.c r.l
    | none => .undef
  | .sub _ _ _ _ => match contentA h v with
    | some r => .irec false r.c r.l
    | none => .undef
  | v => v
/-- A captured variable is shown as it is. -/
def lendC (h : Nat → Option OB) (v : AV) : AV := match v with
  | .ptr id off => match h id with
    | some (.cells _ cs) => .ipt false cs off
    | _ => .undef
  | v => lend1 h v
def lend (h : Nat → Option OB) (v : AV) : AV := match v with
  | .agg l => .agg (l.map (lend1 h))
  | .fn f a b => .fn f (a.map (lendC h)) (b.map (lendC h))
  | v => lend1 h v

/-- The boxes of captured variables. -/
def capIds : AV → List Nat
  | .fn _ a b => a.flatMap ptrId1' ++ b.flatMap ptrId1'
  | _ => []
where ptrId1' : AV → List Nat
  | .ptr id _ => [id]
  | _ => []
def ptrId1 : AV → List Nat
  | .ptr id _ => [id]
  | _ => []
def nub : List Nat → List Nat
  | [] => []
  | x :: r => x :: (nub r).filter fun y => !(Nat.beq x y)
def pos (x : Nat) : List Nat → Nat
  | [] => 0
  | y :: r => bif Nat.beq x y then 0 else pos x r + 1
def ren1 (ρ : Nat → Nat) : AV → AV
  | .ptr id o => .ptr (ρ id) o
  | .ept id c r f => .ept (ρ id) c r f
  | .own id c => .own (ρ id) c
  | .sub id c lo n => .sub (ρ id) c lo n
  | .mp id => .mp (ρ id)
  | v => v
def ren2 (ρ : Nat → Nat) : AV → AV
  | .agg l => .agg (l.map (ren1 ρ))
  | v => ren1 ρ v
def ren (ρ : Nat → Nat) : AV → AV
  | .tup l => .tup (l.map (ren2 ρ))
  | v => ren2 ρ v
def renO (ρ : Nat → Nat) : OB → OB
  | .cells et cs => .cells et (cs.map (ren1 ρ))
  | .deep et c ts l _ => .deep et c ts l none
  | o => o
def back (ids : List Nat) (base : Nat) (i : Nat) : Nat := bif Nat.blt i 100 then ids.getD i 0 else base + (i - 100)

def shallow1 : AV → Bool
  | .pix _ _ _ => false
  | .sel _ _ => false
  | .agg _ => false
  | .tup _ => false
  | .opt _ _ _ => false
  | .fn _ a b => a.isEmpty && b.isEmpty
  | .ipt _ _ _ => false
  | _ => true
def all1 : List AV → Bool
  | [] => true
  | v :: r => shallow1 v && all1 r
def shallow2 : AV → Bool
  | .agg l => all1 l
  | v => shallow1 v
def all2 : List AV → Bool
  | [] => true
  | v :: r => shallow2 v && all2 r
def shallow : AV → Bool
  | .tup l => all2 l
  | v => shallow2 v
def shallowO : OB → Bool
  | .cells _ cs => all1 cs
  | .rows _ _ _ => true
  | .imap _ _ _ => true
  | .deep _ _ _ _ none => true
  | .deep _ _ _ _ (some _) => false
def hasKey (i : Nat) : List (Nat × OB) → Bool
  | [] => false
  | (j, _) :: r => Nat.beq i j || hasKey i r
def keysIn (n : Nat) : List (Nat × OB) → Bool
  | [] => true
  | (j, o) :: r => (Nat.blt j n || (Nat.ble 100 j && Nat.blt j 110)) && shallowO o && !hasKey j r && keysIn n r
def keysAll (u : List (Nat × OB)) : Nat → Bool
  | 0 => true
  | n + 1 => hasKey n u && keysAll u n
/-- All blocks that were lent for writing are told of, and no others but new ones. -/
def keysOk (n : Nat) (u : List (Nat × OB)) : Bool := Nat.ble n 100 && keysIn n u && keysAll u n
def idfree1 : AV → Bool
  | .pix _ _ _ => false
  | .sel _ _ => false
  | .ptr _ _ => false
  | .ept _ _ _ _ => false
  | .own _ _ => false
  | .sub _ _ _ _ => false
  | .mp _ => false
  | .ipt _ _ _ => false
  | .agg _ => false
  | .tup _ => false
  | .opt _ _ _ => false
  | .fn _ a b => a.isEmpty && b.isEmpty
  | _ => true
def idfreeL : List AV → Bool
  | [] => true
  | v :: r => idfree1 v && idfreeL r
def capOk : AV → Bool
  | .ipt _ cs _ => idfreeL cs
  | v => idfree1 v
def capsOk : List AV → Bool
  | [] => true
  | v :: r => capOk v && capsOk r
def argOk : AV → Bool
  | .ptr _ _ => true
  | .agg l => idfreeL l
  | .fn _ a b => capsOk a && capsOk b
  | v => capOk v
def argsOk : List AV → Bool
  | [] => true
  | v :: r => argOk v && argsOk r
/-- Slices of one's own in a box: they go with it. -/
def ownId1 : AV → List Nat
  | .own id _ => [id]
  | _ => []
def reach (h : Nat → Option OB) (id : Nat) : List Nat := match h id with
  | some (.cells _ cs) => cs.flatMap ownId1
  | _ => []
def callIds (h : Nat → Option OB) (args : List AV) : List Nat := nub (args.flatMap ptrId1 ++ (args.flatMap ptrId1).flatMap (reach h))
def boxV (ids : List Nat) : AV → Bool
  | .own i _ => memN i ids
  | v => idfree1 v
def boxVs (ids : List Nat) : List AV → Bool
  | [] => true
  | v :: r => boxV ids v && boxVs ids r
def boxOk (ids : List Nat) : Option OB → Bool
  | some (.cells _ cs) => boxVs ids cs
  | some (.rows _ _ _) => true
  | some (.deep _ _ _ _ none) => true
  | _ => false
def boxesOk (h : Nat → Option OB) (ids : List Nat) : List Nat → Bool
  | [] => true
  | i :: r => boxOk ids (h i) && boxesOk h ids r
def without (h : Nat → Option OB) (ids : List Nat) : Nat → Option OB := fun i => bif memN i ids then none else h i
/-- Arguments in one form: a bool by its value. -/
def nrm1 : AV → AV
  | .tt => .bool true
  | .ff => .bool false
  | v => v
def nrm : AV → AV
  | .agg l => .agg (l.map nrm1)
  | .fn f a b => .fn f (a.map nrm1) (b.map nrm1)
  | v => nrm1 v
def subH (h : Nat → Option OB) (ids : List Nat) : Nat → Option OB := fun i => match ids[i]? with
  | some id => (match h id with
    | some o => some (renO (pos · ids) o)
    | none => none)
  | none => none
def tenOf (base : Nat) : List Nat := [base, base + 1, base + 2, base + 3, base + 4, base + 5, base + 6, base + 7, base + 8, base + 9]
def callA (spec : FuncId → Option Spec) (h : Nat → Option OB) (base : Nat) (f : FuncId) (args : List AV) : Desc :=
  let ids := callIds h args
  let args' := args.map fun v => ren1 (pos · ids) (lend (without h ids) v)
  let args'' := args'.map nrm
  let h' := subH h ids
  bif argsOk args' && (boxesOk h ids ids && disj (args.flatMap capIds) ids) && Nat.ble ids.length 100 then (match spec f with
  | some (.d S) => match S.inst args'' h' with
    | some x => bif shallow (S.res x) && keysOk ids.length (S.upd x) then .det [S.pre x] (ren (back ids base) (S.res x)) ((S.upd x).map fun p => (back ids base p.1, some (renO (back ids base) p.2))) else .bad "call keys"
    | none => .bad "call inst"
  | some (.f S) => match S.inst args'' h' with
    | some x => .dem [S.pre x, ∀ y, (shallow (S.res x y) && keysOk ids.length (S.upd x y)) = true] S.Y (S.post x) (fun y => ren (back ids base) (S.res x y)) (fun y => (S.upd x y).map fun p => (back ids base p.1, some (renO (back ids base) p.2))) (ids ++ tenOf base)
    | none => .bad "call inst"
  | none => .bad "call spec") else .bad "call args"

structure Inv where
  X : Type
  ok : X → Prop
  sl : X → List (Nat × AV)
  hp : X → List (Nat × OB)
  keep : List Nat
  me : X → Nat
  pre : List (Bool × Nat) := []
  pre2 : List (Bool × Nat) := []

structure Env where
  P : Program
  nt : Nat
  spec : FuncId → Option Spec
  inv : Nat → St → Option Inv
  join : Nat → St → Option Inv
  wr : Bool
  dp : List Nat

def isNone {α : Type} : Option α → Bool
  | none => true
  | some _ => false

def allocA (P : Program) (base : Nat) (e : TypeId) : Desc := match tzero P e with
  | some z => .det [] (.ptr base 0) [(base, some (.cells e z))]
  | none => .bad "alloc"
def boxA (base : Nat) (e : TypeId) (v : AV) : Desc := bif okv v then .det [] (.ptr base 0) [(base, some (.cells e v.flat))] else .bad "box"
def loadD (P : Program) (h : Nat → Option OB) (t : TypeId) (a : AV) : Desc := match tkind P t with
  | some (n, g) => .val1 (loadA h n g a)
  | none => .bad "load"
def storeD (P : Program) (h : Nat → Option OB) (t : TypeId) (a v : AV) : Desc := bif okv v && sizeIs v.flat.length (tsize P t) then (match storeA h v.flat a with
  | some u => .det [] .undef u
  | none => .bad "store") else .bad "store size"
def nilA (v : AV) : Desc := match v with
  | .ptr _ _ => .det [] v []
  | .ept _ _ _ _ => .det [] v []
  | .ipt _ _ _ => .det [] v []
  | .pix _ _ _ => .det [] v []
  | _ => .bad "nilCheck"
def notA : AV → Desc
  | .tt => .det [] .ff []
  | .ff => .det [] .tt []
  | .bool x => .det [] (.bool (!x)) []
  | _ => .bad "not"
def negA : AV → Desc
  | .int k x => arith k (-x)
  | _ => .bad "neg"
/-- The type of slices of bytes. -/
def bytesTy (P : Program) (t : TypeId) : Option Nat := match P.underlying t with
  | some (.slice e) => match P.underlying e, codeOf e with
    | some (.int .u8), some c => some c
    | _, _ => none
  | _ => none
/-- The bytes of a string. -/
def bytesOf (s : ByteArray) : List Int := s.data.toList.map fun b => (b.toNat : Int)
def convA (P : Program) (s d : TypeId) : AV → Desc
  | .int _ x => match P.underlying s, P.underlying d with
    | some _, some (.int k) => .det [kindR k x] (.int k x) []
    | _, _ => .bad "convert"
  | .str x => bif strTy P s then (match bytesTy P d with
    | some c => bif Nat.beq c u8c then .det [] (.irec true u8c (u8mk (bytesOf x))) [] else .bad "convert bytes"
    | none => .bad "convert string") else .bad "convert string"
  | _ => .bad "convert"
def fieldAddrA (P : Program) (s : TypeId) (f : Nat) (a : AV) : Desc := match fieldOf P s f with
  | some fd => match tsize P fd.type with
    | some (_ + 1) => .val1 (shiftA fd.offset a)
    | _ => .bad "fieldAddr size"
  | none => .bad "fieldAddr"
def fieldA (P : Program) (s : TypeId) (f : Nat) : AV → Desc
  | .agg cs => match fieldOf P s f with
    | some fd => match tkind P fd.type with
      | some (n, g) => bif Nat.ble (fd.offset + n) cs.length then .val1 (mkA g ((cs.drop fd.offset).take n)) else .bad "field size"
      | none => .bad "field type"
    | none => .bad "field"
  | _ => .bad "field"
/-- An array's length, if its elements are of one cell. -/
def arrLen (P : Program) (t : TypeId) : Option Nat := match P.underlying t with
  | some (.array n e) => bif sizeIs 1 (tsize P e) then some n else none
  | _ => none
/-- A number that is written. -/
def litO : Operand → Bool
  | .const (.int _ (.ofNat _)) => true
  | _ => false
def idxP (h : Nat → Option OB) (al : Option Nat) (k : Bool) (i : Int) : AV → Option Desc
  | .ptr id 0 => match al, h id with
    | some n, some (.cells _ cs) => bif Nat.beq cs.length n then some (.det [0 ≤ i ∧ i < n] (bif k then .ptr id i.toNat else .pix id i n) []) else none
    | _, _ => none
  | _ => none
def indexAddrA (P : Program) (h : Nat → Option OB) (t : TypeId) (k : Bool) (x : AV) : AV → Desc
  | .int _ i => match idxP h (arrLen P t) k i x with
    | some d => d
    | none => idxA h (elemSize P t) i x
  | _ => .bad "index"
def extractA (i : Nat) : AV → Desc
  | .tup l => match l[i]? with
    | some v => .det [] v []
    | none => .bad "extract"
  | _ => .bad "extract"
def lenD (P : Program) (h : Nat → Option OB) (ts : List TypeId) (x : AV) : Desc := match ts with
  | [t] => match x with
    | .str s => bif strTy P t then .det [] (.int .i64 s.size) [] else .bad "len"
    | _ => bif lenTy P t then .val1 (lenA h x) else .bad "len"
  | _ => .bad "len"
def minA : AV → AV → Desc
  | .int k x, .int k' y => bif kindEq k k' then .det [] (.int k (min x y)) [] else .bad "min"
  | _, _ => .bad "min"
def maxA : AV → AV → Desc
  | .int k x, .int k' y => bif kindEq k k' then .det [] (.int k (max x y)) [] else .bad "max"
  | _, _ => .bad "max"
/-- The type of a map with numbers as keys, and of its elements. -/
def mapTy (P : Program) (t : TypeId) : Option TypeId := match P.underlying t with
  | some (.map k e) => match P.underlying k with
    | some (.int .i64) => some e
    | _ => none
  | _ => none
def makeMapA (P : Program) (base : Nat) (t : TypeId) : Desc := match mapTy P t with
  | some e => match codeOf e, tkind P e with
    | some c, some (n, g) => bif Nat.beq (ncell c) n && (g || Nat.beq n 1) then .det [] (.mp base) [(base, some (.imap g c (fun _ => dfl c)))] else .bad "makeMap cells"
    | _, _ => .bad "makeMap code"
  | none => .bad "makeMap type"
def tzeroA (P : Program) (t : TypeId) : Option AV := match P.info? t with
  | some i => match i.zero with
    | some v => some (avOf v)
    | none => none
  | none => none
def aggV : AV → Bool
  | .agg _ => true
  | _ => false
def mapCont (h : Nat → Option OB) : AV → Option ((g : Bool) ×' (c : Nat) ×' (Int → den c))
  | .mp id => match h id with
    | some (.imap g c f) => some ⟨g, c, f⟩
    | _ => none
  | .imp _ g c f => some ⟨g, c, f⟩
  | _ => none
def lookupA (P : Program) (h : Nat → Option OB) (t : TypeId) (x : AV) : AV → Desc
  | .int k i => bif kindEq k .i64 then (match mapTy P t, mapCont h x with
    | some e, some ⟨g, c, f⟩ => match tkind P e, tzeroA P e with
      | some (n, g'), some z => bif Nat.beq (ncell c) n && g == g' && g == aggV z then (match dec c z.flat, mkA g (enc c (f i)) with
        | some d, some v => .det [d = dfl c] v []
        | _, _ => .bad "lookup dec") else .bad "lookup cells"
      | _, _ => .bad "lookup elem"
    | _, _ => .bad "lookup map") else .bad "lookup key"
  | _ => .bad "lookup key"
def updF (c : Nat) (f : Int → den c) (i : Int) (x : den c) : Int → den c := fun n => if n = i then x else f n
def mapUpdA (P : Program) (h : Nat → Option OB) (t : TypeId) (x k v : AV) : Desc := match x, k with
  | .mp id, .int q i => match h id, mapTy P t with
    | some (.imap g c f), some _ => bif kindEq q .i64 && okv v && (g == aggV v) then (match dec c v.flat with
      | some d => .det [] .undef [(id, some (.imap g c (updF c f i d)))]
      | none => .bad "mapUpdate dec") else .bad "mapUpdate key"
    | _, _ => .bad "mapUpdate map"
  | _, _ => .bad "mapUpdate"
def strIdx (P : Program) (t : TypeId) (s : ByteArray) (i : Int) : Desc := bif strTy P t then .det [0 ≤ i ∧ i < s.size] (.int .u8 ((bytesOf s).getD i.toNat 0)) [] else .bad "index"
def irecsC (c : Nat) : List AV → Option (List (List (den c)))
  | [] => some []
  | .irec true _ l :: r => match castL l c, irecsC c r with
    | some l', some ls => some (l' :: ls)
    | _, _ => none
  | _ => none
def codeHd : List AV → Nat
  | .irec _ c _ :: _ => c
  | _ => 0
/-- A slice out of an array of slices that are fixed for good. -/
def arrIdx (P : Program) (t : TypeId) (vs : List AV) (i : Int) : Desc := match P.underlying t, irecsC (codeHd vs) vs with
  | some (.array n e), some ls => match tkind P e with
    | some (1, false) => bif Nat.beq n vs.length && Nat.beq n ls.length then .det [0 ≤ i ∧ i < n] (.irec true (codeHd vs) (ls.getD i.toNat [])) [] else .bad "index array length"
    | _ => .bad "index array element"
  | _, _ => .bad "index array"
def indexV (P : Program) (t : TypeId) (x i : AV) : Desc := match x, i with
  | .str s, .int _ i => strIdx P t s i
  | .agg vs, .int _ i => arrIdx P t vs i
  | _, _ => .bad "index value"
/-- Functions to choose from, each with a bool as its result. -/
def selP (cd : Nat → Desc) (i : Int) : Nat → List (Option Nat) → Option (List Prop × List Bool)
  | _, [] => some ([], [])
  | k, none :: r => match selP cd i (k + 1) r with
    | some (ps, bs) => some ((¬ i = k) :: ps, false :: bs)
    | none => none
  | k, some f :: r => match cd f, selP cd i (k + 1) r with
    | .det pre (.bool b) [], some (ps, bs) => some (pre.map (fun p => i = k → p) ++ ps, b :: bs)
    | _, _ => none
def updH (h : Nat → Option OB) : Upd → Nat → Option OB
  | [] => h
  | (id, o) :: r => updH (fun n => bif Nat.beq n id then o else h n) r
/-- Slices of one's own that a call takes for good. -/
def fzOwn1 (h : Nat → Option OB) (v : AV) : AV × List Nat := match v with
  | .own id c => (match fz1 h (.own id c) with
    | some r => r
    | none => (.own id c, []))
  | v => (v, [])
def fzOwn (h : Nat → Option OB) (args : List AV) : List AV × List Nat := (args.map fun v => (fzOwn1 h v).1, args.flatMap fun v => (fzOwn1 h v).2)
def preU (g : List Nat) : Desc → Desc
  | .det pre v u => .det pre v (g.map (·, none) ++ u)
  | .dem pre Y post v u wr => .dem pre Y post v (fun y => g.map (·, none) ++ u y) (g ++ wr)
  | .bad w => .bad w
def isBad : Desc → Bool
  | .bad _ => true
  | _ => false
def callG (spec : FuncId → Option Spec) (h : Nat → Option OB) (base : Nat) (f : FuncId) (args : List AV) : Desc :=
  bif isBad (callA spec h base f args) && !(fzOwn h args).2.isEmpty then preU (fzOwn h args).2 (callA spec (updH h ((fzOwn h args).2.map (·, none))) base f (fzOwn h args).1)
  else callA spec h base f args
def callV (spec : FuncId → Option Spec) (h : Nat → Option OB) (base : Nat) (args : List AV) : AV → Desc
  | .fn (.func fid) a b => bif allL a && allL b then callG spec h base fid (a ++ args ++ b) else .bad "call captured"
  | .sel i fs => match selP (callA spec h base · args) i 0 fs with
    | some (ps, bs) => .det ((0 ≤ i ∧ i < fs.length) :: ps) (.bool (bs.getD i.toNat false)) []
    | none => .bad "call of a choice"
  | _ => .bad "call callee"
def sliceD (P : Program) (h : Nat → Option OB) (t : TypeId) (l hi m : Bool) (x : AV) (vs : List AV) : Desc :=
  match l, hi, m, vs with
  | true, true, true, [] => sliceA h (elemSize P t) x none none none
  | false, true, true, [a] => sliceA h (elemSize P t) x (some a) none none
  | true, false, true, [b] => sliceA h (elemSize P t) x none (some b) none
  | false, false, true, [a, b] => sliceA h (elemSize P t) x (some a) (some b) none
  | true, false, false, [b, c] => sliceA h (elemSize P t) x none (some b) (some c)
  | false, false, false, [a, b, c] => sliceA h (elemSize P t) x (some a) (some b) (some c)
  | _, _, _, _ => .bad "slice bounds"

def natsEq : List Nat → List Nat → Bool
  | [], [] => true
  | a :: r, b :: s => Nat.beq a b && natsEq r s
  | _, _ => false
/-- The elements of a cell that is a slice. -/
def cellTy (P : Program) (t : TypeId) : Nat := match P.underlying t with
  | some (.slice e) => e
  | _ => 0
def cellsFrom (P : Program) : Nat → List Field → Option (List Nat)
  | _, [] => some []
  | i, f :: r => bif Nat.beq f.offset i && sizeIs 1 (tsize P f.type) then (match cellsFrom P (i + 1) r with
    | some l => some (cellTy P f.type :: l)
    | none => none) else none
/-- The types of the elements of a row's slices, cell by cell. -/
def cellTys (P : Program) (e : TypeId) : Option (List Nat) := match P.underlying e with
  | some (.struct fs) => cellsFrom P 0 fs.toList
  | some (.slice x) => some [x]
  | _ => none
/-- A row of zeros, without slices. -/
def zeroRow : List AV → List AV → Bool
  | [], [] => true
  | .irec true _ [] :: r, .nsl :: s => zeroRow r s
  | .int _ _ :: r, _ :: s => zeroRow r s
  | .bool _ :: r, _ :: s => zeroRow r s
  | .str _ :: r, _ :: s => zeroRow r s
  | _, _ => false
def makeSliceDp (P : Program) (base : Nat) (t : TypeId) : AV → AV → Desc
  | .int _ n, .int _ m => match elemOf P t with
    | some e => match codeOf e, tzero P e, P.info? e, cellTys P e with
      | some c, some z, some i, some ts => match dec c z with
        | some x => bif Nat.beq z.length i.size && Nat.beq (ncell c) i.size && Nat.blt 0 i.size && zeroRow (enc c x) z then
          .det [0 ≤ n ∧ n ≤ m ∧ i.bytes * m ≤ 281474976710656 ∧ m ≤ 1099511627776] (.own (base + 1) c) [(base + 1, some (.deep e c ts (List.replicate n.toNat x) none))] else .bad "make cells"
        | none => .bad "make dec"
      | _, _, _, _ => .bad "make code"
    | none => .bad "make type"
  | _, _ => .bad "make size"
/-- The row that is out comes back. -/
def closeD (h : Nat → Option OB) (id : Nat) : Option (List Prop × Upd) := match h id with
  | some (.deep _ _ _ _ none) => some ([], [])
  | some (.deep et c ts l (some (r, j, name))) => match h name with
    | some (.rows et' c' l') => bif Nat.beq et' (ts.getD j 0) then (match dec c ((rowAV c l r).set j (.irec true c' l')) with
      | some y => some ([enc c y = (rowAV c l r).set j (.irec true c' l')], [(name, none), (id, some (.deep et c ts (l.set r y) none))])
      | none => none) else none
    | _ => none
  | _ => none
def deepAt (h : Nat → Option OB) (id : Nat) : Bool := match h id with
  | some (.deep _ _ _ _ _) => true
  | _ => false
def plainA : AV → Bool
  | .int _ _ => true
  | .bool _ => true
  | .str _ => true
  | _ => false
def allPl : List AV → Bool
  | [] => true
  | v :: r => plainA v && allPl r
def preP (q : List Prop) (u0 : Upd) : Desc → Desc
  | .det pre v u => .det (q ++ pre) v (u0 ++ u)
  | .dem pre Y post v u wr => .dem (q ++ pre) Y post v (fun y => u0 ++ u y) (u0.map (·.1) ++ wr)
  | .bad w => .bad w
def outNe (out : Option (Nat × Nat × Nat)) (f : Nat) : Bool := match out with
  | none => true
  | some (_, f', _) => !(Nat.beq f' f)
/-- A cell of a deep block is read: a slice within it goes out. -/
def borrowD (h : Nat → Option OB) (base id r f : Nat) : Desc := match h id with
  | some (.deep et c ts l none) => match (rowAV c l r).getD f .undef with
    | .irec true c' l' => bif Nat.blt f (ncell c) then .det [] (.own (base + 1) c') [(id, some (.deep et c ts l (some (r, f, base + 1)))), (base + 1, some (.rows (ts.getD f 0) c' l'))] else .bad "deep load"
    | _ => .bad "deep load"
  | _ => .bad "deep load"
def loadDp (P : Program) (h : Nat → Option OB) (base : Nat) (t : TypeId) (id r f : Nat) : Desc := match tkind P t with
  | some (1, false) => (match h id with
    | some (.deep _ c _ l out) => bif Nat.blt f (ncell c) then (bif plainA ((rowAV c l r).getD f .undef) && outNe out f then .det [] ((rowAV c l r).getD f .undef) []
      else match closeD h id with
        | some (q, u) => preP q u (borrowD (updH h u) base id r f)
        | none => .bad "deep close") else .bad "deep load size"
    | _ => .bad "deep load")
  | _ => .bad "deep load"
/-- May the row be put there? -/
def outPre (out : Option (Nat × Nat × Nat)) (r f : Nat) : Option (List Prop) := match out with
  | none => some []
  | some (r', f', _) => bif Nat.beq f' f then some [r' = r] else none
/-- A cell of a deep block is written. -/
def storeDp (P : Program) (h : Nat → Option OB) (t : TypeId) (id r f : Nat) (v : AV) : Desc := match tkind P t, h id with
  | some (1, false), some (.deep et c ts l out) => bif Nat.blt f (ncell c) then (match v with
    | .own id2 _ => match h id2 with
      | some (.rows et2 c2 l2) => bif Nat.beq et2 (ts.getD f 0) then (match dec c ((rowAV c l r).set f (.irec true c2 l2)), outPre out r f with
        | some y, some q => .det (q ++ [enc c y = (rowAV c l r).set f (.irec true c2 l2)]) .undef [(id2, none), (id, some (.deep et c ts (l.set r y) none))]
        | _, _ => .bad "deep store dec") else .bad "deep store elem"
      | _ => .bad "deep store what"
    | v => bif plainA (nrm1 v) && plainA ((rowAV c l r).getD f .undef) && outNe out f then (match dec c ((rowAV c l r).set f (nrm1 v)) with
      | some y => .det [enc c y = (rowAV c l r).set f (nrm1 v)] .undef [(id, some (.deep et c ts (l.set r y) out))]
      | none => .bad "deep store dec") else .bad "deep store") else .bad "deep store size"
  | _, _ => .bad "deep store"
/-- From now on its rows are fixed for good. -/
def softD (h : Nat → Option OB) (id : Nat) : Option (List Prop × Upd) := match closeD h id with
  | some (q, u) => match updH h u id with
    | some (.deep et c _ l none) => some (q, u ++ [(id, some (.rows et c l))])
    | _ => none
  | none => none
/-- Deep blocks among the values. -/
def deepId (h : Nat → Option OB) : List AV → Option Nat
  | [] => none
  | .own id _ :: r => bif deepAt h id then some id else deepId h r
  | _ :: r => deepId h r
def idxDp (h : Nat → Option OB) (es : Option Nat) (i : Int) (id : Nat) : Desc := match h id with
  | some (.deep _ c _ l _) => bif sizeIs (ncell c) es && Nat.blt 0 (ncell c) then .det [0 ≤ i ∧ i < l.length] (.ept id c i.toNat 0) [] else .bad "index size"
  | _ => .bad "index"
def lenDp (h : Nat → Option OB) (id : Nat) : Desc := match h id with
  | some (.deep _ _ _ l _) => .det [] (.int .i64 l.length) []
  | _ => .bad "len"
/-- Where a slice of one's own lies in a row. -/
def ownPos : List AV → Option Nat
  | [] => none
  | .own _ _ :: _ => some 0
  | _ :: r => match ownPos r with
    | some n => some (n + 1)
    | none => none
/-- A row with one slice of one's own, which goes with it. -/
def absRow (h : Nat → Option OB) (ts : List Nat) (vs : List AV) : Option (List AV × Nat) := match ownPos vs with
  | some f => match vs.getD f .undef with
    | .own id2 _ => match h id2 with
      | some (.rows et2 c2 l2) => bif Nat.beq et2 (ts.getD f 0) && allPl ((vs.map nrm1).set f (.bool true)) then some ((vs.map nrm1).set f (.irec true c2 l2), id2) else none
      | _ => none
    | _ => none
  | none => none
def buildSliceDp (P : Program) (h : Nat → Option OB) (base : Nat) (t : TypeId) (n : Nat) (parts : List (Nat × AV)) : Desc := match elemOf P t, n, parts with
  | some e, 1, [(0, v)] => match codeOf e, tzero P e, tsize P e, cellTys P e with
    | some c, some z, some m, some ts => bif Nat.beq z.length m && Nat.beq (ncell c) m && Nat.blt 0 m && Nat.ble m 16777216 && okv v && Nat.beq v.flat.length m then (match absRow h ts v.flat with
      | some (row, id2) => (match dec c row with
        | some y => .det [enc c y = row] (.own (base + 1) c) [(id2, none), (base + 1, some (.deep e c ts [y] none))]
        | none => .bad "deep build dec")
      | none => .bad "deep build row") else .bad "deep build size"
    | _, _, _, _ => .bad "deep build code"
  | _, _, _ => .bad "deep build"
def listEqN (a b : List Nat) : Bool := natsEq a b
/-- A deep block put behind another. -/
def appendDp (P : Program) (h : Nat → Option OB) (base : Nat) (ts : List TypeId) (s : AV) (idx : Nat) : Desc := match ts with
  | [t, t'] => bif Nat.beq t t' then (match elemOf P t, h idx with
    | some e, some (.deep ex c tsx (y :: r) none) => match tzero P e, P.info? e with
      | some z, some i => bif Nat.beq e ex && Nat.beq z.length i.size && Nat.beq (ncell c) i.size && Nat.blt 0 i.size && Nat.ble i.bytes 2048 then (match s with
        | .nsl => .det [(y :: r).length ≤ 68719476736] (.own (base + 1) c) [(idx, none), (base + 1, some (.deep e c tsx (y :: r) none))]
        | .own id _ => (match h id with
          | some (.deep e' c' ts' l none) => bif Nat.beq e e' && natsEq tsx ts' && !(Nat.beq id idx) then (match castL l c with
            | some l => .det [l.length + (y :: r).length ≤ 68719476736] (.own (base + 1) c) [(id, none), (idx, none), (base + 1, some (.deep e c tsx (l ++ y :: r) none))]
            | none => .bad "deep append code") else .bad "deep append elem"
          | _ => .bad "deep append block")
        | _ => .bad "deep append onto") else .bad "deep append cells"
      | _, _ => .bad "deep append code"
    | _, _ => .bad "deep append what") else .bad "deep append types"
  | _ => .bad "deep append types"
def oneDeep (dp : List Nat) (P : Program) (t : TypeId) : Bool := match elemOf P t with
  | some e => memN e dp
  | none => false

def descV0 (E : Env) (h : Nat → Option OB) (base : Nat) (op : Op) (vals : List AV) : Desc :=
  match op, vals with
  | .move _, [v] => .det [] v []
  | .assign _, [v] => .det [] v []
  | .pick _ _ _, [c, a, b] => pickA c a b
  | .alloc e, [] => allocA E.P base e
  | .box e _, [v] => boxA base e v
  | .build t parts, vs => .val1 (buildA E.P t ((parts.toList.map (·.1)).zip vs))
  | .buildSlice t n parts, vs => buildSliceA E.P h base t n ((parts.toList.map (·.1)).zip vs)
  | .load t _, [a] => loadD E.P h t a
  | .store t _ _, [a, v] => storeD E.P h t a v
  | .nilCheck _, [v] => nilA v
  | .binOp op t x y _, [a, b] => binW E.wr E.P op t x y a b
  | .unOp .not _ _, [v] => notA v
  | .unOp .neg _ _, [v] => negA v
  | .convert s d _, [v] => convA E.P s d v
  | .makeSlice t _ _, [a, b] => makeSliceA E.P base t a b
  | .makeFunc f a b, vs => .det [] (.fn f (vs.take a.size) (vs.drop a.size)) []
  | .slice ty _ l hi m, x :: vs => sliceD E.P h ty (isNone l) (isNone hi) (isNone m) x vs
  | .fieldAddr s _ f, [a] => fieldAddrA E.P s f a
  | .field s _ f, [v] => fieldA E.P s f v
  | .indexAddr t _ y, [x, i] => indexAddrA E.P h t (litO y) x i
  | .extract _ i, [v] => extractA i v
  | .call c, vs => match c.callee with
    | .builtin .len => match vs with
      | [x] => lenD E.P h c.argTypes.toList x
      | _ => .bad "len"
    | .builtin .min => match vs with
      | [x, y] => minA x y
      | _ => .bad "min"
    | .builtin .max => match vs with
      | [x, y] => maxA x y
      | _ => .bad "max"
    | .builtin .append => match vs with
      | [x, y] => appendA E.P h base c.argTypes.toList x y
      | _ => .bad "append"
    | .builtin .copy => match vs with
      | [x, y] => copyA E.P h c.argTypes.toList x y
      | _ => .bad "copy"
    | .value _ => match vs with
      | f :: args => callV E.spec h base args f
      | [] => .bad "call"
    | _ => .bad "call builtin"
  | .makeMap t none, [] => makeMapA E.P base t
  | .lookup t _ _ false, [x, i] => lookupA E.P h t x i
  | .mapUpdate t _ _ _, [x, k, v] => mapUpdA E.P h t x k v
  | .index t _ _, [x, i] => indexV E.P t x i
  | _, _ => .bad "op"

def noDem : Desc → Desc
  | .dem _ _ _ _ _ _ => .bad "dem"
  | d => d
/-- Is a slice nil? Only one without elements can be. -/
def nilCmp (P : Program) (h : Nat → Option OB) (op : BinOp) (t : TypeId) (x y : AV) : Option Desc := match y with
  | .nsl => bif lenTy P t then (match contentA h x with
    | some r => (match op with
      | .eql => some (.dem [] Bool (fun b => b = true → r.l = []) (fun b => .bool b) (fun _ => []) [])
      | .neq => some (.dem [] Bool (fun b => b = false → r.l = []) (fun b => .bool b) (fun _ => []) [])
      | _ => none)
    | none => match op, x with
      | .eql, .nsl => some (.det [] .tt [])
      | .neq, .nsl => some (.det [] .ff [])
      | _, _ => none) else none
  | _ => none
/-- What an operation does to values that are known. -/
def descV1 (E : Env) (h : Nat → Option OB) (base : Nat) (op : Op) (vals : List AV) : Desc :=
  match op with
  | .call c => match c.callee with
    | .value _ => match vals with
      | f :: args => callV E.spec h base args f
      | [] => .bad "call"
    | .builtin .append => match vals with
      | [.sub id _ lo k, x] => appendS E.P h base c.argTypes.toList id lo k x
      | _ => noDem (descV0 E h base op vals)
    | _ => noDem (descV0 E h base op vals)
  | .binOp b t _ _ _ => match vals with
    | [x, y] => match nilCmp E.P h b t x y with
      | some d => d
      | none => noDem (descV0 E h base op vals)
    | _ => noDem (descV0 E h base op vals)
  | _ => noDem (descV0 E h base op vals)

/-- What an operation does to deep blocks. -/
def descD (E : Env) (h : Nat → Option OB) (base : Nat) (op : Op) (vals : List AV) : Option Desc :=
  match op, vals with
  | .load t _, [.ept id _ r f] => bif deepAt h id then some (loadDp E.P h base t id r f) else none
  | .store t _ _, [.ept id _ r f, v] => bif deepAt h id then some (storeDp E.P h t id r f v) else none
  | .indexAddr t _ _, [.own id _, .int _ i] => bif deepAt h id then some (idxDp h (elemSize E.P t) i id) else none
  | .makeSlice t _ _, [a, b] => bif oneDeep E.dp E.P t then some (makeSliceDp E.P base t a b) else none
  | .call c, [.own id _] => match c.callee, c.argTypes.toList with
    | .builtin .len, [t] => bif deepAt h id && lenTy E.P t then some (lenDp h id) else none
    | _, _ => none
  | .call c, [s, .own idx _] => match c.callee with
    | .builtin .append => bif deepAt h idx then some (appendDp E.P h base c.argTypes.toList s idx) else none
    | _ => none
  | .buildSlice t n parts, vs => bif oneDeep E.dp E.P t then some (buildSliceDp E.P h base t n ((parts.toList.map (·.1)).zip vs)) else none
  | _, _ => none
def movB : Op → Bool
  | .move _ => true
  | .assign _ => true
  | _ => false
/-- The same; a deep block that is not understood is fixed for good first. -/
def descV (E : Env) (h : Nat → Option OB) (base : Nat) (op : Op) (vals : List AV) : Desc :=
  match descD E h base op vals with
  | some d => d
  | none => bif movB op || !isBad (descV1 E h base op vals) then descV1 E h base op vals else (match deepId h vals with
    | none => descV1 E h base op vals
    | some id => match softD h id with
      | some (q, u) => preP q u (descV1 E (updH h u) base op vals)
      | none => descV1 E h base op vals)

def ids1 : AV → List Nat
  | .ptr id _ => [id]
  | .ept id _ _ _ => [id]
  | .own id _ => [id]
  | .sub id _ _ _ => [id]
  | .mp id => [id]
  | .pix id _ _ => [id]
  | .opt _ _ v => ids1 v
  | _ => []
def idsL : List AV → List Nat
  | [] => []
  | v :: r => ids1 v ++ idsL r
def idsA : AV → List Nat
  | .agg l => idsL l
  | .opt _ _ v => idsA v
  | .fn _ a b => idsL a ++ idsL b
  | v => ids1 v
/-- The blocks that an operation may look at. -/
def reads (vals : List AV) : List Nat := vals.flatMap idsA

def slotsOf (o : Op) : List Nat := o.operands.toList.filterMap fun x => match x with
  | .tmp t => some t
  | _ => none

/-- What an operation does without its guard. -/
def descO (E : Env) (s : St) (base : Nat) (o : Oper) (vals : List AV) : Desc :=
  descV E s.h base o.op vals

/-- A slice that is built under a guard is fixed for good. -/
def frz1D (base : Nat) : Desc → Desc
  | .det pre (.own id _) [(i, some (.rows _ c l))] => bif Nat.beq id i && Nat.beq id (base + 1) then .det pre (.irec true c l) [] else .bad "guarded slice"
  | d => d
def frzD (op : Op) (base : Nat) (d : Desc) : Desc := match op with
  | .buildSlice _ _ _ => frz1D base d
  | .call _ => frz1D base d
  | _ => d
/-- What an operation does under a guard that is not decided. -/
def descU (E : Env) (s : St) (base : Nat) (o : Oper) (vals : List AV) : Desc :=
  frzD o.op base (descO E s base o vals)

def stripL (x want : Bool) : List AV → List Prop × List AV
  | [] => ([], [])
  | v :: r =>
    let (p, v') := stripA v (fun g w => x = want → g = w)
    let (q, r') := stripL x want r
    (p ++ q, v' :: r')

/-- The operands that are wanted for sure: of a choice, what it depends on. -/
def stripO (op : Op) (x want : Bool) (vals : List AV) : List Prop × List AV := match op, vals with
  | .pick _ _ _, c :: r =>
    let (p, c') := stripA c (fun g w => x = want → g = w)
    (p, c' :: r)
  | _, vals => stripL x want vals

/-- Blocks that are told of as they were. -/
def sameU (h : Nat → Option OB) (rd : List Nat) : Upd → Prop
  | [] => True
  | (id, o) :: r => bif memN id rd then (h id = o ∧ sameU h rd r) else (13 = 14)
/-- The same under a guard that is not decided: memory stays, the value is there if the guard holds. -/
def underG (h : Nat → Option OB) (rd : List Nat) (x want : Bool) (q : List Prop) : Desc → Desc
  | .det pre v [] => .det (q ++ pre.map fun p => x = want → p) (.opt x want v) []
  | .det pre v (p :: r) => .det (q ++ (pre.map (fun p => x = want → p) ++ [x = want → sameU h rd (p :: r)])) (.opt x want v) []
  | .dem pre Y post v u wr => .dem (q ++ (pre.map (fun p => x = want → p) ++ [¬ x = want → ∃ y, sameU h rd (u y)])) Y (fun y => (x = want → post y) ∧ (¬ x = want → sameU h rd (u y))) (fun y => .opt x want (v y)) u (wr ++ rd)
  | .bad w => .bad w

/-- An inner slice goes out on loan whether or not the guard holds: no memory is changed by it. -/
def lendG (E : Env) (h : Nat → Option OB) (base : Nat) (op : Op) (vals : List AV) : Option (Prop × List Prop × AV × Upd) := match op, vals with
  | .load t _, [.ept id _ r f] => bif deepAt h id then (match loadDp E.P h base t id r f with
    | .det pre v (p :: u) => match h id with
      | some (.deep _ _ _ l _) => some (r < l.length, pre, v, p :: u)
      | _ => none
    | _ => none) else none
  | _, _ => none
def underL (lg : Option (Prop × List Prop × AV × Upd)) (h : Nat → Option OB) (rd : List Nat) (x want : Bool) (q : List Prop) (d : Desc) : Desc := match lg with
  | some (p, pre, v, u) => .det (q ++ p :: pre) (.opt x want v) u
  | none => underG h rd x want q d

def guardSlot (ops : Array Oper) (o : Oper) : Option (Nat × Bool) := match o.guard with
  | none => none
  | some (j, want) => match ops[j]? with
    | some g => match g.dst with
      | some d => some (d, want)
      | none => none
    | none => none

def descG (E : Env) (ops : Array Oper) (s : St) (base : Nat) (o : Oper) : Desc :=
  let vals := o.op.operands.toList.map (evalA s.t)
  match o.guard with
  | none => descO E s base o vals
  | some _ => match guardSlot ops o with
    | none => .bad "guard"
    | some (d, want) => match s.t d with
      | .tt => bif want then descO E s base o vals else .det [] .undef []
      | .ff => bif want then .det [] .undef [] else descO E s base o vals
      | .bool x =>
        let (q, vals') := stripO o.op x want vals
        underL (lendG E s.h base o.op vals') s.h (reads vals) x want q (descU E s base o vals')
      | .opt g b v => match v.asB with
        | some y =>
          let x := (bif b then g else !g) && (bif want then y else !y)
          let (q, vals') := stripO o.op x true vals
          underL (lendG E s.h base o.op vals') s.h (reads vals) x true q (descU E s base o vals')
        | none => .bad "guard value"
      | _ => .bad "guard value"

def step (d : Desc) (dst : Option Nat) (s : St) (K : St → Prop) : Prop := match d with
  | .det pre v u => andL pre (K ((s.upds u).put dst v))
  | .dem pre Y post v u _ => andL pre (∀ y : Y, post y → K ((s.upds (u y)).put dst (v y)))
  | .bad w => w = "" ∧ False

structure Foot where
  ix : Nat
  dst : Option Nat
  rt : List Nat
  rd : List Nat
  wr : List Nat
def Desc.wr : Desc → List Nat
  | .det _ _ u => u.map (·.1)
  | .dem _ _ _ _ _ wr => wr
  | .bad _ => []
def oneL : Option Nat → List Nat
  | some d => [d]
  | none => []
def indep (f g : Foot) : Bool :=
  disj (oneL f.dst) g.rt && disj (oneL f.dst) (oneL g.dst) && disj (oneL g.dst) f.rt && disj f.wr g.rd && disj f.wr g.wr && disj g.wr f.rd
/-- What a block leads on to. -/
def links (call : Bool) (h : Nat → Option OB) (id : Nat) : List Nat := match h id with
  | some (.deep _ _ _ _ (some (_, _, name))) => [name]
  | some (.cells _ cs) => bif call then cs.flatMap ownId1 else []
  | _ => []
def callB : Op → Bool
  | .call _ => true
  | _ => false
def readsH (call : Bool) (h : Nat → Option OB) (vals : List AV) : List Nat := reads vals ++ (reads vals).flatMap (links call h)
/-- What an operation looks at: a plain move looks at no memory. -/
def rdO (h : Nat → Option OB) (o : Oper) (vals : List AV) : List Nat := match o.guard, o.op with
  | none, .move _ => []
  | none, .assign _ => []
  | _, _ => readsH (callB o.op) h vals
def footG (ops : Array Oper) (s : St) (o : Oper) (ix : Nat) (d : Desc) : Foot :=
  let vals := o.op.operands.toList.map (evalA s.t)
  ⟨ix, o.dst, slotsOf o.op ++ (match guardSlot ops o with
    | some (d, _) => [d]
    | none => []), rdO s.h o vals, d.wr⟩

/-- A slice of one's own that is fixed for good wherever it lies. -/
def frzV (h : Nat → Option OB) (id : Nat) (v : AV) : AV := match v with
  | .own i c => bif Nat.beq i id then (fzOwn1 h (.own i c)).1 else .own i c
  | v => v
def frzS (s : St) (id : Nat) : St := { s with t := fun n => frzV s.h id (s.t n), h := updH s.h [(id, none)] }
def ownIdsA : List AV → List Nat
  | [] => []
  | .own id _ :: r => id :: ownIdsA r
  | _ :: r => ownIdsA r
def isRows (h : Nat → Option OB) (id : Nat) : Bool := match h id with
  | some (.rows _ _ _) => true
  | _ => false
def pickFz (spec : FuncId → Option Spec) (h : Nat → Option OB) (base : Nat) (f : FuncId) (args : List AV) : List Nat → Option Nat
  | [] => none
  | id :: r => bif isRows h id && !isBad (callA spec (updH h [(id, none)]) base f (args.map (frzV h id))) then some id else pickFz spec h base f args r
/-- The slice of one's own that a call wants for good. -/
def frzPick (E : Env) (s : St) (base : Nat) (o : Oper) : Option Nat := match o.guard, o.op with
  | none, .call c => match c.callee, o.op.operands.toList.map (evalA s.t) with
    | .value _, .fn (.func fid) a b :: args => bif isBad (callA E.spec s.h base fid (a ++ args ++ b)) then pickFz E.spec s.h base fid (a ++ args ++ b) ((ownIdsA (a ++ args ++ b)).filter (isRows s.h)) else none
    | _, _ => none
  | _, _ => none
/-- A region whose order is that of the text. -/
def runL (E : Env) (ops : Array Oper) (rid : Nat) : List Oper → Nat → St → (St → Prop) → Prop
  | [], _, s, K => K s
  | o :: r, i, s, K => match frzPick E s (rid + i * 10) o with
    | none => step (descG E ops s (rid + i * 10) o) o.dst s fun s' => runL E ops rid r (i + 1) s' K
    | some id => bif isRows s.h id then step (descG E ops (frzS s id) (rid + i * 10) o) o.dst (frzS s id) fun s' => runL E ops rid r (i + 1) s' K else (31 = 32)

/-- A region in whatever order: no two operations whose order is open touch the same. -/
def runD (E : Env) (ops : Array Oper) (bf : Array Nat) (rid : Nat) : List Oper → Nat → List Foot → St → (St → Prop) → Prop
  | [], _, _, s, K => K s
  | o :: r, i, past, s, K =>
    let d := descG E ops s (rid + i * 10) o
    let f := footG ops s o i d
    bif (past.all fun p => (bf.getD i 0).testBit p.ix || indep p f) then step d o.dst s fun s' => runD E ops bf rid r (i + 1) (f :: past) s' K
    else rid = 0 ∧ i = 0 ∧ False

inductive Ex where
  | norm
  | exit (id : Nat)
  | ret

/-- The first region of a piece of code. -/
def frid : Code → Nat
  | .region id _ _ => id
  | .seq a _ => frid a
  | .block _ b => frid b
  | .loop b => frid b
  | .scope b => frid b
  | .cond _ a _ => frid a
  | _ => 0
def dsts : Code → List Nat
  | .region _ ops _ => ops.toList.filterMap (·.dst)
  | .seq a b => dsts a ++ dsts b
  | .cond _ a b => dsts a ++ dsts b
  | .block _ b => dsts b
  | .loop b => dsts b
  | .scope b => dsts b
  | _ => []

def dstOk (nt : Nat) : List Oper → Bool
  | [] => true
  | o :: r => (match o.dst with
    | some d => Nat.blt d nt
    | none => true) && dstOk nt r

def edgesOk : List Oper → Nat → Bool
  | [], _ => true
  | o :: r, i => (o.after.toList.all fun e => !Region.binds .any e || Nat.blt e.on i) && edgesOk r (i + 1)

abbrev Ren := List (Nat × Option Nat)
def Ren.look (i : Nat) : Ren → Option (Option Nat)
  | [] => none
  | (j, r) :: l => bif Nat.beq i j then some r else Ren.look i l
def Ren.has (k : Nat) : Ren → Bool
  | [] => false
  | (_, some j) :: l => bif Nat.beq k j then true else Ren.has k l
  | (_, none) :: l => Ren.has k l
/-- Names of boxes: they are never given to another block. -/
def stab (i : Nat) : Bool := Nat.blt i 100 || (Nat.ble 110 i && Nat.beq (i % 2) 0)
def stabOk (i : Nat) (k : Option Nat) : Bool := !stab i || (match k with
  | some j => Nat.beq i j
  | none => false)
/-- i is the block k of the state that is at hand (none: no block at all). -/
def Ren.add (ρ : Ren) (i : Nat) (k : Option Nat) : Option Ren :=
  bif stabOk i k then (match ρ.look i with
    | some k' => match k, k' with
      | none, none => some ρ
      | some a, some b => bif Nat.beq a b then some ρ else none
      | _, _ => none
    | none => match k with
      | none => some ((i, none) :: ρ)
      | some a => bif Ren.has a ρ then none else some ((i, some a) :: ρ)) else none

structure Mt where
  ps : List Prop
  ρ : Ren
  gone : List Nat

def fnEq : Fn → Fn → Bool
  | .func f, .func g => Nat.beq f g
  | _, _ => false

def mtL (c : Nat) (l : List (den c)) (r : Rows) (m : Mt) : Option Mt := match castL r.l c with
  | some l' => some { m with ps := m.ps ++ [l' = l] }
  | none => none

def castF {c : Nat} (f : Int → den c) (d : Nat) : Option (Int → den d) :=
  if h : c = d then some (h ▸ f) else none
def mtF (c : Nat) (f : Int → den c) (c' : Nat) (f' : Int → den c') (m : Mt) : Option Mt := match castF f' c with
  | some f' => some { m with ps := m.ps ++ [f' = f] }
  | none => none
/-- Is the value a at hand what v says? -/
def mt1 (h : Nat → Option OB) (v a : AV) (m : Mt) : Option Mt :=
  match v, a with
  | .undef, _ => some m
  | .int k n, .int k' n' => bif kindEq k k' then some { m with ps := m.ps ++ [n' = n] } else none
  | .tt, .tt => some m
  | .ff, .ff => some m
  | .tt, a => match a.asB with
    | some b' => some { m with ps := m.ps ++ [b' = true] }
    | none => none
  | .bool b, a => match a.asB with
    | some b' => some { m with ps := m.ps ++ [b' = b] }
    | none => none
  | .str s, .str s' => some { m with ps := m.ps ++ [s' = s] }
  | .nilp, .nilp => some m
  | .nsl, .nsl => some m
  | .nfn, .nfn => some m
  | .ptr i o, .ptr j o' => bif Nat.beq o o' then (match m.ρ.add i (some j) with
    | some ρ => some { m with ρ := ρ }
    | none => none) else none
  | .own i c, .own j c' => bif Nat.beq c c' then (match m.ρ.add i (some j) with
    | some ρ => some { m with ρ := ρ }
    | none => none) else none
  | .own i _, .nsl => match m.ρ.add i none with
    | some ρ => some { m with ρ := ρ }
    | none => none
  | .sub i c lo n, .sub j c' lo' n' => bif Nat.beq c c' then (match m.ρ.add i (some j) with
    | some ρ => some { m with ρ := ρ, ps := m.ps ++ [lo' = lo, n' = n] }
    | none => none) else none
  | .sub i c lo n, .own j _ => match h j with
    | some (.rows _ c' l') => bif Nat.beq c c' then (match m.ρ.add i (some j) with
      | some ρ => some { m with ρ := ρ, ps := m.ps ++ [0 = lo, l'.length = n] }
      | none => none) else none
    | _ => none
  | .irec _ c l, .nsl => some { m with ps := m.ps ++ [[] = l] }
  | .irec p c l, .irec p' c' l' => bif (p == p') then mtL c l ⟨c', l'⟩ m else none
  | .irec true c l, .own j _ => match h j with
    | some (.rows _ c' l') => mtL c l ⟨c', l'⟩ { m with gone := j :: m.gone }
    | _ => none
  | .irec true c l, .sub j _ lo n => match h j with
    | some (.rows _ c' l') => mtL c l ⟨c', (l'.drop lo).take n⟩ { m with gone := j :: m.gone }
    | _ => none
  | .mp i, .mp j => match m.ρ.add i (some j) with
    | some ρ => some { m with ρ := ρ }
    | none => none
  | .imp p g c f, .imp p' g' c' f' => bif (p == p') && (g == g') then mtF c f c' f' m else none
  | .fn f [] [], .fn g [] [] => bif fnEq f g then some m else none
  | _, _ => none
def mts (h : Nat → Option OB) : List AV → List AV → Mt → Option Mt
  | [], [], m => some m
  | v :: vs, a :: bs, m => match mt1 h v a m with
    | some m => mts h vs bs m
    | none => none
  | _, _, _ => none
def mt2 (h : Nat → Option OB) (v a : AV) (m : Mt) : Option Mt :=
  match v, a with
  | .agg l, .agg l' => mts h l l' m
  | v, a => mt1 h v a m
def mt2s (h : Nat → Option OB) : List AV → List AV → Mt → Option Mt
  | [], [], m => some m
  | v :: vs, a :: bs, m => match mt2 h v a m with
    | some m => mt2s h vs bs m
    | none => none
  | _, _, _ => none
def mt3 (h : Nat → Option OB) (v a : AV) (m : Mt) : Option Mt :=
  match v, a with
  | .tup l, .tup l' => mt2s h l l' m
  | v, a => mt2 h v a m
def mtB (h : Nat → Option OB) (o : OB) (a : Option OB) (m : Mt) : Option Mt := match o, a with
  | .cells et cs, some (.cells et' cs') => bif Nat.beq et et' then mts h cs cs' m else none
  | .rows et c l, some (.rows et' c' l') => bif Nat.beq et et' then mtL c l ⟨c', l'⟩ m else none
  | .imap g c f, some (.imap g' c' f') => bif (g == g') then mtF c f c' f' m else none
  | .deep et c ts l none, some (.deep et' c' ts' l' none) => bif Nat.beq et et' && natsEq ts ts' then mtL c l ⟨c', l'⟩ m else none
  | _, _ => none
def mtN (o : OB) (m : Mt) : Option Mt := match o with
  | .rows _ c l => some { m with ps := m.ps ++ [([] : List (den c)) = l] }
  | .cells _ _ => none
  | .imap _ _ _ => none
  | .deep _ c _ l none => some { m with ps := m.ps ++ [([] : List (den c)) = l] }
  | .deep _ _ _ _ (some _) => none
def mtK (h : Nat → Option OB) (i k : Nat) (o : OB) (m : Mt) : Option Mt := match m.ρ.add i (some k) with
  | none => none
  | some ρ => mtB h o (h k) { m with ρ := ρ }
def mtO (h : Nat → Option OB) (i : Nat) (o : OB) (m : Mt) : Option Mt := match m.ρ.look i with
  | some none => mtN o m
  | some (some k) => mtK h i k o m
  | none => mtK h i i o m
def mtOs (h : Nat → Option OB) : List (Nat × OB) → Mt → Option Mt
  | [], m => some m
  | (i, o) :: r, m => match mtO h i o m with
    | some m => mtOs h r m
    | none => none
def mtSl (s : St) : List (Nat × AV) → Mt → Option Mt
  | [], m => some m
  | (i, v) :: r, m => match mt2 s.h v (s.t i) m with
    | some m => mtSl s r m
    | none => none
def conjL : List Prop → Prop
  | [] => True
  | [p] => p
  | p :: ps => p ∧ conjL ps
/-- Nothing that was given up is still owned. -/
def goneOk (m : Mt) : Bool := m.gone.all fun j => !Ren.has j m.ρ
def mtEnd : Option Mt → Prop
  | some m => bif goneOk m then conjL m.ps else (1 = 2)
  | none => (0 = 1)

/-- The blocks that are kept as they are. -/
def keepOs (h : Nat → Option OB) : List Nat → List (Nat × OB)
  | [] => []
  | i :: r => match h i with
    | some o => (i, o) :: keepOs h r
    | none => keepOs h r
def slOk (nt : Nat) : List (Nat × AV) → Bool
  | [] => true
  | (i, _) :: r => Nat.blt i nt && slOk nt r
def once : List (Nat × OB) → Bool
  | [] => true
  | (i, _) :: r => !hasKey i r && once r
def renBelow (nx : Nat) : Option Mt → Bool
  | some m => m.ρ.all fun r => Nat.blt r.1 nx
  | none => true
def mtOf (s : St) (sl : List (Nat × AV)) (hp : List (Nat × OB)) : Option Mt := match mtSl s sl ⟨[], [], []⟩ with
  | some m => mtOs s.h hp m
  | none => none
/-- The state s is of the form sl, hp, up to the blocks' names. -/
def mtSt (nx : Nat) (s : St) (sl : List (Nat × AV)) (hp : List (Nat × OB)) : Prop :=
  bif renBelow nx (mtOf s sl hp) && once hp then mtEnd (mtOf s sl hp) else (10 = 11)
/-- Values that are kept as they are over a loop's head. -/
def kept1 : AV → Bool
  | .ptr id _ => stab id
  | .mp id => stab id
  | .ept _ _ _ _ => false
  | .ipt _ cs _ => idfreeL cs
  | .pix _ _ _ => false
  | .sel _ _ => false
  | .own _ _ => false
  | .sub _ _ _ _ => false
  | .agg _ => false
  | .tup _ => false
  | .opt _ _ _ => false
  | .fn _ a b => a.isEmpty && b.isEmpty
  | _ => true
def keptL : List AV → Bool
  | [] => true
  | v :: r => kept1 v && keptL r
def keptA : AV → Bool
  | .agg l => keptL l
  | .fn _ a b => keptL a && keptL b
  | v => kept1 v
def havoc (t : Nat → AV) (ds : List Nat) : Nat → AV := fun n => bif memN n ds then .undef else bif keptA (t n) then t n else .undef
def heapOf : List (Nat × OB) → Nat → Option OB
  | [], _ => none
  | (i, o) :: r, n => bif Nat.beq n i then some o else heapOf r n
def atInv (s : St) (ds : List Nat) (I : Inv) (x : I.X) : St :=
  St.puts ⟨havoc s.t ds, heapOf (I.hp x ++ keepOs s.h I.keep), s.nx⟩ (I.sl x)

/-- Deep blocks are made ready: their rows come back (and are fixed for good). -/
def prep1 (h : Nat → Option OB) (soft : Bool) (id : Nat) : Option (List Prop × Upd) := bif soft then softD h id else closeD h id
def prep : List (Bool × Nat) → St → (St → Prop) → Prop
  | [], s, K => K s
  | (b, id) :: r, s, K => match prep1 s.h b id with
    | some (q, u) => andL q (prep r (s.upds u) K)
    | none => 21 = 22

def brB (x : Bool) (a b : Prop) : Prop := (x = true → a) ∧ (x = false → b)

/-- Where the names of a region's blocks begin: behind those that are given. -/
def baseAt (s : St) (id : Nat) : Nat := bif Nat.ble s.nx ((id + 1) * 10000) then (id + 1) * 10000 else s.nx

def exec (E : Env) : Code → St → (Ex → St → Prop) → Prop
  | .skip, s, K => K .norm s
  | .region id ops d, s, K => bif (Nat.blt ops.size 1000 && dstOk E.nt ops.toList) then
      (bif d then bif !edgesOk ops.toList 0 then (2 = 9) else runD E ops (Region.before ops) (baseAt s id) ops.toList 0 [] s (fun s' => K .norm { s' with nx := baseAt s id + 10000 })
       else runL E ops (baseAt s id) ops.toList 0 s (fun s' => K .norm { s' with nx := baseAt s id + 10000 })) else id = id ∧ 1 = 9
  | .seq a b, s, K => match E.join (frid b) s with
    | none => exec E a s fun e s' => match e with
      | .norm => exec E b s' K
      | e => K e s'
    | some J =>
      exec E a s (fun e s' => match e with
        | .norm => prep J.pre s' fun s' => ∃ x, J.ok x ∧ mtSt s.nx s' (J.sl x) (J.hp x ++ keepOs s.h J.keep)
        | e => K e s') ∧
      ∀ x, J.ok x → exec E b (atInv s (dsts a) J x) K
  | .cond c a b, s, K => match evalA s.t c with
    | .tt => exec E a s K
    | .ff => exec E b s K
    | .bool x => brB x (exec E a s K) (exec E b s K)
    | _ => 2 = 3
  | .block id b, s, K => exec E b s fun e s' => match e with
    | .exit i => bif Nat.beq i id then K .norm s' else K (.exit i) s'
    | e => K e s'
  | .loop b, s, K => match E.inv (frid b) s with
    | none => 3 = 4
    | some I =>
      prep I.pre s fun s =>
      (∃ x, I.ok x ∧ mtSt s.nx s (I.sl x) (I.hp x ++ keepOs s.h I.keep)) ∧
      ∀ x, I.ok x → exec E b (atInv s (dsts b) I x) fun e s' => match e with
        | .norm => prep I.pre2 s' fun s' => ∃ x', I.ok x' ∧ I.me x' < I.me x ∧ mtSt s.nx s' (I.sl x') (I.hp x' ++ keepOs s.h I.keep)
        | e => K e s'
  | .exit id, s, K => K (.exit id) s
  | .scope b, s, K => 4 = 5
  | .ret, s, K => K .ret s
  | _, _, _ => 5 = 6

def resA (P : Program) (s : St) : List ResultVar → Option (List AV)
  | [] => some []
  | r :: rs => match (match r with
      | .tmp t => some (s.t t)
      | .cell a t => match tkind P t with
        | some (n, g) => loadA s.h n g (s.t a)
        | none => none), resA P s rs with
    | some v, some vs => some (v :: vs)
    | _, _ => none
def retA (P : Program) (s : St) (fn : Func) : Option AV := match resA P s fn.results.toList with
  | some [v] => some v
  | some vs => some (.tup vs)
  | none => none

def initSt (args : List AV) (boxes : List (Nat × OB)) : St := ⟨fun n => args.getD n .undef, heapOf boxes, 1000⟩
/-- Slices that are lent are not handed back. -/
def clean1 : AV → Bool
  | .pix _ _ _ => false
  | .sel _ _ => false
  | .irec p _ _ => p
  | .imp p _ _ _ => p
  | .ipt _ _ _ => false
  | .agg _ => false
  | .tup _ => false
  | .opt _ _ _ => false
  | .fn _ a b => a.isEmpty && b.isEmpty
  | _ => true
def cleanL : List AV → Bool
  | [] => true
  | v :: r => clean1 v && cleanL r
def clean2 : AV → Bool
  | .agg l => cleanL l
  | v => clean1 v
def clean2L : List AV → Bool
  | [] => true
  | v :: r => clean2 v && clean2L r
def clean : AV → Bool
  | .tup l => clean2L l
  | v => clean2 v
def cleanU : List (Nat × OB) → Bool
  | [] => true
  | (_, .cells _ cs) :: r => cleanL cs && cleanU r
  | (_, .rows _ _ _) :: r => cleanU r
  | (_, .imap _ _ _) :: r => cleanU r
  | (_, .deep _ _ _ _ _) :: r => cleanU r
/-- Names in a result: those of the boxes, and 100 to 109. -/
def resBelow (n : Nat) : Option Mt → Bool
  | some m => m.ρ.all fun r => Nat.blt r.1 n || (Nat.ble 100 r.1 && Nat.blt r.1 110)
  | none => true
def idRen : Nat → Ren
  | 0 => []
  | n + 1 => (n, some n) :: idRen n
def mtRet (s : St) (n : Nat) (v r : AV) (u : List (Nat × OB)) : Option Mt := match mt3 s.h v r ⟨[], idRen n, []⟩ with
  | some m => mtOs s.h u m
  | none => none
/-- What is returned is as told. -/
def retOk (P : Program) (fn : Func) (s : St) (n : Nat) (v : AV) (u : List (Nat × OB)) : Prop := match retA P s fn with
  | some r => bif clean v && cleanU u && once u && resBelow n (mtRet s n v r u) then mtEnd (mtRet s n v r u) else (6 = 7)
  | none => 9 = 10
def outB (h : Nat → Option OB) (id : Nat) : Bool := match h id with
  | some (.deep _ _ _ _ (some _)) => true
  | _ => false
/-- Boxes whose rows are out. -/
def outsOf (h : Nat → Option OB) : Nat → List (Bool × Nat)
  | 0 => []
  | n + 1 => bif outB h n then (false, n) :: outsOf h n else outsOf h n
def flat2 : AV → List AV
  | .tup l => l.flatMap AV.flat
  | v => v.flat
/-- What is to be made ready ahead of a return. -/
def hasDeepU : List (Nat × OB) → Bool
  | [] => false
  | (_, .deep _ _ _ _ _) :: _ => true
  | _ :: r => hasDeepU r
def retPre (P : Program) (fn : Func) (s : St) (n : Nat) (u : List (Nat × OB)) : List (Bool × Nat) := (match retA P s fn with
  | some r => (match deepId s.h (flat2 r) with
    | some id => [(!hasDeepU (u.drop n), id)]
    | none => [])
  | none => []) ++ outsOf s.h n
/-- Boxes, with their names 0, 1 .. -/
def numb : List OB → Nat → List (Nat × OB)
  | [], _ => []
  | o :: r, i => (i, o) :: numb r (i + 1)
/-- The condition that a function meets its spec. -/
def fnVC (E : Env) (fn : Func) (args : List AV) (boxes : List OB) (Y : Type) (post : Y → Prop) (res : Y → AV) (upd : Y → List (Nat × OB)) : Prop :=
  match fn.body with
  | none => 7 = 8
  | some c => bif !(Nat.ble args.length fn.ntmps && Nat.ble boxes.length 100) then (7 = 9) else exec { E with nt := fn.ntmps } c (initSt args (numb boxes 0)) fun e s => match e with
    | .exit _ => 8 = 9
    | _ => ∃ y, post y ∧ prep (retPre E.P fn s boxes.length (upd y)) s fun s => retOk E.P fn s boxes.length (res y) (upd y)
end Go.Proofs.Ytemffnpliflkgaa
