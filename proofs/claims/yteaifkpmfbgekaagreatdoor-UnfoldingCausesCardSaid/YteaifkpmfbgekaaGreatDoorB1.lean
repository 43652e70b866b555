/- A computable evaluator over the model's own code, on abstract values and an abstract store: definitions alone. -/
import Derived.Orders
import Derived.LoopN
import Derived.Laws.CopyRow
import Derived.Laws.StructEq
import Derived.Laws.Tables
import Derived.Laws.IdiomStrings
import Derived.Laws.MakeOwn
set_option linter.all false
set_option linter.deprecated false
namespace Go.Proofs.YteaifkpmfbgekaaGreatDoor.M
open Go

/-! ### Values and blocks -/

inductive AV where
  | bool (b : Bool)
  | int (k : IntKind) (n : Int)
  | str (s : ByteArray)
  | nilp
  | ptr (b off ver : Nat)
  | iptr (cells : List AV)
  | nils
  | sl (b off len ver sz : Nat)
  | imm (n : Nat) (cells : List AV)
  | emp
  | fn (f : FuncId) (cap : List AV)
  | nilf
  | agg (cells : List AV)
  | tup (vs : List AV)
  deriving Inhabited

structure Blk where
  sz : Nat
  ver : Nat
  cells : List AV
  deriving Inhabited

def AV.cells : AV → List AV
  | .agg cs => cs
  | v => [v]

/-- The value of one cell. -/
def AV.one : AV → Bool
  | .agg _ | .tup _ => false
  | _ => true

def AV.undef : AV := .tup []

/-- Constants. -/
def AV.ofV1 : Value → Option AV
  | .bool b => some (.bool b)
  | .int k n => some (.int k n)
  | .string s => some (.str s)
  | .pointer none => some .nilp
  | .slice none 0 0 => some .nils
  | .nilFunc => some .nilf
  | _ => none
def AV.ofVs : List Value → Option (List AV)
  | [] => some []
  | v :: l => match AV.ofV1 v with
    | some x => match AV.ofVs l with
      | some xs => some (x :: xs)
      | none => none
    | none => none
def AV.ofV : Value → Option AV
  | .agg cs => match AV.ofVs cs.toList with
    | some l => some (.agg l)
    | none => none
  | .tuple vs => if vs.isEmpty then some (.tup []) else none
  | v => AV.ofV1 v

/-- The program's variables that are read, and never written: the table of 'math/bits'. -/
def globs (g : Nat) : Option (List AV) :=
  if g = 0 then some ([0, 1, 56, 2, 57, 49, 28, 3, 61, 58, 42, 50, 38, 29, 17, 4, 62, 47, 59, 36, 45, 43, 51, 22, 53, 39, 33, 30, 24, 18, 12, 5,
    63, 55, 48, 27, 60, 41, 37, 16, 46, 35, 44, 21, 52, 32, 23, 11, 54, 26, 40, 15, 34, 20, 31, 10, 25, 14, 19, 9, 13, 8, 7, 6].map fun n => .int .u8 n)
  else none

/-! ### What is asked of the program -/

/-- The kinds of cells that '==' tells apart. -/
inductive CK where
  | int | bool | str
  deriving DecidableEq

structure TI where
  und : TypeDesc
  size : Nat
  bytes : Nat
  zero : Option (List AV)
  /-- of a struct whose '==' goes cell by cell: the cells' kinds; otherwise nothing -/
  eqk : List CK

structure Env where
  func : FuncId → Option Func
  info : TypeId → Option TI
  /-- the library's sort of integers -/
  srt : FuncId → Bool
  /-- functions whose results are only read: what they hand back is frozen -/
  frz : FuncId → Bool

def isAggD : TypeDesc → Bool
  | .struct _ | .array _ _ => true
  | _ => false

/-- The most elements and cells that a slice is let grow to. -/
def mostCells : Nat := 1048576

/-! ### One operation -/

structure Eff where
  res : AV
  rd : List Nat := []
  wr : Option (Nat × Blk) := none
  new : Option Blk := none

def pureE (r : AV) : Option Eff := some ⟨r, [], none, none⟩

/-- Some cells of a list from a place on. -/
def cut (l : List AV) (off n : Nat) : Option (List AV) :=
  let r := (l.drop off).take n
  if r.length = n then some r else none

/-- Cells put into a list from a place on. -/
def paste {α : Type} : List α → Nat → List α → List α
  | l, _, [] => l
  | l, off, x :: xs => paste (l.set off x) (off + 1) xs

def aInt : AV → Option Int
  | .int _ n => some n
  | _ => none

def partA (E : Env) (t : TypeId) (cs : List AV) (off : Nat) : Option AV :=
  match E.info t with
  | none => none
  | some i =>
    if isAggD i.und then (match cut cs off i.size with | some l => some (.agg l) | none => none)
    else cs[off]?

def readA (E : Env) (lk : Nat → Option Blk) (t : TypeId) (a : AV) : Option Eff :=
  match E.info t with
  | none => none
  | some i =>
    let n := if isAggD i.und then i.size else 1
    let done (l : List AV) (rd : List Nat) : Option Eff :=
      if isAggD i.und then some ⟨.agg l, rd, none, none⟩
      else match l with | [v] => some ⟨v, rd, none, none⟩ | _ => none
    match a with
    | .ptr b off ver =>
      match lk b with
      | none => none
      | some k => if k.ver = ver then (match cut k.cells off n with | some l => done l [b] | none => none) else none
    | .iptr cells => match cut cells 0 n with | some l => done l [] | none => none
    | _ => none

def storeA (E : Env) (lk : Nat → Option Blk) (t : TypeId) (a v : AV) : Option Eff :=
  match E.info t, a with
  | some i, .ptr b off ver =>
    match lk b with
    | none => none
    | some k =>
      if k.ver = ver ∧ v.cells.length = i.size ∧ v.cells.all AV.one = true ∧ off + v.cells.length ≤ k.cells.length then
        some ⟨.undef, [b], some (b, { k with cells := paste k.cells off v.cells }), none⟩
      else none
  | _, _ => none

def wrapI (k : IntKind) (n : Int) : AV := .int k (k.wrap n)

def bytesEq (a b : ByteArray) : Bool := a.data.toList == b.data.toList

/-- Equality of the cells of two values without references. -/
def eqCell : CK → AV → AV → Option Bool
  | .int, .int k a, .int k' b => if k = k' then some (a == b) else none
  | .bool, .bool a, .bool b => some (a == b)
  | .str, .str a, .str b => some (bytesEq a b)
  | _, _, _ => none
def eqCells : List CK → List AV → List AV → Option Bool
  | [], [], [] => some true
  | c :: cs, x :: xs, y :: ys => match eqCell c x y with
    | some r => match eqCells cs xs ys with
      | some r' => some (r && r')
      | none => none
    | none => none
  | _, _, _ => none

def eqA (E : Env) (t : TypeId) (x y : AV) : Option Bool :=
  match E.info t with
  | none => none
  | some i =>
    match i.und, x, y with
    | .struct _, .agg xs, .agg ys => if i.eqk.isEmpty then none else eqCells i.eqk xs ys
    | .bool, .bool a, .bool b => some (a == b)
    | .slice _, .nils, .nils => some true
    | .slice _, .sl .., .nils => some false
    | .slice _, .nils, .sl .. => some false
    | .slice _, .imm n _, .nils => if n = 0 then none else some false
    | .slice _, .nils, .imm n _ => if n = 0 then none else some false
    | .pointer _, .nilp, .nilp => some true
    | .pointer _, .ptr .., .nilp => some false
    | .pointer _, .nilp, .ptr .. => some false
    | .func .., .nilf, .nilf => some true
    | .func .., .fn .., .nilf => some false
    | .func .., .nilf, .fn .. => some false
    | _, _, _ => none

def shiftA (op : BinOp) (k : IntKind) (x y : Int) : Option AV :=
  if y < 0 then none else
  let n := min y.toNat k.bits
  match op with
  | .shl => some (wrapI k (x * 2 ^ n))
  | .shr => some (.int k (x.fdiv (2 ^ n)))
  | _ => none

def intA (op : BinOp) (k : IntKind) (a b : Int) : Option AV :=
  match op with
  | .add => some (wrapI k (a + b))
  | .sub => some (wrapI k (a - b))
  | .mul => some (wrapI k (a * b))
  | .quo => if b = 0 then none else some (wrapI k (a.tdiv b))
  | .rem => if b = 0 then none else some (.int k (a.tmod b))
  | .and => some (wrapI k (BitVec.ofInt k.bits a &&& BitVec.ofInt k.bits b).toNat)
  | .or => some (wrapI k (BitVec.ofInt k.bits a ||| BitVec.ofInt k.bits b).toNat)
  | .xor => some (wrapI k (BitVec.ofInt k.bits a ^^^ BitVec.ofInt k.bits b).toNat)
  | .andNot => some (wrapI k (BitVec.ofInt k.bits a &&& ~~~ BitVec.ofInt k.bits b).toNat)
  | .eql => some (.bool (a == b))
  | .neq => some (.bool (a != b))
  | .lss => some (.bool (a < b))
  | .leq => some (.bool (a ≤ b))
  | .gtr => some (.bool (a > b))
  | .geq => some (.bool (a ≥ b))
  | _ => none

def binA (E : Env) (op : BinOp) (t : TypeId) (x y : AV) : Option AV :=
  match op, x, y with
  | .shl, .int k a, .int _ b => shiftA .shl k a b
  | .shr, .int k a, .int _ b => shiftA .shr k a b
  | op, .int k a, .int k' b => if k = k' then intA op k a b else none
  | .eql, .str a, .str b => some (.bool (bytesEq a b))
  | .neq, .str a, .str b => some (.bool !(bytesEq a b))
  | .eql, x, y => match eqA E t x y with | some b => some (.bool b) | none => none
  | .neq, x, y => match eqA E t x y with | some b => some (.bool !b) | none => none
  | _, _, _ => none

def unA (op : UnOp) (x : AV) : Option AV :=
  match op, x with
  | .neg, .int k n => some (wrapI k (0 - n))
  | .xor, .int k n => some (wrapI k (BitVec.ofInt k.bits (if k.signed then -1 else k.max) ^^^ BitVec.ofInt k.bits n).toNat)
  | .not, .bool b => some (.bool !b)
  | _, _ => none

/-- Parts put at their places. -/
def fillA (place : Nat → Option (Nat × Nat)) : List AV → List (Nat × AV) → Option (List AV)
  | cells, [] => some cells
  | cells, (i, v) :: rest =>
    match place i with
    | none => none
    | some (off, size) =>
      if v.cells.length = size ∧ off + v.cells.length ≤ cells.length ∧ v.cells.all AV.one = true then fillA place (paste cells off v.cells) rest else none

def placesA (E : Env) : List Field → Option (List (Nat × Nat))
  | [] => some []
  | f :: fs => match E.info f.type, placesA E fs with
    | some i, some l => some ((f.offset, i.size) :: l)
    | _, _ => none

def buildA (E : Env) (t : TypeId) (parts : List (Nat × AV)) : Option AV :=
  match E.info t with
  | none => none
  | some i =>
    match i.zero with
    | none => none
    | some z =>
      match i.und with
      | .struct fs => match placesA E fs.toList with
        | none => none
        | some ps => match fillA (ps[·]?) z parts with | some l => some (.agg l) | none => none
      | .array _ e => match E.info e with
        | none => none
        | some j => match fillA (fun i => some (i * j.size, j.size)) z parts with | some l => some (.agg l) | none => none
      | _ => none

def repl {α : Type} (n : Nat) (z : List α) : List α := (List.replicate n z).flatten

def buildSliceA (E : Env) (n : Nat) (t : TypeId) (len : Nat) (parts : List (Nat × AV)) : Option Eff :=
  match E.info t with
  | some { und := .slice e, .. } =>
    match E.info e with
    | some j =>
      match j.zero with
      | some z =>
        if 0 < j.size ∧ z.length = j.size ∧ len * j.size ≤ mostCells then
          match fillA (fun i => some (i * j.size, j.size)) (repl len z) parts with
          | some l => some ⟨.sl n 0 len 0 j.size, [], none, some ⟨j.size, 0, l⟩⟩
          | none => none
        else none
      | none => none
    | none => none
  | _ => none

def makeSliceA (E : Env) (n : Nat) (t : TypeId) (len cap : AV) : Option Eff :=
  match E.info t, len, cap with
  | some { und := .slice e, .. }, .int .i64 l, .int .i64 c =>
    match E.info e with
    | some j =>
      match j.zero with
      | some z =>
        if 0 < j.size ∧ z.length = j.size ∧ 0 ≤ l ∧ l ≤ c ∧ c.toNat * j.size ≤ mostCells ∧ c.toNat ≤ mostCells ∧ j.bytes ≤ mostCells then
          some ⟨.sl n 0 l.toNat 0 j.size, [], none, some ⟨j.size, 0, repl c.toNat z⟩⟩
        else none
      | none => none
    | none => none
  | _, _, _ => none

/-- A bound that is given, or not. -/
def bound (x : Option AV) (d : Nat) : Option Nat :=
  match x with
  | none => some d
  | some (.int _ n) => if 0 ≤ n then some n.toNat else none
  | some _ => none

def sliceA (E : Env) (t : TypeId) (x : AV) (low high max : Option AV) : Option AV :=
  match E.info t with
  | some { und := .string, .. } =>
    match x, max with
    | .str s, none =>
      match bound low 0, bound high s.size with
      | some l, some h => if l ≤ h ∧ h ≤ s.size then some (.str (s.extract l h)) else none
      | _, _ => none
    | _, _ => none
  | some { und := .slice e, .. } =>
    match E.info e with
    | none => none
    | some j =>
      match max with
      | some (.int _ 0) =>
        match bound low 0, bound high 0, high with
        | some 0, some 0, some _ => (match x with | .nils | .sl .. | .imm .. | .emp => some .emp | _ => none)
        | _, _, _ => none
      | some _ => none
      | none =>
        match x with
        | .sl b off len ver sz =>
          match bound low 0, bound high len with
          | some l, some h =>
            if l ≤ h ∧ h ≤ len ∧ sz = j.size then (if l < h ∨ l = 0 then some (.sl b (off + l * j.size) (h - l) ver sz) else some (.imm 0 [])) else none
          | _, _ => none
        | .imm n cells =>
          match bound low 0, bound high n with
          | some l, some h =>
            if l ≤ h ∧ h ≤ n ∧ cells.length = n * j.size then some (.imm (h - l) ((cells.drop (l * j.size)).take ((h - l) * j.size))) else none
          | _, _ => none
        | .nils => match bound low 0, bound high 0 with
          | some 0, some 0 => some .nils
          | _, _ => none
        | .emp => match bound low 0, bound high 0 with
          | some 0, some 0 => some .emp
          | _, _ => none
        | _ => none
  | _ => none

def fieldA (E : Env) (s : TypeId) (f : Nat) : Option Field :=
  match E.info s with
  | some { und := .struct fs, .. } => match fs[f]? with
    | some f => match E.info f.type with
      | some i => if 0 < i.size then some f else none
      | none => none
    | none => none
  | _ => none

def fieldAddrA (E : Env) (s : TypeId) (x : AV) (f : Nat) : Option AV :=
  match fieldA E s f with
  | none => none
  | some f => match x with
    | .ptr b off ver => some (.ptr b (off + f.offset) ver)
    | .iptr cells => some (.iptr (cells.drop f.offset))
    | _ => none

def indexAddrA (E : Env) (t : TypeId) (x ix : AV) : Option AV :=
  match ix, E.info t with
  | .int _ i, some { und := .slice e, .. } =>
    match E.info e, x with
    | some j, .sl b off len ver _ => if 0 ≤ i ∧ i < len then some (.ptr b (off + i.toNat * j.size) ver) else none
    | some j, .imm n cells => if 0 ≤ i ∧ i < n ∧ 0 < j.size then some (.iptr (cells.drop (i.toNat * j.size))) else none
    | _, _ => none
  | .int _ i, some { und := .array n e, .. } =>
    match E.info e, x with
    | some j, .ptr b off ver => if 0 ≤ i ∧ i < n then some (.ptr b (off + i.toNat * j.size) ver) else none
    | some j, .iptr cells => if 0 ≤ i ∧ i < n then some (.iptr (cells.drop (i.toNat * j.size))) else none
    | _, _ => none
  | _, _ => none

def indexA (E : Env) (t : TypeId) (x ix : AV) : Option AV :=
  match ix, E.info t, x with
  | .int _ i, some { und := .string, .. }, .str s =>
    if 0 ≤ i then (match s.data.toList[i.toNat]? with | some b => some (.int .u8 b.toNat) | none => none) else none
  | .int _ i, some { und := .array n e, .. }, .agg cs =>
    match E.info e with
    | some j => if 0 ≤ i ∧ i < n then partA E e cs (i.toNat * j.size) else none
    | none => none
  | _, _, _ => none

def convertA (E : Env) (src dst : TypeId) (x : AV) : Option AV :=
  match E.info src, E.info dst, x with
  | some _, some { und := .int k, .. }, .int _ n => some (wrapI k n)
  | some { und := .string, .. }, some { und := .string, .. }, .str s => some (.str s)
  | _, _, _ => none

/-- The first n elements of a slice or a string, as cells; and the block where they lie. -/
def srcA (lk : Nat → Option Blk) (sz : Nat) : AV → Option (Nat × List AV × List Nat)
  | .nils | .emp => some (0, [], [])
  | .imm n cells => if cells.length = n * sz then some (n, cells, []) else none
  | .sl b off len ver _ =>
    match lk b with
    | some k => if k.ver = ver ∧ k.sz = sz then (match cut k.cells off (len * sz) with | some l => some (len, l, [b]) | none => none) else none
    | none => none
  | .str s => if sz = 1 then some (s.size, s.data.toList.map fun b => .int .u8 b.toNat, []) else none
  | _ => none

def ontoA (lk : Nat → Option Blk) (id sz : Nat) (s : AV) (n : Nat) (cells : List AV) (rd : List Nat) : Option Eff :=
  if n = 0 then (match s with | .nils | .emp | .sl .. => some ⟨s, rd, none, none⟩ | _ => none) else
  match s with
  | .nils | .emp => some ⟨.sl id 0 n 0 sz, rd, none, some ⟨sz, 0, cells⟩⟩
  | .sl b off len ver _ =>
    match lk b with
    | none => none
    | some k =>
      if k.ver = ver ∧ k.sz = sz then
        if off + (len + n) * sz ≤ k.cells.length then
          some ⟨.sl b off (len + n) ver sz, b :: rd, some (b, { k with cells := paste k.cells (off + len * sz) cells }), none⟩
        else if off = 0 ∧ (len + n) * sz ≤ mostCells ∧ len * sz ≤ k.cells.length then
          some ⟨.sl b 0 (len + n) (ver + 1) sz, b :: rd, some (b, ⟨sz, ver + 1, k.cells.take (len * sz) ++ cells⟩), none⟩
        else none
      else none
  | _ => none

def appendA (E : Env) (lk : Nat → Option Blk) (id : Nat) (ts : List TypeId) (args : List AV) : Option Eff :=
  match ts, args with
  | [t, u], [s, x] =>
    match E.info t, E.info u with
    | some { und := .slice e, .. }, some iu =>
      match E.info e with
      | none => none
      | some j =>
        match j.zero with
        | none => none
        | some z =>
          if 0 < j.size ∧ z.length = j.size ∧ 0 < j.bytes ∧ j.bytes ≤ mostCells then
            match iu.und, x with
            | .int _, .int .i64 l => if 0 ≤ l ∧ l.toNat * j.size ≤ mostCells then ontoA lk id j.size s l.toNat (repl l.toNat z) [] else none
            | .slice _, x =>
              match srcA lk j.size x with
              | some (n, cells, rd) => if n * j.size ≤ mostCells ∧ cells.all AV.one = true then ontoA lk id j.size s n cells rd else none
              | none => none
            | .string, x =>
              match srcA lk j.size x with
              | some (n, cells, rd) => if n * j.size ≤ mostCells ∧ cells.all AV.one = true then ontoA lk id j.size s n cells rd else none
              | none => none
            | _, _ => none
          else none
    | _, _ => none
  | _, _ => none

def copyA (E : Env) (lk : Nat → Option Blk) (ts : List TypeId) (args : List AV) : Option Eff :=
  match ts, args with
  | t :: _, [d, x] =>
    match E.info t with
    | some { und := .slice e, .. } =>
      match E.info e with
      | none => none
      | some j =>
        match d, srcA lk j.size x with
        | .nils, some (_, _, _) | .emp, some (_, _, _) => pureE (.int .i64 0)
        | .sl b off len ver _, some (n, cells, rd) =>
          match lk b with
          | none => none
          | some k =>
            let m := Nat.min n len
            if k.ver = ver ∧ k.sz = j.size ∧ off + m * j.size ≤ k.cells.length ∧ cells.all AV.one = true then
              some ⟨.int .i64 m, b :: rd, some (b, { k with cells := paste k.cells off (cells.take (m * j.size)) }), none⟩
            else none
        | _, _ => none
    | _ => none
  | _, _ => none

def clearA (E : Env) (lk : Nat → Option Blk) (ts : List TypeId) (args : List AV) : Option Eff :=
  match ts, args with
  | [t], [.sl b off len ver _] =>
    match E.info t with
    | some { und := .slice e, .. } =>
      match E.info e with
      | none => none
      | some j =>
        match j.zero with
        | none => none
        | some z =>
          match lk b with
          | none => none
          | some k =>
            if 0 < len ∧ k.ver = ver ∧ k.sz = j.size ∧ z.length = j.size ∧ off + len * j.size ≤ k.cells.length then
              some ⟨.tup [], [b], some (b, { k with cells := paste k.cells off (repl len z) }), none⟩
            else none
    | _ => none
  | _, _ => none

def lenA (E : Env) (ts : List TypeId) (args : List AV) : Option AV :=
  match ts, args with
  | t :: _, x :: _ =>
    match E.info t with
    | none => none
    | some i =>
      match i.und, x with
      | .string, .str s => some (.int .i64 s.size)
      | .array n _, _ => some (.int .i64 n)
      | .slice _, .nils | .slice _, .emp => some (.int .i64 0)
      | .slice _, .sl _ _ len _ _ => some (.int .i64 len)
      | .slice _, .imm n _ => some (.int .i64 n)
      | _, _ => none
  | _, _ => none

def capA (E : Env) (ts : List TypeId) (args : List AV) : Option AV :=
  match ts, args with
  | t :: _, x :: _ =>
    match E.info t with
    | none => none
    | some i =>
      match i.und, x with
      | .slice _, .nils => some (.int .i64 0)
      | .slice _, .emp => some (.int .i64 0)
      | _, _ => none
  | _, _ => none

def builtinA (E : Env) (lk : Nat → Option Blk) (id : Nat) (b : Builtin) (ts : List TypeId) (args : List AV) : Option Eff :=
  match b with
  | .len => match lenA E ts args with | some v => pureE v | none => none
  | .cap => match capA E ts args with | some v => pureE v | none => none
  | .append => appendA E lk id ts args
  | .copy => copyA E lk ts args
  | .clear => clearA E lk ts args
  | .min => match args with
    | [.int k x, .int k' y] => if k = k' then pureE (.int k (if y < x then y else x)) else none
    | _ => none
  | .max => match args with
    | [.int k x, .int k' y] => if k = k' then pureE (.int k (if y > x then y else x)) else none
    | _ => none
  | _ => none

/-- What an operand is; constants are read. -/
def opdA (sl : List AV) : Operand → Option AV
  | .tmp t => sl[t]?
  | .const v => AV.ofV v
  | .global g => (match globs g with | some l => some (.iptr l) | none => none)
  | .func f => some (.fn f [])

def opdsA (sl : List AV) : List Operand → Option (List AV)
  | [] => some []
  | x :: xs => match opdA sl x with
    | some v => match opdsA sl xs with
      | some vs => some (v :: vs)
      | none => none
    | none => none

def partsA (sl : List AV) : List (Nat × Operand) → Option (List (Nat × AV))
  | [] => some []
  | (i, x) :: xs => match opdA sl x with
    | some v => match partsA sl xs with
      | some vs => some ((i, v) :: vs)
      | none => none
    | none => none

def optA (sl : List AV) : Option Operand → Option (Option AV)
  | none => some none
  | some x => match opdA sl x with
    | some v => some (some v)
    | none => none

def liftE : Option AV → Option Eff
  | some v => pureE v
  | none => none

/-- An operation that calls no function. -/
def effA (E : Env) (sl : List AV) (lk : Nat → Option Blk) (id : Nat) (op : Op) : Option Eff :=
  match op with
  | .move x => liftE (opdA sl x)
  | .assign x => liftE (opdA sl x)
  | .pick c a b => match opdA sl c, opdA sl a, opdA sl b with
    | some (.bool t), some x, some y => pureE (if t then x else y)
    | _, _, _ => none
  | .alloc e => match E.info e with
    | some i => match i.zero with
      | some z => if z.all AV.one = true then some ⟨.ptr id 0 0, [], none, some ⟨i.size, 0, z⟩⟩ else none
      | none => none
    | none => none
  | .box _ x => match opdA sl x with
    | some v => if v.cells.all AV.one = true then some ⟨.ptr id 0 0, [], none, some ⟨v.cells.length, 0, v.cells⟩⟩ else none
    | none => none
  | .build t parts => match partsA sl parts.toList with
    | some ps => liftE (buildA E t ps)
    | none => none
  | .buildSlice t len parts => match partsA sl parts.toList with
    | some ps => buildSliceA E id t len ps
    | none => none
  | .load t a => match opdA sl a with
    | some p => readA E lk t p
    | none => none
  | .store t a x => match opdA sl a, opdA sl x with
    | some p, some v => storeA E lk t p v
    | _, _ => none
  | .nilCheck x => match opdA sl x with
    | some (.ptr b o v) => pureE (.ptr b o v)
    | some (.iptr l) => pureE (.iptr l)
    | some (.fn f c) => pureE (.fn f c)
    | _ => none
  | .binOp op t x y _ => match opdA sl x, opdA sl y with
    | some a, some b => liftE (binA E op t a b)
    | _, _ => none
  | .unOp op _ x => match opdA sl x with
    | some a => liftE (unA op a)
    | none => none
  | .convert src dst x => match opdA sl x with
    | some a => liftE (convertA E src dst a)
    | none => none
  | .makeFunc (.func f) first cap => if first.isEmpty then (match opdsA sl cap.toList with | some l => pureE (.fn f l) | none => none) else none
  | .makeSlice t l c => match opdA sl l, opdA sl c with
    | some a, some b => makeSliceA E id t a b
    | _, _ => none
  | .slice t x lo hi mx => match opdA sl x, optA sl lo, optA sl hi, optA sl mx with
    | some v, some a, some b, some c => liftE (sliceA E t v a b c)
    | _, _, _, _ => none
  | .fieldAddr s x f => match opdA sl x with
    | some v => liftE (fieldAddrA E s v f)
    | none => none
  | .field t x f => match fieldA E t f, opdA sl x with
    | some f, some (.agg cs) => liftE (partA E f.type cs f.offset)
    | _, _ => none
  | .indexAddr t x ix => match opdA sl x, opdA sl ix with
    | some v, some i => liftE (indexAddrA E t v i)
    | _, _ => none
  | .index t x ix => match opdA sl x, opdA sl ix with
    | some v, some i => liftE (indexA E t v i)
    | _, _ => none
  | .extract x i => match opdA sl x with
    | some (.tup vs) => liftE vs[i]?
    | _ => none
  | .call { callee := .builtin b, args, argTypes } => match opdsA sl args.toList with
    | some l => builtinA E lk id b argTypes.toList l
    | none => none
  | _ => none

/-! ### Regions, code, calls -/

abbrev CallR := FuncId → List AV → List Blk → Option (AV × List Blk × Nat)

structure S where
  sl : List AV
  st : List Blk
  low : Nat

/-- What an operation has touched: a call may have read whatever there was ('all'), and written it ('wall'); the blocks that it read; the one that it wrote; the new ones. -/
structure Foot where
  all : Bool
  wall : Bool
  rd : List Nat
  wr : Option Nat
  lo : Nat
  hi : Nat

def putA (sl : List AV) (d : Option Tmp) (v : AV) : List AV :=
  match d with
  | some d => sl.set d v
  | none => sl

def wantedA (ops : Array Oper) (sl : List AV) (o : Oper) : Bool :=
  match o.guard with
  | none => true
  | some (j, want) =>
    match ops[j]? with
    | some p => (match p.dst with
      | some d => (match sl[d]? with | some (.bool b) => b == want | _ => false)
      | none => false)
    | none => false

def effApply (st : List Blk) (e : Eff) : List Blk :=
  match e.wr, e.new with
  | none, none => st
  | some (b, k), none => st.set b k
  | none, some k => st ++ [k]
  | some (b, k), some k' => st.set b k ++ [k']

/-- The block that a value leads to. -/
def leadA : Option AV → List Nat
  | some (.ptr b _ _) => [b]
  | some (.sl b ..) => [b]
  | _ => []

/-- The blocks that an operation may look into. -/
def needA (sl : List AV) : Op → List Nat
  | .load _ a => leadA (opdA sl a)
  | .store _ a _ => leadA (opdA sl a)
  | .call { callee := .builtin .append, args, .. } => args.toList.flatMap fun x => leadA (opdA sl x)
  | .call { callee := .builtin .copy, args, .. } => args.toList.flatMap fun x => leadA (opdA sl x)
  | .call { callee := .builtin .clear, args, .. } => args.toList.flatMap fun x => leadA (opdA sl x)
  | _ => []

/-- The store as far as an operation may look into it. -/
def seeA (need : List Nat) (lk : Nat → Option Blk) : Nat → Option Blk := fun b => if need.contains b then lk b else none

def wrOk (st : List Blk) (need : List Nat) (e : Eff) : Bool :=
  match e.wr with
  | some (b, _) => decide (b < st.length) && need.contains b
  | none => true

def stepA (E : Env) (call : CallR) (ops : Array Oper) (o : Oper) (s : S) : Option (S × Foot) :=
  if wantedA ops s.sl o then
    match o.op with
    | .call { callee := .value f, args, argTypes := _ } =>
      match opdA s.sl f, opdsA s.sl args.toList with
      | some (.fn g cap), some l =>
        match call g (l ++ cap) s.st with
        | some (r, st, low) => some (⟨putA s.sl o.dst r, st, min s.low low⟩, ⟨true, decide (low < s.st.length), [], none, s.st.length, st.length⟩)
        | none => none
      | _, _ => none
    | op =>
      let need := needA s.sl op
      match effA E s.sl (seeA need fun b => s.st[b]?) s.st.length op with
      | some e =>
        if wrOk s.st need e then
          let st := effApply s.st e
          some (⟨putA s.sl o.dst e.res, st, (match e.wr with | some (b, _) => min s.low b | none => s.low)⟩, ⟨false, false, need, e.wr.map (·.1), s.st.length, st.length⟩)
        else none
      | none => none
  else some (⟨putA s.sl o.dst .undef, s.st, s.low⟩, ⟨false, false, [], none, s.st.length, s.st.length⟩)

def opsA (E : Env) (call : CallR) (ops : Array Oper) : List Oper → S → Option S
  | [], s => some s
  | o :: l, s => match stepA E call ops o s with
    | some (s, _) => opsA E call ops l s
    | none => none

/-- Operations with their places, and what each has touched. -/
def opsTA (E : Env) (call : CallR) (ops : Array Oper) : List (Nat × Oper) → S → Option (S × List Foot)
  | [], s => some (s, [])
  | (_, o) :: l, s => match stepA E call ops o s with
    | some (s, f) => match opsTA E call ops l s with
      | some (s, fs) => some (s, f :: fs)
      | none => none
    | none => none

def Foot.touches (f : Foot) : Bool := f.all || f.wall || !f.rd.isEmpty || f.wr.isSome || decide (f.lo < f.hi)
def Foot.hits (f : Foot) (b : Nat) : Bool := f.all || f.wall || f.rd.contains b || f.wr == some b
def Foot.made (f : Foot) (b : Nat) : Bool := decide (f.lo ≤ b) && decide (b < f.hi)

/-- May an operation not be exchanged with a later one? -/
def Foot.clash (f g : Foot) : Bool :=
  (match f.wr with | some b => g.hits b | none => false) || (match g.wr with | some b => f.hits b || f.made b | none => false) ||
  (f.wall && g.touches) || (g.wall && f.touches) || (f.all && decide (g.lo < g.hi)) || g.rd.any f.made || f.rd.any g.made

/-- All pairs of a list, the earlier one first. -/
def allPairs {α : Type} (r : α → α → Bool) : List α → Bool
  | [] => true
  | x :: l => l.all (r x) && allPairs r l

/-- The operations that are ahead of each one, whatever the order (in the order of a list of operations with their places). -/
def aheadA : List (Nat × Oper) → List (Nat × List Nat) → List (Nat × List Nat)
  | [], acc => acc
  | (i, o) :: l, acc => aheadA l (acc ++ [(i, o.after.toList.flatMap fun e => if Region.binds .any e then e.on :: (acc.lookup e.on).getD [] else [])])

/-- Of two operations that clash, the earlier one is ahead of the later one. -/
def apartA : List (Nat × List Nat × Foot) → Bool := allPairs fun x y => !x.2.2.clash y.2.2 || y.2.1.contains x.1

/-- Operations that wait for nothing, and make memory, come first. -/
def earlyA (o : Oper) : Bool :=
  (match o.op with | .alloc _ | .buildSlice .. => true | _ => false) && o.guard.isNone && o.after.all fun e => !Region.binds .any e
def orderA (ops : Array Oper) : List (Nat × Oper) :=
  let l := ops.toList.zipIdx.map fun (o, i) => (i, o)
  l.filter (fun p => earlyA p.2) ++ l.filter (fun p => !earlyA p.2)

def drawA (l : List (Nat × Oper)) (fs : List Foot) : Bool :=
  fs.all (fun f => f.wr.isNone && !f.wall && decide (f.lo = f.hi)) ||
  apartA ((aheadA l []).zip fs |>.map fun p => (p.1.1, p.1.2, p.2))

/-- Operations wait for earlier ones alone. -/
def edgesA : List Nat → List (Nat × Oper) → Bool
  | _, [] => true
  | seen, (i, o) :: l => (o.after.toList.all fun e => !Region.binds .any e || seen.contains e.on) && edgesA (i :: seen) l

/-- A region that may draw its order: of two operations whose names meet, the earlier one is ahead of the later one. -/
def regionOk (ops : Array Oper) : Bool :=
  let l := orderA ops
  edgesA [] l && allPairs (fun x y => x.2.2.apart ops y.2.2 || y.2.1.contains x.1) ((aheadA l []).zip l |>.map fun p => (p.1.1, p.1.2, p.2.2))

inductive Ctl where
  | next
  | exit (id : Nat)
  | ret
  deriving DecidableEq

def iterA (body : S → Option (Ctl × S)) : Nat → S → Option (Ctl × S)
  | 0, _ => none
  | k + 1, s => match body s with
    | some (.next, s) => iterA body k s
    | r => r

def codeA (E : Env) (call : CallR) (K : Nat) : Code → S → Option (Ctl × S)
  | .skip, s => some (.next, s)
  | .region _ ops false, s => match opsA E call ops ops.toList s with
    | some s => some (.next, s)
    | none => none
  | .region _ ops true, s => match opsTA E call ops (orderA ops) s with
    | some (s, fs) => if drawA (orderA ops) fs then some (.next, s) else none
    | none => none
  | .seq a b, s => match codeA E call K a s with
    | some (.next, s) => codeA E call K b s
    | r => r
  | .cond c a b, s => match opdA s.sl c with
    | some (.bool t) => if t then codeA E call K a s else codeA E call K b s
    | _ => none
  | .block id a, s => match codeA E call K a s with
    | some (.exit i, s) => if i = id then some (.next, s) else some (.exit i, s)
    | r => r
  | .loop a, s => iterA (codeA E call K a) K s
  | .exit id, s => some (.exit id, s)
  | .ret, s => some (.ret, s)
  | _, _ => none

def resultA (E : Env) (s : S) : ResultVar → Option AV
  | .tmp t => s.sl[t]?
  | .cell a t => match s.sl[a]? with
    | some p => match readA E (fun b => s.st[b]?) t p with
      | some e => some e.res
      | none => none
    | none => none
def resultsA (E : Env) (s : S) : List ResultVar → Option (List AV)
  | [] => some []
  | r :: l => match resultA E s r with
    | some v => match resultsA E s l with
      | some vs => some (v :: vs)
      | none => none
    | none => none
def oneA : List AV → AV
  | [v] => v
  | l => .tup l

/-- Does a value lead to no block? -/
def AV.bare : AV → Bool
  | .bool _ | .int .. | .str _ | .nilp | .nils | .emp | .nilf => true
  | _ => false
def AV.bare1 : AV → Bool
  | .agg l => l.all AV.bare
  | .imm _ l => l.all AV.bare
  | v => v.bare
def AV.bare2 : AV → Bool
  | .tup l => l.all AV.bare1
  | v => v.bare1

def mapO (f : AV → Option AV) : List AV → Option (List AV)
  | [] => some []
  | v :: l => match f v with
    | some x => match mapO f l with
      | some xs => some (x :: xs)
      | none => none
    | none => none

/-- A value with the new blocks that it leads to read out. -/
def frzA (st : List Blk) (n : Nat) : Nat → AV → Option AV
  | 0, v => if v.bare then some v else none
  | d + 1, v => match v with
    | .sl b off len ver _ =>
      if n ≤ b then
        match st[b]? with
        | none => none
        | some k =>
          if k.ver = ver then
            match cut k.cells off (len * k.sz) with
            | none => none
            | some l => match mapO (frzA st n d) l with
              | some l => some (.imm len l)
              | none => none
          else none
      else none
    | .imm m l => match mapO (frzA st n d) l with
      | some l => some (.imm m l)
      | none => none
    | .agg l => match mapO (frzA st n d) l with
      | some l => some (.agg l)
      | none => none
    | .tup l => match mapO (frzA st n d) l with
      | some l => some (.tup l)
      | none => none
    | .ptr b off ver =>
      if n ≤ b then
        match st[b]? with
        | none => none
        | some k =>
          if k.ver = ver then
            match cut k.cells off (k.cells.length - off) with
            | none => none
            | some l => match mapO (frzA st n d) l with
              | some l => some (.iptr l)
              | none => none
          else none
      else none
    | .iptr l => match mapO (frzA st n d) l with
      | some l => some (.iptr l)
      | none => none
    | .fn f l => match mapO (frzA st n d) l with
      | some l => some (.fn f l)
      | none => none
    | v => if v.bare then some v else none

/-- What a call leaves: where nothing older was written, and the result leads nowhere (or is frozen), its blocks are dropped. -/
def leaveA (fz : Bool) (n : Nat) (r : AV) (st : List Blk) (low : Nat) : AV × List Blk × Nat :=
  if n ≤ low then
    if r.bare2 = true then (r, st.take n, n)
    else match (if fz then frzA st n 4 r else none) with
      | some r => (r, st.take n, n)
      | none => (r, st, low)
  else (r, st, low)

/-- Integers, sorted. -/
def insI (x : Int) : List Int → List Int
  | [] => [x]
  | y :: l => if x ≤ y then x :: y :: l else y :: insI x l
def isort : List Int → List Int
  | [] => []
  | x :: l => insI x (isort l)

def intsA : List AV → Option (List Int)
  | [] => some []
  | .int .i64 n :: l => match intsA l with | some ns => some (n :: ns) | none => none
  | _ => none

def sortA (st : List Blk) (args : List AV) : Option (AV × List Blk × Nat) :=
  match args with
  | [.sl b off len ver _] =>
    match st[b]? with
    | none => none
    | some k =>
      if k.ver = ver ∧ k.sz = 1 ∧ len < 4611686018427387904 then
        match cut k.cells off len with
        | none => none
        | some l => match intsA l with
          | none => none
          | some zs => some (.tup [], st.set b { k with cells := paste k.cells off ((isort zs).map (.int .i64)) }, b)
      else none
  | _ => none

/-- One call, given what the calls inside it come to. -/
def callS (E : Env) (K : Nat) (call : CallR) : CallR := fun f args st =>
  match E.func f with
  | none => none
  | some fn =>
    match fn.body with
    | none => none
    | some c =>
      match (if E.srt f then sortA st args else none) with
      | some r => some r
      | none =>
        match codeA E call K c ⟨args ++ List.replicate (fn.ntmps - args.length) .undef, st, st.length⟩ with
        | some (ctl, s) =>
          if ctl = .next ∨ ctl = .ret then
            match resultsA E s fn.results.toList with
            | some vs => some (leaveA (E.frz f) st.length (oneA vs) s.st s.low)
            | none => none
          else none
        | none => none

def callA (E : Env) (K : Nat) : Nat → CallR
  | 0 => fun _ _ _ => none
  | n + 1 => callS E K (callA E K n)

end Go.Proofs.YteaifkpmfbgekaaGreatDoor.M

namespace Go.Proofs.YteaifkpmfbgekaaGreatDoor.M
open Go

abbrev Sto := Nat → Option Blk
abbrev Mu := Nat → Option (Nat × Nat)

/-- A block of memory that no abstract block stands for. -/
def Prot (μ : Mu) (i : Nat) : Prop := ∀ b c, μ b = some c → c.1 ≠ i

inductive Rel (T : Sto) (μ : Mu) (w : World) : AV → Value → Prop
  | bool (b : Bool) : Rel T μ w (.bool b) (.bool b)
  | int (k : IntKind) (n : Int) : Rel T μ w (.int k n) (.int k n)
  | str (s : ByteArray) : Rel T μ w (.str s) (.string s)
  | nilp : Rel T μ w .nilp (.pointer none)
  | ptr {b off ver : Nat} {a : Addr} {k : Blk} (hk : T b = some k) (hv : ver ≤ k.ver) (h : ver = k.ver → ∃ c, μ b = some c ∧ a = ⟨c.1, off, none⟩) :
      Rel T μ w (.ptr b off ver) (.pointer (some a))
  | iptr {cells : List AV} {a : Addr} {f : Nat → Value} (hp : cells ≠ [] → Prot μ a.block) (hc : ∀ j, j < cells.length → w.cell? (a.add j) = some (f j))
      (h : ∀ j (hj : j < cells.length), Rel T μ w cells[j] (f j)) : Rel T μ w (.iptr cells) (.pointer (some a))
  | nils : Rel T μ w .nils (.slice none 0 0)
  | sl {b off len ver sz cap : Nat} {a : Addr} {k : Blk} (hk : T b = some k) (hv : ver ≤ k.ver) (hl : len ≤ cap)
      (h : ver = k.ver → ∃ c, μ b = some c ∧ a = ⟨c.1, off, none⟩ ∧ sz = k.sz ∧ off + len * sz ≤ k.cells.length ∧ k.cells.length ≤ off + cap * sz ∧ off + cap * sz ≤ c.2) :
      Rel T μ w (.sl b off len ver sz) (.slice (some a) len cap)
  | imm0 {a : Option Addr} {cap : Nat} : Rel T μ w (.imm 0 []) (.slice a 0 cap)
  | imm {n cap : Nat} {cells : List AV} {a : Addr} {f : Nat → Value} (hl : n ≤ cap) (hp : cells ≠ [] → Prot μ a.block) (hc : ∀ j, j < cells.length → w.cell? (a.add j) = some (f j))
      (h : ∀ j (hj : j < cells.length), Rel T μ w cells[j] (f j)) : Rel T μ w (.imm n cells) (.slice (some a) n cap)
  | emp {a : Option Addr} : Rel T μ w .emp (.slice a 0 0)
  | fn {f : FuncId} {cap : List AV} {xs : Array Value} (hl : xs.size = cap.length) (h : ∀ j (hj : j < cap.length) (hx : j < xs.size), Rel T μ w cap[j] xs[j]) :
      Rel T μ w (.fn f cap) (.func (.func f) #[] xs)
  | nilf : Rel T μ w .nilf .nilFunc
  | agg {l : List AV} {xs : Array Value} (hl : xs.size = l.length) (h : ∀ j (hj : j < l.length) (hx : j < xs.size), Rel T μ w l[j] xs[j]) : Rel T μ w (.agg l) (.agg xs)
  | tup {l : List AV} {xs : Array Value} (hl : xs.size = l.length) (h : ∀ j (hj : j < l.length) (hx : j < xs.size), Rel T μ w l[j] xs[j]) : Rel T μ w (.tup l) (.tuple xs)

/-- Lists of values, side by side. -/
def Rels (T : Sto) (μ : Mu) (w : World) (l : List AV) (xs : List Value) : Prop :=
  xs.length = l.length ∧ ∀ j (hj : j < l.length) (hx : j < xs.length), Rel T μ w l[j] xs[j]

theorem Rel.agg_iff {T μ w l x} : Rel T μ w (.agg l) x ↔ ∃ xs : Array Value, x = .agg xs ∧ Rels T μ w l xs.toList := by
  constructor
  · intro h
    cases h with
    | agg hl h => exact ⟨_, rfl, by simpa using hl, fun j hj hx => by simpa using h j hj (by simpa using hx)⟩
  · rintro ⟨xs, rfl, hl, h⟩
    exact .agg (by simpa using hl) fun j hj hx => by have := h j hj (by simpa using hx); rwa [Array.getElem_toList] at this

theorem Rels.nil {T μ w} : Rels T μ w [] [] := ⟨rfl, fun j hj => by simp at hj⟩
theorem Rels.cons {T μ w v x l xs} (h : Rel T μ w v x) (hs : Rels T μ w l xs) : Rels T μ w (v :: l) (x :: xs) :=
  ⟨by simp [hs.1], fun j hj hx => by
    cases j with
    | zero => exact h
    | succ j => exact hs.2 j (by simpa using hj) (by simpa using hx)⟩
theorem Rels.head {T μ w v x l xs} (h : Rels T μ w (v :: l) (x :: xs)) : Rel T μ w v x := h.2 0 (by simp) (by simp)
theorem Rels.tail {T μ w v x l xs} (h : Rels T μ w (v :: l) (x :: xs)) : Rels T μ w l xs :=
  ⟨by have := h.1; simpa using this, fun j hj hx => h.2 (j + 1) (by simpa using hj) (by simpa using hx)⟩
theorem Rels.append {T μ w l xs l' xs'} (h : Rels T μ w l xs) (h' : Rels T μ w l' xs') : Rels T μ w (l ++ l') (xs ++ xs') :=
  ⟨by simp [h.1, h'.1], fun j hj hx => by
    by_cases hlt : j < l.length
    · rw [List.getElem_append_left hlt, List.getElem_append_left (by rw [h.1]; exact hlt)]
      exact h.2 j hlt _
    · rw [List.getElem_append_right (by omega), List.getElem_append_right (by rw [h.1]; omega)]
      have h1 := h.1
      have := h'.2 (j - l.length) (by simp at hj; omega) (by simp at hx; omega)
      simpa [h1] using this⟩
theorem Rels.get {T μ w l xs} (h : Rels T μ w l xs) {j : Nat} {v : AV} (hv : l[j]? = some v) : ∃ x, xs[j]? = some x ∧ Rel T μ w v x := by
  obtain ⟨hj, rfl⟩ := List.getElem?_eq_some_iff.1 hv
  have hx : j < xs.length := by rw [h.1]; exact hj
  exact ⟨xs[j], List.getElem?_eq_getElem hx, h.2 j hj hx⟩
theorem Rels.of_get {T μ w l xs} (hl : xs.length = l.length) (h : ∀ (j : Nat) v x, l[j]? = some v → xs[j]? = some x → Rel T μ w v x) : Rels T μ w l xs :=
  ⟨hl, fun j hj hx => h j _ _ (List.getElem?_eq_getElem hj) (List.getElem?_eq_getElem hx)⟩
theorem Rels.rel {T μ w l xs} (h : Rels T μ w l xs) {j : Nat} {v : AV} {x : Value} (hv : l[j]? = some v) (hx : xs[j]? = some x) : Rel T μ w v x := by
  obtain ⟨x', hx', hr⟩ := h.get hv
  rw [hx] at hx'
  cases hx'
  exact hr
theorem Rels.take {T μ w l xs} (h : Rels T μ w l xs) (n : Nat) : Rels T μ w (l.take n) (xs.take n) :=
  .of_get (by simp [h.1]) fun j v x hv hx => by
    rw [List.getElem?_take] at hv hx
    split at hv
    · rename_i hlt; rw [if_pos hlt] at hx; exact h.rel hv hx
    · cases hv
theorem Rels.drop {T μ w l xs} (h : Rels T μ w l xs) (n : Nat) : Rels T μ w (l.drop n) (xs.drop n) :=
  .of_get (by simp [h.1]) fun j v x hv hx => by
    rw [List.getElem?_drop] at hv hx
    exact h.rel hv hx
theorem Rels.set {T μ w l xs v x} (h : Rels T μ w l xs) (hv : Rel T μ w v x) (i : Nat) : Rels T μ w (l.set i v) (xs.set i x) :=
  .of_get (by simp [h.1]) fun j v' x' hv' hx' => by
    rw [List.getElem?_set] at hv' hx'
    split at hv'
    · rename_i hij
      rw [if_pos hij] at hx'
      subst hij
      split at hv'
      · rename_i hlt
        rw [if_pos (by rw [h.1]; exact hlt)] at hx'
        cases hv'; cases hx'; exact hv
      · cases hv'
    · rename_i hij
      rw [if_neg hij] at hx'
      exact h.rel hv' hx'
theorem Rels.replicate {T μ w v x} (h : Rel T μ w v x) (n : Nat) : Rels T μ w (List.replicate n v) (List.replicate n x) :=
  .of_get (by simp) fun j v' x' hv hx => by
    rw [List.getElem?_replicate] at hv hx
    split at hv
    · rename_i hlt; rw [if_pos hlt] at hx; cases hv; cases hx; exact h
    · cases hv

/-! ### From one world to the next -/

structure Evo (T : Sto) (μ : Mu) (w : World) (T' : Sto) (μ' : Mu) (w' : World) : Prop where
  blk : ∀ b k, T b = some k → ∃ k', T' b = some k' ∧ k.ver ≤ k'.ver ∧ (k.ver = k'.ver → ∀ c, μ b = some c → μ' b = some c ∧ k'.cells.length = k.cells.length ∧ k'.sz = k.sz)
  os : w'.os = w.os
  tape : w'.tape = w.tape
  output : w'.output = w.output
  size : w.heap.size ≤ w'.heap.size
  frame : ∀ i, i < w.heap.size → Prot μ i → w'.heap[i]? = w.heap[i]? ∧ Prot μ' i

theorem Evo.refl (T : Sto) (μ : Mu) (w : World) : Evo T μ w T μ w :=
  ⟨fun _ k h => ⟨k, h, Nat.le_refl _, fun _ _ hc => ⟨hc, rfl, rfl⟩⟩, rfl, rfl, rfl, Nat.le_refl _, fun _ _ hp => ⟨rfl, hp⟩⟩

theorem Evo.trans {T μ w T1 μ1 w1 T2 μ2 w2} (h : Evo T μ w T1 μ1 w1) (h' : Evo T1 μ1 w1 T2 μ2 w2) : Evo T μ w T2 μ2 w2 where
  blk b k hk := by
    obtain ⟨k1, hk1, hv1, he1⟩ := h.blk b k hk
    obtain ⟨k2, hk2, hv2, he2⟩ := h'.blk b k1 hk1
    refine ⟨k2, hk2, Nat.le_trans hv1 hv2, fun e c hc => ?_⟩
    obtain ⟨hc1, hl1, hs1⟩ := he1 (by omega) c hc
    obtain ⟨hc2, hl2, hs2⟩ := he2 (by omega) c hc1
    exact ⟨hc2, hl2.trans hl1, hs2.trans hs1⟩
  os := h'.os.trans h.os
  tape := h'.tape.trans h.tape
  output := h'.output.trans h.output
  size := Nat.le_trans h.size h'.size
  frame i hi hp := by
    obtain ⟨h1, hp1⟩ := h.frame i hi hp
    obtain ⟨h2, hp2⟩ := h'.frame i (Nat.lt_of_lt_of_le hi h.size) hp1
    exact ⟨h2.trans h1, hp2⟩

theorem heap_alloc_new (w : World) (o : Obj) : (w.alloc o).heap[w.heap.size]? = some o := by
  show (w.heap.push o)[w.heap.size]? = _
  simp

theorem cell_of_heap {w w' : World} {a : Addr} (h : w'.heap[a.block]? = w.heap[a.block]?) : w'.cell? a = w.cell? a := by
  unfold World.cell?; rw [h]

theorem add_block (a : Addr) (j : Nat) : (a.add j).block = a.block := by unfold Addr.add; split <;> rfl
theorem add_add (a : Addr) (i j : Nat) : (a.add i).add j = a.add (i + j) := by
  unfold Addr.add
  by_cases hi : i = 0
  · subst hi; simp
  · by_cases hj : j = 0
    · subst hj; simp [hi]
    · simp [hi, hj, Nat.add_assoc]

theorem Evo.cell {T μ w T' μ' w'} (h : Evo T μ w T' μ' w') {a : Addr} {v : Value} (hc : w.cell? a = some v) (hp : Prot μ a.block) : w'.cell? a = some v ∧ Prot μ' a.block := by
  obtain ⟨h1, h2⟩ := h.frame a.block (World.block_lt_of_cell? w a hc) hp
  exact ⟨(cell_of_heap h1).trans hc, h2⟩

theorem Rel.mono {T μ w T' μ' w'} (H : Evo T μ w T' μ' w') {v : AV} {x : Value} (h : Rel T μ w v x) : Rel T' μ' w' v x := by
  induction h with
  | bool b => exact .bool b
  | int k n => exact .int k n
  | str s => exact .str s
  | nilp => exact .nilp
  | ptr hk hv h =>
    obtain ⟨k', hk', hv', he⟩ := H.blk _ _ hk
    refine .ptr hk' (Nat.le_trans hv hv') fun e => ?_
    obtain ⟨c, hc, ha⟩ := h (by omega)
    exact ⟨c, (he (by omega) c hc).1, ha⟩
  | @iptr cells a f hp hc h ih =>
    refine .iptr (f := f) (fun hne => ?_) (fun j hj => ?_) ih
    · have h0 : 0 < cells.length := List.length_pos_iff.2 hne
      have := hc 0 h0
      have := H.cell this (by rw [add_block]; exact hp hne)
      rw [add_block] at this; exact this.2
    · have hne : cells ≠ [] := fun e => by subst e; simp at hj
      exact (H.cell (hc j hj) (by rw [add_block]; exact hp hne)).1
  | nils => exact .nils
  | sl hk hv hl h =>
    obtain ⟨k', hk', hv', he⟩ := H.blk _ _ hk
    refine .sl hk' (Nat.le_trans hv hv') hl fun e => ?_
    obtain ⟨c, hc, ha, h0, h1, h2, h3⟩ := h (by omega)
    obtain ⟨hc', hl', hs'⟩ := he (by omega) c hc
    exact ⟨c, hc', ha, by rw [hs']; exact h0, by rw [hl']; exact h1, by rw [hl']; exact h2, h3⟩
  | imm0 => exact .imm0
  | @imm n cap cells a f hl hp hc h ih =>
    refine .imm (f := f) hl (fun hne => ?_) (fun j hj => ?_) ih
    · have h0 : 0 < cells.length := List.length_pos_iff.2 hne
      have := hc 0 h0
      have := H.cell this (by rw [add_block]; exact hp hne)
      rw [add_block] at this; exact this.2
    · have hne : cells ≠ [] := fun e => by subst e; simp at hj
      exact (H.cell (hc j hj) (by rw [add_block]; exact hp hne)).1
  | emp => exact .emp
  | fn hl h ih => exact .fn hl ih
  | nilf => exact .nilf
  | agg hl h ih => exact .agg hl ih
  | tup hl h ih => exact .tup hl ih

theorem Rels.mono {T μ w T' μ' w'} (H : Evo T μ w T' μ' w') {l : List AV} {xs : List Value} (h : Rels T μ w l xs) : Rels T' μ' w' l xs :=
  ⟨h.1, fun j hj hx => (h.2 j hj hx).mono H⟩

/-- What holds of the blocks that are there. -/
structure Inv (T : Sto) (μ : Mu) (w : World) : Prop where
  inj : ∀ b b' c c', μ b = some c → μ b' = some c' → c.1 = c'.1 → b = b'
  blk : ∀ b c, μ b = some c → ∃ k, T b = some k ∧ ∃ (cs : Array Value) (e : TypeId), w.heap[c.1]? = some (.cells cs e (0, 0)) ∧ cs.size = c.2 ∧
    k.cells.all AV.one = true ∧ Rels T μ w k.cells (cs.toList.take k.cells.length)
  glob : ∀ g cells, globs g = some cells → Rel T μ w (.iptr cells) (.pointer (some ⟨g, 0, none⟩))

theorem Inv.lt {T μ w} (h : Inv T μ w) {b : Nat} {c : Nat × Nat} (hc : μ b = some c) : c.1 < w.heap.size := by
  obtain ⟨k, _, cs, e, hh, _⟩ := h.blk b c hc
  exact (Array.getElem?_eq_some_iff.1 hh).1

theorem Inv.fresh {T μ w} (h : Inv T μ w) : Prot μ w.heap.size := fun _ _ hc => Nat.ne_of_lt (h.lt hc)

/-- Nothing but counts has changed. -/
theorem Inv.of_heap {T μ w w'} (h : Inv T μ w) (hh : w'.heap = w.heap) (ho : w'.os = w.os) (ht : w'.tape = w.tape) (hout : w'.output = w.output) : Inv T μ w' ∧ Evo T μ w T μ w' := by
  have ev : Evo T μ w T μ w' := ⟨fun _ k h => ⟨k, h, Nat.le_refl _, fun _ _ hc => ⟨hc, rfl, rfl⟩⟩, ho, ht, hout, by rw [hh]; exact Nat.le_refl _, fun _ _ hp => ⟨by rw [hh], hp⟩⟩
  refine ⟨⟨h.inj, fun b c hc => ?_, fun g l hg => (h.glob g l hg).mono ev⟩, ev⟩
  obtain ⟨k, hk, cs, e, h1, h2, h3, h4⟩ := h.blk b c hc
  exact ⟨k, hk, cs, e, by rw [hh]; exact h1, h2, h3, h4.mono ev⟩

def upd {α : Type} (f : Nat → Option α) (b : Nat) (x : α) : Nat → Option α := fun i => if i = b then some x else f i
theorem upd_same {α : Type} (f : Nat → Option α) (b : Nat) (x : α) : upd f b x b = some x := by simp [upd]
theorem upd_other {α : Type} (f : Nat → Option α) {b i : Nat} (x : α) (h : i ≠ b) : upd f b x i = f i := by simp [upd, h]

/-- A new block. -/
theorem Inv.new {T μ w} (h : Inv T μ w) {id : Nat} (hT : T id = none) (hμ : μ id = none) {k : Blk} {cs : Array Value} {e : TypeId}
    (h1 : k.cells.all AV.one = true) (h2 : Rels T μ w k.cells (cs.toList.take k.cells.length)) :
    Inv (upd T id k) (upd μ id (w.heap.size, cs.size)) (w.alloc (.cells cs e)) ∧ Evo T μ w (upd T id k) (upd μ id (w.heap.size, cs.size)) (w.alloc (.cells cs e)) := by
  have hpush : ∀ i, i < w.heap.size → (w.alloc (.cells cs e)).heap[i]? = w.heap[i]? := fun i hi => by
    show (w.heap.push _)[i]? = _
    simp [Array.getElem?_push, Nat.ne_of_lt hi]
  have ev : Evo T μ w (upd T id k) (upd μ id (w.heap.size, cs.size)) (w.alloc (.cells cs e)) := by
    refine ⟨fun b k' hk' => ?_, rfl, rfl, rfl, by simp, fun i hi hp => ⟨hpush i hi, fun b1 c1 hc1 => ?_⟩⟩
    · have hne : b ≠ id := fun e => by subst e; rw [hT] at hk'; cases hk'
      exact ⟨k', by rw [upd_other _ _ hne]; exact hk', Nat.le_refl _, fun _ c hc => ⟨by rw [upd_other _ _ hne]; exact hc, rfl, rfl⟩⟩
    · by_cases hb : b1 = id
      · subst hb; rw [upd_same] at hc1; cases hc1; exact Nat.ne_of_gt hi
      · rw [upd_other _ _ hb] at hc1; exact hp b1 c1 hc1
  refine ⟨⟨fun b b' c c' hc hc' heq => ?_, fun b c hc => ?_, fun g l hg => (h.glob g l hg).mono ev⟩, ev⟩
  · by_cases hb : b = id
    · by_cases hb' : b' = id
      · rw [hb, hb']
      · subst hb; rw [upd_same] at hc; rw [upd_other _ _ hb'] at hc'
        cases hc
        exact absurd heq.symm (Nat.ne_of_lt (h.lt hc'))
    · by_cases hb' : b' = id
      · subst hb'; rw [upd_same] at hc'; rw [upd_other _ _ hb] at hc
        cases hc'
        exact absurd heq (Nat.ne_of_lt (h.lt hc))
      · rw [upd_other _ _ hb] at hc; rw [upd_other _ _ hb'] at hc'
        exact h.inj b b' c c' hc hc' heq
  · by_cases hb : b = id
    · subst hb; rw [upd_same] at hc; cases hc
      exact ⟨k, upd_same _ _ _, cs, e, heap_alloc_new w _, rfl, h1, h2.mono ev⟩
    · rw [upd_other _ _ hb] at hc
      obtain ⟨k', hk', cs', e', g1, g2, g3, g4⟩ := h.blk b c hc
      exact ⟨k', by rw [upd_other _ _ hb]; exact hk', cs', e', by rw [hpush _ (h.lt hc)]; exact g1, g2, g3, g4.mono ev⟩

/-- A block is written, where it lies. -/
theorem Inv.write {T μ w} (h : Inv T μ w) {b : Nat} {c : Nat × Nat} {k k' : Blk} (hc : μ b = some c) (hk : T b = some k)
    {cs cs' : Array Value} {e : TypeId} (hh : w.heap[c.1]? = some (.cells cs e (0, 0))) (hs : cs'.size = cs.size) (hcs : cs.size = c.2)
    (hv : (k'.ver = k.ver ∧ k'.cells.length = k.cells.length ∧ k'.sz = k.sz) ∨ k.ver < k'.ver)
    (h1 : k'.cells.all AV.one = true) (h2 : Rels T μ w k'.cells (cs'.toList.take k'.cells.length)) :
    Inv (upd T b k') μ (w.setRow c.1 cs') ∧ Evo T μ w (upd T b k') μ (w.setRow c.1 cs') := by
  have ev : Evo T μ w (upd T b k') μ (w.setRow c.1 cs') := by
    refine ⟨fun i k1 hk1 => ?_, rfl, rfl, rfl, by simp, fun i hi hp => ⟨setRow_other w c.1 i cs' (fun e => hp b c hc e.symm), hp⟩⟩
    by_cases hi : i = b
    · subst hi
      rw [hk] at hk1; cases hk1
      rcases hv with ⟨v1, v2, v3⟩ | hlt
      · exact ⟨k', upd_same _ _ _, Nat.le_of_eq v1.symm, fun _ c hc => ⟨hc, v2, v3⟩⟩
      · exact ⟨k', upd_same _ _ _, Nat.le_of_lt hlt, fun e => by omega⟩
    · exact ⟨k1, by rw [upd_other _ _ hi]; exact hk1, Nat.le_refl _, fun _ c hc => ⟨hc, rfl, rfl⟩⟩
  refine ⟨⟨h.inj, fun i c1 hc1 => ?_, fun g l hg => (h.glob g l hg).mono ev⟩, ev⟩
  by_cases hi : i = b
  · subst hi
    rw [hc] at hc1; cases hc1
    exact ⟨k', upd_same _ _ _, cs', e, setRow_heap w c.1 cs cs' e (0, 0) hh, hs.trans hcs, h1, h2.mono ev⟩
  · obtain ⟨k1, hk1, cs1, e1, g1, g2, g3, g4⟩ := h.blk i c1 hc1
    have hne : c1.1 ≠ c.1 := fun e => hi (h.inj i b c1 c hc1 hc e)
    exact ⟨k1, by rw [upd_other _ _ hi]; exact hk1, cs1, e1, by rw [setRow_other w c.1 c1.1 cs' hne]; exact g1, g2, g3, g4.mono ev⟩

/-- A block moves to a new place, and grows. -/
theorem Inv.move {T μ w} (h : Inv T μ w) {b : Nat} {c : Nat × Nat} {k k' : Blk} (hc : μ b = some c) (hk : T b = some k)
    {cs : Array Value} {e : TypeId} (hv : k.ver < k'.ver)
    (h1 : k'.cells.all AV.one = true) (h2 : Rels T μ w k'.cells (cs.toList.take k'.cells.length)) :
    Inv (upd T b k') (upd μ b (w.heap.size, cs.size)) (w.alloc (.cells cs e)) ∧ Evo T μ w (upd T b k') (upd μ b (w.heap.size, cs.size)) (w.alloc (.cells cs e)) := by
  have hpush : ∀ i, i < w.heap.size → (w.alloc (.cells cs e)).heap[i]? = w.heap[i]? := fun i hi => by
    show (w.heap.push _)[i]? = _
    simp [Array.getElem?_push, Nat.ne_of_lt hi]
  have ev : Evo T μ w (upd T b k') (upd μ b (w.heap.size, cs.size)) (w.alloc (.cells cs e)) := by
    refine ⟨fun i k1 hk1 => ?_, rfl, rfl, rfl, by simp, fun i hi hp => ⟨hpush i hi, fun b1 c1 hc1 => ?_⟩⟩
    · by_cases hi : i = b
      · subst hi
        rw [hk] at hk1; cases hk1
        exact ⟨k', upd_same _ _ _, Nat.le_of_lt hv, fun e => by omega⟩
      · exact ⟨k1, by rw [upd_other _ _ hi]; exact hk1, Nat.le_refl _, fun _ c hc => ⟨by rw [upd_other _ _ hi]; exact hc, rfl, rfl⟩⟩
    · by_cases hb : b1 = b
      · subst hb; rw [upd_same] at hc1; cases hc1; exact Nat.ne_of_gt hi
      · rw [upd_other _ _ hb] at hc1; exact hp b1 c1 hc1
  refine ⟨⟨fun i i' c1 c1' hc1 hc1' heq => ?_, fun i c1 hc1 => ?_, fun g l hg => (h.glob g l hg).mono ev⟩, ev⟩
  · by_cases hb : i = b
    · by_cases hb' : i' = b
      · rw [hb, hb']
      · subst hb; rw [upd_same] at hc1; rw [upd_other _ _ hb'] at hc1'
        cases hc1
        exact absurd heq.symm (Nat.ne_of_lt (h.lt hc1'))
    · by_cases hb' : i' = b
      · subst hb'; rw [upd_same] at hc1'; rw [upd_other _ _ hb] at hc1
        cases hc1'
        exact absurd heq (Nat.ne_of_lt (h.lt hc1))
      · rw [upd_other _ _ hb] at hc1; rw [upd_other _ _ hb'] at hc1'
        exact h.inj i i' c1 c1' hc1 hc1' heq
  · by_cases hi : i = b
    · subst hi; rw [upd_same] at hc1; cases hc1
      exact ⟨k', upd_same _ _ _, cs, e, heap_alloc_new w _, rfl, h1, h2.mono ev⟩
    · rw [upd_other _ _ hi] at hc1
      obtain ⟨k1, hk1, cs1, e1, g1, g2, g3, g4⟩ := h.blk i c1 hc1
      exact ⟨k1, by rw [upd_other _ _ hi]; exact hk1, cs1, e1, by rw [hpush _ (h.lt hc1)]; exact g1, g2, g3, g4.mono ev⟩

end Go.Proofs.YteaifkpmfbgekaaGreatDoor.M

namespace Go.Proofs.YteaifkpmfbgekaaGreatDoor.M
open Go

/-- The cells of a type whose '==' goes cell by cell. -/
def flatFs (P : Program) (f : TypeId → Option (List CK)) : List Field → Nat → Option (List CK)
  | [], _ => some []
  | x :: l, n => if x.name ≠ "_" ∧ x.offset = n then
      match f x.type with
      | some m => if (P.info? x.type).map (·.size) = some m.length then
          (match flatFs P f l (n + m.length) with | some r => some (m ++ r) | none => none) else none
      | none => none
    else none
def flat (P : Program) : Nat → TypeId → Option (List CK)
  | 0, _ => none
  | d + 1, t => match P.underlying t with
    | some (.int _) => some [.int]
    | some .bool => some [.bool]
    | some .string => some [.str]
    | some (.struct fs) => if P.stoodInHeld t then none else flatFs P (flat P d) fs.toList 0
    | _ => none

structure TI.Ok (P : Program) (t : TypeId) (i : TI) : Prop where
  und : P.underlying t = some i.und
  info : ∃ ti, P.info? t = some ti ∧ ti.size = i.size ∧ ti.bytes = i.bytes ∧ ∀ z, i.zero = some z → ∃ zv, ti.zero = some zv ∧ AV.ofVs zv.cells.toList = some z
  agg : isAggD i.und = false → i.size = 1
  eqk : i.eqk ≠ [] → flat P 8 t = some i.eqk ∧ P.eqGuardType P.depth t = false

structure Env.Types (P : Program) (E : Env) : Prop where
  info : ∀ t i, E.info t = some i → TI.Ok P t i

section
variable {P : Program} {E : Env} {T : Sto} {μ : Mu} {w : World}

theorem ofV1_rel {v : Value} {x : AV} (h : AV.ofV1 v = some x) : Rel T μ w x v := by
  unfold AV.ofV1 at h
  split at h <;> first | (cases h; constructor) | cases h

theorem ofVs_rel : ∀ {l : List Value} {xs : List AV}, AV.ofVs l = some xs → Rels T μ w xs l
  | [], xs, h => by simp only [AV.ofVs] at h; cases h; exact .nil
  | v :: l, xs, h => by
    simp only [AV.ofVs] at h
    split at h
    · rename_i x hx
      split at h
      · rename_i ys hys
        cases h
        exact .cons (ofV1_rel hx) (ofVs_rel hys)
      · cases h
    · cases h

theorem ofV_rel {v : Value} {x : AV} (h : AV.ofV v = some x) : Rel T μ w x v := by
  unfold AV.ofV at h
  split at h
  · split at h
    · rename_i l hl
      cases h
      exact Rel.agg_iff.2 ⟨_, rfl, ofVs_rel hl⟩
    · cases h
  · split at h
    · rename_i vs hv
      cases h
      refine .tup (by simpa using hv) fun j hj => by simp at hj
    · cases h
  · exact ofV1_rel h

theorem ofV1_one {v : Value} {x : AV} (h : AV.ofV1 v = some x) : x.one = true := by
  unfold AV.ofV1 at h
  split at h <;> first | (cases h; rfl) | cases h
theorem ofVs_one : ∀ {l : List Value} {xs : List AV}, AV.ofVs l = some xs → xs.all AV.one = true
  | [], xs, h => by simp only [AV.ofVs] at h; cases h; rfl
  | v :: l, xs, h => by
    simp only [AV.ofVs] at h
    split at h
    · rename_i x hx
      split at h
      · rename_i ys hys
        cases h
        simp [ofV1_one hx, ofVs_one hys]
      · cases h
    · cases h

/-- One cell, one value. -/
theorem Rel.one {v : AV} {x : Value} (h : Rel T μ w v x) (h1 : v.one = true) : x.oneCell' = true := by
  cases h <;> first | rfl | (simp [AV.one] at h1)
theorem Rel.one_cells {v : AV} {x : Value} (h : Rel T μ w v x) (h1 : v.one = true) : x.cells = #[x] := by
  cases h <;> first | rfl | (simp [AV.one] at h1)
theorem Rels.one {l : List AV} {xs : List Value} (h : Rels T μ w l xs) (h1 : l.all AV.one = true) : ∀ x ∈ xs, x.oneCell' = true := by
  intro x hx
  obtain ⟨j, hj, rfl⟩ := List.getElem_of_mem hx
  have hl : j < l.length := by rw [← h.1]; exact hj
  exact (h.2 j hl hj).one (List.all_eq_true.1 h1 _ (List.getElem_mem hl))
theorem Rel.cells {v : AV} {x : Value} (h : Rel T μ w v x) (h1 : v.cells.all AV.one = true) : Rels T μ w v.cells x.cells.toList := by
  cases h with
  | agg hl h => exact (Rel.agg_iff.1 (.agg hl h)).elim fun xs hx => by cases hx.1; exact hx.2
  | tup hl h => simp [AV.cells, AV.one] at h1
  | _ => refine Rels.cons ?_ .nil; first | (constructor <;> assumption) | constructor

/-! ### Operands -/

theorem opd_sound (hI : Inv T μ w) {sl : List AV} {a : Act} (hs : Rels T μ w sl a.tmps.toList) {x : Operand} {v : AV} (h : opdA sl x = some v) : Rel T μ w v (a.eval x) := by
  cases x with
  | tmp t =>
    simp only [opdA] at h
    obtain ⟨y, hy, hr⟩ := hs.get h
    have : a.tmps[t]? = some y := by simpa using hy
    have e : a.eval (.tmp t) = y := by simp [Act.eval, Array.getD_eq_getD_getElem?, this]
    rw [e]; exact hr
  | const c => exact ofV_rel h
  | global g =>
    simp only [opdA] at h
    split at h
    · rename_i l hl; cases h; exact hI.glob g l hl
    · cases h
  | func f =>
    simp only [opdA] at h
    cases h
    exact .fn rfl fun j hj => by simp at hj

theorem opds_sound (hI : Inv T μ w) {sl : List AV} {a : Act} (hs : Rels T μ w sl a.tmps.toList) : ∀ {l : List Operand} {vs : List AV}, opdsA sl l = some vs → Rels T μ w vs (l.map a.eval)
  | [], vs, h => by simp only [opdsA] at h; cases h; exact .nil
  | x :: l, vs, h => by
    simp only [opdsA] at h
    split at h
    · rename_i v hv
      split at h
      · rename_i ws hws
        cases h
        exact .cons (opd_sound hI hs hv) (opds_sound hI hs hws)
      · cases h
    · cases h

/-! ### Reading memory -/

/-- From an address on lie these cells. -/
def At (T : Sto) (μ : Mu) (w : World) (a : Addr) (l : List AV) : Prop :=
  ∃ f : Nat → Value, (∀ j, j < l.length → w.cell? (a.add j) = some (f j)) ∧ ∀ j (hj : j < l.length), Rel T μ w l[j] (f j)

theorem At.sub {a : Addr} {l : List AV} (h : At T μ w a l) (off n : Nat) : At T μ w (a.add off) ((l.drop off).take n) := by
  obtain ⟨f, hc, hr⟩ := h
  refine ⟨fun j => f (off + j), fun j hj => ?_, fun j hj => ?_⟩
  · rw [add_add]; exact hc _ (by simp at hj; omega)
  · have : off + j < l.length := by simp at hj; omega
    simpa using hr (off + j) this
theorem cut_eq {l : List AV} {off n : Nat} {r : List AV} (h : cut l off n = some r) : r = (l.drop off).take n ∧ r.length = n := by
  unfold cut at h
  simp only [] at h
  split at h
  · rename_i hl; cases h; exact ⟨rfl, hl⟩
  · cases h
theorem At.cut {a : Addr} {l r : List AV} {off n : Nat} (h : At T μ w a l) (hc : cut l off n = some r) : At T μ w (a.add off) r := by
  rw [(cut_eq hc).1]; exact h.sub off n
theorem At.list {a : Addr} {l : List AV} (h : At T μ w a l) : ∃ xs : List Value, Rels T μ w l xs ∧ ∀ j x, xs[j]? = some x → w.cell? (a.add j) = some x := by
  obtain ⟨f, hc, hr⟩ := h
  refine ⟨(List.range l.length).map f, ⟨by simp, fun j hj hx => by simpa using hr j hj⟩, fun j x hx => ?_⟩
  have hj : j < l.length := by
    rcases Nat.lt_or_ge j l.length with h | h
    · exact h
    · rw [List.getElem?_eq_none (by simpa using h)] at hx; cases hx
  have : f j = x := by simpa [List.getElem?_map, hj] using hx
  rw [hc j hj, this]

theorem At.of_block (hI : Inv T μ w) {b : Nat} {c : Nat × Nat} {k : Blk} (hc : μ b = some c) (hk : T b = some k) : At T μ w ⟨c.1, 0, none⟩ k.cells := by
  obtain ⟨k', hk', cs, e, hh, _, _, hr⟩ := hI.blk b c hc
  rw [hk] at hk'; cases hk'
  refine ⟨fun j => (cs[j]?).getD undef, fun j hj => ?_, fun j hj => ?_⟩
  · have hlen : j < cs.size := by have := hr.1; simp at this; omega
    simp [Addr.add_lit, World.cell?, hh, hlen]
  · have hlen : j < cs.size := by have := hr.1; simp at this; omega
    have := hr.2 j hj (by simp; omega)
    simpa [hlen] using this

theorem run_sizeOf {t : TypeId} {i : TI} (h : TI.Ok P t i) : (sizeOf t).run P w = .ok i.size w := by
  obtain ⟨ti, h1, h2, _⟩ := h.info
  simp [sizeOf, typeInfo, h1, h2]
theorem run_isAgg {t : TypeId} {i : TI} (h : TI.Ok P t i) : (isAgg t).run P w = .ok (isAggD i.und) w := by
  unfold isAgg
  simp only [Sem.run_bind, run_underlying h.und, Result.andThen_ok]
  cases hu : i.und <;> simp [isAggD]

theorem run_loadVar {t : TypeId} {i : TI} (h : TI.Ok P t i) {a : Addr} {l : List AV} (hA : At T μ w a l) (hl : l.length = if isAggD i.und then i.size else 1) :
    ∃ x, (loadVar t a).run P w = .ok x w ∧ (isAggD i.und = true → Rel T μ w (.agg l) x) ∧ (isAggD i.und = false → ∀ v, l = [v] → Rel T μ w v x) := by
  obtain ⟨xs, hr, hx⟩ := hA.list
  unfold loadVar
  cases hg : isAggD i.und
  · rw [hg] at hl
    simp only [Bool.false_eq_true, if_false] at hl
    obtain ⟨v, rfl⟩ := List.length_eq_one_iff.1 hl
    obtain ⟨x, rfl⟩ := List.length_eq_one_iff.1 (hr.1.trans hl)
    have hc := hx 0 x rfl
    rw [Addr.add_zero'] at hc
    refine ⟨x, by simp [run_isAgg h, hg, hc], fun h => by simp at h, fun _ v' hv => ?_⟩
    cases hv
    exact hr.head
  · rw [hg] at hl
    simp only [if_true] at hl
    have hload := run_loadCells_list (P := P) w a xs hx
    rw [hr.1, hl] at hload
    refine ⟨.agg xs.toArray, by simp [run_isAgg h, hg, run_sizeOf h, hload], fun _ => Rel.agg_iff.2 ⟨_, rfl, by simpa using hr⟩, fun h => by simp at h⟩

theorem read_sound (hI : Inv T μ w) (hE : E.Types P) {t : TypeId} {p : AV} {x : Value} (hp : Rel T μ w p x) {e : Eff} (h : readA E T t p = some e) :
    e.wr = none ∧ e.new = none ∧ ∃ y, (Instr.loadAt t x).run P w = .ok y w ∧ Rel T μ w e.res y := by
  unfold readA at h
  split at h
  · cases h
  rename_i i hi
  have ok := hE.info t i hi
  have fin : ∀ (a : Addr) (l : List AV) (rd : List Nat), At T μ w a l → l.length = (if isAggD i.und then i.size else 1) →
      (if isAggD i.und = true then some (⟨.agg l, rd, none, none⟩ : Eff) else match l with | [v] => some ⟨v, rd, none, none⟩ | _ => none) = some e →
      e.wr = none ∧ e.new = none ∧ ∃ y, (Instr.loadAt t (.pointer (some a))).run P w = .ok y w ∧ Rel T μ w e.res y := by
    intro a l rd hA hl he
    obtain ⟨y, hy, h1, h2⟩ := run_loadVar ok hA hl
    have hrun : (Instr.loadAt t (.pointer (some a))).run P w = .ok y w := by simp [Instr.loadAt, Instr.sureAddr, hy]
    split at he
    · rename_i hg; cases he; exact ⟨rfl, rfl, y, hrun, h1 hg⟩
    · rename_i hg
      split at he
      · cases he; exact ⟨rfl, rfl, y, hrun, h2 (by simpa using hg) _ rfl⟩
      · cases he
  cases hp with
  | @ptr b off ver a k hk hv hh =>
    simp only [hk] at h
    split at h
    · rename_i hver
      split at h
      · rename_i l hl
        obtain ⟨c, hc, rfl⟩ := hh hver.symm
        have hA := (At.of_block hI hc hk).cut hl
        rw [Addr.add_lit, Nat.zero_add] at hA
        exact fin _ l _ hA (cut_eq hl).2 h
      · cases h
    · cases h
  | @iptr cells a f hpr hc hr =>
    simp only [] at h
    split at h
    · rename_i l hl
      have hA : At T μ w a cells := ⟨f, hc, hr⟩
      have hA := hA.cut hl
      rw [Addr.add_zero'] at hA
      exact fin _ l _ hA (cut_eq hl).2 h
    · cases h
  | _ => simp at h

theorem part_sound (hE : E.Types P) {t : TypeId} {cs : List AV} {xs : Array Value} (hr : Rels T μ w cs xs.toList) {off : Nat} {v : AV} (h : partA E t cs off = some v) :
    ∃ y, (part t xs off).run P w = .ok y w ∧ Rel T μ w v y := by
  unfold partA at h
  split at h
  · cases h
  rename_i i hi
  have ok := hE.info t i hi
  split at h
  · rename_i hg
    split at h
    · rename_i l hl
      cases h
      obtain ⟨rfl, hlen⟩ := cut_eq hl
      refine ⟨.agg (xs.extract off (off + i.size)), by simp [part, run_isAgg ok, hg, run_sizeOf ok], Rel.agg_iff.2 ⟨_, rfl, ?_⟩⟩
      have := (hr.drop off).take i.size
      simpa [List.extract_eq_take_drop] using this
    · cases h
  · rename_i hg
    obtain ⟨y, hy, hrel⟩ := hr.get h
    have : xs[off]? = some y := by simpa using hy
    exact ⟨y, by simp [part, run_isAgg ok, hg, this], hrel⟩
end
end Go.Proofs.YteaifkpmfbgekaaGreatDoor.M

namespace Go.Proofs.YteaifkpmfbgekaaGreatDoor.M
open Go
section
variable {P : Program} {E : Env} {T : Sto} {μ : Mu} {w : World}

/-! ### Equality -/

theorem run_eq_int {d : Nat} {t : TypeId} {k : IntKind} (hu : P.underlying t = some (.int k)) {x y : AV} {a b : Value} (hx : Rel T μ w x a) (hy : Rel T μ w y b) {r : Bool} (h : eqCell .int x y = some r) :
    (Op.equalIn (d + 1) t a b).run P w = .ok r w := by
  unfold eqCell at h
  split at h
  · split at h
    · rename_i hk
      subst hk
      cases h
      cases hx; cases hy
      exact run_equalIn_int w d t _ k _ _ hu
    · cases h
  · rename_i h1; cases h1
  · rename_i h1; cases h1
  · cases h
theorem run_eq_bool {d : Nat} {t : TypeId} (hu : P.underlying t = some .bool) {x y : AV} {a b : Value} (hx : Rel T μ w x a) (hy : Rel T μ w y b) {r : Bool} (h : eqCell .bool x y = some r) :
    (Op.equalIn (d + 1) t a b).run P w = .ok r w := by
  unfold eqCell at h
  split at h
  · rename_i h1; cases h1
  · cases h
    cases hx; cases hy
    exact run_equalIn_bool' w d t _ _ hu
  · rename_i h1; cases h1
  · cases h
theorem run_eq_str {d : Nat} {t : TypeId} (hu : P.underlying t = some .string) {x y : AV} {a b : Value} (hx : Rel T μ w x a) (hy : Rel T μ w y b) {r : Bool} (h : eqCell .str x y = some r) :
    (Op.equalIn (d + 1) t a b).run P w = .ok r w := by
  unfold eqCell at h
  split at h
  · rename_i h1; cases h1
  · rename_i h1; cases h1
  · cases h
    cases hx; cases hy
    rw [run_equalIn_string w d t _ _ hu]
    simp [bytesEq, ByteArray.toList_eq]
  · cases h

theorem eqCells_one {c : CK} {xs ys : List AV} {r : Bool} (h : eqCells [c] xs ys = some r) : ∃ x y, xs = [x] ∧ ys = [y] ∧ eqCell c x y = some r := by
  match xs, ys with
  | [x], [y] =>
    simp only [eqCells] at h
    split at h
    · rename_i r' hr; cases h; exact ⟨x, y, rfl, rfl, by simpa using hr⟩
    · cases h
  | [], _ => simp [eqCells] at h
  | x :: x' :: xs, [] => simp [eqCells] at h
  | x :: x' :: xs, y :: ys =>
    simp only [eqCells] at h
    split at h
    · simp at h
    · cases h
  | [x], [] => simp [eqCells] at h
  | [x], y :: y' :: ys =>
    simp only [eqCells] at h
    split at h
    · simp at h
    · cases h

theorem eqCells_append : ∀ {c c' : List CK} {xs ys : List AV} {r : Bool}, eqCells (c ++ c') xs ys = some r →
    c.length + c'.length = xs.length ∧ c.length + c'.length = ys.length ∧ ∃ r1 r2, eqCells c (xs.take c.length) (ys.take c.length) = some r1 ∧ eqCells c' (xs.drop c.length) (ys.drop c.length) = some r2 ∧ r = (r1 && r2)
  | [], c', xs, ys, r, h => by
    have hl : ∀ (c : List CK) (xs ys : List AV) (r : Bool), eqCells c xs ys = some r → c.length = xs.length ∧ c.length = ys.length := by
      intro c
      induction c with
      | nil => intro xs ys r h; cases xs <;> cases ys <;> simp [eqCells] at h ⊢
      | cons a c ih =>
        intro xs ys r h
        cases xs <;> cases ys <;> simp only [eqCells] at h <;> try (cases h; done)
        split at h
        · split at h
          · rename_i hr; have := ih _ _ _ hr; simp [this.1, ← this.2]
          · cases h
        · cases h
    have := hl _ _ _ _ h
    simp at this
    refine ⟨by simpa using this.1, by simpa using this.2, true, r, ?_, by simpa using h, by simp⟩
    simp [eqCells]
  | a :: c, c', xs, ys, r, h => by
    cases xs <;> cases ys <;> simp only [List.cons_append, eqCells] at h <;> try (cases h; done)
    rename_i x xs y ys
    split at h
    · rename_i r1 h1
      split at h
      · rename_i r2 h2
        cases h
        obtain ⟨g1, g2, r3, r4, g3, g4, rfl⟩ := eqCells_append h2
        refine ⟨by simp; omega, by simp; omega, (r1 && r3), r4, ?_, by simpa using g4, by simp [Bool.and_assoc]⟩
        simp [eqCells, h1, g3]
      · cases h
    · cases h

theorem Rels.extract {l : List AV} {xs : Array Value} (h : Rels T μ w l xs.toList) (i n : Nat) : Rels T μ w ((l.drop i).take n) (xs.extract i (i + n)).toList := by
  have := (h.drop i).take n
  simpa [List.extract_eq_take_drop] using this

/-- A struct, field by field. -/
theorem run_eqFields {d : Nat} (rec : ∀ t c, flat P d t = some c → ∀ (xs ys : List AV) (a b : Value) (r : Bool), eqCells c xs ys = some r →
      ((∃ fs, P.underlying t = some (.struct fs)) → Rel T μ w (.agg xs) a ∧ Rel T μ w (.agg ys) b) → ((∀ fs, P.underlying t ≠ some (.struct fs)) → ∀ x y, xs = [x] → ys = [y] → Rel T μ w x a ∧ Rel T μ w y b) →
      ∀ D, d ≤ D → (Op.equalIn D t a b).run P w = .ok r w) :
    ∀ (fs : List Field) (n : Nat) (c : List CK) (xs ys : List AV) (as bs : Array Value) (r : Bool), flatFs P (flat P d) fs n = some c →
      Rels T μ w xs as.toList → Rels T μ w ys bs.toList → eqCells c (xs.drop n) (ys.drop n) = some r → ∀ D, d ≤ D → (Op.eqFields D as bs fs).run P w = .ok r w := by
  intro fs
  induction fs with
  | nil =>
    intro n c xs ys as bs r hf _ _ h D _
    simp only [flatFs] at hf
    cases hf
    have : r = true := by
      generalize xs.drop n = x at h
      generalize ys.drop n = y at h
      cases x <;> cases y <;> simp [eqCells] at h
      exact h
    subst this
    simp [Op.eqFields]
  | cons f fs ih =>
    intro n c xs ys as bs r hf hx hy h D hD
    simp only [flatFs] at hf
    split at hf
    · rename_i hn
      obtain ⟨hname, hoff⟩ := hn
      split at hf
      · rename_i m hm
        split at hf
        · rename_i hsz
          split at hf
          · rename_i c' hc'
            cases hf
            obtain ⟨_, _, r1, r2, h1, h2, rfl⟩ := eqCells_append h
            rw [List.drop_drop] at h2
            rw [List.drop_drop] at h2
            have hrest := ih (n + m.length) c' xs ys as bs r2 hc' hx hy h2 D hD
            obtain ⟨ti, hti, hts⟩ := Option.map_eq_some_iff.1 hsz
            have key : ∃ u v, (part f.type as f.offset).run P w = .ok u w ∧ (part f.type bs f.offset).run P w = .ok v w ∧ (Op.equalIn D f.type u v).run P w = .ok r1 w := by
              by_cases hst : ∃ fs', P.underlying f.type = some (.struct fs')
              · obtain ⟨fs', hst⟩ := hst
                refine ⟨.agg (as.extract n (n + m.length)), .agg (bs.extract n (n + m.length)), ?_, ?_, ?_⟩
                · simp [part, isAgg, run_underlying hst, sizeOf, typeInfo, hti, hts, hoff]
                · simp [part, isAgg, run_underlying hst, sizeOf, typeInfo, hti, hts, hoff]
                · refine rec f.type m hm _ _ _ _ r1 h1 (fun _ => ⟨Rel.agg_iff.2 ⟨_, rfl, ?_⟩, Rel.agg_iff.2 ⟨_, rfl, ?_⟩⟩) (fun hno => absurd hst (hno fs')) D hD
                  · exact hx.extract n m.length
                  · exact hy.extract n m.length
              · have hst' : ∀ fs', P.underlying f.type ≠ some (.struct fs') := fun fs' e => hst ⟨fs', e⟩
                have hone : ∃ ck, m = [ck] ∧ isAggD ((P.underlying f.type).getD .bool) = false ∧ (P.underlying f.type).isSome = true := by
                  cases d with
                  | zero => simp [flat] at hm
                  | succ d =>
                    simp only [flat] at hm
                    split at hm
                    · rename_i k hu; cases hm; exact ⟨_, rfl, by simp [hu, isAggD], by simp [hu]⟩
                    · rename_i hu; cases hm; exact ⟨_, rfl, by simp [hu, isAggD], by simp [hu]⟩
                    · rename_i hu; cases hm; exact ⟨_, rfl, by simp [hu, isAggD], by simp [hu]⟩
                    · rename_i fs' hu; exact absurd hu (hst' fs')
                    · cases hm
                obtain ⟨ck, rfl, hagg, hsome⟩ := hone
                obtain ⟨u, hu⟩ := Option.isSome_iff_exists.1 hsome
                rw [hu] at hagg
                obtain ⟨x, y, ex, ey, hxy⟩ := eqCells_one h1
                have gx : xs[n]? = some x := by
                  have : ((xs.drop n).take 1)[0]? = some x := by rw [show [ck].length = 1 from rfl] at ex; rw [ex]; rfl
                  simpa using this
                have gy : ys[n]? = some y := by
                  have : ((ys.drop n).take 1)[0]? = some y := by rw [show [ck].length = 1 from rfl] at ey; rw [ey]; rfl
                  simpa using this
                obtain ⟨a, ha, hra⟩ := hx.get gx
                obtain ⟨b, hb, hrb⟩ := hy.get gy
                have ha' : as[n]? = some a := by simpa using ha
                have hb' : bs[n]? = some b := by simpa using hb
                have hpart : ∀ (cs : Array Value) (v : Value), cs[n]? = some v → (part f.type cs f.offset).run P w = .ok v w := by
                  intro cs v hv
                  have : (isAgg f.type).run P w = .ok false w := by
                    unfold isAgg
                    simp only [Sem.run_bind, run_underlying hu, Result.andThen_ok]
                    cases u <;> simp [isAggD] at hagg ⊢
                  simp [part, this, hoff, hv]
                refine ⟨a, b, hpart _ _ ha', hpart _ _ hb', ?_⟩
                exact rec f.type [ck] hm [x] [y] a b r1 (by rw [ex, ey] at h1; exact h1) (fun ⟨fs', e⟩ => absurd e (hst' fs')) (fun _ x' y' e1 e2 => by cases e1; cases e2; exact ⟨hra, hrb⟩) D hD
            obtain ⟨u, v, p1, p2, p3⟩ := key
            simp only [Op.eqFields]
            rw [if_pos hname]
            simp only [Sem.run_bind, p1, p2, p3, Result.andThen_ok]
            cases r1
            · simp
            · simpa using hrest
          · cases hf
        · cases hf
      · cases hf
    · cases hf

theorem run_equal_flat : ∀ (d : Nat) (t : TypeId) (c : List CK), flat P d t = some c → ∀ (xs ys : List AV) (a b : Value) (r : Bool), eqCells c xs ys = some r →
      ((∃ fs, P.underlying t = some (.struct fs)) → Rel T μ w (.agg xs) a ∧ Rel T μ w (.agg ys) b) → ((∀ fs, P.underlying t ≠ some (.struct fs)) → ∀ x y, xs = [x] → ys = [y] → Rel T μ w x a ∧ Rel T μ w y b) →
      ∀ D, d ≤ D → (Op.equalIn D t a b).run P w = .ok r w
  | 0, t, c, h => by simp [flat] at h
  | d + 1, t, c, h => by
    intro xs ys a b r he hs hn D hD
    obtain ⟨D, rfl⟩ : ∃ D', D = D' + 1 := ⟨D - 1, by omega⟩
    simp only [flat] at h
    split at h
    · rename_i k hu
      cases h
      obtain ⟨x, y, rfl, rfl, hxy⟩ := eqCells_one he
      obtain ⟨h1, h2⟩ := hn (fun fs e => by rw [hu] at e; cases e) x y rfl rfl
      exact run_eq_int hu h1 h2 hxy
    · rename_i hu
      cases h
      obtain ⟨x, y, rfl, rfl, hxy⟩ := eqCells_one he
      obtain ⟨h1, h2⟩ := hn (fun fs e => by rw [hu] at e; cases e) x y rfl rfl
      exact run_eq_bool hu h1 h2 hxy
    · rename_i hu
      cases h
      obtain ⟨x, y, rfl, rfl, hxy⟩ := eqCells_one he
      obtain ⟨h1, h2⟩ := hn (fun fs e => by rw [hu] at e; cases e) x y rfl rfl
      exact run_eq_str hu h1 h2 hxy
    · rename_i fs hu
      split at h
      · cases h
      · rename_i hp
        obtain ⟨h1, h2⟩ := hs ⟨fs, hu⟩
        obtain ⟨as, rfl, ha⟩ := Rel.agg_iff.1 h1
        obtain ⟨bs, rfl, hb⟩ := Rel.agg_iff.1 h2
        have hfo : P.fieldsOf t = fs := by simp [Program.fieldsOf, hu]
        rw [run_equalIn_struct w D t as bs (by rw [hfo]; exact hu) (by simpa using hp), hfo]
        exact run_eqFields (run_equal_flat d) fs.toList 0 c xs ys as bs r h ha hb (by simpa using he) D (by omega)
    · cases h

theorem eqs_slice (d : Nat) {t e : TypeId} (h : P.underlying t = some (.slice e)) :
    (Op.equalIn (d + 1) t (.slice none 0 0) (.slice none 0 0)).run P w = .ok true w ∧
    (∀ a l c, (Op.equalIn (d + 1) t (.slice (some a) l c) (.slice none 0 0)).run P w = .ok false w) ∧
    (∀ a l c, (Op.equalIn (d + 1) t (.slice none 0 0) (.slice (some a) l c)).run P w = .ok false w) :=
  ⟨by simp [Op.equalIn, run_underlying h], fun _ _ _ => by simp [Op.equalIn, run_underlying h], fun _ _ _ => by simp [Op.equalIn, run_underlying h]⟩
theorem eqs_ptr (d : Nat) {t e : TypeId} (h : P.underlying t = some (.pointer e)) :
    (Op.equalIn (d + 1) t (.pointer none) (.pointer none)).run P w = .ok true w ∧
    (∀ a, (Op.equalIn (d + 1) t (.pointer (some a)) (.pointer none)).run P w = .ok false w) ∧
    (∀ a, (Op.equalIn (d + 1) t (.pointer none) (.pointer (some a))).run P w = .ok false w) :=
  ⟨by simp [Op.equalIn, run_underlying h], fun _ => by simp [Op.equalIn, run_underlying h], fun _ => by simp [Op.equalIn, run_underlying h]⟩
theorem eqs_func (d : Nat) {t : TypeId} {ps rs : Array TypeId} {v : Bool} (h : P.underlying t = some (.func ps rs v)) :
    (Op.equalIn (d + 1) t .nilFunc .nilFunc).run P w = .ok true w ∧
    (∀ f x y, (Op.equalIn (d + 1) t (.func f x y) .nilFunc).run P w = .ok false w) ∧
    (∀ f x y, (Op.equalIn (d + 1) t .nilFunc (.func f x y)).run P w = .ok false w) :=
  ⟨by simp [Op.equalIn, run_underlying h], fun _ _ _ => by simp [Op.equalIn, run_underlying h], fun _ _ _ => by simp [Op.equalIn, run_underlying h]⟩

theorem eq_sound (hE : E.Types P) {t : TypeId} {x y : AV} {a b : Value} (hx : Rel T μ w x a) (hy : Rel T μ w y b) {r : Bool} (h : eqA E t x y = some r) :
    (Op.equal t a b).run P w = .ok r w ∧ ∀ op ox oy, (eqGuard op t ox oy a b).run P w = .ok () w := by
  unfold eqA at h
  split at h
  · cases h
  rename_i i hi
  have ok := hE.info t i hi
  have guard : (∀ xs, a ≠ .agg xs) → a ≠ .nilIface → ∀ op ox oy, (eqGuard op t ox oy a b).run P w = .ok () w := by
    intro h1 h2 op ox oy
    unfold eqGuard
    cases op <;> simp <;> (cases a <;> first | rfl | exact absurd rfl (h1 _) | exact absurd rfl h2)
  split at h
  · rename_i fs xs ys hu
    split at h
    · cases h
    · rename_i hne
      obtain ⟨hf, hg⟩ := ok.eqk (by simpa using hne)
      have hst : P.underlying t = some (.struct fs) := by rw [ok.und, hu]
      refine ⟨run_equal_flat 8 t i.eqk hf xs ys a b r h (fun _ => ⟨hx, hy⟩) (fun hno => absurd hst (hno fs)) 10000 (by omega), fun op ox oy => ?_⟩
      obtain ⟨as, rfl, _⟩ := Rel.agg_iff.1 hx
      obtain ⟨bs, rfl, _⟩ := Rel.agg_iff.1 hy
      exact run_eqGuard_agg w op t ox oy as bs hg
  all_goals try (rename_i hu; have hund := ok.und; rw [hu] at hund)
  · cases h; cases hx; cases hy
    exact ⟨run_equalIn_bool' w 9999 t _ _ hund, guard (by simp) (by simp)⟩
  · cases h; cases hx; cases hy
    exact ⟨(eqs_slice 9999 hund).1, guard (by simp) (by simp)⟩
  · cases h; cases hx; cases hy
    exact ⟨(eqs_slice 9999 hund).2.1 _ _ _, guard (by simp) (by simp)⟩
  · cases h; cases hx; cases hy
    exact ⟨(eqs_slice 9999 hund).2.2 _ _ _, guard (by simp) (by simp)⟩
  · split at h
    · cases h
    · cases h; cases hy
      cases hx with
      | imm0 => rename_i h0; exact absurd rfl h0
      | imm => exact ⟨(eqs_slice 9999 hund).2.1 _ _ _, guard (by simp) (by simp)⟩
  · split at h
    · cases h
    · cases h; cases hx
      cases hy with
      | imm0 => rename_i h0; exact absurd rfl h0
      | imm => exact ⟨(eqs_slice 9999 hund).2.2 _ _ _, guard (by simp) (by simp)⟩
  · cases h; cases hx; cases hy
    exact ⟨(eqs_ptr 9999 hund).1, guard (by simp) (by simp)⟩
  · cases h; cases hx; cases hy
    exact ⟨(eqs_ptr 9999 hund).2.1 _, guard (by simp) (by simp)⟩
  · cases h; cases hx; cases hy
    exact ⟨(eqs_ptr 9999 hund).2.2 _, guard (by simp) (by simp)⟩
  · cases h; cases hx; cases hy
    exact ⟨(eqs_func 9999 hund).1, guard (by simp) (by simp)⟩
  · cases h; cases hx; cases hy
    exact ⟨(eqs_func 9999 hund).2.1 _ _ _, guard (by simp) (by simp)⟩
  · cases h; cases hx; cases hy
    exact ⟨(eqs_func 9999 hund).2.2 _ _ _, guard (by simp) (by simp)⟩
  · cases h

end
end Go.Proofs.YteaifkpmfbgekaaGreatDoor.M
