/- A part of the proof that scrim/scrimlaw21.QueryPixels returns true at every input. -/
import GoSem.Step
section
/- The plain machine 'B': values without a world, a heap of its own, and what each operation of the model's code does on them. Plain definitions alone: no statement. -/
namespace Go.B
open Go

/-- What is known of a slice's capacity: all; that it is its block's own room, which is at least what the block holds; nothing. -/
inductive Cap where
  | exact (n : Nat)
  | opn
  | unk
  deriving Inhabited

/-- Values. 'ptr', 'sl': into a block of the heap, at a version of it; 'fptr', 'fsl': into a row that is known and is never written; 'gptr': into a variable of the package's level; 'esl': an empty slice that isn't nil; 'dead': whatever. -/
inductive Val where
  | bool (b : Bool)
  | int (k : IntKind) (n : Int)
  | str (s : List UInt8)
  | nilp
  | ptr (id gen off : Nat)
  | fptr (cells : List Val) (off : Nat)
  | gptr (g off : Nat)
  | nils
  | sl (id gen off len : Nat) (cap : Cap)
  | fsl (cells : List Val) (off len : Nat) (cap : Cap)
  | esl
  | fn (f : FuncId) (first captured : List Val)
  | mth (name : String) (recv : Val)
  | yld (l : Nat)
  | nilf
  | ifc (t : TypeId) (v : Val)
  | nili
  | agg (cells : List Val)
  | tup (vs : List Val)
  | mp (id : Nat)
  | nilm
  | dead
  deriving Inhabited

def Val.cells : Val → List Val
  | .agg cs => cs
  | v => [v]

/-- May it be one cell's? -/
def Val.isCell : Val → Bool
  | .agg _ | .tup _ | .dead => false
  | _ => true

def Val.alive : Val → Bool
  | .dead => false
  | _ => true

abbrev Env := List Val

/-- A block. 'row': its cells, its version, whether it may be longer than is known, how many cells at its head are not written any more, the cells of one element, its type, and whether it was made of a text. -/
inductive Blk where
  | row (cells : List Val) (gen : Nat) (opn : Bool) (fz : Nat) (sz : Nat) (elem : TypeId) (st : Bool)
  | map (es : List (Val × Val × Nat)) (clock : Nat)
  | iter (s : List UInt8) (pos : Nat)
  | loop (state : LoopState) (pending : Option Code) (env : Env) (params : List Tmp) (assign body : Code)
  deriving Inhabited

/-- 'dirty': which cells were changed, since that was asked last: a block, from where on, how many (none: all of the block). -/
structure Heap where
  next : Nat
  blks : List (Nat × Blk)
  dirty : List (Nat × Option (Nat × Nat))
  deriving Inhabited

def Heap.nil : Heap := { next := 0, blks := [], dirty := [] }

def look (id : Nat) : List (Nat × Blk) → Option Blk
  | [] => none
  | (k, b) :: l => bif Nat.beq k id then some b else look id l

def swap (id : Nat) (b : Blk) : List (Nat × Blk) → List (Nat × Blk)
  | [] => []
  | (k, c) :: l => bif Nat.beq k id then (k, b) :: l else (k, c) :: swap id b l

def Heap.get (h : Heap) (id : Nat) : Option Blk := look id h.blks
def Heap.put (h : Heap) (id : Nat) (b : Blk) : Heap := { next := h.next, blks := swap id b h.blks, dirty := (id, none) :: h.dirty }
def Heap.putAt (h : Heap) (id : Nat) (b : Blk) (off n : Nat) : Heap := { next := h.next, blks := swap id b h.blks, dirty := (id, some (off, n)) :: h.dirty }
def Heap.new (h : Heap) (b : Blk) : Heap := { next := h.next + 1, blks := (h.next, b) :: h.blks, dirty := h.dirty }

/-- Functions without a Go body. -/
inductive Ext where
  | indexByte
  | count
  | same
  | loadU32
  | storeU32
  | casI32
  | addI32
  | disable
  | enable
  | acquire
  | releaseMerge
  deriving Inhabited

/-- What is known of a program: functions, those without a Go body, types, variables of the package's level. -/
structure Tab where
  fn : FuncId → Option Func
  ext : FuncId → Option Ext
  info : TypeId → Option TypeInfo
  under : TypeId → Option TypeDesc
  glob : Nat → Option (List Val)
  self : TypeId → Bool
  eqOk : TypeId → Bool

/-- A value of the text's. -/
def ofList (f : Value → Option Val) : List Value → Option (List Val)
  | [] => some []
  | v :: l => match f v, ofList f l with
    | some x, some xs => some (x :: xs)
    | _, _ => none

def ofCell : Value → Option Val
  | .bool b => some (.bool b)
  | .int k n => some (.int k n)
  | .string s => some (.str s.data.toList)
  | .pointer none => some .nilp
  | .slice none n c => (match n, c with
    | 0, 0 => some .nils
    | _, _ => none)
  | .nilFunc => some .nilf
  | .nilIface => some .nili
  | .map none => some .nilm
  | .func (.func f) a b => (match a.toList, b.toList with
    | [], [] => some (.fn f [] [])
    | _, _ => none)
  | _ => none

def ofValue : Value → Option Val
  | .agg cs => (ofList ofCell cs.toList).map .agg
  | .tuple vs => (match vs.toList with
    | [] => some (.tup [])
    | _ => none)
  | v => ofCell v

section
variable (T : Tab)

def sizeOf (t : TypeId) : Option Nat := (T.info t).map (·.size)

def isAgg (t : TypeId) : Option Bool := (T.under t).map fun
  | .struct _ | .array _ _ => true
  | _ => false

/-- 'n' cells from 'off' on. -/
def cut (l : List Val) (off n : Nat) : Option (List Val) :=
  let r := (l.drop off).take n
  bif Nat.beq r.length n then some r else none

def readCells (h : Heap) (p : Val) (n : Nat) : Option (List Val) :=
  match p with
  | .ptr id gen off => match h.get id with
    | some (.row cells g _ _ _ _ _) => bif Nat.beq g gen then cut cells off n else none
    | _ => none
  | .fptr cells off => cut cells off n
  | .gptr g off => match T.glob g with
    | some cells => cut cells off n
    | none => none
  | _ => none

def overlay : List Val → Nat → List Val → List Val
  | l, _, [] => l
  | [], _, _ :: _ => []
  | _ :: l, 0, v :: vs => v :: overlay l 0 vs
  | x :: l, n + 1, vs => x :: overlay l n vs

def writeCells (h : Heap) (p : Val) (vs : List Val) : Option Heap :=
  match p with
  | .ptr id gen off => match h.get id with
    | some (.row cells g o fz sz el st) =>
      bif Nat.beq g gen && Nat.ble fz off && Nat.ble (off + vs.length) cells.length && vs.all Val.isCell then
        some (h.putAt id (.row (overlay cells off vs) g o fz sz el st) off vs.length)
      else none
    | _ => none
  | _ => none

def loadV (h : Heap) (t : TypeId) (p : Val) : Option Val :=
  match isAgg T t with
  | some true => match sizeOf T t with
    | some n => (readCells T h p n).map .agg
    | none => none
  | some false => match readCells T h p 1 with
    | some [v] => some v
    | _ => none
  | none => none

def storeV (h : Heap) (t : TypeId) (p v : Val) : Option Heap :=
  match sizeOf T t with
  | some n => bif Nat.beq v.cells.length n then writeCells h p v.cells else none
  | none => none

def zeroV (t : TypeId) : Option Val :=
  match T.info t with
  | some i => match i.zero with
    | some v => ofValue v
    | none => none
  | none => none

/-- A new row. -/
def newRow (h : Heap) (cells : List Val) (sz : Nat) (e : TypeId) : Val × Heap := (.ptr h.next 0 0, h.new (.row cells 0 false 0 sz e false))

def fieldOf (s : TypeId) (f : Nat) : Option Field :=
  match T.under s with
  | some (.struct fields) => fields[f]?
  | _ => none

def move (p : Val) (n : Nat) : Option Val :=
  match p with
  | .ptr id g off => some (.ptr id g (off + n))
  | .fptr cells off => some (.fptr cells (off + n))
  | .gptr g off => some (.gptr g (off + n))
  | _ => none

/-- Where a slice's element 0 is. -/
def base : Val → Option Val
  | .sl id g off _ _ => some (.ptr id g off)
  | .fsl cells off _ _ => some (.fptr cells off)
  | _ => none

def lenS : Val → Option Nat
  | .nils | .esl => some 0
  | .sl _ _ _ n _ => some n
  | .fsl _ _ n _ => some n
  | _ => none

def lenV : Val → Option Nat
  | .nils | .esl => some 0
  | .sl _ _ _ n _ => some n
  | .fsl _ _ n _ => some n
  | .str s => some s.length
  | _ => none

def part (t : TypeId) (cs : List Val) (off : Nat) : Option Val :=
  match isAgg T t with
  | some true => match sizeOf T t with
    | some n => (cut cs off n).map .agg
    | none => none
  | some false => cs[off]?
  | none => none

def fillV (place : Nat → Option (Nat × Nat)) : List Val → List (Nat × Val) → Option (List Val)
  | cells, [] => some cells
  | cells, (i, v) :: rest => match place i with
    | none => none
    | some (off, size) =>
      bif v.alive && Nat.beq v.cells.length size && Nat.ble (off + size) cells.length then fillV place (overlay cells off v.cells) rest else none

def placesV : List Field → Option (List (Nat × Nat))
  | [] => some []
  | f :: l => match sizeOf T f.type, placesV l with
    | some n, some ps => some ((f.offset, n) :: ps)
    | _, _ => none

def buildV (t : TypeId) (parts : List (Nat × Val)) : Option Val :=
  match zeroV T t, T.under t with
  | some z, some (.struct fields) =>
    match placesV T fields.toList with
    | some ps => (fillV (fun i => ps[i]?) z.cells parts).map .agg
    | none => none
  | some z, some (.array _ e) => match sizeOf T e with
    | some n => (fillV (fun i => some (i * n, n)) z.cells parts).map .agg
    | none => none
  | _, _ => none

def repeatCells (z : List Val) : Nat → List Val
  | 0 => []
  | n + 1 => z ++ repeatCells z n

def buildSliceV (h : Heap) (t : TypeId) (len : Nat) (parts : List (Nat × Val)) : Option (Val × Heap) :=
  match T.under t with
  | some (.slice e) => match sizeOf T e, zeroV T e with
    | some n, some z => bif Nat.ble (len * n) 16777216 && Nat.beq z.cells.length n then
        match fillV (fun i => some (i * n, n)) (repeatCells z.cells len) parts with
        | some cells => some (.sl h.next 0 0 len (.exact len), h.new (.row cells 0 false 0 n e false))
        | none => none
      else none
    | _, _ => none
  | _ => none

/-- A number within. -/
def within (v : Val) (most : Nat) : Option Nat :=
  match v with
  | .int _ (.ofNat n) => bif Nat.ble n most then some n else none
  | _ => none

def indexAddrV (t : TypeId) (x i : Val) : Option Val :=
  match T.under t, x, i with
  | some (.array len e), p, .int _ (.ofNat n) => bif Nat.blt n len then
      match sizeOf T e with
      | some z => move p (n * z)
      | none => none
    else none
  | some (.slice e), s, .int _ (.ofNat n) => match lenV s, base s, sizeOf T e with
    | some len, some p, some z => bif Nat.blt n len then move p (n * z) else none
    | _, _, _ => none
  | _, _, _ => none

def indexV (t : TypeId) (x i : Val) : Option Val :=
  match T.under t, x, i with
  | some (.array len e), .agg cs, .int _ (.ofNat n) => bif Nat.blt n len then
      match sizeOf T e with
      | some z => part T e cs (n * z)
      | none => none
    else none
  | some .string, .str s, .int _ (.ofNat n) => match s[n]? with
    | some b => some (.int .u8 b.toNat)
    | none => none
  | _, _, _ => none

def lowV (low : Option Val) (hi : Nat) : Option Nat :=
  match low with
  | some lo => within lo hi
  | none => some 0

def capMost (cap : Cap) (len : Nat) : Nat :=
  match cap with
  | .exact c => c
  | _ => len

def capCut (cap : Cap) (lo : Nat) : Cap :=
  match cap with
  | .exact c => .exact (c - lo)
  | .opn => (match lo with | 0 => .opn | _ => .unk)
  | .unk => .unk

def highV (high : Option Val) (len most : Nat) : Option Nat :=
  match high with
  | some hi => within hi most
  | none => some len

/-- Bounds of a slice expression: low, high, max; 'len' is what is known to be there at least. -/
def bounds (len : Nat) (cap : Cap) (low high max : Option Val) : Option (Nat × Nat × Cap) :=
  match max with
  | some m => (within m (capMost cap len)).bind fun m => high.bind fun hi => (within hi m).bind fun hi => (lowV low hi).map fun lo => (lo, hi, .exact (m - lo))
  | none => (highV high len (capMost cap len)).bind fun hi => (lowV low hi).map fun lo => (lo, hi, capCut cap lo)

/-- A slice that begins at 'p', behind bounds: 'mk' lays it; an address does not move where no room is left. -/
def cutV (mk : Nat → Nat → Cap → Val) (off z : Nat) : Nat × Nat × Cap → Val
  | (lo, hi, .exact 0) => mk off (hi - lo) (.exact 0)
  | (lo, hi, .exact (c + 1)) => mk (off + lo * z) (hi - lo) (.exact (c + 1))
  | (0, hi, c) => mk off hi c
  | (lo + 1, hi, c) => bif Nat.ble hi (lo + 1) then .esl else mk (off + (lo + 1) * z) (hi - (lo + 1)) c

def sliceV (t : TypeId) (x : Val) (low high max : Option Val) : Option Val :=
  match T.under t, x with
  | some .string, .str s => match max with
    | none => (bounds s.length (.exact s.length) low high none).map fun r => .str ((s.drop r.1).take (r.2.1 - r.1))
    | some _ => none
  | some (.slice e), .nils => (sizeOf T e).bind fun _ => (bounds 0 (.exact 0) low high max).map fun _ => .nils
  | some (.slice e), .sl id g off len cap => (sizeOf T e).bind fun z => (bounds len cap low high max).map (cutV (.sl id g) off z)
  | some (.slice e), .fsl cells off len cap => (sizeOf T e).bind fun z => (bounds len cap low high max).map (cutV (.fsl cells) off z)
  | some (.array n e), .ptr id g off => (sizeOf T e).bind fun z => (bounds n (.exact n) low high max).map (cutV (.sl id g) off z)
  | some (.array n e), .fptr cells off => (sizeOf T e).bind fun z => (bounds n (.exact n) low high max).map (cutV (.fsl cells) off z)
  | _, _ => none

/-- The first 'n' elements' cells. -/
def elemsV (h : Heap) (z n : Nat) (x : Val) : Option (List Val) :=
  match n with
  | 0 => some []
  | _ => match x with
    | .str s => bif Nat.beq z 1 && Nat.ble n s.length then some ((s.take n).map fun b => .int .u8 b.toNat) else none
    | _ => match base x with
      | some p => readCells T h p (n * z)
      | none => none

def bytesOf (t : TypeId) : Option Nat := (T.info t).map (·.bytes)

/-- Is there room for as many bytes, by far? -/
def room (n bytes : Nat) : Bool := Nat.ble (n * bytes) 68719476736

/-- What is appended: how many elements, and their cells. -/
def argV (h : Heap) (e z bytes : Nat) (xt : Option TypeId) (x : Val) : Option (Nat × List Val) :=
  match xt.map T.under with
  | some none => none
  | some (some (.int _)) => match x with
    | .int .i64 (.ofNat n) => (zeroV T e).bind fun zero => bif room n bytes && Nat.ble n 68719476736 && Nat.beq zero.cells.length z then some (n, repeatCells zero.cells n) else none
    | _ => none
  | _ => (lenV x).bind fun n => (elemsV T h z n x).map fun cs => (n, cs)

/-- A row of its own. -/
def freshV (h : Heap) (e z bytes len : Nat) (s : Val) (n : Nat) (new : List Val) : Option (Val × Heap) :=
  (zeroV T e).bind fun zero => bif room (len + n) bytes && Nat.ble (len + n) 68719476736 && Nat.beq zero.cells.length z then
    (elemsV T h z len s).map fun old => (.sl h.next 0 0 (len + n) .opn, h.new (.row (old ++ new) 0 true 0 z e false))
  else none

/-- A row that may grow where it is, or elsewhere. -/
def growV (h : Heap) (e z bytes len id g n : Nat) (new : List Val) : Option (Val × Heap) :=
  match h.get id with
  | some (.row cells g' true fz z' e' st) => (zeroV T e).bind fun zero =>
    bif Nat.beq g g' && Nat.beq z z' && Nat.beq e e' && Nat.ble fz (len * z) && room (len + n) bytes && Nat.ble (len + n) 68719476736 && Nat.beq zero.cells.length z && new.all Val.isCell then
      (cut cells 0 (len * z)).map fun old => (.sl id (g + 1) 0 (len + n) .opn, h.put id (.row (old ++ new) (g + 1) true fz z e st))
    else none
  | _ => none

def appendV (h : Heap) (argTypes : Array TypeId) (s x : Val) : Option (Val × Heap) :=
  match (argTypes[0]?).bind T.under with
  | some (.slice e) => (sizeOf T e).bind fun z => (bytesOf T e).bind fun bytes => (lenS s).bind fun len => (argV T h e z bytes argTypes[1]? x).bind fun r =>
    match r with
    | (0, _) => some (s, h)
    | (n + 1, new) => match s with
      | .nils => freshV T h e z bytes len s (n + 1) new
      | .sl id g off _ (.exact c) => bif Nat.ble (len + (n + 1)) c then
          (writeCells h (.ptr id g (off + len * z)) new).map fun h => (.sl id g off (len + (n + 1)) (.exact c), h)
        else freshV T h e z bytes len s (n + 1) new
      | .sl id g 0 _ .opn => growV T h e z bytes len id g (n + 1) new
      | .fsl _ _ _ (.exact c) => bif Nat.ble (len + (n + 1)) c then none else freshV T h e z bytes len s (n + 1) new
      | _ => none
  | _ => none

def copyV (h : Heap) (argTypes : Array TypeId) (d s : Val) : Option (Val × Heap) :=
  (argTypes[0]?).bind fun dt => match T.under dt with
    | some (.slice e) => (sizeOf T e).bind fun z => (lenS d).bind fun dn => (lenV s).bind fun sn =>
      match Nat.min sn dn with
      | 0 => some (.int .i64 0, h)
      | n => (elemsV T h z n s).bind fun cs => (base d).bind fun p => (writeCells h p cs).map fun h => (.int .i64 n, h)
    | _ => none

def makeSliceV (h : Heap) (t : TypeId) (l c : Val) : Option (Val × Heap) :=
  match T.under t, l, c with
  | some (.slice e), .int _ (.ofNat l), .int _ (.ofNat c) => (sizeOf T e).bind fun z => (bytesOf T e).bind fun bytes => (zeroV T e).bind fun zero =>
    bif Nat.ble l c && Nat.ble c 68719476736 && room c bytes && Nat.beq zero.cells.length z then
      some (.sl h.next 0 0 l (.exact c), h.new (.row (repeatCells zero.cells c) 0 false 0 z e false))
    else none
  | _, _, _ => none

def bytesLt : List UInt8 → List UInt8 → Bool
  | _, [] => false
  | [], _ :: _ => true
  | a :: x, b :: y => a < b || (a == b && bytesLt x y)

def strOp (op : BinOp) (x y : List UInt8) : Option Val :=
  match op with
  | .add => bif Nat.ble (x.length + y.length) 1099511627776 then some (.str (x ++ y)) else none
  | .eql => some (.bool (x == y))
  | .neq => some (.bool (!(x == y)))
  | .lss => some (.bool (bytesLt x y))
  | .leq => some (.bool (bytesLt x y || x == y))
  | .gtr => some (.bool (!(bytesLt x y || x == y)))
  | .geq => some (.bool (!bytesLt x y))
  | _ => none

def intOp (op : BinOp) (k : IntKind) (a b : Int) : Option Val :=
  match op with
  | .add => some (.int k (k.wrap (a + b)))
  | .sub => some (.int k (k.wrap (a - b)))
  | .mul => some (.int k (k.wrap (a * b)))
  | .quo => if b = 0 then none else some (.int k (k.wrap (a.tdiv b)))
  | .rem => if b = 0 then none else some (.int k (a.tmod b))
  | .and => some (.int k (k.wrap (BitVec.ofInt k.bits a &&& BitVec.ofInt k.bits b).toNat))
  | .or => some (.int k (k.wrap (BitVec.ofInt k.bits a ||| BitVec.ofInt k.bits b).toNat))
  | .xor => some (.int k (k.wrap (BitVec.ofInt k.bits a ^^^ BitVec.ofInt k.bits b).toNat))
  | .andNot => some (.int k (k.wrap (BitVec.ofInt k.bits a &&& ~~~(BitVec.ofInt k.bits b)).toNat))
  | .eql => some (.bool (a == b))
  | .neq => some (.bool (a != b))
  | .lss => some (.bool (a < b))
  | .leq => some (.bool (a ≤ b))
  | .gtr => some (.bool (a > b))
  | .geq => some (.bool (a ≥ b))
  | _ => none

def shiftOp (op : BinOp) (k : IntKind) (a b : Int) : Option Val :=
  match op with
  | .shl => if b < 0 then none else some (.int k (k.wrap (a * 2 ^ (min b.toNat k.bits))))
  | .shr => if b < 0 then none else some (.int k (a.fdiv (2 ^ (min b.toNat k.bits))))
  | _ => none

def eqFieldsV (eq : TypeId → Val → Val → Option Bool) (xs ys : List Val) : List Field → Option Bool
  | [] => some true
  | f :: fs => if f.name = "_" then eqFieldsV eq xs ys fs else
    (part T f.type xs f.offset).bind fun a => (part T f.type ys f.offset).bind fun b => (eq f.type a b).bind fun r => if r then eqFieldsV eq xs ys fs else some false

def eqItemsV (eq : Val → Val → Option Bool) (e n : Nat) (xs ys : List Val) : List Nat → Option Bool
  | [] => some true
  | i :: is => (part T e xs (i * n)).bind fun a => (part T e ys (i * n)).bind fun b => (eq a b).bind fun r => if r then eqItemsV eq e n xs ys is else some false

/-- Is it there, or nil? By kinds. -/
def someP : Val → Option Bool
  | .nilp => some false
  | .ptr _ _ _ | .fptr _ _ | .gptr _ _ => some true
  | _ => none

def someS : Val → Option Bool
  | .nils => some false
  | .sl _ _ _ _ _ | .fsl _ _ _ _ | .esl => some true
  | _ => none

def someM : Val → Option Bool
  | .nilm => some false
  | .mp _ => some true
  | _ => none

def someF : Val → Option Bool
  | .nilf => some false
  | .fn _ _ _ | .mth _ _ | .yld _ => some true
  | _ => none

/-- Two of which one is nil. -/
def nilEqV (x y : Option Bool) : Option Bool :=
  match x, y with
  | some false, some b => some !b
  | some true, some false => some false
  | _, _ => none

/-- Are two values of a type equal? 'c': is one of them a literal? -/
def eqV (c : Bool) : Nat → TypeId → Val → Val → Option Bool
  | 0, _, _, _ => none
  | d + 1, t, x, y =>
    match T.under t, x, y with
    | some .bool, .bool a, .bool b => some (a == b)
    | some (.int _), .int k a, .int k' b => if k = k' then some (a == b) else none
    | some .string, .str a, .str b => some (a == b)
    | some (.pointer _), x, y => nilEqV (someP x) (someP y)
    | some (.interface ms), .nili, .nili => bif c || ms.isEmpty then some true else none
    | some (.interface _), .nili, .ifc _ _ => some false
    | some (.interface _), .ifc _ _, .nili => some false
    | some (.interface _), .ifc tx vx, .ifc ty vy => if tx = ty then (T.info tx).bind fun i => bif i.comparable then eqV false d tx vx vy else none else some false
    | some (.struct fields), .agg xs, .agg ys => bif T.eqOk t then eqFieldsV T (eqV false d) xs ys fields.toList else none
    | some (.array len e), .agg xs, .agg ys => bif T.eqOk t then (sizeOf T e).bind fun n => eqItemsV T (eqV false d e) e n xs ys (List.range len) else none
    | some (.slice _), x, y => nilEqV (someS x) (someS y)
    | some (.map _ _), x, y => nilEqV (someM x) (someM y)
    | some (.func _ _ _), x, y => nilEqV (someF x) (someF y)
    | _, _, _ => none

def isConst : Operand → Bool
  | .const _ => true
  | _ => false

def binV (op : BinOp) (t : TypeId) (x y : Val) (c : Bool) : Option Val :=
  match x, y with
  | .int k a, .int k' b => match op with
    | .shl => shiftOp op k a b
    | .shr => shiftOp op k a b
    | _ => if k = k' then intOp op k a b else none
  | .str a, .str b => strOp op a b
  | x, y => match op with
    | .eql => (eqV T c 100 t x y).map .bool
    | .neq => (eqV T c 100 t x y).map fun b => .bool !b
    | _ => none

def unV (op : UnOp) (x : Val) : Option Val :=
  match op, x with
  | .neg, .int k n => some (.int k (k.wrap (0 - n)))
  | .not, .bool b => some (.bool !b)
  | .xor, .int k n => some (.int k (k.wrap (BitVec.ofInt k.bits (if k.signed then -1 else k.max) ^^^ BitVec.ofInt k.bits n).toNat))
  | _, _ => none

/-- Bytes as a text. -/
def asBytes : List Val → Option (List UInt8)
  | [] => some []
  | .int .u8 n :: l => (asBytes l).map (UInt8.ofNat n.toNat :: ·)
  | _ => none

def convV (h : Heap) (src dst : TypeId) (x : Val) : Option (Val × Heap) :=
  match T.under src, T.under dst, x with
  | some (.int _), some (.int k), .int _ n => some (.int k (k.wrap n), h)
  | some .string, some .string, .str s => some (.str s, h)
  | some (.pointer e), some .unsafePointer, .ptr i g o => match h.get i, sizeOf T e with
    | some (.row cells g' _ _ _ _ _), some (_ + 1) => bif Nat.beq g g' && Nat.blt o cells.length then some (.ptr i g o, h) else none
    | _, _ => none
  | some .unsafePointer, some (.pointer u), .ptr i g 0 => match h.get i, sizeOf T u with
    | some (.row cells g' false _ _ e _), some (n + 1) => bif Nat.beq g g' && Nat.beq e u && Nat.beq cells.length (n + 1) && T.self u then some (.ptr i g 0, h) else none
    | _, _ => none
  | some .string, some (.slice e), .str s => match T.under e with
    | some (.int .u8) => bif Nat.ble s.length 68719476736 then some (.sl h.next 0 0 s.length .opn, h.new (.row (s.map fun b => .int .u8 b.toNat) 0 true 0 1 e true)) else none
    | _ => none
  | some (.slice e), some .string, x => match T.under e with
    | some (.int .u8) => (lenS x).bind fun n => (elemsV T h 1 n x).bind fun cs => (asBytes cs).map fun s => (.str s, h)
    | _ => none
  | _, _, _ => none

def sameKey : Val → Val → Option Bool
  | .int a x, .int b y => if a = b then some (x == y) else none
  | .str x, .str y => some (x == y)
  | _, _ => none

/-- The place of a key. -/
def keyAt (k : Val) : List (Val × Val × Nat) → Nat → Option (Option (Nat × Val))
  | [], _ => some none
  | e :: l, i => match sameKey k e.1 with
    | some true => some (some (i, e.2.1))
    | some false => keyAt k l (i + 1)
    | none => none

def plainKey (t : TypeId) (k : Val) : Bool :=
  match T.under t, k with
  | some (.int _), .int _ _ => true
  | some .string, .str _ => true
  | _, _ => false

def entriesV (h : Heap) : Val → Option (List (Val × Val × Nat))
  | .nilm => some []
  | .mp id => match h.get id with
    | some (.map es _) => some es
    | _ => none
  | _ => none

def lookupV (h : Heap) (t : TypeId) (m k : Val) (ok : Bool) : Option Val :=
  match T.under t with
  | some (.map kt et) => bif plainKey T kt k then
      (entriesV h m).bind fun es => (keyAt k es 0).bind fun r => match r with
        | some (_, v) => some (if ok then .tup [v, .bool true] else v)
        | none => (zeroV T et).map fun z => if ok then .tup [z, .bool false] else z
    else none
  | _ => none

def setVal : List (Val × Val × Nat) → Nat → Val → List (Val × Val × Nat)
  | [], _, _ => []
  | (k, _, b) :: l, 0, v => (k, v, b) :: l
  | e :: l, n + 1, v => e :: setVal l n v

def updateV (h : Heap) (t : TypeId) (m k v : Val) : Option Heap :=
  match T.under t, m with
  | some (.map kt _), .mp id => bif plainKey T kt k then
      match h.get id with
      | some (.map es clock) => (keyAt k es 0).map fun r => match r with
        | some (i, _) => h.put id (.map (setVal es i v) clock)
        | none => h.put id (.map (es ++ [(k, v, clock)]) (clock + 1))
      | _ => none
    else none
  | _, _ => none

def assertV (x : Val) (t : TypeId) (ok : Bool) : Option Val :=
  match T.under t, x with
  | some (.interface want), .ifc d _ => match T.info d with
    | some i => match Instr.missingMethod want i.methods with
      | none => some (if ok then .tup [x, .bool true] else x)
      | some _ => if ok then (zeroV T t).map fun z => .tup [z, .bool false] else none
    | none => none
  | some (.interface _), _ => none
  | some _, .ifc d v => if d = t then some (if ok then .tup [v, .bool true] else v) else if ok then (zeroV T t).map fun z => .tup [z, .bool false] else none
  | some _, .nili => if ok then (zeroV T t).map fun z => .tup [z, .bool false] else none
  | _, _ => none

def minV : Val → Val → Option Val
  | .int k x, .int _ y => some (.int k (if y < x then y else x))
  | _, _ => none

def maxV : Val → Val → Option Val
  | .int k x, .int _ y => some (.int k (if x < y then y else x))
  | _, _ => none

def foldV (f : Val → Val → Option Val) : Val → List Val → Option Val
  | x, [] => some x
  | x, y :: l => match f x y with
    | some z => foldV f z l
    | none => none

def lengthV (h : Heap) (argTypes : Array TypeId) (x : Val) : Option Nat :=
  match (argTypes[0]?).bind T.under, x with
  | some (.array n _), _ => some n
  | some (.slice _), .str _ => none
  | some (.slice _), x => lenV x
  | some .string, .str s => some s.length
  | some (.map _ _), m => (entriesV h m).map (·.length)
  | some (.pointer a), _ => match T.under a with
    | some (.array n _) => some n
    | _ => none
  | _, _ => none

def capacityV (argTypes : Array TypeId) (x : Val) : Option Nat :=
  match (argTypes[0]?).bind T.under, x with
  | some (.slice _), .nils => some 0
  | some (.slice _), .sl _ _ _ _ (.exact c) => some c
  | some (.slice _), .fsl _ _ _ (.exact c) => some c
  | _, _ => none

def unsafeStringV (h : Heap) (argTypes : Array TypeId) (p : Val) (n : Nat) : Option (Val × Heap) :=
  match argTypes.toList with
  | [pt, _] => match n, p with
    | 0, .nilp => some (.str [], h)
    | 0, .ptr _ _ _ => some (.str [], h)
    | n + 1, .ptr id g 0 => match h.get id with
      | some (.row cells g' o fz sz e false) => match T.under pt, sizeOf T e, cut cells 0 (n + 1) with
        | some (.pointer e'), some 1, some cs => bif Nat.beq g g' && Nat.beq e e' && Nat.ble (n + 1) 1099511627776 then
            (asBytes cs).map fun s => (.str s, h.put id (.row cells g o (max fz (n + 1)) sz e false))
          else none
        | _, _, _ => none
      | _ => none
    | _, _ => none
  | _ => none

/-- The function behind a method of an interface value, and its receiver: a method that stands in the type's own list, of no field. -/
def methodV (h : Heap) (t : TypeId) (v : Val) (name : String) : Option (FuncId × Val) :=
  match T.info t, T.under t with
  | some i, some d => match i.methods.find? (·.name == name) with
    | some m => match m.path.toList, m.func with
      | [], some (f, true) => (match d with
        | .pointer _ => some (f, v)
        | _ => none)
      | [], some (f, false) => (match d with
        | .pointer e => (loadV T h e v).map fun r => (f, r)
        | _ => some (f, v))
      | _, _ => none
    | none => none
  | _, _ => none
/-- A method that stands in the type's own list, of no field, whose receiver is a pointer. -/
def ownMethod (t : TypeId) (name : String) : Bool :=
  match T.info t with
  | some i => match i.methods.find? (·.name == name) with
    | some m => match m.path.toList, m.func with
      | [], some (_, true) => true
      | _, _ => false
    | none => false
  | none => false
end
end Go.B
end
section
/- The plain machine 'B': how it runs the model's code: regions, loops, calls, rounds of a range over a function. Plain definitions alone: no statement. -/
namespace Go.B
open Go

inductive Ex where
  | norm
  | exit (id : Nat)
  | ret
  deriving Inhabited

/-- 'ds': what is deferred; none: a mark of a range over a function. 'rd': the loop whose round this is. -/
structure St where
  env : Env
  h : Heap
  ds : List (Option (FuncId × List Val))
  rd : Option Nat
  deriving Inhabited

/-- What a call is told to do. -/
inductive Tgt where
  | fn (f : FuncId)
  | yld (l : Nat)

/-- How calls are met: a summary of a function, by its answer; which functions are run on a heap of their own; how many rounds a loop has at most. -/
structure Conf where
  tab : Tab
  sum : FuncId → List Val → Option Val
  alone : FuncId → Bool
  rounds : Nat

def evalO (env : Env) : Operand → Option Val
  | .tmp t => some ((env[t]?).getD .dead)
  | .const v => ofValue v
  | .global g => some (.gptr g 0)
  | .func f => some (.fn f [] [])

def evalL (env : Env) : List Operand → Option (List Val)
  | [] => some []
  | o :: l => match evalO env o, evalL env l with
    | some v, some vs => some (v :: vs)
    | _, _ => none

def evalP (env : Env) : List (Nat × Operand) → Option (List (Nat × Val))
  | [] => some []
  | (i, o) :: l => match evalO env o, evalP env l with
    | some v, some vs => some ((i, v) :: vs)
    | _, _ => none

def evalM (env : Env) : Option Operand → Option (Option Val)
  | none => some none
  | some o => (evalO env o).map some

def putV (env : Env) (d : Option Tmp) (v : Val) : Env :=
  match d with
  | some d => env.set d v
  | none => env

/-- No address in it. -/
def plainV : Nat → Val → Bool
  | 0, _ => false
  | n + 1, v => match v with
    | .bool _ | .int _ _ | .str _ | .nilp | .nils | .nilf | .nili | .nilm => true
    | .agg cs => cs.all (plainV n)
    | .tup cs => cs.all (plainV n)
    | .ifc _ v => plainV n v
    | .fn _ fs cs => fs.all (plainV n) && cs.all (plainV n)
    | _ => false

/-- No block's address in it. -/
def idFree : Nat → Val → Bool
  | 0, _ => false
  | n + 1, v => match v with
    | .bool _ | .int _ _ | .str _ | .nilp | .nils | .nilf | .nili | .nilm | .fptr _ _ | .fsl _ _ _ _ | .gptr _ _ | .esl => true
    | .agg cs => cs.all (idFree n)
    | .tup cs => cs.all (idFree n)
    | .ifc _ v => idFree n v
    | .fn _ fs cs => fs.all (idFree n) && cs.all (idFree n)
    | _ => false

def frzL (f : Val → Option Val) : List Val → Option (List Val)
  | [] => some []
  | v :: l => match f v, frzL f l with
    | some x, some xs => some (x :: xs)
    | _, _ => none

/-- A value with what it leads to, as it is now. -/
def frz (h : Heap) : Nat → Val → Option Val
  | 0, _ => none
  | n + 1, v => match v with
    | .bool _ | .int _ _ | .str _ | .nilp | .nils | .nilf | .nili | .nilm | .fptr _ _ | .fsl _ _ _ _ | .gptr _ _ | .esl => some v
    | .agg cs => (frzL (frz h n) cs).map .agg
    | .tup cs => (frzL (frz h n) cs).map .tup
    | .ifc t v => (frz h n v).map (.ifc t)
    | .fn f fs cs => match frzL (frz h n) fs, frzL (frz h n) cs with
      | some fs, some cs => some (.fn f fs cs)
      | _, _ => none
    | .sl id g off len cap => match h.get id with
      | some (.row cells g' _ _ _ _ _) => bif Nat.beq g g' then (frzL (frz h n) cells).map fun cs => .fsl cs off len (match cap with | .exact c => .exact c | _ => .unk) else none
      | _ => none
    | .ptr id g off => match h.get id with
      | some (.row cells g' _ _ _ _ _) => bif Nat.beq g g' then (frzL (frz h n) cells).map fun cs => .fptr cs off else none
      | _ => none
    | _ => none

/-- Where a byte is first. -/
def findB (c : UInt8) : List UInt8 → Nat → Int
  | [], _ => -1
  | b :: l, i => bif b == c then (i : Int) else findB c l (i + 1)

def countB (c : UInt8) : List UInt8 → Nat → Nat
  | [], n => n
  | b :: l, n => bif b == c then countB c l (n + 1) else countB c l n

/-- Functions without a Go body. -/
def externV (T : Tab) (h : Heap) (e : Ext) (args : List Val) : Option (Val × Heap) :=
  match e, args with
  | .indexByte, [.str s, .int .u8 c] => some (.int .i64 (findB c.toNat.toUInt8 s 0), h)
  | .count, [.str s, .int .u8 c] => some (.int .i64 (countB c.toNat.toUInt8 s 0), h)
  | .same, [x] => some (x, h)
  | .loadU32, [p] => match readCells T h p 1 with
    | some [.int .u32 n] => some (.int .u32 n, h)
    | _ => none
  | .storeU32, [p, .int .u32 n] => match readCells T h p 1 with
    | some [_] => (writeCells h p [.int .u32 n]).map fun h => (.tup [], h)
    | _ => none
  | .casI32, [p, .int .i32 a, .int .i32 b] => match readCells T h p 1 with
    | some [.int .i32 n] => (writeCells h p [.int .i32 (bif n == a then b else n)]).map fun h' => (.bool (n == a), bif n == a then h' else h)
    | _ => none
  | .addI32, [p, .int .i32 a] => match readCells T h p 1 with
    | some [.int .i32 n] => (writeCells h p [.int .i32 (IntKind.i32.wrap (n + a))]).map fun h => (.int .i32 (IntKind.i32.wrap (n + a)), h)
    | _ => none
  | .disable, _ => some (.tup [], h)
  | .enable, _ => some (.tup [], h)
  | .acquire, [.ptr _ _ _] => some (.tup [], h)
  | .releaseMerge, [.ptr _ _ _] => some (.tup [], h)
  | _, _ => none

section
variable (C : Conf)

/-- An operation that calls nothing. -/
def stepV (env : Env) (h : Heap) (op : Op) : Option (Val × Heap) :=
  let T := C.tab
  let pure_ (v : Option Val) : Option (Val × Heap) := match v with | some v => some (v, h) | none => none
  match op with
  | .move x | .assign x => pure_ (evalO env x)
  | .pick c a b => match evalO env c with
    | some (.bool c) => pure_ (if c then evalO env a else evalO env b)
    | _ => none
  | .alloc e => match zeroV T e, sizeOf T e with
    | some z, some n => bif Nat.beq z.cells.length n then some (newRow h z.cells n e) else none
    | _, _ => none
  | .box e x => match evalO env x, sizeOf T e with
    | some v, some n => bif Nat.beq v.cells.length n && v.cells.all Val.isCell then some (newRow h v.cells n e) else none
    | _, _ => none
  | .build t ps => match evalP env ps.toList with
    | some ps => pure_ (buildV T t ps)
    | none => none
  | .buildSlice t n ps => match evalP env ps.toList with
    | some ps => buildSliceV T h t n ps
    | none => none
  | .load t a => match evalO env a with
    | some p => pure_ (loadV T h t p)
    | none => none
  | .store t a x => match evalO env a, evalO env x with
    | some p, some v => match storeV T h t p v with
      | some h => some (.tup [], h)
      | none => none
    | _, _ => none
  | .nilCheck x => match evalO env x with
    | some (.ptr i g o) => some (.ptr i g o, h)
    | some (.fptr cs o) => some (.fptr cs o, h)
    | some (.gptr g o) => some (.gptr g o, h)
    | some (.fn f fs cs) => some (.fn f fs cs, h)
    | some (.ifc t v) => some (.ifc t v, h)
    | some (.mth n (.ifc t v)) => bif ownMethod T t n then some (.mth n (.ifc t v), h) else none
    | _ => none
  | .binOp op t x y _ => match evalO env x, evalO env y with
    | some x', some y' => pure_ (binV T op t x' y' (isConst x || isConst y))
    | _, _ => none
  | .unOp op _ x => match evalO env x with
    | some x => pure_ (unV op x)
    | none => none
  | .convert s d x => match evalO env x with
    | some x => convV T h s d x
    | none => none
  | .makeInterface t x => match evalO env x with
    | some v => match T.under t with
      | some (.interface _) => none
      | some _ => some (.ifc t v, h)
      | none => none
    | none => none
  | .makeFunc f first captured => match f, evalL env first.toList, evalL env captured.toList with
    | .func f, some fs, some cs => some (.fn f fs cs, h)
    | .method n, some [r], some [] => some (.mth n r, h)
    | _, _, _ => none
  | .makeMap _ none => some (.mp h.next, h.new (.map [] 0))
  | .makeSlice t l c => match evalO env l, evalO env c with
    | some l, some c => makeSliceV T h t l c
    | _, _ => none
  | .slice t x lo hi mx => match evalO env x, evalM env lo, evalM env hi, evalM env mx with
    | some x, some lo, some hi, some mx => pure_ (sliceV T t x lo hi mx)
    | _, _, _, _ => none
  | .fieldAddr s x f => match fieldOf T s f, evalO env x with
    | some fl, some p => match sizeOf T fl.type with
      | some (_ + 1) => pure_ (B.move p fl.offset)
      | _ => none
    | _, _ => none
  | .field t x f => match fieldOf T t f, evalO env x with
    | some fl, some (.agg cs) => pure_ (part T fl.type cs fl.offset)
    | _, _ => none
  | .indexAddr t x i => match evalO env x, evalO env i with
    | some x, some i => pure_ (indexAddrV T t x i)
    | _, _ => none
  | .index t x i => match evalO env x, evalO env i with
    | some x, some i => pure_ (indexV T t x i)
    | _, _ => none
  | .lookup t x i ok => match evalO env x, evalO env i with
    | some x, some i => pure_ (lookupV T h t x i ok)
    | _, _ => none
  | .mapUpdate t m k x => match evalO env m, evalO env k, evalO env x with
    | some m, some k, some v => match updateV T h t m k v with
      | some h => some (.tup [], h)
      | none => none
    | _, _, _ => none
  | .insert t m k x => match evalO env m, evalO env k, evalO env x with
    | some m, some k, some v => match updateV T h t m k v with
      | some h => some (.tup [], h)
      | none => none
    | _, _, _ => none
  | .typeAssert x _ t ok => match evalO env x with
    | some x => pure_ (assertV T x t ok)
    | none => none
  | .range t x => match T.under t, evalO env x with
    | some .string, some (.str s) => some (.ptr h.next 0 0, h.new (.iter s 0))
    | _, _ => none
  | .next i true => match evalO env i with
    | some (.ptr id 0 0) => match h.get id with
      | some (.iter s pos) => match s[pos]? with
        | some b => bif Nat.blt b.toNat 128 then some (.tup [.bool true, .int .i64 pos, .int .i32 b.toNat], h.put id (.iter s (pos + 1))) else none
        | none => some (.tup [.bool false], h)
      | _ => none
    | _ => none
  | .extract t i => match evalO env t with
    | some (.tup vs) => pure_ (vs[i]?)
    | _ => none
  | _ => none

def builtinV (h : Heap) (b : Builtin) (argTypes : Array TypeId) (args : List Val) : Option (Val × Heap) :=
  let T := C.tab
  match b, args with
  | .append, [s, x] => appendV T h argTypes s x
  | .len, [x] => (lengthV T h argTypes x).map fun (n : Nat) => (.int .i64 n, h)
  | .cap, [x] => (capacityV T argTypes x).map fun (n : Nat) => (.int .i64 n, h)
  | .copy, [d, s] => copyV T h argTypes d s
  | .unsafeSliceData, [x] => match x with
    | .nils => some (.nilp, h)
    | .sl id g off (_ + 1) _ => some (.ptr id g off, h)
    | _ => none
  | .unsafeString, [p, .int _ (.ofNat n)] => unsafeStringV T h argTypes p n
  | .min, x :: l => (foldV minV x l).map fun v => (v, h)
  | .max, x :: l => (foldV maxV x l).map fun v => (v, h)
  | _, _ => none

/-- Who is called, and by what. -/
def target (h : Heap) (env : Env) (c : Call) : Option (Tgt × List Val) :=
  match evalL env c.args.toList with
  | none => none
  | some args => match c.callee with
    | .value f => match evalO env f with
      | some (.fn g fs cs) => some (.fn g, fs ++ (args ++ cs))
      | some (.yld l) => some (.yld l, args)
      | some (.mth n (.ifc t v)) => match methodV C.tab h t v n with
        | some (g, r) => some (.fn g, r :: args)
        | none => none
      | _ => none
    | .invoke r n => match evalO env r with
      | some (.ifc t v) => match methodV C.tab h t v n with
        | some (g, r) => some (.fn g, r :: args)
        | none => none
      | _ => none
    | .builtin _ => none

/-- Is an operation wanted? none: that isn't known. -/
def wantedV (ops : Array Oper) (env : Env) (o : Oper) : Option Bool :=
  match o.guard with
  | none => some true
  | some (j, want) => match (ops[j]?).bind (·.dst) with
    | some d => match (env[d]?).getD .dead with
      | .bool b => some (b == want)
      | .dead => none
      | _ => some false
    | none => some false

abbrev CallF := Tgt → List Val → Heap → Option (Val × Heap)

/-- What is called when the function leaves. -/
def deferred (env : Env) (c : Call) : Option (FuncId × List Val) :=
  match c.callee, evalL env c.args.toList with
  | .value f, some args => match evalO env f with
    | some (.fn g fs cs) => some (g, fs ++ (args ++ cs))
    | _ => none
  | _, _ => none

def hasBody (f : FuncId) : Bool :=
  match C.tab.fn f with
  | some fn => fn.body.isSome
  | none => false

/-- One operation. -/
def operV (call : CallF) (s : St) (o : Oper) : Option (Val × Heap × List (Option (FuncId × List Val))) :=
  match o.op with
  | .call c => match c.callee with
    | .builtin b => match evalL s.env c.args.toList with
      | some args => match builtinV C s.h b c.argTypes args with
        | some (v, h) => some (v, h, s.ds)
        | none => none
      | none => none
    | _ => match target C s.h s.env c with
      | some (t, args) => match call t args s.h with
        | some (v, h) => some (v, h, s.ds)
        | none => none
      | none => none
  | .defer c => match s.rd, deferred s.env c with
    | none, some (f, args) => bif hasBody C f then some (.tup [], s.h, some (f, args) :: s.ds) else none
    | _, _ => none
  | op => match stepV C s.env s.h op with
    | some (v, h) => some (v, h, s.ds)
    | none => none

def opsV (call : CallF) (ops : Array Oper) : List Oper → St → Option St
  | [], s => some s
  | o :: l, s => match wantedV ops s.env o with
    | some true => match operV C call s o with
      | some (v, h, ds) => opsV call ops l { env := putV s.env o.dst v, h, ds, rd := s.rd }
      | none => none
    | some false => opsV call ops l { s with env := putV s.env o.dst (.tup []) }
    | none => none

/-- What an operation has to do with the heap: nothing, or new blocks alone; a block that it reads; more. -/
inductive Touch where
  | no
  | load (id off n : Nat)
  | more

def touchOf (T : Tab) (env : Env) (o : Oper) : Touch :=
  match o.op with
  | .move _ | .assign _ | .pick .. | .alloc _ | .box .. | .build .. | .buildSlice .. | .nilCheck _ | .binOp .. | .unOp .. | .makeInterface .. | .makeFunc .. | .makeMap .. | .makeSlice .. | .slice .. | .fieldAddr .. | .field .. | .indexAddr .. | .index .. | .typeAssert .. | .extract .. => .no
  | .load t a => match evalO env a with
    | some (.ptr id _ off) => (match sizeOf T t, isAgg T t with
      | some n, some true => .load id off n
      | some _, some false => .load id off 1
      | _, _ => .more)
    | some (.fptr _ _) => .no
    | some (.gptr _ _) => .no
    | _ => .more
  | .call c => match c.callee with
    | .builtin .min | .builtin .max | .builtin .cap => .no
    | .builtin .len => match c.args.toList with
      | [a] => (match evalO env a with
        | some (.mp _) => .more
        | _ => .no)
      | _ => .more
    | _ => .more
  | _ => .more

/-- What one operation of a region did: its place, its touch, which blocks that stood ahead of it it changed. -/
structure Did where
  at_ : Nat
  touch : Touch
  dirty : List (Nat × Option (Nat × Nat))

def opsT (call : CallF) (ops : Array Oper) : List Oper → Nat → St → Option (St × List Did)
  | [], _, s => some (s, [])
  | o :: l, i, s => match wantedV ops s.env o with
    | some true => match operV C call { s with h := { s.h with dirty := [] } } o with
      | some (v, h, ds) => match opsT call ops l (i + 1) { env := putV s.env o.dst v, h := { h with dirty := h.dirty ++ s.h.dirty }, ds, rd := s.rd } with
        | some (s', l') => some (s', { at_ := i, touch := touchOf C.tab s.env o, dirty := h.dirty.filter (fun k => Nat.blt k.1 s.h.next) } :: l')
        | none => none
      | none => none
    | some false => opsT call ops l (i + 1) { s with env := putV s.env o.dst (.tup []) }
    | none => none

/-- May two that aren't in order stand in either? -/
def freeOf (e x : Did) : Bool :=
  match e.dirty with
  | [] => true
  | _ => match x.dirty, x.touch with
    | [], .no => true
    | [], .load id off n => e.dirty.all fun k => !(Nat.beq k.1 id) || (match k.2 with | some (a, m) => Nat.ble (off + n) a || Nat.ble (a + m) off | none => false)
    | _, _ => false

def ordered (b : Array Nat) (i j : Nat) : Bool := (b.getD i 0).testBit j || (b.getD j 0).testBit i

def freeAll (b : Array Nat) (l : List Did) : Bool :=
  l.all fun e => match e.dirty with
    | [] => true
    | _ => l.all fun x => Nat.beq e.at_ x.at_ || ordered b e.at_ x.at_ || freeOf e x

/-- The temporaries that an operation looks at. -/
def looksOf (ops : Array Oper) (o : Oper) : List Tmp :=
  (o.op.operands.toList.filterMap fun | .tmp t => some t | _ => none) ++ (match o.guard with | some (g, _) => ((ops[g]?).bind (·.dst)).toList | none => [])

/-- Edges lead up; who looks at (or fills) what another fills is in order with it. -/
def drawOk (ops : Array Oper) : Bool :=
  let b := Region.before ops
  let l := ops.toList.zipIdx
  l.all fun (o, i) => o.after.all (fun e => !Region.binds .any e || Nat.blt e.on i) &&
    (match o.dst with
    | none => true
    | some d => l.all fun (x, j) => Nat.beq i j || ordered b i j || (!(looksOf ops x).contains d && !(x.dst == some d)))

def drawV (call : CallF) (ops : Array Oper) (s : St) : Option St :=
  match opsT C call ops ops.toList 0 s with
  | some (s', l) => bif drawOk ops && Nat.beq s'.ds.length s.ds.length && freeAll (Region.before ops) l then some s' else none
  | none => none

def loopV (body : St → Option (Ex × St)) : Nat → St → Option (Ex × St)
  | 0, _ => none
  | n + 1, s => match body s with
    | some (.norm, s) => loopV body n s
    | r => r

def putAll : Env → List (Tmp × Val) → Env
  | env, [] => env
  | env, (t, v) :: l => putAll (env.set t v) l

/-- Is the loop, in whose round this is, still there? -/
def inLoop (s : St) : Bool :=
  match s.rd with
  | none => true
  | some l => match s.h.get l with
    | some (.loop _ _ _ _ _ _) => true
    | _ => false

def codeV (call : CallF) : Code → St → Option (Ex × St)
  | .skip, s => some (.norm, s)
  | .label _, s => some (.norm, s)
  | .region _ ops false, s => (opsV C call ops ops.toList s).map fun s => (.norm, s)
  | .region _ ops true, s => (drawV C call ops s).map fun s => (.norm, s)
  | .seq a b, s => match codeV call a s with
    | some (.norm, s) => codeV call b s
    | r => r
  | .cond c a b, s => match evalO s.env c with
    | some (.bool true) => codeV call a s
    | some (.bool false) => codeV call b s
    | _ => none
  | .block id b, s => match codeV call b s with
    | some (.exit i, s) => bif Nat.beq i id then some (.norm, s) else some (.exit i, s)
    | r => r
  | .loop b, s => loopV (codeV call b) C.rounds s
  | .scope b, s => codeV call b s
  | .exit id, s => some (.exit id, s)
  | .ret, s => some (.ret, s)
  | .rangeFunc f ps assign body, s => match evalO s.env f with
    | some (.fn g fs cs) => bif hasBody C g && inLoop s then
        let l := s.h.next
        match call (.fn g) (fs ++ (.yld l :: cs)) (s.h.new (.loop .ready none s.env ps.toList assign body)) with
        | some (_, h) => match h.get l with
          | some (.loop st pending _ _ _ _) => match st with
            | .busy => none
            | _ =>
              let h := h.put l (.loop .exhausted pending [] [] .skip .skip)
              let ds := match s.rd with
                | none => none :: s.ds
                | some _ => s.ds
              match pending with
              | none => some (.norm, { s with h, ds })
              | some (.exit id) => some (.exit id, { s with h, ds })
              | some .ret => some (.ret, { s with h, ds })
              | _ => none
          | _ => none
        | none => none
      else none
    | _ => none
  | .goto _, _ => none
  | .refuse _, _ => none

def resultsV (T : Tab) (h : Heap) (env : Env) : List ResultVar → Option (List Val)
  | [] => some []
  | .tmp t :: l => match resultsV T h env l with
    | some vs => some ((env[t]?).getD .dead :: vs)
    | none => none
  | .cell a t :: l => match loadV T h t ((env[a]?).getD .dead), resultsV T h env l with
    | some v, some vs => some (v :: vs)
    | _, _ => none

/-- A function's code, from its head on. -/
def enterV (call : CallF) (fn : Func) (c : Code) (args : List Val) (h : Heap) : Option St :=
  match codeV C call c { env := args ++ List.replicate (fn.ntmps - args.length) (.tup []), h, ds := [], rd := none } with
  | some (.exit _, _) => none
  | some (_, s) => some s
  | none => none

def deferV (call : CallF) : List (Option (FuncId × List Val)) → Heap → Option Heap
  | [], h => some h
  | none :: l, h => deferV call l h
  | some (f, args) :: l, h => match C.tab.fn f with
    | some fn => match fn.body with
      | some c => match enterV C call fn c args h with
        | some s => match s.ds, resultsV C.tab s.h s.env fn.results.toList with
          | [], some _ => deferV call l s.h
          | _, _ => none
        | none => none
      | none => none
    | none => none

def bodyV (call : CallF) (f : FuncId) (fn : Func) (args : List Val) (h : Heap) : Option (Val × Heap) :=
  match fn.body with
  | none => match C.tab.ext f with
    | some e => externV C.tab h e args
    | none => none
  | some c => match enterV C call fn c args h with
    | some s => match deferV C call s.ds s.h with
      | some h => match resultsV C.tab h s.env fn.results.toList with
        | some [v] => some (v, h)
        | some vs => some (.tup vs, h)
        | none => none
      | none => none
    | none => none

/-- A round of a range over a function. -/
def roundV (call : CallF) (l : Nat) (args : List Val) (h : Heap) : Option (Val × Heap) :=
  match h.get l with
  | some (.loop .ready _ env ps assign body) =>
    bif Nat.beq ps.length args.length then
      match codeV C call assign { env := putAll env (ps.zip args), h, ds := [], rd := some l } with
      | some (.norm, s) => match s.h.get l with
        | some (.loop .ready pending env ps assign body') =>
          match codeV C call body { s with h := s.h.put l (.loop .busy pending env ps assign body') } with
          | some (e, s) => match s.ds, s.h.get l with
            | [], some (.loop .busy _ env ps assign body) => match e with
              | .norm => some (.bool true, s.h.put l (.loop .ready none env ps assign body))
              | .ret => some (.bool false, s.h.put l (.loop .done (some .ret) env ps assign body))
              | .exit id => some (.bool false, s.h.put l (.loop .done (some (.exit id)) env ps assign body))
            | _, _ => none
          | none => none
        | _ => none
      | _ => none
    else none
  | _ => none

def callV : Nat → CallF
  | 0, _, _, _ => none
  | n + 1, .yld l, args, h => roundV C (callV n) l args h
  | n + 1, .fn f, args, h => match C.sum f args with
    | some v => some (v, h)
    | none => match C.tab.fn f with
      | none => none
      | some fn => bif C.alone f then
          match frzL (frz h 30) args with
          | none => none
          | some args' => match bodyV C (callV n) f fn args' .nil with
            | none => none
            | some (v, h') => match frz h' 30 v with
              | some v => bif args.all (fun a => idFree 30 a) || plainV 30 v then some (v, h) else none
              | none => none
        else bodyV C (callV n) f fn args h

end
end Go.B
end
section
/- B's heap only grows. -/
namespace Go.B
open Go

section
variable {T : Tab} {C : Conf} {h h' : Heap}

theorem put_next (h : Heap) (id : Nat) (b : Blk) : (h.put id b).next = h.next := rfl
theorem new_next (h : Heap) (b : Blk) : (h.new b).next = h.next + 1 := rfl

theorem write_next {p : Val} {vs : List Val} (hw : writeCells h p vs = some h') : h'.next = h.next := by
  unfold writeCells at hw
  split at hw
  · split at hw
    · cases hb : (Nat.beq _ _ && Nat.ble _ _ && Nat.ble _ _ && vs.all Val.isCell) with
      | true => rw [hb] at hw; injection hw with hw; subst hw; rfl
      | false => rw [hb] at hw; cases hw
    · cases hw
  · cases hw

theorem bif_ok {α : Type} {b : Bool} {y : Option α} {r : α} (h : (bif b then y else none) = some r) : y = some r := by
  cases b <;> simp_all

theorem bif_or {α : Type} {b : Bool} {x y : Option α} {r : α} (h : (bif b then x else y) = some r) : x = some r ∨ y = some r := by
  cases b
  · exact .inr h
  · exact .inl h

theorem store_next {t : TypeId} {p v : Val} (hs : storeV T h t p v = some h') : h'.next = h.next := by
  unfold storeV at hs
  split at hs
  · exact write_next (bif_ok hs)
  · cases hs

theorem fresh_next {e z bytes len : Nat} {s : Val} {n : Nat} {new : List Val} {v : Val} (hv : freshV T h e z bytes len s n new = some (v, h')) : h.next ≤ h'.next := by
  unfold freshV at hv
  simp only [Option.bind_eq_some_iff] at hv
  obtain ⟨zero, _, hv⟩ := hv
  have hv := bif_ok hv
  simp only [Option.map_eq_some_iff, Prod.mk.injEq] at hv
  obtain ⟨old, _, _, rfl⟩ := hv
  simp [new_next]

theorem grow_next {e z bytes len id g n : Nat} {new : List Val} {v : Val} (hv : growV T h e z bytes len id g n new = some (v, h')) : h.next ≤ h'.next := by
  unfold growV at hv
  split at hv
  · simp only [Option.bind_eq_some_iff] at hv
    obtain ⟨zero, _, hv⟩ := hv
    have hv := bif_ok hv
    simp only [Option.map_eq_some_iff, Prod.mk.injEq] at hv
    obtain ⟨old, _, _, rfl⟩ := hv
    simp [put_next]
  · cases hv

theorem append_next {argTypes : Array TypeId} {s x v : Val} (hv : appendV T h argTypes s x = some (v, h')) : h.next ≤ h'.next := by
  unfold appendV at hv
  split at hv
  · simp only [Option.bind_eq_some_iff] at hv
    obtain ⟨z, _, bytes, _, len, _, r, _, hv⟩ := hv
    split at hv
    · simp only [Option.some.injEq, Prod.mk.injEq] at hv
      obtain ⟨_, rfl⟩ := hv
      exact Nat.le_refl _
    · split at hv
      · exact fresh_next hv
      · rcases bif_or hv with hv | hv
        · simp only [Option.map_eq_some_iff, Prod.mk.injEq] at hv
          obtain ⟨h1, hw, _, rfl⟩ := hv
          exact Nat.le_of_eq (write_next hw).symm
        · exact fresh_next hv
      · exact grow_next hv
      · rcases bif_or hv with hv | hv
        · cases hv
        · exact fresh_next hv
      · cases hv
  · cases hv

theorem copy_next {argTypes : Array TypeId} {d s v : Val} (hv : copyV T h argTypes d s = some (v, h')) : h.next ≤ h'.next := by
  unfold copyV at hv
  simp only [Option.bind_eq_some_iff] at hv
  obtain ⟨dt, _, hv⟩ := hv
  split at hv
  · simp only [Option.bind_eq_some_iff] at hv
    obtain ⟨z, _, dn, _, sn, _, hv⟩ := hv
    split at hv
    · simp only [Option.some.injEq, Prod.mk.injEq] at hv
      obtain ⟨_, rfl⟩ := hv
      exact Nat.le_refl _
    · simp only [Option.bind_eq_some_iff, Option.map_eq_some_iff, Prod.mk.injEq] at hv
      obtain ⟨cs, _, p, _, h1, hw, _, rfl⟩ := hv
      exact Nat.le_of_eq (write_next hw).symm
  · cases hv

theorem unsafeString_next {argTypes : Array TypeId} {p v : Val} {n : Nat} (hv : unsafeStringV T h argTypes p n = some (v, h')) : h.next ≤ h'.next := by
  unfold unsafeStringV at hv
  split at hv
  · split at hv
    · simp only [Option.some.injEq, Prod.mk.injEq] at hv
      obtain ⟨_, rfl⟩ := hv
      exact Nat.le_refl _
    · simp only [Option.some.injEq, Prod.mk.injEq] at hv
      obtain ⟨_, rfl⟩ := hv
      exact Nat.le_refl _
    · split at hv
      · split at hv
        · have hv := bif_ok hv
          simp only [Option.map_eq_some_iff, Prod.mk.injEq] at hv
          obtain ⟨_, _, _, rfl⟩ := hv
          exact Nat.le_refl _
        · cases hv
      · cases hv
    · cases hv
  · cases hv

theorem builtin_next {b : Builtin} {argTypes : Array TypeId} {args : List Val} {v : Val} (hv : builtinV C h b argTypes args = some (v, h')) : h.next ≤ h'.next := by
  unfold builtinV at hv
  dsimp only at hv
  split at hv
  · exact append_next hv
  · simp only [Option.map_eq_some_iff, Prod.mk.injEq] at hv
    obtain ⟨_, _, _, rfl⟩ := hv
    exact Nat.le_refl _
  · simp only [Option.map_eq_some_iff, Prod.mk.injEq] at hv
    obtain ⟨_, _, _, rfl⟩ := hv
    exact Nat.le_refl _
  · exact copy_next hv
  · split at hv
    · simp only [Option.some.injEq, Prod.mk.injEq] at hv
      obtain ⟨_, rfl⟩ := hv
      exact Nat.le_refl _
    · simp only [Option.some.injEq, Prod.mk.injEq] at hv
      obtain ⟨_, rfl⟩ := hv
      exact Nat.le_refl _
    · cases hv
  · exact unsafeString_next hv
  · simp only [Option.map_eq_some_iff, Prod.mk.injEq] at hv
    obtain ⟨_, _, _, rfl⟩ := hv
    exact Nat.le_refl _
  · simp only [Option.map_eq_some_iff, Prod.mk.injEq] at hv
    obtain ⟨_, _, _, rfl⟩ := hv
    exact Nat.le_refl _
  · cases hv

theorem conv_next {s d : TypeId} {x v : Val} (hv : convV T h s d x = some (v, h')) : h.next ≤ h'.next := by
  unfold convV at hv
  split at hv
  · simp only [Option.some.injEq, Prod.mk.injEq] at hv; obtain ⟨_, rfl⟩ := hv; exact Nat.le_refl _
  · simp only [Option.some.injEq, Prod.mk.injEq] at hv; obtain ⟨_, rfl⟩ := hv; exact Nat.le_refl _
  · split at hv
    · have hv := bif_ok hv
      simp only [Option.some.injEq, Prod.mk.injEq] at hv; obtain ⟨_, rfl⟩ := hv; exact Nat.le_refl _
    · cases hv
  · split at hv
    · have hv := bif_ok hv
      simp only [Option.some.injEq, Prod.mk.injEq] at hv; obtain ⟨_, rfl⟩ := hv; exact Nat.le_refl _
    · cases hv
  · split at hv
    · have hv := bif_ok hv
      simp only [Option.some.injEq, Prod.mk.injEq] at hv; obtain ⟨_, rfl⟩ := hv; simp [new_next]
    · cases hv
  · split at hv
    · simp only [Option.bind_eq_some_iff, Option.map_eq_some_iff, Prod.mk.injEq] at hv
      obtain ⟨_, _, _, _, _, _, _, rfl⟩ := hv
      exact Nat.le_refl _
    · cases hv
  · cases hv

theorem update_next {t : TypeId} {m k v : Val} (hv : updateV T h t m k v = some h') : h'.next = h.next := by
  unfold updateV at hv
  split at hv
  · have hv := bif_ok hv
    split at hv
    · simp only [Option.map_eq_some_iff] at hv
      obtain ⟨r, _, rfl⟩ := hv
      split <;> rfl
    · cases hv
  · cases hv

theorem extern_next {e : Ext} {args : List Val} {v : Val} (hv : externV T h e args = some (v, h')) : h.next ≤ h'.next := by
  unfold externV at hv
  split at hv
  case h_5 =>
    split at hv
    · simp only [Option.map_eq_some_iff, Prod.mk.injEq] at hv
      obtain ⟨h1, hw, _, rfl⟩ := hv
      exact Nat.le_of_eq (write_next hw).symm
    · cases hv
  case h_6 =>
    split at hv
    · rename_i n hr
      simp only [Option.map_eq_some_iff, Prod.mk.injEq] at hv
      obtain ⟨h1, hw, _, rfl⟩ := hv
      cases hb : (n == _) with
      | true => exact Nat.le_of_eq (write_next hw).symm
      | false => exact Nat.le_refl _
    · cases hv
  case h_7 =>
    split at hv
    · simp only [Option.map_eq_some_iff, Prod.mk.injEq] at hv
      obtain ⟨h1, hw, _, rfl⟩ := hv
      exact Nat.le_of_eq (write_next hw).symm
    · cases hv
  case h_4 =>
    split at hv
    · simp only [Option.some.injEq, Prod.mk.injEq] at hv; obtain ⟨_, rfl⟩ := hv; exact Nat.le_refl _
    · cases hv
  all_goals first
    | (simp only [Option.some.injEq, Prod.mk.injEq] at hv; obtain ⟨_, rfl⟩ := hv; exact Nat.le_refl _)
    | cases hv
end
end Go.B
end
section
/- B's heap only grows: code and calls. -/
namespace Go.B
open Go

section
variable {C : Conf} {h h' : Heap}

theorem step_next {env : Env} {op : Op} {v : Val} (hs : stepV C env h op = some (v, h')) : h.next ≤ h'.next := by
  have pureC : ∀ {x : Option Val}, (match x with | some v => some (v, h) | none => none) = some (v, h') → h.next ≤ h'.next := by
    intro x hx
    cases x with
    | none => cases hx
    | some y => simp only [Option.some.injEq, Prod.mk.injEq] at hx; rw [hx.2]; exact Nat.le_refl _
  have same : ∀ {y : Val}, some (y, h) = some (v, h') → h.next ≤ h'.next := by
    intro y hy
    simp only [Option.some.injEq, Prod.mk.injEq] at hy; rw [hy.2]; exact Nat.le_refl _
  have new : ∀ {y : Val} {b : Blk}, some (y, h.new b) = some (v, h') → h.next ≤ h'.next := by
    intro y b hy
    simp only [Option.some.injEq, Prod.mk.injEq] at hy; rw [← hy.2]; simp [new_next]
  cases op <;> simp only [stepV] at hs <;> first
    | exact pureC hs
    | cases hs
    | skip
  case pick => split at hs <;> first | exact pureC hs | cases hs
  case alloc => split at hs <;> first | (have hs := bif_ok hs; exact new hs) | cases hs
  case box => split at hs <;> first | (have hs := bif_ok hs; exact new hs) | cases hs
  case build => split at hs <;> first | exact pureC hs | cases hs
  case buildSlice =>
    split at hs
    · unfold buildSliceV at hs
      split at hs
      · split at hs
        · have hs := bif_ok hs
          split at hs
          · exact new hs
          · cases hs
        · cases hs
      · cases hs
    · cases hs
  case insert =>
    split at hs
    · split at hs
      · rename_i h1 hu
        simp only [Option.some.injEq, Prod.mk.injEq] at hs; rw [← hs.2]; exact Nat.le_of_eq (update_next hu).symm
      · cases hs
    · cases hs
  case load => split at hs <;> first | exact pureC hs | cases hs
  case store =>
    split at hs
    · split at hs
      · rename_i h1 hu
        simp only [Option.some.injEq, Prod.mk.injEq] at hs; rw [← hs.2]; exact Nat.le_of_eq (store_next hu).symm
      · cases hs
    · cases hs
  case nilCheck => split at hs <;> first | exact same hs | exact same (bif_ok hs) | cases hs
  case binOp => split at hs <;> first | exact pureC hs | cases hs
  case unOp => split at hs <;> first | exact pureC hs | cases hs
  case convert => split at hs <;> first | exact conv_next hs | cases hs
  case makeInterface =>
    split at hs
    · split at hs <;> first | exact same hs | cases hs
    · cases hs
  case makeFunc => split at hs <;> first | exact same hs | cases hs
  case makeMap t r =>
    cases r with
    | none => exact new hs
    | some r => cases hs
  case makeSlice =>
    split at hs
    · unfold makeSliceV at hs
      split at hs
      · simp only [Option.bind_eq_some_iff] at hs
        obtain ⟨_, _, _, _, _, _, hs⟩ := hs
        have hs := bif_ok hs
        exact new hs
      · cases hs
    · cases hs
  case slice => split at hs <;> first | exact pureC hs | cases hs
  case fieldAddr =>
    split at hs
    · split at hs <;> first | exact pureC hs | cases hs
    · cases hs
  case field => split at hs <;> first | exact pureC hs | cases hs
  case indexAddr => split at hs <;> first | exact pureC hs | cases hs
  case index => split at hs <;> first | exact pureC hs | cases hs
  case lookup => split at hs <;> first | exact pureC hs | cases hs
  case mapUpdate =>
    split at hs
    · split at hs
      · rename_i h1 hu
        simp only [Option.some.injEq, Prod.mk.injEq] at hs; rw [← hs.2]; exact Nat.le_of_eq (update_next hu).symm
      · cases hs
    · cases hs
  case range => split at hs <;> first | exact new hs | cases hs
  case next it b =>
    cases b with
    | false => cases hs
    | true =>
      simp only at hs
      split at hs
      · split at hs
        · split at hs
          · have hs := bif_ok hs
            simp only [Option.some.injEq, Prod.mk.injEq] at hs; rw [← hs.2]; exact Nat.le_refl _
          · exact same hs
        · cases hs
      · cases hs
  case typeAssert => split at hs <;> first | exact pureC hs | cases hs
  case extract => split at hs <;> first | exact pureC hs | cases hs

/-- Calls let the heap grow. -/
def Grows (call : CallF) : Prop := ∀ t args h v h', call t args h = some (v, h') → h.next ≤ h'.next

theorem oper_next {call : CallF} (hc : Grows call) {s : St} {o : Oper} {v : Val} {ds : List (Option (FuncId × List Val))} (hv : operV C call s o = some (v, h', ds)) : s.h.next ≤ h'.next := by
  unfold operV at hv
  split at hv
  · split at hv
    · split at hv
      · split at hv
        · rename_i hb
          simp only [Option.some.injEq, Prod.mk.injEq] at hv
          obtain ⟨_, rfl, _⟩ := hv
          exact builtin_next hb
        · cases hv
      · cases hv
    · split at hv
      · split at hv
        · rename_i hb
          simp only [Option.some.injEq, Prod.mk.injEq] at hv
          obtain ⟨_, rfl, _⟩ := hv
          exact hc _ _ _ _ _ hb
        · cases hv
      · cases hv
  · split at hv
    · have hv := bif_ok hv
      simp only [Option.some.injEq, Prod.mk.injEq] at hv
      obtain ⟨_, rfl, _⟩ := hv
      exact Nat.le_refl _
    · cases hv
  · split at hv
    · rename_i hb
      simp only [Option.some.injEq, Prod.mk.injEq] at hv
      obtain ⟨_, rfl, _⟩ := hv
      exact step_next hb
    · cases hv

theorem ops_next {call : CallF} (hc : Grows call) {ops : Array Oper} : ∀ {l : List Oper} {s s' : St}, opsV C call ops l s = some s' → s.h.next ≤ s'.h.next
  | [], s, s', h => by simp only [opsV, Option.some.injEq] at h; subst h; exact Nat.le_refl _
  | o :: l, s, s', h => by
    simp only [opsV] at h
    split at h
    · split at h
      · rename_i hv
        have h1 := oper_next hc hv
        have h2 := ops_next hc h
        exact Nat.le_trans h1 h2
      · cases h
    · have h2 := ops_next hc h
      exact h2
    · cases h

theorem opsT_next {call : CallF} (hc : Grows call) {ops : Array Oper} : ∀ {l : List Oper} {k : Nat} {s s' : St} {ds : List Did}, opsT C call ops l k s = some (s', ds) → s.h.next ≤ s'.h.next
  | [], k, s, s', ds, h => by simp only [opsT, Option.some.injEq, Prod.mk.injEq] at h; obtain ⟨rfl, _⟩ := h; exact Nat.le_refl _
  | o :: l, k, s, s', ds, h => by
    simp only [opsT] at h
    split at h
    · split at h
      · rename_i hv
        split at h
        · rename_i hr
          simp only [Option.some.injEq, Prod.mk.injEq] at h
          obtain ⟨rfl, _⟩ := h
          have h1 := oper_next hc hv
          have h2 := opsT_next hc hr
          simp only at h1 h2
          exact Nat.le_trans h1 h2
        · cases h
      · cases h
    · have h2 := opsT_next hc h
      exact h2
    · cases h

theorem draw_next {call : CallF} (hc : Grows call) {ops : Array Oper} {s s' : St} (h : drawV C call ops s = some s') : s.h.next ≤ s'.h.next := by
  unfold drawV at h
  split at h
  · rename_i hr
    have h := bif_ok h
    simp only [Option.some.injEq] at h
    subst h
    exact opsT_next hc hr
  · cases h

theorem code_next {call : CallF} (hc : Grows call) : ∀ (c : Code) (s s' : St) (ex : Ex), codeV C call c s = some (ex, s') → s.h.next ≤ s'.h.next
  | .skip, s, s', ex, h => by simp only [codeV, Option.some.injEq, Prod.mk.injEq] at h; obtain ⟨_, rfl⟩ := h; exact Nat.le_refl _
  | .label l, s, s', ex, h => by simp only [codeV, Option.some.injEq, Prod.mk.injEq] at h; obtain ⟨_, rfl⟩ := h; exact Nat.le_refl _
  | .region id ops false, s, s', ex, h => by
    simp only [codeV, Option.map_eq_some_iff, Prod.mk.injEq] at h
    obtain ⟨s1, h1, _, rfl⟩ := h
    exact ops_next hc h1
  | .region id ops true, s, s', ex, h => by
    simp only [codeV, Option.map_eq_some_iff, Prod.mk.injEq] at h
    obtain ⟨s1, h1, _, rfl⟩ := h
    exact draw_next hc h1
  | .seq x y, s, s', ex, h => by
    simp only [codeV] at h
    split at h
    · rename_i s1 h1
      exact Nat.le_trans (code_next hc x s s1 _ h1) (code_next hc y s1 s' ex h)
    · exact code_next hc x s s' ex h
  | .cond c x y, s, s', ex, h => by
    simp only [codeV] at h
    split at h
    · exact code_next hc x s s' ex h
    · exact code_next hc y s s' ex h
    · cases h
  | .block id x, s, s', ex, h => by
    simp only [codeV] at h
    split at h
    · rename_i i s1 h1
      have := code_next hc x s s1 _ h1
      rcases bif_or h with h | h <;>
        (simp only [Option.some.injEq, Prod.mk.injEq] at h; obtain ⟨_, rfl⟩ := h; exact this)
    · exact code_next hc x s s' ex h
  | .loop x, s, s', ex, h => by
    simp only [codeV] at h
    have key : ∀ (n : Nat) (s : St), loopV (codeV C call x) n s = some (ex, s') → s.h.next ≤ s'.h.next := by
      intro n
      induction n with
      | zero => intro s h; simp [loopV] at h
      | succ n ih =>
        intro s h
        simp only [loopV] at h
        split at h
        · rename_i s1 h1
          exact Nat.le_trans (code_next hc x s s1 _ h1) (ih s1 h)
        · exact code_next hc x s s' ex h
    exact key _ s h
  | .scope x, s, s', ex, h => by simp only [codeV] at h; exact code_next hc x s s' ex h
  | .exit id, s, s', ex, h => by simp only [codeV, Option.some.injEq, Prod.mk.injEq] at h; obtain ⟨_, rfl⟩ := h; exact Nat.le_refl _
  | .ret, s, s', ex, h => by simp only [codeV, Option.some.injEq, Prod.mk.injEq] at h; obtain ⟨_, rfl⟩ := h; exact Nat.le_refl _
  | .goto l, s, s', ex, h => by simp only [codeV] at h; cases h
  | .refuse r, s, s', ex, h => by simp only [codeV] at h; cases h
  | .rangeFunc f ps assign body, s, s', ex, h => by
    simp only [codeV] at h
    split at h
    · have h := bif_ok h
      split at h
      · rename_i v1 h2 hcall
        have h3 := hc _ _ _ _ _ hcall
        rw [new_next] at h3
        split at h
        · split at h
          · cases h
          · split at h
            all_goals first
              | cases h; done
              | (simp only [Option.some.injEq, Prod.mk.injEq] at h; obtain ⟨_, rfl⟩ := h; simp only [put_next]; omega)
        · cases h
      · cases h
    · cases h

theorem enter_next {call : CallF} (hc : Grows call) {fn : Func} {c : Code} {args : List Val} {s : St} (h0 : enterV C call fn c args h = some s) : h.next ≤ s.h.next := by
  unfold enterV at h0
  split at h0
  · cases h0
  · rename_i h1
    injection h0 with h0; subst h0
    have := code_next hc c _ _ _ h1
    exact this
  · cases h0

theorem defer_next {call : CallF} (hc : Grows call) : ∀ (ds : List (Option (FuncId × List Val))) (h h' : Heap), deferV C call ds h = some h' → h.next ≤ h'.next
  | [], h, h', h0 => by simp only [deferV, Option.some.injEq] at h0; subst h0; exact Nat.le_refl _
  | none :: ds, h, h', h0 => by simp only [deferV] at h0; exact defer_next hc ds h h' h0
  | some (f, args) :: ds, h, h', h0 => by
    simp only [deferV] at h0
    split at h0
    · split at h0
      · split at h0
        · rename_i hen
          split at h0
          · exact Nat.le_trans (enter_next hc hen) (defer_next hc ds _ h' h0)
          · cases h0
        · cases h0
      · cases h0
    · cases h0

theorem body_next {call : CallF} (hc : Grows call) {f : FuncId} {F : Func} {args : List Val} {v : Val} (h0 : bodyV C call f F args h = some (v, h')) : h.next ≤ h'.next := by
  unfold bodyV at h0
  split at h0
  · split at h0
    · exact extern_next h0
    · cases h0
  · split at h0
    · rename_i hen
      split at h0
      · rename_i hd
        have h1 := Nat.le_trans (enter_next hc hen) (defer_next hc _ _ _ hd)
        split at h0
        · simp only [Option.some.injEq, Prod.mk.injEq] at h0; obtain ⟨_, rfl⟩ := h0; exact h1
        · simp only [Option.some.injEq, Prod.mk.injEq] at h0; obtain ⟨_, rfl⟩ := h0; exact h1
        · cases h0
      · cases h0
    · cases h0

theorem round_next {call : CallF} (hc : Grows call) {l : Nat} {args : List Val} {v : Val} (h0 : roundV C call l args h = some (v, h')) : h.next ≤ h'.next := by
  unfold roundV at h0
  split at h0
  · have h0 := bif_ok h0
    split at h0
    · rename_i ha
      split at h0
      · split at h0
        · rename_i hb
          have h1 := code_next hc _ _ _ _ ha
          have h2 := code_next hc _ _ _ _ hb
          simp only [put_next] at h1 h2
          split at h0
          · split at h0 <;>
              (simp only [Option.some.injEq, Prod.mk.injEq] at h0; obtain ⟨_, rfl⟩ := h0; simp only [put_next]; omega)
          · cases h0
        · cases h0
      · cases h0
    · cases h0
  · cases h0

theorem call_next : ∀ (n : Nat), Grows (callV C n)
  | 0 => fun t args h v h' q => by cases t <;> simp [callV] at q
  | n + 1 => fun t args h v h' q => by
    have hc := call_next n
    cases t with
    | yld l =>
      simp only [callV] at q
      exact round_next hc q
    | fn f =>
      simp only [callV] at q
      split at q
      · simp only [Option.some.injEq, Prod.mk.injEq] at q; obtain ⟨_, rfl⟩ := q; exact Nat.le_refl _
      · split at q
        · cases q
        · rcases bif_or q with q | q
          · split at q
            · cases q
            · split at q
              · cases q
              · split at q
                · have q := bif_ok q
                  simp only [Option.some.injEq, Prod.mk.injEq] at q; obtain ⟨_, rfl⟩ := q; exact Nat.le_refl _
                · cases q
          · exact body_next hc q
end
end Go.B
end
