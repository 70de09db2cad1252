/- An abstract machine for the model's code: deterministic, memory as small blocks, frozen data as plain lists. Definitions only. -/
import GoSem.Step
import GoSem.Core.Utf8
namespace Go.Ab
open Go

/-- What one cell holds, as plain data. -/
inductive FV where
  | bool (b : Bool)
  | int (k : IntKind) (n : Int)
  | float (k : FloatKind) (bits : Nat)
  | complex (k : FloatKind) (re im : Nat)
  | str (s : ByteArray)
  | nilp | nilm | nilf | nili
  | sl (k : Nat) (rows : List (List FV))
  deriving Inhabited

/-- What a temporary, or a cell of one's own, holds. -/
inductive AV where
  | f (v : FV)
  | sl0 (k : Nat)
  | vec (id : Nat)
  | sub (id off len : Nat)
  | ptr (id i j : Nat)
  | fptr (k : Nat) (rows : List (List FV)) (i j : Nat)
  | mp (id : Nat)
  | fn (fn : Fn) (first captured : List AV)
  | agg (cs : List AV)
  | tup (vs : List AV)
  | dead
  deriving Inhabited

/-- A block of one's own. -/
inductive Blk where
  | frows (k : Nat) (rs : List (List FV))
  | rows (k : Nat) (rs : List (List AV))
  | map (es : List (List FV × AV))
  | iter (s : ByteArray) (pos : Nat)
  deriving Inhabited

abbrev Heap := List (Option Blk)

structure St where
  tm : List (Nat × AV)
  hp : Heap
  deriving Inhabited

/-- An operand. -/
inductive AX where
  | t (n : Nat)
  | c (v : AV)
  deriving Inhabited

inductive Cv where
  | toInt (k : IntKind)
  | toFloat (k : FloatKind)
  | same
  | strOfBytes
  | strOfInt
  deriving Inhabited

/-- How two values are held equal. -/
inductive EqK where
  | val       -- integers, strings, floats: by the operator itself
  | bool | ptr | slice | map | func
  deriving Inhabited

/-- Whose length. -/
inductive LK where
  | arr (n : Nat) | str | sl | mp
  deriving Inhabited

/-- What a field is: an integer, a string, a Boolean. -/
inductive KT where
  | ti | ts | tb
  deriving Inhabited
/-- Whose keys: integers, strings, or rows of such. -/
inductive KK where
  | one (str : Bool)
  | agg (l : List KT)
  deriving Inhabited

/-- Operations that are done as calls are: with the blocks that they are lent. -/
inductive PK where
  | range
  | next
  | entry (k : KK) (zero : AV)
  | put
  | look (k : KK) (zero : AV) (ok : Bool)
  | eqs (neg : Bool) (l : List KT)
  deriving Inhabited

inductive AOp where
  | mv (x : AX)
  | pick (c a b : AX)
  | new (k : Nat) (zero : List AV)
  | box (x : AX)
  | build (zero : List AV) (parts : List (Nat × Nat × AX))
  | bslice (k : Nat) (parts : List AX)
  | load (agg : Option Nat) (a : AX)
  | store (size : Nat) (a x : AX)
  | nilchk (x : AX)
  | bin (op : BinOp) (e : EqK) (x y : AX)
  | not (x : AX)
  | neg (x : AX)
  | conv (c : Cv) (x : AX)
  | mkfn (fn : Fn) (first captured : List AX)
  | mkmap
  | mkslice (k : Nat) (zero : List FV) (n : AX)
  | slice (k : Nat) (x : AX) (lo hi mx : Option AX)
  | faddr (x : AX) (off : Nat)
  | iaddr (k : Nat) (alen : Option Nat) (x i : AX)
  | field (off : Nat) (agg : Option Nat) (x : AX)
  | index (k : Nat) (alen agg : Option Nat) (x i : AX)
  | lookup (str : Bool) (zero : AV) (m key : AX) (ok : Bool)
  | mapset (str : Bool) (m key v : AX)
  | extr (x : AX) (i : Nat)
  | len (lk : LK) (x : AX)
  | append (k bytes : Nat) (s x : AX)
  | copy (k : Nat) (s x : AX)
  | clear (zero : List FV) (x : AX)
  | delete (str : Bool) (m key : AX)
  | min (xs : List AX)
  | max (xs : List AX)
  | complex (x y : AX)
  | real (x : AX)
  | imag (x : AX)
  | call (f : FuncId) (args : List AX)
  | callv (f : AX) (args : List AX)
  | prim (p : PK) (args : List AX)
  | bad
  deriving Inhabited

structure AO where
  dst : Option Nat
  op : AOp
  guard : Option (Nat × Bool) := none
  deriving Inhabited

inductive AC where
  | skip
  | region (ops : List AO) (pairs : Option (List (Nat × Nat))) (keep : List Nat)
  | seq (a b : AC)
  | cond (c : AX) (thn els : AC)
  | block (id : Nat) (body : AC)
  | loop (keep mat : List Nat) (body : AC)
  | exit (id : Nat)
  | ret
  | goto (l : Nat)
  | scope (rests : List (Nat × AC)) (body : AC)
  deriving Inhabited

inductive RV where
  | tmp (t : Nat)
  | cell (addr : Nat) (agg : Option Nat)
  deriving Inhabited

structure AFun where
  np : Nat          -- parameters, captured ones too
  res : List RV
  frz : Bool        -- what is handed back is frozen
  body : AC
  deriving Inhabited

inductive Ex where
  | normal | exit (id : Nat) | ret | goto (l : Nat)
  deriving Inhabited, DecidableEq

/-! ### Environments, heaps -/
def look (t : Nat) : List (Nat × AV) → AV
  | [] => .dead
  | (u, v) :: r => if t = u then v else look t r
def St.get (s : St) (t : Nat) : AV := look t s.tm
def St.ev (s : St) : AX → AV
  | .t n => look n s.tm
  | .c v => v
def St.put (s : St) (d : Option Nat) (v : AV) : St :=
  match d with
  | some d => { s with tm := (d, v) :: s.tm }
  | none => s
def St.keep (s : St) (ks : List Nat) : St := { s with tm := ks.map fun t => (t, look t s.tm) }
def Heap.at (h : Heap) (id : Nat) : Option Blk := (h[id]?).join

/-! ### Names -/
mutual
def AV.refs : AV → List Nat
  | .vec id => [id]
  | .sub id _ _ => [id]
  | .ptr id _ _ => [id]
  | .mp id => [id]
  | .fn _ a b => refsL a ++ refsL b
  | .agg l => refsL l
  | .tup l => refsL l
  | _ => []
def refsL : List AV → List Nat
  | [] => []
  | v :: l => v.refs ++ refsL l
end
def refsLL : List (List AV) → List Nat
  | [] => []
  | r :: l => refsL r ++ refsLL l
def refsE : List (List FV × AV) → List Nat
  | [] => []
  | (_, v) :: l => v.refs ++ refsE l
def Blk.refs : Blk → List Nat
  | .frows _ _ => []
  | .rows _ rs => refsLL rs
  | .map es => refsE es
  | .iter _ _ => []
mutual
def AV.ren (ρ : Nat → Option Nat) : AV → AV
  | .vec id => match ρ id with | some i => .vec i | none => .dead
  | .sub id o n => match ρ id with | some i => .sub i o n | none => .dead
  | .ptr id r c => match ρ id with | some i => .ptr i r c | none => .dead
  | .mp id => match ρ id with | some i => .mp i | none => .dead
  | .fn f a b => .fn f (renL ρ a) (renL ρ b)
  | .agg l => .agg (renL ρ l)
  | .tup l => .tup (renL ρ l)
  | .f v => .f v
  | .sl0 k => .sl0 k
  | .fptr k rs i j => .fptr k rs i j
  | .dead => .dead
def renL (ρ : Nat → Option Nat) : List AV → List AV
  | [] => []
  | v :: l => v.ren ρ :: renL ρ l
end
def renLL (ρ : Nat → Option Nat) : List (List AV) → List (List AV)
  | [] => []
  | r :: l => renL ρ r :: renLL ρ l
def renE (ρ : Nat → Option Nat) : List (List FV × AV) → List (List FV × AV)
  | [] => []
  | (k, v) :: l => (k, v.ren ρ) :: renE ρ l
def Blk.ren (ρ : Nat → Option Nat) : Blk → Blk
  | .frows k rs => .frows k rs
  | .rows k rs => .rows k (renLL ρ rs)
  | .map es => .map (renE ρ es)
  | .iter t p => .iter t p
def pos (l : List Nat) (x : Nat) : Option Nat := go l 0
where go : List Nat → Nat → Option Nat
  | [], _ => none
  | y :: l, i => if x = y then some i else go l (i + 1)
def has (l : List Nat) (x : Nat) : Bool :=
  match l with
  | [] => false
  | y :: l => if x = y then true else has l x
/-- All blocks that some lead to, in the order in which they are met. -/
def reach (h : Heap) : Nat → List Nat → List Nat → List Nat
  | 0, _, seen => seen
  | _ + 1, [], seen => seen
  | n + 1, id :: todo, seen =>
    if has seen id then reach h n todo seen else
    match h.at id with
    | some b => reach h n (b.refs ++ todo) (seen ++ [id])
    | none => reach h n todo seen
/-- The heap of these blocks alone, named by their places. -/
def pack (h : Heap) (R : List Nat) (ρ : Nat → Option Nat) : Heap := R.map fun id => (h.at id).map (Blk.ren ρ)
def upto : Nat → List Nat
  | 0 => []
  | n + 1 => upto n ++ [n]

/-! ### What is frozen -/
def rowsF : Blk → Option (Nat × List (List FV))
  | .frows k rs => some (k, rs)
  | _ => none
mutual
/-- A value whose own vectors are frozen. -/
def AV.frz (h : Heap) : AV → AV
  | .vec id => match h.at id with | some (.frows k rs) => .f (.sl k rs) | _ => .vec id
  | .sub id o n => match h.at id with | some (.frows k rs) => .f (.sl k ((rs.drop o).take n)) | _ => .sub id o n
  | .sl0 k => .f (.sl k [])
  | .agg l => .agg (frzL h l)
  | .tup l => .tup (frzL h l)
  | .f v => .f v
  | .ptr a b c => .ptr a b c
  | .fptr a b c d => .fptr a b c d
  | .mp a => .mp a
  | .fn a b c => .fn a b c
  | .dead => .dead
def frzL (h : Heap) : List AV → List AV
  | [] => []
  | v :: l => v.frz h :: frzL h l
end
/-- The own vectors that a value's freezing takes. -/
def takenBy (h : Heap) : AV → List Nat
  | .vec id => match h.at id with | some (.frows _ _) => [id] | _ => []
  | .sub id _ _ => match h.at id with | some (.frows _ _) => [id] | _ => []
  | _ => []

/-- May it stand in a cell? -/
def AV.isCell : AV → Bool
  | .agg _ => false
  | .tup _ => false
  | .dead => false
  | _ => true
/-- The cells of a value that may be stored. -/
def AV.stored : AV → Option (List AV)
  | .agg cs => if cs.all AV.isCell then some cs else none
  | v => if v.isCell then some [v] else none
/-- The cells of a value. -/
def AV.cells : AV → List AV
  | .agg cs => cs
  | v => [v]
def AV.toF : AV → Option FV
  | .f v => some v
  | .sl0 k => some (.sl k [])
  | _ => none
def toFs : List AV → Option (List FV)
  | [] => some []
  | v :: l => match v.toF, toFs l with | some x, some r => some (x :: r) | _, _ => none
def toFss : List (List AV) → Option (List (List FV))
  | [] => some []
  | v :: l => match toFs v, toFss l with | some x, some r => some (x :: r) | _, _ => none
def ofF (rs : List (List FV)) : List (List AV) := rs.map fun r => r.map .f
/-- A new vector's block. -/
def mkRows (k : Nat) (rs : List (List AV)) : Blk :=
  match toFss rs with
  | some fs => .frows k fs
  | none => .rows k rs
/-- What a slice, or a string, holds. -/
def cont (h : Heap) : AV → Option Blk
  | .f (.sl k rs) => some (.frows k rs)
  | .sl0 k => some (.frows k [])
  | .vec id => match h.at id with | some (.frows k rs) => some (.frows k rs) | some (.rows k rs) => some (.rows k rs) | _ => none
  | .sub id o n => match h.at id with
    | some (.frows k rs) => some (.frows k ((rs.drop o).take n))
    | some (.rows k rs) => some (.rows k ((rs.drop o).take n))
    | _ => none
  | .f (.str s) => some (.frows 1 (s.data.toList.map fun b => [.int .u8 b.toNat]))
  | _ => none
/-- May all its cells be stored? -/
def Blk.whole : Blk → Bool
  | .rows _ rs => rs.all fun r => r.all AV.isCell
  | _ => true
def Blk.join : Blk → Blk → Option Blk
  | .frows k a, .frows l b => if k = l then some (.frows k (a ++ b)) else none
  | .rows k a, .rows l b => if k = l then some (.rows k (a ++ b)) else none
  | .frows k a, .rows l b => if k = l then some (.rows k (ofF a ++ b)) else none
  | .rows k a, .frows l b => if k = l then some (.rows k (a ++ ofF b)) else none
  | _, _ => none
def Blk.count : Blk → Nat
  | .frows _ rs => rs.length
  | .rows _ rs => rs.length
  | .map es => es.length
  | .iter _ _ => 0
def splice {α : Type} (l : List α) (at_ : Nat) (x : List α) : List α := l.take at_ ++ x ++ l.drop (at_ + x.length)
def Blk.width : Blk → Option Nat
  | .frows k _ => some k
  | .rows k _ => some k
  | _ => none
/-- Rows written over others, from a place on. -/
def Blk.over : Blk → Nat → Blk → Option Blk
  | .frows k a, o, .frows l b => if k = l ∧ o + b.length ≤ a.length then some (.frows k (splice a o b)) else none
  | .rows k a, o, .rows l b => if k = l ∧ o + b.length ≤ a.length then some (.rows k (splice a o b)) else none
  | .rows k a, o, .frows l b => if k = l ∧ o + b.length ≤ a.length then some (.rows k (splice a o (ofF b))) else none
  | _, _, _ => none
def Blk.drop : Blk → Nat → Blk
  | .frows k a, n => .frows k (a.drop n)
  | .rows k a, n => .rows k (a.drop n)
  | b, _ => b
def Blk.take : Blk → Nat → Blk
  | .frows k a, n => .frows k (a.take n)
  | .rows k a, n => .rows k (a.take n)
  | b, _ => b

/-! ### Cells -/
def cellsAt (h : Heap) : AV → Nat → Option (List AV)
  | .ptr id i j, n => match h.at id with
    | some (.rows _ rs) => match rs[i]? with
      | some r => if j + n ≤ r.length then some ((r.drop j).take n) else none
      | none => none
    | some (.frows _ rs) => match rs[i]? with
      | some r => if j + n ≤ r.length then some (((r.drop j).take n).map .f) else none
      | none => none
    | _ => none
  | .fptr _ rs i j, n => match rs[i]? with
    | some r => if j + n ≤ r.length then some (((r.drop j).take n).map .f) else none
    | none => none
  | _, _ => none
def setCells (h : Heap) : AV → List AV → Option Heap
  | .ptr id i j, cs => match h.at id with
    | some (.rows k rs) => match rs[i]? with
      | some r => if j + cs.length ≤ r.length then some (h.set id (some (.rows k (rs.set i (splice r j cs))))) else none
      | none => none
    | some (.frows k rs) => match rs[i]?, toFs cs with
      | some r, some fs => if j + fs.length ≤ r.length then some (h.set id (some (.frows k (rs.set i (splice r j fs))))) else none
      | _, _ => none
    | _ => none
  | _, _ => none

/-! ### Operators -/
def strLt (x y : ByteArray) : Bool := Op.bytesLess x.data.toList y.data.toList
def cmpInt (op : BinOp) (a b : Int) : Option Bool :=
  match op with
  | .eql => some (decide (a = b)) | .neq => some (!decide (a = b))
  | .lss => some (decide (a < b)) | .leq => some (decide (a ≤ b))
  | .gtr => some (decide (b < a)) | .geq => some (decide (b ≤ a))
  | _ => none
def cmpStr (op : BinOp) (a b : ByteArray) : Option Bool :=
  match op with
  | .eql => some (decide (a = b)) | .neq => some (!decide (a = b))
  | .lss => some (strLt a b) | .leq => some (strLt a b || decide (a = b))
  | .gtr => some (!(strLt a b || decide (a = b))) | .geq => some (!strLt a b)
  | _ => none
def cmpFloat (op : BinOp) (k : FloatKind) (x y : Nat) : Option Bool :=
  let c := k.format.order x y
  match op with
  | .eql => some (c == some .eq)
  | .neq => some (c != some .eq)
  | .lss => some (c == some .lt)
  | .leq => some (c == some .lt || c == some .eq)
  | .gtr => some (c == some .gt)
  | .geq => some (c == some .gt || c == some .eq)
  | _ => none
def arith (op : BinOp) (k : IntKind) (a b : Int) : Option Int :=
  match op with
  | .add => some (k.wrap (a + b)) | .sub => some (k.wrap (a - b)) | .mul => some (k.wrap (a * b))
  | .quo => if b = 0 then none else some (k.wrap (a.tdiv b))
  | .rem => if b = 0 then none else some (a.tmod b)
  | .and => some (k.wrap (BitVec.ofInt k.bits a &&& BitVec.ofInt k.bits b).toNat)
  | .or => some (k.wrap (BitVec.ofInt k.bits a ||| BitVec.ofInt k.bits b).toNat)
  | .xor => some (k.wrap (BitVec.ofInt k.bits a ^^^ BitVec.ofInt k.bits b).toNat)
  | .andNot => some (k.wrap (BitVec.ofInt k.bits a &&& ~~~BitVec.ofInt k.bits b).toNat)
  | _ => none
def farith (op : BinOp) (k : FloatKind) (x y : Nat) : Option Nat :=
  match op with
  | .add => k.format.add x y
  | .sub => k.format.sub x y
  | .mul => k.format.mul x y
  | .quo => k.format.div x y
  | _ => none
def binV (op : BinOp) (x y : FV) : Option FV :=
  match x, y with
  | .int k a, .int l b =>
    match op with
    | .shl => if b < 0 then none else some (.int k (k.wrap (a * 2 ^ (min b.toNat k.bits))))
    | .shr => if b < 0 then none else some (.int k (a.fdiv (2 ^ (min b.toNat k.bits))))
    | _ => if k = l then (match arith op k a b with
      | some n => some (.int k n)
      | none => match cmpInt op a b with | some t => some (.bool t) | none => none) else none
  | .str a, .str b => match op with
    | .add => if a.size + b.size ≤ 2 ^ 62 then some (.str (a ++ b)) else none
    | _ => match cmpStr op a b with | some t => some (.bool t) | none => none
  | .float k a, .float l b => if k = l then (match farith op k a b with
      | some n => some (.float k n)
      | none => match cmpFloat op k a b with | some t => some (.bool t) | none => none) else none
  | .complex k a b, .complex l c d => if k = l then (match op with
      | .add | .sub => match farith op k a c, farith op k b d with | some r, some i => some (.complex k r i) | _, _ => none
      | _ => none) else none
  | _, _ => none
def isNil : EqK → AV → Option Bool
  | .ptr, .f .nilp => some true
  | .ptr, .ptr _ _ _ => some false
  | .ptr, .fptr _ _ _ _ => some false
  | .map, .f .nilm => some true
  | .map, .mp _ => some false
  | .func, .f .nilf => some true
  | .func, .fn _ _ _ => some false
  | _, _ => none
def eqOf (op : BinOp) (b : Bool) : Option Bool :=
  match op with
  | .eql => some b
  | .neq => some (!b)
  | _ => none
def bin (op : BinOp) (e : EqK) (x y : AV) : Option AV :=
  match e with
  | .val => match x, y with
    | .f a, .f b => (binV op a b).map .f
    | _, _ => none
  | .bool => match x, y with
    | .f (.bool a), .f (.bool b) => (eqOf op (a == b)).map fun t => .f (.bool t)
    | _, _ => none
  | e => match isNil e x, isNil e y with
    | some a, some b => if a || b then (eqOf op (a && b)).map fun t => .f (.bool t) else none
    | _, _ => none
def FV.same : FV → FV → Bool
  | .int k a, .int l b => k == l && decide (a = b)
  | .str a, .str b => decide (a = b)
  | .bool a, .bool b => a == b
  | _, _ => false
def samesL : List FV → List FV → Bool
  | [], [] => true
  | a :: l, b :: r => a.same b && samesL l r
  | _, _ => false
def findE (key : List FV) : List (List FV × AV) → Option AV
  | [] => none
  | (k, v) :: l => if samesL key k then some v else findE key l
def setE (key : List FV) (v : AV) : List (List FV × AV) → List (List FV × AV)
  | [] => [(key, v)]
  | (k, u) :: l => if samesL key k then (key, v) :: l else (k, u) :: setE key v l
def delE (key : List FV) : List (List FV × AV) → List (List FV × AV)
  | [] => []
  | (k, u) :: l => if samesL key k then l else (k, u) :: delE key l
def keyV : AV → Option (List FV)
  | .f v => some [v]
  | _ => none
/-- A key of the map's own kind. -/
def kin : Bool → List FV → List FV → Bool
  | false, [.int k _], [.int l _] => decide (k = l)
  | true, [.str _], [.str _] => true
  | _, _, _ => false
def kins (str : Bool) (key : List FV) (es : List (List FV × AV)) : Bool := kin str key key && es.all fun e => kin str key e.1
def found (zero : AV) (ok : Bool) : Option AV → AV
  | some v => if ok then .tup [v, .f (.bool true)] else v
  | none => if ok then .tup [zero, .f (.bool false)] else zero
def uncells (agg : Option Nat) (cs : List AV) : Option AV :=
  match agg, cs with
  | none, [v] => some v
  | some n, cs => if cs.length = n then some (.agg cs) else none
  | _, _ => none
def storedAll (k : Nat) : List AV → Option (List (List AV))
  | [] => some []
  | v :: l => match v.stored, storedAll k l with
    | some cs, some r => if cs.length = k then some (cs :: r) else none
    | _, _ => none
def fill (cells : List AV) : List (Nat × Nat × AV) → Option (List AV)
  | [] => some cells
  | (off, size, v) :: rest => match v.stored with
    | some cs => if cs.length = size ∧ off + size ≤ cells.length then fill (splice cells off cs) rest else none
    | none => none
def asInt : AV → Option Int
  | .f (.int _ n) => some n
  | _ => none
def bound (s : St) (dflt : Nat) : Option AX → Option Nat
  | none => some dflt
  | some x => match asInt (s.ev x) with
    | some n => if 0 ≤ n then some n.toNat else none
    | none => none
/-- No list is longer than that. -/
def lim : Nat := 2 ^ 36

/-! ### Calls -/
/-- What calls answer: of a function, of arguments, of the heap of all blocks that these lead to: what is handed back, and the heap. -/
def CallSem := FuncId → List AV → Heap → Option (AV × Heap)
/-- A heap in which blocks have turned into others: those that were lent, and new ones. -/
def unpack (h : Heap) (R : List Nat) (h' : Heap) (ρ : Nat → Option Nat) : Heap :=
  (R.zipIdx.foldl (fun g (id, i) => g.set id ((h'.at i).map (Blk.ren ρ))) h) ++ ((h'.drop R.length).map fun b => b.map (Blk.ren ρ))
def callA (X : CallSem) (f : FuncId) (args : List AV) (h : Heap) : Option (AV × Heap) :=
  let R := reach h 1000 (refsL args) []
  let ρ := pos R
  match X f (renL ρ args) (pack h R ρ) with
  | none => none
  | some (v, h') =>
    let σ : Nat → Option Nat := fun i => match R[i]? with | some id => some id | none => some (h.length + (i - R.length))
    some (v.ren σ, unpack h R h' σ)

/-! ### Operations that are done as calls are -/
def keyK : KK → AV → Option (List FV)
  | .one _, .f v => some [v]
  | .agg l, .agg cs => if 2 ≤ l.length ∧ cs.length = l.length then toFs cs else none
  | _, _ => none
def KT.ok : KT → FV → FV → Bool
  | .ti, .int k _, .int l _ => decide (k = l)
  | .ts, .str _, .str _ => true
  | .tb, .bool _, .bool _ => true
  | _, _, _ => false
def kinL : List KT → List FV → List FV → Bool
  | [], [], [] => true
  | b :: l, x :: xs, y :: ys => b.ok x y && kinL l xs ys
  | _, _, _ => false
def kinK : KK → List FV → List FV → Bool
  | .one s, x, y => kin s x y
  | .agg l, x, y => kinL l x y
def kinsK (k : KK) (key : List FV) (es : List (List FV × AV)) : Bool := kinK k key key && es.all fun e => kinK k key e.1
def findI (key : List FV) : List (List FV × AV) → Nat → Option (Nat × AV)
  | [], _ => none
  | (k, v) :: l, i => if samesL key k then some (i, v) else findI key l (i + 1)
def rangeE : List AV → Heap → Option (AV × Heap)
  | [.f (.str t)], h => some (.ptr h.length 0 0, h ++ [some (.iter t 0)])
  | _, _ => none
def nextE : List AV → Heap → Option (AV × Heap)
  | [.ptr id 0 0], h => match h.at id with
    | some (.iter t p) => if p < t.size then some (.tup [.f (.bool true), .f (.int .i64 p), .f (.int .i32 (Utf8.decode t p).1)], h.set id (some (.iter t (p + (Utf8.decode t p).2)))) else some (.tup [.f (.bool false)], h)
    | _ => none
  | _, _ => none
def entryE (k : KK) (zero : AV) : List AV → Heap → Option (AV × Heap)
  | [.mp id, key], h => match h.at id with
    | some (.map es) => match keyK k key with
      | some ks => if kinsK k ks es = true then match findI ks es 0 with
        | some (i, v) => some (.tup [v, .f (.int .i64 i)], h)
        | none => some (.tup [zero, .f (.int .i64 es.length)], h.set id (some (.map (es ++ [(ks, zero)]))))
        else none
      | none => none
    | _ => none
  | _, _ => none
def lookE (k : KK) (zero : AV) (ok : Bool) : List AV → Heap → Option (AV × Heap)
  | [.mp id, key], h => match h.at id with
    | some (.map es) => match keyK k key with
      | some ks => if kinsK k ks es = true then some (found zero ok ((findI ks es 0).map (·.2)), h) else none
      | none => none
    | _ => none
  | _, _ => none
def putE : List AV → Heap → Option (AV × Heap)
  | [.mp id, .f (.int _ n), v], h => match h.at id with
    | some (.map es) => if 0 ≤ n then match es[n.toNat]? with
      | some e => some (.tup [], h.set id (some (.map (es.set n.toNat (e.1, v)))))
      | none => none else none
    | _ => none
  | _, _ => none
def eqsE (neg : Bool) (l : List KT) : List AV → Heap → Option (AV × Heap)
  | [.agg xs, .agg ys], h => match toFs xs, toFs ys with
    | some a, some b => if kinL l a b = true then some (.f (.bool (samesL a b != neg)), h) else none
    | _, _ => none
  | _, _ => none
def primE (p : PK) (args : List AV) (h : Heap) : Option (AV × Heap) :=
  match p with
  | .range => rangeE args h
  | .next => nextE args h
  | .entry k zero => entryE k zero args h
  | .put => putE args h
  | .look k zero ok => lookE k zero ok args h
  | .eqs neg l => eqsE neg l args h

/-! ### One operation -/
def St.alloc (s : St) (b : Blk) : Nat × St := (s.hp.length, { s with hp := s.hp ++ [some b] })
def opE (X : CallSem) (o : AOp) (s : St) : Option (AV × St) :=
  match o with
  | .mv x => some (s.ev x, s)
  | .pick c a b => match s.ev c with
    | .f (.bool t) => some (if t then s.ev a else s.ev b, s)
    | _ => none
  | .new k zero => if zero.length = k then some (.ptr s.hp.length 0 0, { s with hp := s.hp ++ [some (.rows k [zero])] }) else none
  | .box x => match (s.ev x).stored with
    | some cs => some (.ptr s.hp.length 0 0, { s with hp := s.hp ++ [some (.rows cs.length [cs])] })
    | none => none
  | .build zero parts => match fill zero (parts.map fun (o, n, x) => (o, n, s.ev x)) with
    | some cs => some (.agg cs, s)
    | none => none
  | .bslice k parts => match parts with
    | [] => some (.sl0 k, s)
    | _ => match storedAll k (parts.map s.ev) with
      | some rs => some (.vec s.hp.length, { s with hp := s.hp ++ [some (mkRows k rs)] })
      | none => none
  | .load agg a => match cellsAt s.hp (s.ev a) (agg.getD 1) with
    | some cs => match uncells agg cs with | some v => some (v, s) | none => none
    | none => none
  | .store n a x => match (s.ev x).stored with
    | some cs => if cs.length = n then match setCells s.hp (s.ev a) cs with
      | some h => some (.tup [], { s with hp := h })
      | none => none else none
    | none => none
  | .nilchk x => match s.ev x with
    | .ptr a b c => some (.ptr a b c, s)
    | .fptr a b c d => some (.fptr a b c d, s)
    | _ => none
  | .bin op e x y => match bin op e (s.ev x) (s.ev y) with
    | some v => some (v, s)
    | none => none
  | .not x => match s.ev x with
    | .f (.bool b) => some (.f (.bool (!b)), s)
    | _ => none
  | .neg x => match s.ev x with
    | .f (.int k n) => some (.f (.int k (k.wrap (0 - n))), s)
    | _ => none
  | .conv c x => match c, s.ev x with
    | .toInt k, .f (.int _ n) => some (.f (.int k (k.wrap n)), s)
    | .toFloat k, .f (.int _ n) => some (.f (.float k (k.nearest n)), s)
    | .same, .f (.str t) => some (.f (.str t), s)
    | .strOfInt, .f (.int _ n) => some (.f (.str (Utf8.encode n)), s)
    | _, _ => none
  | .mkfn fn a b => some (.fn fn (a.map s.ev) (b.map s.ev), s)
  | .mkmap => some (.mp s.hp.length, { s with hp := s.hp ++ [some (.map [])] })
  | .mkslice k zero n => match asInt (s.ev n) with
    | some n => if 0 ≤ n ∧ n.toNat ≤ lim ∧ zero.length = k then
        some (.vec s.hp.length, { s with hp := s.hp ++ [some (.frows k (List.replicate n.toNat zero))] }) else none
    | none => none
  | .slice k x lo hi mx => if k = 0 then match s.ev x, mx with
      | .f (.str t), none => match bound s 0 lo, bound s t.size hi with
        | some l, some h => if l ≤ h ∧ h ≤ t.size then some (.f (.str (t.extract l h)), s) else none
        | _, _ => none
      | _, _ => none
    else match mx with
    | some m => match asInt (s.ev m), hi.map (fun y => asInt (s.ev y)), lo with
      | some m, some (some h), none => if m = 0 ∧ h = 0 then match s.ev x with
        | .f (.sl _ _) => some (.sl0 k, s)
        | .sl0 _ => some (.sl0 k, s)
        | .vec _ => some (.sl0 k, s)
        | .sub _ _ _ => some (.sl0 k, s)
        | _ => none else none
      | _, _, _ => none
    | none => match s.ev x with
      | .f (.sl q rs) => match bound s 0 lo, bound s rs.length hi with
        | some l, some h => if q = k ∧ l ≤ h ∧ h ≤ rs.length then some (.f (.sl q ((rs.drop l).take (h - l))), s) else none
        | _, _ => none
      | .sl0 q => match bound s 0 lo, bound s 0 hi with
        | some l, some h => if q = k ∧ l = 0 ∧ h = 0 then some (.sl0 q, s) else none
        | _, _ => none
      | .vec id => match s.hp.at id with
        | some b => match bound s 0 lo, bound s b.count hi with
          | some l, some h => if b.width = some k ∧ l ≤ h ∧ h ≤ b.count then some (.sub id l (h - l), s) else none
          | _, _ => none
        | none => none
      | .sub id o n => match s.hp.at id with
        | some b => match bound s 0 lo, bound s n hi with
          | some l, some h => if b.width = some k ∧ l ≤ h ∧ o + h ≤ b.count then some (.sub id (o + l) (h - l), s) else none
          | _, _ => none
        | none => none
      | _ => none
  | .faddr x off => match s.ev x with
    | .ptr id i j => some (.ptr id i (j + off), s)
    | .fptr k rs i j => some (.fptr k rs i (j + off), s)
    | _ => none
  | .iaddr k alen x i => match asInt (s.ev i) with
    | none => none
    | some n => match alen with
      | some m => if 0 ≤ n ∧ n.toNat < m then match s.ev x with
        | .ptr id r j => some (.ptr id r (j + n.toNat * k), s)
        | .fptr q rs r j => some (.fptr q rs r (j + n.toNat * k), s)
        | _ => none else none
      | none => match s.ev x with
        | .f (.sl q rs) => if q = k ∧ 0 ≤ n ∧ n.toNat < rs.length then some (.fptr q rs n.toNat 0, s) else none
        | .vec id => match s.hp.at id with
          | some b => if b.width = some k ∧ 0 ≤ n ∧ n.toNat < b.count then some (.ptr id n.toNat 0, s) else none
          | none => none
        | .sub id o l => match s.hp.at id with
          | some b => if b.width = some k ∧ 0 ≤ n ∧ n.toNat < l then some (.ptr id (o + n.toNat) 0, s) else none
          | none => none
        | _ => none
  | .field off agg x => match s.ev x with
    | .agg cs => if off + agg.getD 1 ≤ cs.length then match uncells agg ((cs.drop off).take (agg.getD 1)) with
      | some v => some (v, s)
      | none => none else none
    | _ => none
  | .index k alen agg x i => match asInt (s.ev i) with
    | none => none
    | some n => if 0 ≤ n then match s.ev x with
      | .agg cs => if n.toNat * k + k ≤ cs.length ∧ n.toNat < alen.getD 0 then match uncells agg ((cs.drop (n.toNat * k)).take k) with
        | some v => some (v, s)
        | none => none else none
      | .f (.str t) => if alen = none then match t.data.toList[n.toNat]? with
        | some b => some (.f (.int .u8 b.toNat), s)
        | none => none else none
      | _ => none else none
  | .lookup str zero m key ok => match keyV (s.ev key) with
    | none => none
    | some key => match s.ev m with
      | .f .nilm => some (found zero ok none, s)
      | .mp id => match s.hp.at id with
        | some (.map es) => if kins str key es = true then some (found zero ok (findE key es), s) else none
        | _ => none
      | _ => none
  | .mapset str m key v => match s.ev m, keyV (s.ev key) with
    | .mp id, some key => match s.hp.at id with
      | some (.map es) => if kins str key es = true then some (.tup [], { s with hp := s.hp.set id (some (.map (setE key (s.ev v) es))) }) else none
      | _ => none
    | _, _ => none
  | .extr x i => match s.ev x with
    | .tup vs => match vs[i]? with | some v => some (v, s) | none => none
    | _ => none
  | .len lk x => match lk, s.ev x with
    | .arr n, _ => some (.f (.int .i64 n), s)
    | .str, .f (.str t) => some (.f (.int .i64 t.size), s)
    | .sl, .f (.sl _ rs) => some (.f (.int .i64 rs.length), s)
    | .sl, .sl0 _ => some (.f (.int .i64 0), s)
    | .sl, .vec id => match s.hp.at id with
      | some (.frows _ rs) => some (.f (.int .i64 rs.length), s)
      | some (.rows _ rs) => some (.f (.int .i64 rs.length), s)
      | _ => none
    | .sl, .sub _ _ n => some (.f (.int .i64 n), s)
    | .mp, .f .nilm => some (.f (.int .i64 0), s)
    | .mp, .mp id => match s.hp.at id with
      | some (.map es) => some (.f (.int .i64 es.length), s)
      | _ => none
    | _, _ => none
  | .append k bytes y x => match cont s.hp (s.ev x) with
    | none => none
    | some xs => if bytes ≤ 1024 ∧ xs.whole = true ∧ xs.width = some k then match s.ev y with
      | .sl0 l => if k = l ∧ xs.count ≤ lim then match Blk.join (.frows k []) xs with
        | some b => some (.vec s.hp.length, { s with hp := s.hp ++ [some b] })
        | none => none else none
      | .vec id => match s.hp.at id with
        | some b => if b.count + xs.count ≤ lim then match Blk.join b xs with
          | some b' => some (.vec s.hp.length, { s with hp := s.hp.set id none ++ [some b'] })
          | none => none else none
        | none => none
      | .sub id o n => match s.hp.at id with
        | some b => if n + xs.count ≤ lim then
            if o + n = b.count then match Blk.join (b.drop o) xs with
              | some b' => some (.vec s.hp.length, { s with hp := s.hp.set id none ++ [some b'] })
              | none => none
            else match Blk.over b (o + n) xs with
              | some b' => some (.sub id o (n + xs.count), { s with hp := s.hp.set id (some b') })
              | none => none
          else none
        | none => none
      | _ => none else none
  | .copy k y x => match cont s.hp (s.ev x), s.ev y with
    | some xs, .vec id => match s.hp.at id with
      | some b => if (xs.take (Nat.min xs.count b.count)).whole = true ∧ b.width = some k then match Blk.over b 0 (xs.take (Nat.min xs.count b.count)) with
        | some b' => some (.f (.int .i64 (Nat.min xs.count b.count)), { s with hp := s.hp.set id (some b') })
        | none => none else none
      | none => none
    | some xs, .sub id o n => match s.hp.at id with
      | some b => if (xs.take (Nat.min xs.count n)).whole = true ∧ b.width = some k ∧ o + n ≤ b.count then match Blk.over b o (xs.take (Nat.min xs.count n)) with
        | some b' => some (.f (.int .i64 (Nat.min xs.count n)), { s with hp := s.hp.set id (some b') })
        | none => none else none
      | none => none
    | _, _ => none
  | .clear zero x => match zero, s.ev x with
    | z :: zs, .sub id o n => match s.hp.at id with
      | some b => match Blk.over b o (.frows (z :: zs).length (List.replicate n (z :: zs))) with
        | some b' => some (.tup [], { s with hp := s.hp.set id (some b') })
        | none => none
      | none => none
    | _, _ => none
  | .delete _ _ _ => none
  | .min xs => match xs.map s.ev with
    | [.f (.int k a), .f (.int l b)] => if k = l then some (.f (.int k (if b < a then b else a)), s) else none
    | _ => none
  | .max xs => match xs.map s.ev with
    | [.f (.int k a), .f (.int l b)] => if k = l then some (.f (.int k (if a < b then b else a)), s) else none
    | _ => none
  | .complex x y => match s.ev x, s.ev y with
    | .f (.float k a), .f (.float l b) => if k = l then some (.f (.complex k a b), s) else none
    | _, _ => none
  | .real x => match s.ev x with
    | .f (.complex k a _) => some (.f (.float k a), s)
    | _ => none
  | .imag x => match s.ev x with
    | .f (.complex k _ b) => some (.f (.float k b), s)
    | _ => none
  | .call f args => match callA X f (args.map s.ev) s.hp with
    | some (v, h) => some (v, { s with hp := h })
    | none => none
  | .callv x args => match s.ev x with
    | .fn (.func f) first captured => match callA X f (first ++ args.map s.ev ++ captured) s.hp with
      | some (v, h) => some (v, { s with hp := h })
      | none => none
    | _ => none
  | .prim p args => match callA (fun _ => primE p) 0 (args.map s.ev) s.hp with
    | some (v, h) => some (v, { s with hp := h })
    | none => none
  | .bad => none

def wanted (s : St) : Option (Nat × Bool) → Option Bool
  | none => some true
  | some (t, want) => match look t s.tm with
    | .f (.bool b) => some (b == want)
    | .tup [] => some false
    | _ => none
def stepO (X : CallSem) (o : AO) (s : St) : Option St :=
  match wanted s o.guard with
  | some true => match opE X o.op s with
    | some (v, s') => some (s'.put o.dst v)
    | none => none
  | some false => some (s.put o.dst (.tup []))
  | none => none
def runOps (X : CallSem) : List AO → St → Option St
  | [], s => some s
  | o :: l, s => match stepO X o s with
    | some s' => runOps X l s'
    | none => none

/-! ### What an operation touches: blocks that it reads, blocks that it writes -/
def idOf : AV → List Nat
  | .vec id => [id]
  | .sub id _ _ => [id]
  | .ptr id _ _ => [id]
  | .mp id => [id]
  | _ => []
def foot (o : AOp) (s : St) : List Nat × List Nat :=
  match o with
  | .load _ a => (idOf (s.ev a), [])
  | .store _ a _ => ([], idOf (s.ev a))
  | .slice _ x _ _ _ => (idOf (s.ev x), [])
  | .iaddr _ none x _ => (idOf (s.ev x), [])
  | .len _ x => (idOf (s.ev x), [])
  | .lookup _ _ m _ _ => (idOf (s.ev m), [])
  | .mapset _ m _ _ => ([], idOf (s.ev m))
  | .delete _ m _ => ([], idOf (s.ev m))
  | .clear _ m => ([], idOf (s.ev m))
  | .append _ _ y x => (idOf (s.ev x), idOf (s.ev y))
  | .copy _ y x => (idOf (s.ev x), idOf (s.ev y))
  | .call _ args => ([], reach s.hp 1000 (refsL (args.map s.ev)) [])
  | .callv x args => match s.ev x with
    | .fn _ a b => ([], reach s.hp 1000 (refsL (a ++ args.map s.ev ++ b)) [])
    | _ => ([], [])
  | .prim _ args => ([], reach s.hp 1000 (refsL (args.map s.ev)) [])
  | _ => ([], [])
def footO (o : AO) (s : St) : List Nat × List Nat :=
  match wanted s o.guard with
  | some true => foot o.op s
  | _ => ([], [])
def meets (a b : List Nat) : Bool := a.any (has b)
def clash (x y : List Nat × List Nat) : Bool := meets x.2 (y.1 ++ y.2) || meets y.2 x.1
/-- The operations one by one, and what each touched. -/
def runLog (X : CallSem) : List AO → St → Option (St × List (List Nat × List Nat))
  | [], s => some (s, [])
  | o :: l, s => match stepO X o s with
    | some s' => match runLog X l s' with
      | some (s'', fs) => some (s'', footO o s :: fs)
      | none => none
    | none => none
def apart (fs : List (List Nat × List Nat)) (pairs : List (Nat × Nat)) : Bool :=
  pairs.all fun (i, j) => !clash (fs.getD i ([], [])) (fs.getD j ([], []))
def runR (X : CallSem) (ops : List AO) (pairs : Option (List (Nat × Nat))) (s : St) : Option St :=
  match pairs with
  | none => runOps X ops s
  | some ps => match runLog X ops s with
    | some (s', fs) => if apart fs ps then some s' else none
    | none => none

/-! ### Code -/
def refsT : List (Nat × AV) → List Nat
  | [] => []
  | (_, v) :: l => v.refs ++ refsT l
def refsB : Heap → List Nat
  | [] => []
  | some b :: l => b.refs ++ refsB l
  | none :: l => refsB l
def renT (ρ : Nat → Option Nat) : List (Nat × AV) → List (Nat × AV)
  | [] => []
  | (t, v) :: l => (t, v.ren ρ) :: renT ρ l
/-- The blocks that are led to, the first m in their places. -/
def live (m : Nat) (h : Heap) (roots : List Nat) : List Nat := reach h 1000 (refsB (h.take m) ++ roots) (upto m)
def norm (m : Nat) (s : St) : St :=
  let R := live m s.hp (refsT s.tm)
  let ρ := pos R
  { tm := renT ρ s.tm, hp := pack s.hp R ρ }
def mat1 (s : St) (t : Nat) : St :=
  match look t s.tm with
  | .sl0 k => { tm := (t, .vec s.hp.length) :: s.tm, hp := s.hp ++ [some (.frows k [])] }
  | _ => s
def mats : List Nat → St → St
  | [], s => s
  | t :: l, s => mats l (mat1 s t)
def restOf (l : Nat) : List (Nat × AC) → Option AC
  | [] => none
  | (k, c) :: r => if l = k then some c else restOf l r
def exec (X : CallSem) (m : Nat) : Nat → AC → St → Option (Ex × St)
  | 0, _, _ => none
  | n + 1, c, s => match c with
    | .skip => some (.normal, s)
    | .region ops pairs keep => match runR X ops pairs s with
      | some s' => some (.normal, s'.keep keep)
      | none => none
    | .seq a b => match exec X m n a s with
      | some (.normal, s') => exec X m n b s'
      | r => r
    | .cond c a b => match s.ev c with
      | .f (.bool t) => exec X m n (if t then a else b) s
      | _ => none
    | .block id c => match exec X m n c s with
      | some (.exit j, s') => if j = id then some (.normal, s') else some (.exit j, s')
      | r => r
    | .loop keep mat c => match exec X m n c (norm m ((mats mat s).keep keep)) with
      | some (.normal, s') => exec X m n (.loop keep mat c) s'
      | r => r
    | .exit id => some (.exit id, s)
    | .ret => some (.ret, s)
    | .goto l => some (.goto l, s)
    | .scope rests c => match exec X m n c s with
      | some (.goto l, s') => match restOf l rests with
        | some c' => exec X m n (.scope rests c') s'
        | none => none
      | r => r

/-! ### Functions -/
def enter (args : List AV) (h : Heap) : St := { tm := args.zipIdx.map fun (v, i) => (i, v), hp := h }
def results (s : St) : List RV → Option (List AV)
  | [] => some []
  | .tmp t :: l => match results s l with
    | some r => some (look t s.tm :: r)
    | none => none
  | .cell a agg :: l => match cellsAt s.hp (look a s.tm) (agg.getD 1), results s l with
    | some cs, some r => match uncells agg cs with
      | some v => some (v :: r)
      | none => none
    | _, _ => none
mutual
def AV.taken (h : Heap) : AV → List Nat
  | .vec id => takenBy h (.vec id)
  | .sub id o n => takenBy h (.sub id o n)
  | .agg l => takenL h l
  | .tup l => takenL h l
  | _ => []
def takenL (h : Heap) : List AV → List Nat
  | [] => []
  | v :: l => v.taken h ++ takenL h l
end
def Heap.dropAll (h : Heap) : List Nat → Heap
  | [] => h
  | id :: l => Heap.dropAll (h.set id none) l
def gc (m : Nat) (v : AV) (h : Heap) : AV × Heap :=
  let R := live m h v.refs
  (v.ren (pos R), pack h R (pos R))
def finish (a : AFun) (m : Nat) (r : Ex × St) : Option (AV × Heap) :=
  match r.1 with
  | .exit _ => none
  | .goto _ => none
  | _ => match results r.2 a.res with
    | none => none
    | some vs =>
      let v := match vs with | [v] => v | vs => .tup vs
      if a.frz then some (gc m (v.frz r.2.hp) (r.2.hp.dropAll (v.taken r.2.hp))) else some (gc m v r.2.hp)
inductive Entry where
  | code (a : AFun)
  | prim (p : List AV → Heap → Option (AV × Heap))
def callN (T : FuncId → Option Entry) : Nat → CallSem
  | 0 => fun _ _ _ => none
  | n + 1 => fun f args h => match T f with
    | none => none
    | some (.prim p) => p args h
    | some (.code a) => match exec (callN T n) h.length n a.body (enter args h) with
      | some r => finish a h.length r
      | none => none
end Go.Ab
