/-
  An interpreter over plain data for the model's code: strings are lists of bytes, slices are lists, struct variables are boxes; definitions only.
-/
import Derived.WalkKit
namespace Go.Lite

/-- Plain values. 'sl': a slice whose cells never change; 'own', 'win', 'ptr': what leads into the interpreter's own memory; 'ref': a pointer to cells that never change; 'fr': a slice handed back that nobody else holds; 'lit': a literal that never changes, in a block of its own; 'tail': of a row of its own, from a place on; 'rest': what a function that is ranged over has still to tell (nothing that the world holds). -/
inductive V where
  | junk
  | bool (b : Bool)
  | int (k : IntKind) (n : Int)
  | str (s : List UInt8)
  | agg (cs : List V)
  | tup (vs : List V)
  | nilS
  | sl (l : List V)
  | own (id : Nat)
  | win (id off len : Nat)
  | ref (x : V) (off : Nat)
  | ptr (id k off : Nat)
  | fn (f : FuncId) (caps : List V)
  | mp (id : Nat)
  | nilP
  | nilF
  | fr (t : TypeId) (els : List V)
  | lit (t : TypeId) (els : List V)
  | tail (id off : Nat)
  | rest (ts : List TypeId) (l : List V)
instance : Inhabited V := ⟨.junk⟩

/-- Objects of the interpreter's memory. -/
inductive O where
  | row (t : TypeId) (els : List V) (fz : Nat)
  | box (t : TypeId) (v : V) (fz : Bool)
  | map (es : List (V × V))
  | dead
instance : Inhabited O := ⟨.dead⟩

def mapO {α β : Type} (f : α → Option β) : List α → Option (List β)
  | [] => some []
  | x :: xs => (f x).bind fun y => (mapO f xs).map fun ys => y :: ys

def V.cells : V → List V
  | .agg cs => cs
  | v => [v]

/-- a value of one cell -/
def V.one : V → Bool
  | .junk | .agg _ | .tup _ | .fr _ _ | .rest _ _ => false
  | _ => true

/-- a value of one cell with no address in it -/
def V.flat1 : V → Bool
  | .bool _ | .int _ _ | .str _ => true
  | _ => false

structure OpA where
  dst : Option Nat
  op : Op
  type : TypeId
  guard : Option (Nat × Bool)
  /-- its place among the others is not told: a load only from what stays; a literal frozen at once; a call only of what is pure -/
  bx : Bool
  /-- a call whose place among all that read or write memory is told -/
  sq : Bool
  /-- carried out over no memory at all: its place does not matter -/
  rx : Bool

/-- The code, without what a run does not look at. -/
inductive C where
  | skip
  | ops (draw : Bool) (l : List OpA)
  | seq (a b : C)
  | cond (c : Operand) (thn els : C)
  | block (id : Nat) (body : C)
  | loop (forget : List Nat) (body : C)
  | exit (id : Nat)
  | ret
  /-- a range over the function in slot g begins: what it will tell -/
  | start (g : Nat)
  /-- is there a round more? its arguments go into ps; ws: what the round writes -/
  | uncons (g : Nat) (ps ws : List Nat) (a b : C)
  /-- one behind the other; between them what nothing looks at any more is forgotten -/
  | cseq (forget : List Nat) (a b : C)

inductive Ex where
  | norm
  | exit (id : Nat)
  | ret

structure S where
  env : List V
  mem : List O

inductive RV where
  | tmp (t : Nat)
  | cell (t : Nat) (ty : TypeId)

/-- A function as the interpreter sees it. -/
structure FA where
  np : Nat
  nt : Nat
  results : List RV
  rtypes : List TypeId
  body : C

/-! ### types -/

def single : List V → Option V
  | [c] => some c
  | _ => none

def mkV (P : Program) (t : TypeId) (cs : List V) : Option V :=
  match P.underlying t with
  | some (.struct _) => some (.agg cs)
  | some (.array _ _) => some (.agg cs)
  | some _ => single cs
  | none => none

def fieldOf (P : Program) (s : TypeId) (f : Nat) : Option (Nat × TypeId) :=
  match P.underlying s with
  | some (.struct fs) => (fs[f]?).map fun x => (x.offset, x.type)
  | _ => none

def elemOf (P : Program) (t : TypeId) : Option TypeId :=
  match P.underlying t with
  | some (.slice e) => some e
  | _ => none

def constV : Value → Option V
  | .bool b => some (.bool b)
  | .int k n => some (.int k n)
  | .string s => some (.str s.data.toList)
  | .slice none 0 0 => some .nilS
  | .pointer none => some .nilP
  | .nilFunc => some .nilF
  | .tuple vs => if vs.isEmpty then some (.tup []) else none
  | _ => none

def zeroV (P : Program) (t : TypeId) : Option V :=
  match (P.info? t).bind (·.zero) with
  | some (.agg cs) => (mapO constV cs.toList).map .agg
  | some v => constV v
  | none => none

/-! ### memory -/

def evalO (env : List V) : Operand → Option V
  | .tmp t => env[t]?
  | .const v => constV v
  | .func f => some (.fn f [])
  | .global _ => none

def partO (env : List V) (p : Nat × Operand) : Option (Nat × V) := (evalO env p.2).map fun v => (p.1, v)

def look (mem : List O) : V → Option (V × Nat)
  | .ref x off => some (x, off)
  | .ptr id k off =>
    match mem[id]? with
    | some (.row _ els _) => (els[k]?).map fun x => (x, off)
    | some (.box _ v _) => if k = 0 then some (v, off) else none
    | _ => none
  | _ => none

def loadM (P : Program) (mem : List O) (t : TypeId) (p : V) : Option V :=
  (look mem p).bind fun r =>
    if ((r.1.cells.drop r.2).take (P.cellsOf t)).length = P.cellsOf t then mkV P t ((r.1.cells.drop r.2).take (P.cellsOf t)) else none

/-- a cell as it lies in a row: without addresses of the interpreter's memory -/
def imm1 : V → Option V
  | .bool b => some (.bool b)
  | .int k n => some (.int k n)
  | .str s => some (.str s)
  | .nilS => some (.sl [])
  | .sl l => some (.sl l)
  | .lit _ l => some (.sl l)
  | _ => none

def immX : V → Option V
  | .agg cs => (mapO imm1 cs).map .agg
  | v => imm1 v

def putCells (x : V) (off : Nat) (vs : List V) : Option V :=
  match x with
  | .agg cs => if off + vs.length ≤ cs.length then some (.agg (cs.take off ++ vs ++ cs.drop (off + vs.length))) else none
  | _ => match vs with
    | [v] => if off = 0 ∧ x.one then some v else none
    | _ => none

/-- as a slice lies in a box -/
def tailed (mem : List O) : V → V
  | .own id =>
    match mem[id]? with
    | some (.row _ _ _) => .tail id 0
    | _ => .own id
  | v => v

def storeM (P : Program) (mem : List O) (t : TypeId) (p v : V) : Option (List O) :=
  if v.cells.length = P.cellsOf t ∧ 0 < P.cellsOf t ∧ v.cells.all V.one then
    match p with
    | .ptr id k off =>
      match mem[id]? with
      | some (.row t' els fz) =>
        if fz ≤ k then
          (els[k]?).bind fun x => (mapO imm1 v.cells).bind fun vs => (putCells x off vs).map fun y => mem.set id (.row t' (els.set k y) fz)
        else none
      | some (.box t' x fz) => if k = 0 ∧ fz = false then (putCells x off (v.cells.map (tailed mem))).map fun y => mem.set id (.box t' y fz) else none
      | _ => none
    | _ => none
  else none

/-- the elements of what can be appended or is measured -/
def elems (mem : List O) : V → Option (List V)
  | .nilS => some []
  | .sl l => some l
  | .lit _ l => some l
  | .own id =>
    match mem[id]? with
    | some (.row _ els _) => some els
    | _ => none
  | .win id off len =>
    match mem[id]? with
    | some (.row _ els _) => if off + len ≤ els.length then some ((els.drop off).take len) else none
    | _ => none
  | .tail id off =>
    match mem[id]? with
    | some (.row _ els _) => some (els.drop off)
    | _ => none
  | _ => none

/-- bytes, as elements -/
def bytesV (s : List UInt8) : List V := s.map fun b => .int .u8 (b.toNat : Int)
/-- the elements of what is appended or copied: a text's are its bytes -/
def elemsS (mem : List O) : V → Option (List V)
  | .str s => some (bytesV s)
  | x => elems mem x

/-- a type whose values can lie in a row -/
def rowTy (P : Program) (t : TypeId) : Bool := decide (P.bytesOf t ≤ 4096) && decide (0 < P.cellsOf t) && (match (P.info? t).bind (·.zero) with | some z => z.cells.size == P.cellsOf t | none => false)
def roomy (P : Program) (t : TypeId) (n : Nat) : Bool := decide (n ≤ 16777216) && rowTy P t

def newRow (mem : List O) (t : TypeId) (els : List V) (fz : Nat) : V × List O := (.own mem.length, mem ++ [.row t els fz])
/-- a value as it lies in a new box: slices that are nil are rows without elements -/
def boxed (P : Program) : List TypeId → List V → List O → List V × List O
  | t :: ts, .nilS :: vs, mem =>
    match elemOf P t with
    | some e => if roomy P e 0 then
        let r := boxed P ts vs (mem ++ [.row e [] 0])
        (.tail mem.length 0 :: r.1, r.2)
      else
        let r := boxed P ts vs mem
        (.nilS :: r.1, r.2)
    | none =>
        let r := boxed P ts vs mem
        (.nilS :: r.1, r.2)
  | _ :: ts, v :: vs, mem =>
    let r := boxed P ts vs mem
    (tailed mem v :: r.1, r.2)
  | _, vs, mem => (vs, mem)
/-- the types of the cells of a struct of fields of one cell each -/
def cellTys (P : Program) (t : TypeId) : List TypeId :=
  match P.underlying t with
  | some (.struct fs) => fs.toList.flatMap fun f => if P.cellsOf f.type = 1 then [f.type] else List.replicate (P.cellsOf f.type) 0
  | some (.array _ _) => []
  | _ => [t]
def boxVal (P : Program) (mem : List O) (t : TypeId) (v : V) : V × List O :=
  match v with
  | .agg cs => let r := boxed P (cellTys P t) cs mem; (.agg r.1, r.2)
  | v =>
    match boxed P (cellTys P t) [v] mem with
    | ([x], m) => (x, m)
    | (_, _) => (v, mem)
def newBox (P : Program) (mem : List O) (t : TypeId) (v : V) : V × List O :=
  let r := boxVal P mem t v
  (.ptr r.2.length 0 0, r.2 ++ [.box t r.1 false])

def appendM (P : Program) (mem : List O) (t : TypeId) (s x : V) : Option (V × List O) :=
  (elemOf P t).bind fun e => (elemsS mem x).bind fun xs =>
    if xs.all (fun y => y.cells.length == P.cellsOf e) then
      match s with
      | .nilS => if roomy P e xs.length then some (newRow mem e xs 0) else none
      | .own id =>
        match mem[id]? with
        | some (.row e' els fz) => if e' = e ∧ roomy P e (els.length + xs.length) then some (newRow (mem.set id .dead) e (els ++ xs) fz) else none
        | _ => none
      | .tail id off =>
        match mem[id]? with
        | some (.row e' els fz) => if e' = e ∧ (fz = 0 ∨ off < fz) ∧ roomy P e ((els.drop off).length + xs.length) then some (.tail mem.length 0, (newRow (mem.set id .dead) e (els.drop off ++ xs) (cond (Nat.beq fz 0) 0 (fz - off))).2) else none
        | _ => none
      | .lit t' l => if t' = e ∧ roomy P e (l.length + xs.length) ∧ l.all (fun y => y.cells.length == P.cellsOf e) then some (.sl (l ++ xs), mem) else none
      | _ => none
    else none

/-- what is appended or copied is of the row's type, or a text that goes into bytes -/
def appTy (P : Program) (t t' : TypeId) (x : V) : Bool :=
  match x with
  | .str _ => (match P.underlying t', (elemOf P t).bind P.underlying with | some .string, some (.int .u8) => true | _, _ => false)
  | _ => t == t'
/-- a slice into a row: from where on, how many elements -/
def spanM (mem : List O) : V → Option (Nat × Nat × Nat)
  | .own id =>
    match mem[id]? with
    | some (.row _ els _) => some (id, 0, els.length)
    | _ => none
  | .tail id off =>
    match mem[id]? with
    | some (.row _ els _) => some (id, off, els.length - off)
    | _ => none
  | .win id off len => some (id, off, len)
  | _ => none
def copyM (P : Program) (mem : List O) (t : TypeId) (s x : V) : Option (V × List O) :=
  (elemOf P t).bind fun e => (elemsS mem x).bind fun xs => (spanM mem s).bind fun r =>
    match mem[r.1]? with
    | some (.row e' els fz) =>
      if e' = e ∧ xs.all (fun y => y.cells.length == P.cellsOf e) ∧ fz ≤ r.2.1 ∧ r.2.1 + r.2.2 ≤ els.length then
        some (.int .i64 (min xs.length r.2.2 : Nat), mem.set r.1 (.row e' (els.take r.2.1 ++ xs.take (min xs.length r.2.2) ++ els.drop (r.2.1 + min xs.length r.2.2)) fz))
      else none
    | _ => none
def makeM (P : Program) (mem : List O) (t : TypeId) (a b : V) : Option (V × List O) :=
  (elemOf P t).bind fun e =>
    match a, b with
    | .int _ n, .int _ c => if 0 ≤ n ∧ n ≤ c ∧ roomy P e c.toNat then (zeroV P e).bind fun z => (immX z).map fun z => newRow mem e (List.replicate n.toNat z) 0 else none
    | _, _ => none

/-! ### what a call of a function that only reads is handed -/

def snap1 (mem : List O) : V → Option V
  | .bool b => some (.bool b)
  | .int k n => some (.int k n)
  | .str s => some (.str s)
  | .nilP => some .nilP
  | .nilF => some .nilF
  | .nilS => some (.sl [])
  | .sl l => some (.sl l)
  | .lit _ l => some (.sl l)
  | .own id => (elems mem (.own id)).map .sl
  | .win id off len => (elems mem (.win id off len)).map .sl
  | .tail id off => (elems mem (.tail id off)).map .sl
  | .ref x off => some (.ref x off)
  | .fn f caps => if caps.isEmpty then some (.fn f []) else none
  | _ => none

def snap2 (mem : List O) : V → Option V
  | .agg cs => (mapO (snap1 mem) cs).map .agg
  | .ptr id k off => (look mem (.ptr id k off)).bind fun (x, off) =>
      match x with
      | .agg cs => (mapO (snap1 mem) cs).map fun ds => .ref (.agg ds) off
      | x => (snap1 mem x).map fun y => .ref y off
  | v => snap1 mem v

def snap3 (mem : List O) : V → Option V
  | .fn f caps => (mapO (snap2 mem) caps).map (.fn f)
  | v => snap2 mem v

def ids1 : V → List Nat
  | .own id | .win id _ _ | .tail id _ => [id]
  | _ => []

def ids2 (mem : List O) : V → List Nat
  | .agg cs => cs.flatMap ids1
  | .ptr id _ _ => id :: (match mem[id]? with
    | some (.box _ v _) => v.cells.flatMap ids1
    | _ => [])
  | v => ids1 v

def ids3 (mem : List O) : V → List Nat
  | .fn _ caps => caps.flatMap (ids2 mem)
  | v => ids2 mem v

def freeze (mem : List O) (id : Nat) : List O :=
  match mem[id]? with
  | some (.row t els _) => mem.set id (.row t els els.length)
  | some (.box t v _) => mem.set id (.box t v true)
  | _ => mem

/-- does what is handed back lead into cells that were there? -/
def leads : V → Bool
  | .bool _ | .int _ _ | .str _ | .nilP | .nilF | .fr _ _ | .nilS => false
  | _ => true
def leadsX : V → Bool
  | .agg cs => cs.any leads
  | v => leads v
def leadsT : V → Bool
  | .tup vs => vs.any leadsX
  | v => leadsX v

def giveS (mem : List O) (v : V) : Option V :=
  match v with
  | .ptr _ _ _ => none
  | v => snap3 mem v

/-- a type whose values hold no address -/
def flatTy (P : Program) (e : TypeId) : Bool :=
  match zeroV P e with
  | some z => z.cells.all V.flat1
  | none => false

def give1 (P : Program) (mem : List O) (t : TypeId) (v : V) : Option V :=
  match v with
  | .own id =>
    match mem[id]? with
    | some (.row e els fz) => if flatTy P e then (if fz = 0 then (if els.all (fun x => x.cells.all V.flat1) then some (.fr e els) else none) else some (.sl els)) else some (.sl els)
    | _ => none
  | .nilS => (elemOf P t).bind fun e => if 0 < P.cellsOf e then (if flatTy P e then some (.fr e []) else some (.sl [])) else none
  | v => giveS mem v

def tupV : List V → V
  | [v] => v
  | vs => .tup vs

/-- what a function that only reads hands back -/
def give (P : Program) (mem : List O) (ts : List TypeId) (vs : List V) : Option V :=
  match ts, vs with
  | [t], [v] => give1 P mem t v
  | _, [_] => none
  | _, vs => (mapO (giveS mem) vs).map .tup

/-- what was handed back, taken in: a slice that nobody else holds becomes a row, where that is wanted -/
def take1 (adopt : Bool) (mem : List O) : V → V × List O
  | .fr t els => if adopt then newRow mem t els 0 else (.sl els, mem)
  | v => (v, mem)
def takeT (adopt : Bool) (mem : List O) : V → V × List O
  | .tup vs => (.tup (vs.map fun v => (take1 false mem v).1), mem)
  | v => take1 adopt mem v

/-! ### operations -/

def inRange (k : IntKind) (n : Int) : Bool := k.wrap n == n

def arith (op : BinOp) (k : IntKind) (a b : Int) : Option V :=
  match op with
  | .add => some (.int k (k.wrap (a + b)))
  | .sub => some (.int k (k.wrap (a - b)))
  | .mul => some (.int k (k.wrap (a * b)))
  | .quo => if b = 0 then none else some (.int k (k.wrap (a.tdiv b)))
  | .rem => if b = 0 then none else some (.int k (a.tmod b))
  | .and => some (.int k (k.wrap ((BitVec.ofInt k.bits a &&& BitVec.ofInt k.bits b).toNat : Int)))
  | .or => some (.int k (k.wrap ((BitVec.ofInt k.bits a ||| BitVec.ofInt k.bits b).toNat : Int)))
  | .xor => some (.int k (k.wrap ((BitVec.ofInt k.bits a ^^^ BitVec.ofInt k.bits b).toNat : Int)))
  | .andNot => some (.int k (k.wrap ((BitVec.ofInt k.bits a &&& ~~~(BitVec.ofInt k.bits b)).toNat : Int)))
  | .eql => some (.bool (a == b))
  | .neq => some (.bool (a != b))
  | .lss => some (.bool (decide (a < b)))
  | .leq => some (.bool (decide (a ≤ b)))
  | .gtr => some (.bool (decide (a > b)))
  | .geq => some (.bool (decide (a ≥ b)))
  | _ => none

def stringA (op : BinOp) (a b : List UInt8) : Option V :=
  match op with
  | .add => if a.length + b.length ≤ 4611686018427387904 then some (.str (a ++ b)) else none
  | .eql => some (.bool (a == b))
  | .neq => some (.bool (!(a == b)))
  | .lss => some (.bool (Op.bytesLess a b))
  | .leq => some (.bool (Op.bytesLess a b || a == b))
  | .gtr => some (.bool (!(Op.bytesLess a b || a == b)))
  | .geq => some (.bool (!Op.bytesLess a b))
  | _ => none

def eq1 : V → V → Option Bool
  | .bool a, .bool b => some (a == b)
  | .int j a, .int k b => if j = k then some (a == b) else none
  | .str a, .str b => some (a == b)
  | _, _ => none

def eqTy : Option TypeDesc → V → V → Option Bool
  | some .bool, .bool a, .bool b => some (a == b)
  | some (.int _), .int j a, .int k b => if j = k then some (a == b) else none
  | some .string, .str a, .str b => some (a == b)
  | _, _, _ => none

def eqL (P : Program) : List TypeId → List V → List V → Option Bool
  | [], [], [] => some true
  | t :: ts, a :: as, b :: bs => (eqTy (P.underlying t) a b).bind fun x => (eqL P ts as bs).map fun y => x && y
  | _, _, _ => none

def fieldTys (P : Program) (t : TypeId) : List TypeId :=
  match P.underlying t with
  | some (.struct fs) => fs.toList.map (·.type)
  | _ => []

/-- a struct of fields of one cell each: of numbers, texts, bools, each with a name -/
def plainStruct (P : Program) (t : TypeId) : Bool :=
  match P.underlying t with
  | some (.struct fs) => !P.eqGuardType P.depth t && !P.stoodInHeld t && fs.toList.zipIdx.all fun x => x.1.name != "_" && x.1.offset == x.2
  | _ => false

def binB (P : Program) (op : BinOp) (t : TypeId) (x y : V) : Option V :=
  match x, y with
  | .int k a, .int k' b =>
    match op with
    | .shl => if b < 0 then none else some (.int k (k.wrap (a * 2 ^ (min b.toNat k.bits))))
    | .shr => if b < 0 then none else some (.int k (a.fdiv (2 ^ (min b.toNat k.bits))))
    | op => if k = k' then arith op k a b else none
  | .str a, .str b => stringA op a b
  | .bool a, .bool b =>
    if (match P.underlying t with | some .bool => true | _ => false) then
      match op with
      | .eql => some (.bool (a == b))
      | .neq => some (.bool (!(a == b)))
      | _ => none
    else none
  | .agg cs, .agg ds =>
    if plainStruct P t then
      match op with
      | .eql => (eqL P (fieldTys P t) cs ds).map .bool
      | .neq => (eqL P (fieldTys P t) cs ds).map fun b => .bool (!b)
      | _ => none
    else none
  | _, _ => none

def nilish : V → Bool
  | .nilP | .nilF => true
  | _ => false
/-- 'x == nil', of pointers and functions -/
def nilEq (P : Program) (t : TypeId) (x y : V) : Option Bool :=
  match P.underlying t, x, y with
  | some (.pointer _), .nilP, .nilP => some true
  | some (.pointer _), .ptr _ _ _, .nilP => some false
  | some (.pointer _), .ref _ _, .nilP => some false
  | some (.func _ _ _), .nilF, .nilF => some true
  | some (.func _ _ _), .fn _ _, .nilF => some false
  | _, _, _ => none
def binA (P : Program) (op : BinOp) (t : TypeId) (x y : V) : Option V :=
  if nilish y then
    match op with
    | .eql => (nilEq P t x y).map .bool
    | .neq => (nilEq P t x y).map fun b => .bool (!b)
    | _ => none
  else binB P op t x y

def unA (op : UnOp) (x : V) : Option V :=
  match op, x with
  | .not, .bool b => some (.bool (!b))
  | .neg, .int k n => some (.int k (k.wrap (0 - n)))
  | _, _ => none

/-- bytes, as numbers -/
def numsOf : List V → Option (List Int)
  | [] => some []
  | .int .u8 n :: l => (numsOf l).map (n :: ·)
  | _ => none
def textOf (P : Program) (e : TypeId) (l : List V) : Option V :=
  match P.underlying e with
  | some (.int .u8) => (numsOf l).map fun xs => .str (xs.map fun n => UInt8.ofNat n.toNat)
  | _ => none
def convA (P : Program) (mem : List O) (src dst : TypeId) (x : V) : Option V :=
  match P.underlying src, P.underlying dst, x with
  | some _, some (.int k), .int _ n => some (.int k (k.wrap n))
  | some _, some .string, .str s => some (.str s)
  | some (.slice e), some .string, x => (elems mem x).bind (textOf P e)
  | some .string, some (.slice e), .str s =>
    match P.underlying e with
    | some (.int .u8) => some (.sl (bytesV s))
    | _ => none
  | _, _, _ => none

def boundOf (o : Option (Option V)) (d : Nat) : Option Nat :=
  match o with
  | none => some d
  | some (some (.int _ n)) => if 0 ≤ n then some n.toNat else none
  | some _ => none

/-- 'x[lo:hi]', at most up to the length -/
def sliceA (P : Program) (mem : List O) (t : TypeId) (x : V) (lo hi mx : Option (Option V)) : Option V :=
  match P.underlying t, x with
  | some .string, .str s =>
    if mx.isSome then none else
    (boundOf lo 0).bind fun l => (boundOf hi s.length).bind fun h => if l ≤ h ∧ h ≤ s.length then some (.str ((s.take h).drop l)) else none
  | some (.slice e), x =>
    (elems mem x).bind fun xs => (boundOf lo 0).bind fun l => (boundOf hi xs.length).bind fun h => (boundOf mx xs.length).bind fun m =>
      if 0 < P.cellsOf e ∧ l ≤ h ∧ h ≤ m ∧ m ≤ xs.length ∧ (mx.isSome = true → hi.isSome = true) ∧ xs.all (fun y => y.cells.length == P.cellsOf e) then
        match x with
        | .nilS => some .nilS
        | .sl xs => some (.sl ((xs.take h).drop l))
        | .own id =>
          match mem[id]? with
          | some (.row e' _ _) => if mx.isSome then none else if e' = e then some (if hi.isNone then .tail id l else .win id l (h - l)) else none
          | _ => none
        | .tail id off =>
          match mem[id]? with
          | some (.row e' _ _) => if mx.isSome then none else if e' = e then some (if hi.isNone then .tail id (off + l) else .win id (off + l) (h - l)) else none
          | _ => none
        | .win id off _ =>
          match mem[id]? with
          | some (.row e' _ _) => if mx.isSome then none else if e' = e then some (.win id (off + l) (h - l)) else none
          | _ => none
        | _ => none
      else none
  | _, _ => none

def fieldAddrA (P : Program) (s : TypeId) (x : V) (f : Nat) : Option V :=
  (fieldOf P s f).bind fun (o, t) => if P.cellsOf t = 0 then none else
    match x with
    | .ref y off => some (.ref y (off + o))
    | .ptr id k off => some (.ptr id k (off + o))
    | _ => none

def indexAddrA (P : Program) (mem : List O) (t : TypeId) (x i : V) : Option V :=
  match P.underlying t, i with
  | some (.slice e), .int _ n =>
    if 0 ≤ n then
      match x with
      | .sl l => (l[n.toNat]?).bind fun y => if y.cells.length = P.cellsOf e then some (.ref y 0) else none
      | .own id =>
        match mem[id]? with
        | some (.row e' els _) => if e' = e ∧ n.toNat < els.length then some (.ptr id n.toNat 0) else none
        | _ => none
      | .win id off len =>
        match mem[id]? with
        | some (.row e' els _) => if e' = e ∧ n.toNat < len ∧ off + len ≤ els.length then some (.ptr id (off + n.toNat) 0) else none
        | _ => none
      | .tail id off =>
        match mem[id]? with
        | some (.row e' els _) => if e' = e ∧ n.toNat < (els.drop off).length then some (.ptr id (off + n.toNat) 0) else none
        | _ => none
      | _ => none
    else none
  | some (.array len e), .int _ n =>
    if 0 ≤ n ∧ n.toNat < len ∧ 0 < P.cellsOf e then
      match x with
      | .ref y off => some (.ref y (off + n.toNat * P.cellsOf e))
      | .ptr id k off => some (.ptr id k (off + n.toNat * P.cellsOf e))
      | _ => none
    else none
  | _, _ => none

def partA (P : Program) (t : TypeId) (cs : List V) (off : Nat) : Option V :=
  let ds := (cs.drop off).take (P.cellsOf t)
  if ds.length = P.cellsOf t then mkV P t ds else none

def indexA (P : Program) (t : TypeId) (x i : V) : Option V :=
  match P.underlying t, x, i with
  | some .string, .str s, .int _ n => if 0 ≤ n then (s[n.toNat]?).map fun b => .int .u8 (b.toNat : Int) else none
  | some (.array len e), .agg cs, .int _ n => if 0 ≤ n ∧ n.toNat < len then partA P e cs (n.toNat * P.cellsOf e) else none
  | _, _, _ => none

def fillA (place : Nat → Option (Nat × Nat)) : List V → List (Nat × V) → Option (List V)
  | cells, [] => some cells
  | cells, (i, v) :: rest =>
    (place i).bind fun (off, size) =>
      if v.cells.length = size ∧ off + size ≤ cells.length ∧ v.cells.all V.one then fillA place (cells.take off ++ v.cells ++ cells.drop (off + size)) rest else none

/-- where the parts of a struct, or of an array, lie, and how many cells each one takes -/
def placesOf (P : Program) (t : TypeId) : Option (List (Nat × Nat)) :=
  match P.underlying t with
  | some (.struct fs) => if fs.toList.all (fun f => decide (0 < P.cellsOf f.type)) then some (fs.toList.map fun f => (f.offset, P.cellsOf f.type)) else none
  | some (.array n e) => if 0 < P.cellsOf e then some ((List.range n).map fun i => (i * P.cellsOf e, P.cellsOf e)) else none
  | _ => none

def buildA (P : Program) (t : TypeId) (parts : List (Nat × V)) : Option V :=
  match zeroV P t with
  | some (.agg zs) => (placesOf P t).bind fun pl => (fillA (fun i => pl[i]?) zs parts).map .agg
  | _ => none

/-- the elements of a literal: each one written out, in order -/
def litEls : Nat → List (Nat × V) → Option (List V)
  | _, [] => some []
  | k, (i, v) :: rest => if i = k then (immX v).bind fun x => (litEls (k + 1) rest).map (x :: ·) else none

def lenA (P : Program) (mem : List O) (t : TypeId) (x : V) : Option V :=
  match P.underlying t, x with
  | some .string, .str s => some (.int .i64 (s.length : Int))
  | some (.array n _), _ => some (.int .i64 (n : Int))
  | some (.slice _), x => (elems mem x).map fun l => .int .i64 (l.length : Int)
  | some (.map _ _), .mp id =>
    match mem[id]? with
    | some (.map es) => some (.int .i64 (es.length : Int))
    | _ => none
  | _, _ => none

def min2 : V → V → Option V
  | .int k a, .int k' b => if k = k' then some (.int k (if b < a then b else a)) else none
  | _, _ => none
def max2 : V → V → Option V
  | .int k a, .int k' b => if k = k' then some (.int k (if a < b then b else a)) else none
  | _, _ => none
def foldO (f : V → V → Option V) : V → List V → Option V
  | x, [] => some x
  | x, y :: ys => (f x y).bind fun z => foldO f z ys

def mapFind : List (V × V) → V → Option (Option V)
  | [], _ => some none
  | (a, x) :: es, k => (eq1 k a).bind fun b => if b then some (some x) else mapFind es k
def mapPut : List (V × V) → V → V → Option (List (V × V))
  | [], k, x => some [(k, x)]
  | (a, y) :: es, k, x => (eq1 k a).bind fun b => if b then some ((a, x) :: es) else (mapPut es k x).map ((a, y) :: ·)
def mapDel : List (V × V) → V → Option (List (V × V))
  | [], _ => some []
  | (a, y) :: es, k => (eq1 k a).bind fun b => if b then some es else (mapDel es k).map ((a, y) :: ·)

/-- keys that are whole numbers or texts -/
def mapKey (P : Program) (t : TypeId) : Option TypeId :=
  match P.underlying t with
  | some (.map k e) =>
    match P.underlying k with
    | some (.int _) | some .string => some e
    | _ => none
  | _ => none
def keyFits (P : Program) (t : TypeId) : V → Bool
  | .int k _ => match P.underlying t with | some (.map kt _) => (match P.underlying kt with | some (.int k') => k == k' | _ => false) | _ => false
  | .str _ => match P.underlying t with | some (.map kt _) => (match P.underlying kt with | some .string => true | _ => false) | _ => false
  | _ => false

/-- Which functions are run over what they are handed alone ('pure'), of which ones a slice handed back becomes a row ('adopt'), and which ones are known by a law of their own. -/
structure Cfg where
  P : Program
  pure : FuncId → Bool
  adopt : FuncId → Bool
  pprim : FuncId → Option (List V → Option V)
  iprim : FuncId → Option (List V → List O → Option (V × List O))
  rxf : FuncId → Nat → Bool := fun _ _ => false
  seqp : FuncId → Option (List TypeId × (List V → Option (List (List V)))) := fun _ => none

structure CallF where
  pc : FuncId → List V → Option V
  ic : FuncId → List V → List O → Option (V × List O)

def lenB (P : Program) (mem : List O) : List TypeId → List V → Option (V × List O)
  | t :: _, x :: _ => (lenA P mem t x).map fun v => (v, mem)
  | _, _ => none
def appendB (P : Program) (mem : List O) : List TypeId → List V → Option (V × List O)
  | [t, t'], [s, x] => if appTy P t t' x then appendM P mem t s x else none
  | _, _ => none
def copyB (P : Program) (mem : List O) : List TypeId → List V → Option (V × List O)
  | [t, t'], [s, x] => if appTy P t t' x then copyM P mem t s x else none
  | _, _ => none
def foldB (f : V → V → Option V) (mem : List O) : List V → Option (V × List O)
  | x :: xs => (foldO f x xs).map fun v => (v, mem)
  | _ => none
def deleteB (P : Program) (mem : List O) : List TypeId → List V → Option (V × List O)
  | t :: _, [.mp id, k] =>
    match mem[id]? with
    | some (.map es) => if keyFits P t k then (mapDel es k).map fun es => (.tup [], mem.set id (.map es)) else none
    | _ => none
  | _, _ => none
def builtinA (P : Program) (b : Builtin) (mem : List O) (ts : List TypeId) (args : List V) : Option (V × List O) :=
  match b with
  | .len => lenB P mem ts args
  | .append => appendB P mem ts args
  | .copy => copyB P mem ts args
  | .min => foldB min2 mem args
  | .max => foldB max2 mem args
  | .delete => deleteB P mem ts args
  | _ => none

def freezeAll : List Nat → List O → List O
  | [], mem => mem
  | i :: is, mem => freezeAll is (freeze mem i)

/-- a function with a body -/
def fnOk (P : Program) (f : FuncId) : Bool :=
  match P.funcs[f]? with
  | some fn => fn.body.isSome && fn.name != "runtime.NumGoroutine"
  | none => false

def callA (cfg : Cfg) (call : CallF) (dr : Bool) (f : FuncId) (args : List V) (mem : List O) : Option (V × List O) :=
  if !fnOk cfg.P f then none else
  if cfg.pure f then
    (mapO (snap3 mem) args).bind fun as => (call.pc f as).bind fun r =>
      let ids := args.flatMap (ids3 mem)
      if leadsT r then
        if dr && !ids.isEmpty then none else some (takeT (cfg.adopt f && !dr) (freezeAll ids mem) r)
      else some (takeT (cfg.adopt f && !dr) mem r)
  else if dr then none else call.ic f args mem

def isAl : Op → Bool
  | .alloc .. => true
  | _ => false
def isLoad : Op → Bool
  | .load .. => true
  | _ => false
def isCV : Op → Bool
  | .call c => match c.callee with
    | .value _ => true
    | _ => false
  | _ => false
def isBS : Op → Bool
  | .buildSlice .. => true
  | _ => false
/-- a call of what works on memory, its place not told: it is run over what its arguments lead to alone -/
def frOp (cfg : Cfg) (o : OpA) : Bool :=
  o.bx && (match o.op with
    | .call c => match c.callee with
      | .value (.func f) => !cfg.pure f
      | _ => false
    | _ => false)
def ptrId : V → List Nat
  | .ptr id _ _ => [id]
  | _ => []
def keepFrom (S : List Nat) : Nat → List O → List O
  | _, [] => []
  | i, o :: l => cond (S.contains i) o .dead :: keepFrom S (i + 1) l
def keepOnly (S : List Nat) (mem : List O) : List O := keepFrom S 0 mem
/-- mem, with what of S is in m -/
def backFrom (S : List Nat) : Nat → List O → List O → List O
  | _, [], m => m
  | _, _ :: _, [] => []
  | i, o :: l, p :: m => cond (S.contains i) p o :: backFrom S (i + 1) l m
def putBack (S : List Nat) (mem m : List O) : List O := backFrom S 0 mem m
def framedA (call : CallF) (f : FuncId) (args : List V) (mem : List O) : Option (V × List O) :=
  (call.ic f args (keepOnly (args.flatMap ptrId) mem)).bind fun r => if mem.length ≤ r.2.length then some (r.1, putBack (args.flatMap ptrId) mem r.2) else none

/-- is an operation run as one whose place is not told? -/
def drO (dr : Bool) (o : OpA) : Bool := dr && !(isCV o.op && (o.sq || o.bx))

/-- does a pointer lead to what no new row changes? -/
def boxy (mem : List O) : V → Bool
  | .ref _ _ => true
  | .ptr id _ _ => match mem[id]? with | some (.box _ _ _) => true | _ => false
  | _ => false
def solid : V → Bool
  | .ref _ _ | .ptr _ _ _ => true
  | _ => false

def ren0 (ρ : Nat → Option Nat) : V → V
  | .own id => match ρ id with | some i => .own i | none => .junk
  | .win id a b => match ρ id with | some i => .win i a b | none => .junk
  | .tail id a => match ρ id with | some i => .tail i a | none => .junk
  | .ptr id a b => match ρ id with | some i => .ptr i a b | none => .junk
  | .mp id => match ρ id with | some i => .mp i | none => .junk
  | .bool b => .bool b
  | .int k n => .int k n
  | .str s => .str s
  | .nilS => .nilS
  | .sl l => .sl l
  | .lit t l => .lit t l
  | .rest t l => .rest t l
  | .ref x o => .ref x o
  | .nilP => .nilP
  | .nilF => .nilF
  | .fn f caps => if caps.isEmpty then .fn f [] else .junk
  | .tup vs => if vs.isEmpty then .tup [] else .junk
  | _ => .junk
def ren1 (ρ : Nat → Option Nat) : V → V
  | .fn f caps => .fn f (caps.map (ren0 ρ))
  | v => ren0 ρ v
def ren2 (ρ : Nat → Option Nat) : V → V
  | .agg cs => .agg (cs.map (ren1 ρ))
  | .tup cs => .tup (cs.map (ren1 ρ))
  | .fn f caps => .fn f (caps.map (ren1 ρ))
  | v => ren1 ρ v
/-- does what is done with it look at no memory that can change? -/
def noMem : V → Bool
  | .str _ | .sl _ | .nilS | .lit _ _ | .ref _ _ | .ptr _ _ _ => true
  | _ => false
def isLitV : V → Bool
  | .lit _ _ => true
  | _ => false
/-- a builtin whose place is not told: of what never changes alone -/
def bxArgs : Builtin → List V → Bool
  | .len, x :: _ => noMem x
  | .append, [s, x] => isLitV s && noMem x
  | _, _ => false
/-- without what leads into the memory -/
def memless (env : List V) : List V := env.map (ren2 fun _ => none)

def opA (cfg : Cfg) (call : CallF) (dr : Bool) (o : OpA) (env : List V) (mem : List O) : Option (V × List O) :=
  let P := cfg.P
  let ρ := evalO env
  match o.op with
  | .move x => (ρ x).map fun v => (v, mem)
  | .assign x => (ρ x).bind fun v =>
      match v with
      | .nilS => if dr then some (v, mem) else
        match elemOf P o.type with
        | some e => if roomy P e 0 then some (newRow mem e [] 0) else some (v, mem)
        | none => some (v, mem)
      | v => some (v, mem)
  | .pick c a b => (ρ c).bind fun c => (ρ a).bind fun a => (ρ b).bind fun b => match c with | .bool t => some (if t then a else b, mem) | _ => none
  | .alloc t => (zeroV P t).bind fun z => if z.cells.length = P.cellsOf t ∧ z.cells.all V.one then (if o.bx then some (.junk, mem) else some (newBox P mem t z)) else none
  | .box t x => (ρ x).bind fun v => if o.bx && P.cellsOf t == 0 then none else if v.cells.length = P.cellsOf t ∧ v.cells.all V.one then some (newBox P mem t v) else none
  | .build t parts => (mapO (partO env) parts.toList).bind fun ps => (buildA P t ps).map fun v => (v, mem)
  | .buildSlice t len parts => (mapO (partO env) parts.toList).bind fun ps =>
      (elemOf P t).bind fun e => (litEls 0 ps).bind fun els =>
        if els.length = len ∧ roomy P e len ∧ len * P.cellsOf e ≤ 16777216 ∧ els.all (fun y => y.cells.length == P.cellsOf e && y.cells.all V.one) then (if o.bx then some (.lit e els, mem) else some (newRow mem e els 0)) else none
  | .load t a => (ρ a).bind fun p => if o.bx && !boxy mem p then none else (loadM P mem t p).map fun v => (v, mem)
  | .nilCheck x => (ρ x).bind fun v => if solid v then some (v, mem) else none
  | .store t a x => (ρ a).bind fun p => (ρ x).bind fun v => (storeM P mem t p v).map fun m => (.tup [], m)
  | .binOp op t x y _ => (ρ x).bind fun a => (ρ y).bind fun b => (binA P op t a b).map fun v => (v, mem)
  | .unOp op _ x => (ρ x).bind fun a => (unA op a).map fun v => (v, mem)
  | .convert s d x => (ρ x).bind fun a => (convA P (if dr then [] else mem) s d a).map fun v => (v, mem)
  | .makeFunc (.func f) first caps => if first.isEmpty then (mapO ρ caps.toList).map fun cs => (.fn f cs, mem) else none
  | .slice t x lo hi mx => (ρ x).bind fun a => if o.bx && !noMem a then none else (sliceA P mem t a (lo.map ρ) (hi.map ρ) (mx.map ρ)).map fun v => (v, mem)
  | .fieldAddr s x f => (ρ x).bind fun a => (fieldAddrA P s a f).map fun v => (v, mem)
  | .field s x f => (ρ x).bind fun a => match a with | .agg cs => (fieldOf P s f).bind fun (off, t) => (partA P t cs off).map fun v => (v, mem) | _ => none
  | .indexAddr t x i => (ρ x).bind fun a => (ρ i).bind fun b => if o.bx && !noMem a then none else (indexAddrA P mem t a b).map fun v => (v, mem)
  | .index t x i => (ρ x).bind fun a => (ρ i).bind fun b => (indexA P t a b).map fun v => (v, mem)
  | .extract t i => (ρ t).bind fun a => match a with | .tup vs => (vs[i]?).map fun v => (v, mem) | _ => none
  | .makeSlice t n c => (ρ n).bind fun a => (ρ c).bind fun b => makeM P mem t a b
  | .makeMap t none => if (mapKey P t).isSome then some (.mp mem.length, mem ++ [.map []]) else none
  | .lookup t m k ok => (ρ m).bind fun m => (ρ k).bind fun k =>
      match m with
      | .mp id =>
        match mem[id]? with
        | some (.map es) => if keyFits P t k then
            (mapKey P t).bind fun e => (zeroV P e).bind fun z => (mapFind es k).map fun r =>
              (if ok then .tup [r.getD z, .bool r.isSome] else r.getD z, mem)
          else none
        | _ => none
      | _ => none
  | .mapUpdate t m k x => (ρ m).bind fun m => (ρ k).bind fun k => (ρ x).bind fun x =>
      match m with
      | .mp id =>
        match mem[id]? with
        | some (.map es) => if keyFits P t k ∧ x.flat1 then (mapPut es k x).map fun es => (.tup [], mem.set id (.map es)) else none
        | _ => none
      | _ => none
  | .call c =>
    match c.callee with
    | .builtin b => (mapO ρ c.args.toList).bind fun args => if o.bx && !bxArgs b args then none else builtinA P b mem c.argTypes.toList args
    | .value f => (ρ f).bind fun fv => (mapO ρ c.args.toList).bind fun args =>
        match fv with
        | .fn f caps => if o.bx && !cfg.pure f then (if frOp cfg o && fnOk P f then framedA call f (args ++ caps) mem else none) else callA cfg call dr f (args ++ caps) mem
        | _ => none
    | _ => none
  | _ => none

/-- an operation; 'rx': over no memory at all -/
def opX (cfg : Cfg) (call : CallF) (dr : Bool) (o : OpA) (env : List V) (mem : List O) : Option (V × List O) :=
  if o.rx then (opA cfg call true o (memless env) []).bind fun r => match r.2 with | [] => some (r.1, mem) | _ => none
  else opA cfg call dr o env mem

def wantedA (env : List V) : Option (Nat × Bool) → Option Bool
  | none => some true
  | some (t, want) =>
    match env[t]? with
    | some (.bool b) => some (b == want)
    | some (.tup []) => some false
    | _ => none

def setO (env : List V) : Option Nat → V → List V
  | none, _ => env
  | some d, v => env.set d v

def opsA (cfg : Cfg) (call : CallF) (dr : Bool) : List OpA → S → Option S
  | [], s => some s
  | o :: rest, s =>
    (wantedA s.env o.guard).bind fun w =>
      if w then (opX cfg call (drO dr o) o s.env s.mem).bind fun (v, m) => opsA cfg call dr rest ⟨setO s.env o.dst v, m⟩
      else opsA cfg call dr rest ⟨setO s.env o.dst (.tup []), s.mem⟩

/-! ### forgetting, and putting the memory in order -/

def forget (env : List V) : List Nat → List V
  | [] => env
  | t :: ts => forget (env.set t .junk) ts

def refs0 : V → List Nat
  | .own id | .win id _ _ | .tail id _ | .ptr id _ _ | .mp id => [id]
  | _ => []
def refs1 : V → List Nat
  | .fn _ caps => caps.flatMap refs0
  | v => refs0 v
def refs2 : V → List Nat
  | .agg cs | .tup cs => cs.flatMap refs1
  | .fn _ caps => caps.flatMap refs1
  | v => refs1 v
def addIds (n0 : Nat) : List Nat → List Nat → List Nat
  | acc, [] => acc
  | acc, i :: is => addIds n0 (if i < n0 || acc.contains i then acc else acc ++ [i]) is
def refsO (mem : List O) (id : Nat) : List Nat :=
  match mem[id]? with
  | some (.box _ v _) => refs2 v
  | _ => []
def reach (n0 : Nat) (mem : List O) : Nat → List Nat → List Nat
  | 0, acc => acc
  | k + 1, acc =>
    let acc' := addIds n0 acc (acc.flatMap (refsO mem))
    if acc'.length = acc.length then acc else reach n0 mem k acc'

def renO (ρ : Nat → Option Nat) : O → O
  | .box t v fz => if (ren2 ρ v).cells.all V.one then .box t (ren2 ρ v) fz else .dead
  | o => o

def idxO (i : Nat) : List Nat → Option Nat
  | [] => none
  | x :: xs => if x = i then some 0 else (idxO i xs).map fun k => k + 1
def rhoOf (n0 : Nat) (ids : List Nat) (i : Nat) : Option Nat :=
  if i < n0 then some i else (idxO i ids).map fun k => n0 + k

/-- Only what the frame still leads to is kept, in the order in which the frame names it; the first n0 objects stay. -/
def idsOf (n0 : Nat) (s : S) : List Nat :=
  reach n0 s.mem s.mem.length (addIds n0 [] (s.env.flatMap refs2 ++ (List.range n0).flatMap fun i => refsO s.mem i))
def tidyWith (n0 : Nat) (ids : List Nat) (s : S) : S :=
  ⟨s.env.map (ren2 (rhoOf n0 ids)), (s.mem.take n0).map (renO (rhoOf n0 ids)) ++ ids.map fun i => renO (rhoOf n0 ids) ((s.mem[i]?).getD .dead)⟩
def tidy (n0 : Nat) (s : S) : S := tidyWith (min n0 s.mem.length) (idsOf (min n0 s.mem.length) s) s

def clean (n0 : Nat) (f : List Nat) (s : S) : S := tidy n0 ⟨forget s.env f, s.mem⟩

/-! ### code -/

def iter (step : S → Option (Ex × S)) : Nat → S → Option (Ex × S)
  | 0, _ => none
  | n + 1, s => (step s).bind fun r =>
    match r with
    | (.norm, s') => iter step n s'
    | (.exit i, s') => some (.exit i, s')
    | (.ret, s') => some (.ret, s')

def setPs : List V → List Nat → List V → List V
  | env, p :: ps, v :: vs => setPs (env.set p v) ps vs
  | env, _, _ => env
/-- a range over a function begins: what it reads is frozen, what it will tell is known -/
def startA (cfg : Cfg) (g : Nat) (s : S) : Option S :=
  match s.env[g]? with
  | some (.fn f caps) => (cfg.seqp f).bind fun th => (mapO (snap2 s.mem) caps).bind fun as => (th.2 as).map fun l =>
      ⟨s.env.set g (.rest th.1 (l.map .tup)), freezeAll (caps.flatMap (ids2 s.mem)) s.mem⟩
  | _ => none

/-- the slots that an operation looks at -/
def looksA (o : OpA) : List Nat :=
  (o.op.operands.toList.filterMap fun | .tmp t => some t | _ => none) ++ (match o.guard with | some (t, _) => [t] | none => [])
/-- a load only from what stays -/
def bxl (o : OpA) : Bool := !o.rx && o.bx && isLoad o.op
def isSt : Op → Bool
  | .store .. => true
  | _ => false
def frx (cfg : Cfg) (o : OpA) : Bool := !o.rx && (frOp cfg o || (o.bx && isSt o.op))
def ssaAll (cfg : Cfg) : List OpA → Bool
  | [] => true
  | o :: rest => (!(bxl o || frx cfg o) || (looksA o).all fun t => o.dst != some t && rest.all fun q => q.dst != some t) && ssaAll cfg rest
def idsAt (env : List V) (x : Operand) : List Nat := match evalO env x with | some v => ptrId v | none => []
def readsAt (env : List V) (o : OpA) : List Nat :=
  match o.op with
  | .load _ a => idsAt env a
  | _ => []
def framesAt (env : List V) (o : OpA) : List Nat :=
  match o.op with
  | .call c => c.args.toList.flatMap (idsAt env)
  | .store _ a _ => idsAt env a
  | _ => []
/-- what calls whose place is not told work on, and what is read beside them, are different boxes -/
def frameChk (cfg : Cfg) (l : List OpA) (env : List V) : Bool :=
  (l.all fun o => !(o.bx && isAl o.op) || Nat.blt (o.dst.getD env.length) env.length) &&
  (!(l.any (frx cfg)) || (ssaAll cfg l && l.all fun c => !frx cfg c || l.all fun o => !bxl o || (readsAt env o).all fun i => !(framesAt env c).contains i))

def exec (cfg : Cfg) (call : CallF) (n n0 : Nat) : C → S → Option (Ex × S)
  | .skip, s => some (.norm, s)
  | .ops dr l, s => (opsA cfg call dr l s).bind fun s => if !dr || frameChk cfg l s.env then some (.norm, s) else none
  | .seq a b, s => (exec cfg call n n0 a s).bind fun r =>
      match r with
      | (.norm, s') => exec cfg call n n0 b s'
      | (.exit i, s') => some (.exit i, s')
      | (.ret, s') => some (.ret, s')
  | .cond c a b, s => (evalO s.env c).bind fun v =>
      match v with
      | .bool t => if t then exec cfg call n n0 a s else exec cfg call n n0 b s
      | _ => none
  | .block id c, s => (exec cfg call n n0 c s).map fun r =>
      match r with
      | (.norm, s') => (.norm, s')
      | (.exit i, s') => if i = id then (.norm, s') else (.exit i, s')
      | (.ret, s') => (.ret, s')
  | .loop f c, s => (iter (fun s => exec cfg call n n0 c (clean n0 f s)) n s).map fun r => (r.1, clean n0 f r.2)
  | .exit i, s => some (.exit i, s)
  | .ret, s => some (.ret, s)
  | .start g, s => (startA cfg g s).map fun s => (.norm, s)
  | .uncons g ps ws a b, s =>
    match s.env[g]? with
    | some (.rest _ []) => exec cfg call n n0 b s
    | some (.rest ts (.tup vs :: l)) =>
      if vs.length = ps.length then (exec cfg call n n0 a ⟨setPs (s.env.set g .junk) ps vs, s.mem⟩).map fun r => (r.1, ⟨(forget r.2.env ws).set g (.rest ts l), r.2.mem⟩) else none
    | _ => none
  | .cseq f a b, s => (exec cfg call n n0 a s).bind fun r =>
      match r with
      | (.norm, s') => exec cfg call n n0 b (clean n0 f s')
      | (.exit i, s') => some (.exit i, s')
      | (.ret, s') => some (.ret, s')

def resV (P : Program) (s : S) : RV → Option V
  | .tmp t => s.env[t]?
  | .cell t ty => (s.env[t]?).bind fun p => loadM P s.mem ty p

/-- A function's body, run. -/
def runF (cfg : Cfg) (call : CallF) (n : Nat) (fa : FA) (args : List V) (mem : List O) : Option (List V × List O) :=
  if args.length = fa.np ∧ fa.np ≤ fa.nt then
    (exec cfg call n mem.length fa.body ⟨args ++ List.replicate (fa.nt - fa.np) (.tup []), mem⟩).bind fun r =>
      match r with
      | (.exit _, _) => none
      | (_, s) => (mapO (resV cfg.P s) fa.results).map fun vs => (vs, s.mem)
  else none

/-! ### from the model's code -/

/-- which operations come before which: of each operation the numbers of those behind which it must come -/
def ancs : List Oper → List (List Nat) → List (List Nat)
  | [], acc => acc
  | o :: rest, acc => ancs rest (acc ++ [(o.after.toList.flatMap fun e => if Region.binds .any e then e.on :: acc.getD e.on [] else []).eraseDups])

def readsM : Op → Bool
  | .load .. | .indexAddr .. | .slice .. | .lookup .. => true
  | .call c => match c.callee with
    | .builtin .min | .builtin .max => false
    | _ => true
  | _ => false
/-- what can be told to look at nothing that changes -/
def bxi : Op → Bool
  | .indexAddr .. | .slice .. => true
  | .call c => match c.callee with
    | .builtin .len | .builtin .append => true
    | _ => false
  | _ => false
def isApp : Op → Bool
  | .call c => match c.callee with
    | .builtin .append => true
    | _ => false
  | _ => false
def writesM : Op → Bool
  | .store .. | .alloc _ | .box .. | .buildSlice .. | .makeSlice .. | .makeMap .. | .mapUpdate .. => true
  | .call c => match c.callee with
    | .builtin .len | .builtin .min | .builtin .max => false
    | .builtin _ => true
    | _ => false
  | _ => false

/-- what only makes something new (a row that grows is a new one, the old one dead) -/
def pusher : Op → Bool
  | .alloc _ | .box .. | .buildSlice .. | .makeSlice .. => true
  | .call c => match c.callee with
    | .builtin .append => true
    | _ => false
  | _ => false

def wrA (o : OpA) : Bool := !o.rx && ((writesM o.op && !(o.bx && (isBS o.op || isApp o.op || isAl o.op))) || (isCV o.op && (o.sq || o.bx)))
def rdA (o : OpA) : Bool := !o.rx && readsM o.op && !(o.bx && bxi o.op)
def pushA (o : OpA) : Bool := !o.rx && (pusher o.op || (isCV o.op && o.bx && !o.sq) || (isSt o.op && o.bx))
def dclash (a b : OpA) : Bool :=
  (match a.dst with | some d => (looksA b).contains d || b.dst == some d | none => false) ||
  (match b.dst with | some d => (looksA a).contains d | none => false)
def mclash (a b : OpA) : Bool := (wrA a && (rdA b || wrA b)) || (rdA a && wrA b)
def spare (a b : OpA) : Bool := (pushA a && bxl b) || (bxl a && pushA b)
def clash (a b : OpA) : Bool := dclash a b || (mclash a b && !spare a b)

/-- who writes a slot -/
def writers (l : List OpA) (d : Nat) : List Nat := (List.range l.length).filter fun i => (l[i]?).bind (·.dst) == some d
/-- each box that is filled later was made ahead, by who else writes its slot alone -/
def lazyOk (l : List OpA) : Bool :=
  (List.range l.length).all fun m =>
    match l[m]? with
    | some ⟨dst, .box T _, _, g, true, _, rx⟩ =>
      match dst with
      | some d => g.isNone && !rx &&
        match writers l d with
        | [k, m'] => m' == m && (match l[k]? with
          | some ⟨_, .alloc T', _, g', bx', _, rx'⟩ => T' == T && g'.isNone && bx' && !rx'
          | _ => false)
        | _ => false
      | none => false
    | _ => true
def drawOk (ops : Array Oper) (l : List OpA) : Bool :=
  let b := ancs ops.toList []
  lazyOk l &&
  (ops.toList.zipIdx.all fun x => x.1.after.toList.all fun e => !Region.binds .any e || decide (e.on < x.2)) &&
  (List.range l.length).all fun j => (List.range j).all fun i =>
    match l[i]?, l[j]? with
    | some oi, some oj => !clash oi oj || (b.getD j []).contains i
    | _, _ => true

def prepOp (ops : Array Oper) (o : Oper) : Option OpA :=
  match o.guard with
  | none => some ⟨o.dst, o.op, o.type, none, false, false, false⟩
  | some (j, want) => ((ops[j]?).bind (·.dst)).map fun d => ⟨o.dst, o.op, o.type, some (d, want), false, false, false⟩

def flagAll : List OpA → List (Bool × Bool × Bool) → List OpA
  | q :: qs, x :: xs => ⟨q.dst, q.op, q.type, q.guard, x.1 || q.bx, x.2.1, x.2.2⟩ :: flagAll qs xs
  | qs, _ => qs
/-- a box that is made, and filled at one later place alone: it is made there -/
def lazyAt (l : List OpA) (d T : Nat) : Bool :=
  (match l.filter fun o => o.dst == some d with
    | [a] => a.guard.isNone && (match a.op with | .alloc T' => T' == T | _ => false)
    | _ => false) &&
  (match l.filter fun o => (looksA o).contains d with
    | [s] => s.guard.isNone && s.dst.isNone && (match s.op with | .store T' (.tmp d') y => T' == T && d' == d && (match y with | .tmp e => e != d | _ => true) | _ => false)
    | _ => false)
def lazyO (l : List OpA) (o : OpA) : OpA :=
  match o.op with
  | .alloc T => match o.dst with
    | some d => cond (lazyAt l d T) ⟨some d, .alloc T, o.type, o.guard, true, o.sq, o.rx⟩ o
    | none => o
  | .store T (.tmp d) y => cond (lazyAt l d T && o.guard.isNone && o.dst.isNone) ⟨some d, .box T y, o.type, none, true, o.sq, o.rx⟩ o
  | _ => o
def lazyL (l : List OpA) : List OpA := l.map (lazyO l)
def memOp (o : OpA) : Bool := !(o.bx && isAl o.op) && (readsM o.op || writesM o.op)
def wrOp (o : OpA) : Bool := !(o.bx && isAl o.op) && writesM o.op
/-- may be carried out over no memory -/
def rxAble (o : Op) : Bool :=
  match o with
  | .load .. | .indexAddr .. | .slice .. => true
  | .call c => match c.callee with
    | .builtin .len => true
    | _ => false
  | _ => false
def cmp (b : List (List Nat)) (x y : Nat) : Bool := x == y || (b.getD y []).contains x || (b.getD x []).contains y
def flags (m : Nat) (l : List OpA) (b : List (List Nat)) : List (Bool × Bool × Bool) :=
  l.zipIdx.map fun x =>
    let rx := m == 2 && rxAble x.1.op && l.zipIdx.any fun y => (isCV y.1.op || wrOp y.1) && !cmp b x.2 y.2
    let sq := isCV x.1.op && l.zipIdx.all fun y => !memOp y.1 || ((m == 1 || m == 4) && isBS y.1.op) || (m == 4 && bxi y.1.op) || cmp b x.2 y.2 || (m == 2 && rxAble y.1.op)
    let st := (m == 1 || m == 3 || m == 4) && isSt x.1.op && l.zipIdx.any fun y => isLoad y.1.op && !cmp b x.2 y.2
    if m == 4 then
      let inc := l.zipIdx.any fun y => (isCV y.1.op || wrOp y.1) && !cmp b x.2 y.2
      (isLoad x.1.op || isBS x.1.op || (bxi x.1.op && inc) || st || (isCV x.1.op && !sq), sq, false)
    else if m == 3 then
      let inc := l.zipIdx.any fun y => (isCV y.1.op || wrOp y.1) && !cmp b x.2 y.2
      (isLoad x.1.op || isBS x.1.op || (bxi x.1.op && inc) || st, false, isCV x.1.op && inc)
    else (st || m == 1 && (isLoad x.1.op || isBS x.1.op || (isCV x.1.op && !sq)), sq, rx)

/-! which slots a piece of code, and what comes behind it, may still look at -/

def union (a b : List Nat) : List Nat := a.foldr (fun t acc => if acc.contains t then acc else t :: acc) b
def liveOp (o : OpA) (out : List Nat) : List Nat :=
  let rs := (o.op.operands.toList.filterMap fun | .tmp t => some t | _ => none) ++ (match o.guard with | some (t, _) => [t] | none => [])
  union rs (match o.dst with | some d => out.filter (fun t => !(t == d)) | none => out)
def liveEnv (i : Nat) : List (Nat × List Nat) → List Nat
  | [] => []
  | (j, l) :: r => if i = j then l else liveEnv i r
def live (res : List Nat) : List (Nat × List Nat) → C → List Nat → List Nat
  | _, .skip, out => out
  | _, .ops _ l, out => l.foldr liveOp out
  | env, .seq a b, out => live res env a (live res env b out)
  | env, .cond c a b, out => union (match c with | .tmp t => [t] | _ => []) (union (live res env a out) (live res env b out))
  | env, .block i c, out => live res ((i, out) :: env) c out
  | env, .loop _ c, _ => live res env c []
  | env, .exit i, _ => liveEnv i env
  | _, .ret, _ => res
  | _, .start g, out => union [g] out
  | env, .uncons g ps _ a b, out => union [g] (union ((live res env a out).filter fun t => !ps.contains t) (live res env b out))
  | env, .cseq _ a b, out => live res env a (live res env b out)
def isStart : C → Bool
  | .start _ => true
  | _ => false
/-- the first slot that is written -/
def headD : C → Option Nat
  | .ops _ l => l.findSome? (·.dst)
  | .seq a _ => headD a
  | _ => none
/-- is what was there ahead of it forgotten? (told by its first slot) -/
def cutAt (pr : Nat → Bool) (b : C) : Bool :=
  match headD b with
  | some d => pr (2000000 + d)
  | none => false
/-- at each loop: the slots that nothing looks at any more -/
def setF (pr : Nat → Bool) (nt : Nat) (res : List Nat) : List (Nat × List Nat) → C → List Nat → C
  | env, .seq a b, out => cond (cutAt pr b && !isStart a)
      (.cseq ((List.range nt).filter fun t => !(union (live res env b out) (union res (env.flatMap (·.2)))).contains t) (setF pr nt res env a (live res env b out)) (setF pr nt res env b out))
      (.seq (setF pr nt res env a (live res env b out)) (setF pr nt res env b out))
  | env, .cond c a b, out => .cond c (setF pr nt res env a out) (setF pr nt res env b out)
  | env, .block i c, out => .block i (setF pr nt res ((i, out) :: env) c out)
  | env, .loop _ c, _ =>
    let h := live res env c []
    let keep := union h (union res (env.flatMap (·.2)))
    .loop ((List.range nt).filter fun t => !keep.contains t) (setF pr nt res env c h)
  | _, .skip, _ => .skip
  | _, .ops d l, _ => .ops d l
  | _, .exit i, _ => .exit i
  | _, .ret, _ => .ret
  | _, .start g, _ => .start g
  | _, .uncons g ps ws a b, _ => .uncons g ps ws a b
  | env, .cseq f a b, out => .cseq f (setF pr nt res env a (live res env b out)) (setF pr nt res env b out)
def bare : C → C
  | .seq a b => .seq (bare a) (bare b)
  | .cond c a b => .cond c (bare a) (bare b)
  | .block i c => .block i (bare c)
  | .loop _ c => .loop [] (bare c)
  | .skip => .skip
  | .ops d l => .ops d l
  | .exit i => .exit i
  | .ret => .ret
  | .start g => .start g
  | .uncons g ps ws a b => .uncons g ps ws a b
  | .cseq _ a b => .seq (cond (isStart a) (.uncons 0 [] [] (.start 0) .skip) (bare a)) (bare b)

/-- which slots a piece of code writes -/
def wrs : C → List Nat
  | .ops _ l => l.filterMap (·.dst)
  | .seq a b => wrs a ++ wrs b
  | .cond _ a b => wrs a ++ wrs b
  | .block _ c => wrs c
  | .loop _ c => wrs c
  | .uncons _ _ _ a b => wrs a ++ wrs b
  | .cseq _ a b => wrs a ++ wrs b
  | _ => []
/-- which blocks it can leave -/
def exits : C → List Nat
  | .seq a b => exits a ++ exits b
  | .cond _ a b => exits a ++ exits b
  | .block _ c => exits c
  | .loop _ c => exits c
  | .uncons _ _ _ a b => exits a ++ exits b
  | .cseq _ a b => exits a ++ exits b
  | .exit i => [i]
  | _ => []
/-- operations alone -/
def straight : C → Bool
  | .skip => true
  | .ops _ _ => true
  | .seq a b => straight a && straight b
  | _ => false
def hasStart : C → Bool
  | .start _ => true
  | .seq a b => hasStart a || hasStart b
  | .cond _ a b => hasStart a || hasStart b
  | .block _ c => hasStart c
  | .loop _ c => hasStart c
  | .uncons _ _ _ a b => hasStart a || hasStart b
  | .cseq _ a b => hasStart a || hasStart b
  | _ => false
/-- the block of a range over a function -/
def rgId (g : Nat) : Nat := 1000000 + g
def rangeC (g : Nat) (ps : List Nat) (pa pc : C) : Option C :=
  if straight pa && !hasStart pa && !hasStart pc && !(exits (.seq pa pc)).contains (rgId g) then
    some (.seq (.start g) (.block (rgId g) (.loop [] (.uncons g ps (ps ++ (wrs pa ++ wrs pc)) (.seq pa pc) (.exit (rgId g))))))
  else none

def tryD (ops : Array Oper) (l : List OpA) : List (Nat × Bool) → Option (List OpA)
  | [] => none
  | (m, lz) :: r =>
    let l0 := if lz then lazyL l else l
    let l1 := flagAll l0 (flags m l0 (ancs ops.toList []))
    if drawOk ops l1 then some l1 else tryD ops l r
/-- 'pr': in which lists of operations (told by the first one's slot) what can be carried out over no memory is so, first of all -/
def prep (pr : Nat → Bool) : Code → Option C
  | .skip => some .skip
  | .region _ ops draw => (mapO (prepOp ops) ops.toList).bind fun l =>
      if draw then (tryD ops l ((if pr (((ops[0]?).bind (·.dst)).getD 0) then [(2, false)] else []) ++ [(0, false), (1, false), (0, true), (1, true), (4, false), (4, true), (2, false), (3, false), (2, true), (3, true)])).map (.ops true)
      else some (.ops false l)
  | .seq a b => (prep pr a).bind fun a => (prep pr b).map fun b => .seq a b
  | .cond c a b => (prep pr a).bind fun a => (prep pr b).map fun b => .cond c a b
  | .block id c => (prep pr c).map (.block id)
  | .loop c => (prep pr c).map fun c => .loop [] c
  | .exit i => some (.exit i)
  | .ret => some .ret
  | .rangeFunc (.tmp g) ps a c => (prep pr a).bind fun pa => (prep pr c).bind fun pc => rangeC g ps.toList pa pc
  | _ => none

/-! ### a scope whose jumps all go back to a label -/

def gId (l : Nat) : Nat := 3000000 + 2 * l
def eId (l : Nat) : Nat := 3000001 + 2 * l
def isLab : Code → Option Nat
  | .label l => some l
  | _ => none
/-- the labels of a scope -/
def spineL : Code → List Nat
  | .seq a b => spineL a ++ spineL b
  | .label l => [l]
  | _ => []
/-- what a piece can leave that isn't caught within -/
def free : C → List Nat
  | .seq a b => free a ++ free b
  | .cond _ a b => free a ++ free b
  | .block id c => (free c).filter fun i => !(i == id)
  | .loop _ c => free c
  | .uncons _ _ _ a b => free a ++ free b
  | .cseq _ a b => free a ++ free b
  | .exit i => [i]
  | _ => []
/-- a scope's body: behind a label stands a loop, a jump leaves the block within it -/
def prepS (pr : Nat → Bool) : Code → Option C
  | .seq a b =>
    match isLab a with
    | some l => (prepS pr b).map fun cb => .block (eId l) (.loop [] (.block (gId l) (.seq cb (.exit (eId l)))))
    | none => if (spineL a).isEmpty then (prepS pr a).bind fun ca => (prepS pr b).map fun cb => .seq ca cb else none
  | .cond c a b => if (spineL a).isEmpty && (spineL b).isEmpty then (prepS pr a).bind fun ca => (prepS pr b).map fun cb => .cond c ca cb else none
  | .goto l => some (.exit (gId l))
  | c => (prep pr c).bind fun cc => if (exits cc).all fun i => Nat.blt i 3000000 then some cc else none
/-- no label twice; no jump leads out, or forth -/
def scOk (c : Code) (cc : C) : Bool := decide (spineL c).Nodup && (free cc).all fun i => Nat.blt i 3000000
def scOf : Code → Option (Code × Code)
  | .seq r (.scope c) => some (r, c)
  | _ => none
def prepF (pr : Nat → Bool) (c : Code) : Option C :=
  match scOf c with
  | some (r, c) => (prep pr r).bind fun cr => (prepS pr c).bind fun cs => if scOk c cs then some (.seq cr cs) else none
  | none => prep pr c

def toRV : ResultVar → RV
  | .tmp t => .tmp t
  | .cell t ty => .cell t ty

def fnA (P : Program) (pr : Nat → Bool) (f : FuncId) : Option FA :=
  match P.funcs[f]? with
  | some fn =>
    if fn.name == "runtime.NumGoroutine" then none else
    match fn.body with
    | some c => (prepF pr c).map fun b => ⟨fn.params.size + fn.nfree, fn.ntmps, fn.results.toList.map toRV, fn.resultTypes.toList, setF pr fn.ntmps (fn.results.toList.map fun r => match r with | .tmp t => t | .cell t _ => t) [] b []⟩
    | none => none
  | none => none

def pcN (cfg : Cfg) (call : CallF) (n : Nat) (f : FuncId) (as : List V) : Option V :=
  match cfg.pprim f with
  | some g => g as
  | none => (fnA cfg.P (cfg.rxf f) f).bind fun fa => (runF cfg call n fa as []).bind fun r => give cfg.P r.2 fa.rtypes r.1

def icN (cfg : Cfg) (call : CallF) (n : Nat) (f : FuncId) (as : List V) (mem : List O) : Option (V × List O) :=
  match cfg.iprim f with
  | some g => g as mem
  | none => (fnA cfg.P (cfg.rxf f) f).bind fun fa => (runF cfg call n fa as mem).map fun r => (tupV r.1, r.2)

/-- Calls, at most so deep. -/
def callN (cfg : Cfg) : Nat → CallF
  | 0 => ⟨fun _ _ => none, fun _ _ _ => none⟩
  | n + 1 => ⟨pcN cfg (callN cfg n) n, icN cfg (callN cfg n) n⟩

end Go.Lite
