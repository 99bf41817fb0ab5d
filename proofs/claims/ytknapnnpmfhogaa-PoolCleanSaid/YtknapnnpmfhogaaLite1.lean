/-
  An interpreter over plain data for the model's code: strings are lists of bytes, slices are lists, struct variables are boxes; definitions only.
-/
import Derived.WalkKit
namespace Go.Lite
inductive V where
  | junk
  | bool (b : Bool)
  | int (k : IntKind) (n : Int)
  | str (s : List UInt8)
  | agg (cs : List V)
  | tup (vs : List V)
  | nilS
  | sl (l : List V)
  | own (id : Nat)
  | win (id off len : Nat)
  | ref (x : V) (off : Nat)
  | ptr (id k off : Nat)
  | fn (f : FuncId) (caps : List V)
  | mp (id : Nat)
  | nilP
  | nilF
  | fr (t : TypeId) (els : List V)
  | lit (t : TypeId) (els : List V)
  | tail (id off : Nat)
  | rest (ts : List TypeId) (l : List V)
  | hp (t : TypeId) (k off : Nat)
  | hm (t : TypeId) (k : Nat)
  | nilM
instance : Inhabited V := ⟨.junk⟩
inductive O where
  | row (t : TypeId) (els : List V) (fz : Nat)
  | box (t : TypeId) (v : V) (fz : Bool)
  | map (es : List (V × V))
  | arena (t : TypeId) (els : List V)
  | marena (t : TypeId) (ms : List (List (V × V)))
  | dead
instance : Inhabited O := ⟨.dead⟩
def mapO {α β : Type} (f : α → Option β) : List α → Option (List β)
  | [] => some []
  | x :: xs => (f x).bind fun y => (mapO f xs).map fun ys => y :: ys
def V.cells : V → List V
  | .agg cs => cs
  | v => [v]
def V.one : V → Bool
  | .junk | .agg _ | .tup _ | .fr _ _ | .rest _ _ => false
  | _ => true
def V.flat1 : V → Bool
  | .bool _ | .int _ _ | .str _ => true
  | _ => false
def V.inMap : V → Bool
  | .bool _ | .int _ _ | .str _ | .hp _ _ _ | .hm _ _ => true
  | _ => false
mutual
def V.plain : V → Bool
  | .agg cs => plainL cs
  | .tup vs => plainL vs
  | .sl l => plainL l
  | .ref x _ => x.plain
  | .fn _ caps => plainL caps
  | .fr _ els => plainL els
  | .lit _ els => plainL els
  | .rest _ _ => false
  | .hp _ _ _ => false
  | .hm _ _ => false
  | _ => true
def plainL : List V → Bool
  | [] => true
  | v :: vs => v.plain && plainL vs
end
structure OpA where
  dst : Option Nat
  op : Op
  type : TypeId
  guard : Option (Nat × Bool)
  bx : Bool
  sq : Bool
  rx : Bool
inductive C where
  | skip
  | ops (draw : Bool) (l : List OpA)
  | seq (a b : C)
  | cond (c : Operand) (thn els : C)
  | block (id : Nat) (body : C)
  | loop (forget : List Nat) (body : C)
  | exit (id : Nat)
  | ret
  | start (g : Nat)
  | uncons (g : Nat) (ps ws : List Nat) (a b : C)
  | cseq (forget : List Nat) (a b : C)
inductive Ex where
  | norm
  | exit (id : Nat)
  | ret
structure S where
  env : List V
  mem : List O
inductive RV where
  | tmp (t : Nat)
  | cell (t : Nat) (ty : TypeId)
structure FA where
  np : Nat
  nt : Nat
  results : List RV
  rtypes : List TypeId
  body : C
def single : List V → Option V
  | [c] => some c
  | _ => none
def mkV (P : Program) (t : TypeId) (cs : List V) : Option V :=
  match P.underlying t with
  | some (.struct _) => some (.agg cs)
  | some (.array _ _) => some (.agg cs)
  | some _ => single cs
  | none => none
def fieldOf (P : Program) (s : TypeId) (f : Nat) : Option (Nat × TypeId) :=
  match P.underlying s with
  | some (.struct fs) => (fs[f]?).map fun x => (x.offset, x.type)
  | _ => none
def elemOf (P : Program) (t : TypeId) : Option TypeId :=
  match P.underlying t with
  | some (.slice e) => some e
  | _ => none
def constV : Value → Option V
  | .bool b => some (.bool b)
  | .int k n => some (.int k n)
  | .string s => some (.str s.data.toList)
  | .slice none 0 0 => some .nilS
  | .pointer none => some .nilP
  | .nilFunc => some .nilF
  | .map none => some .nilM
  | .tuple vs => if vs.isEmpty then some (.tup []) else none
  | _ => none
def zeroV (P : Program) (t : TypeId) : Option V :=
  match (P.info? t).bind (·.zero) with
  | some (.agg cs) => (mapO constV cs.toList).map .agg
  | some v => constV v
  | none => none
def evalO (env : List V) : Operand → Option V
  | .tmp t => env[t]?
  | .const v => constV v
  | .func f => some (.fn f [])
  | .global _ => none
def partO (env : List V) (p : Nat × Operand) : Option (Nat × V) := (evalO env p.2).map fun v => (p.1, v)
def findA (t : TypeId) : Nat → List O → Option (Nat × List V)
  | _, [] => none
  | i, .arena t' els :: l => cond (t' == t) (some (i, els)) (findA t (i + 1) l)
  | i, _ :: l => findA t (i + 1) l
def O.ar : O → Option (TypeId × Nat)
  | .arena t els => some (t, els.length)
  | .marena t ms => some (t, ms.length)
  | _ => none
def noArena (o : O) : Bool := o.ar.isNone
def findM (t : TypeId) : Nat → List O → Option (Nat × List (List (V × V)))
  | _, [] => none
  | i, .marena t' ms :: l => cond (t' == t) (some (i, ms)) (findM t (i + 1) l)
  | i, _ :: l => findM t (i + 1) l
def mapAt (mem : List O) : V → Option (List (V × V))
  | .mp id =>
    match mem[id]? with
    | some (.map es) => some es
    | _ => none
  | .hm t k => (findM t 0 mem).bind fun r => r.2[k]?
  | _ => none
def mapTo (mem : List O) (m : V) (es : List (V × V)) : List O :=
  match m with
  | .mp id => mem.set id (.map es)
  | .hm t k =>
    match findM t 0 mem with
    | some r => mem.set r.1 (.marena t (r.2.set k es))
    | none => mem
  | _ => mem
def look (mem : List O) : V → Option (V × Nat)
  | .ref x off => some (x, off)
  | .hp t k off => (findA t 0 mem).bind fun r => (r.2[k]?).map fun x => (x, off)
  | .ptr id k off =>
    match mem[id]? with
    | some (.row _ els _) => (els[k]?).map fun x => (x, off)
    | some (.box _ v _) => if k = 0 then some (v, off) else none
    | _ => none
  | _ => none
def loadM (P : Program) (mem : List O) (t : TypeId) (p : V) : Option V :=
  (look mem p).bind fun r =>
    if ((r.1.cells.drop r.2).take (P.cellsOf t)).length = P.cellsOf t then mkV P t ((r.1.cells.drop r.2).take (P.cellsOf t)) else none
def imm1 : V → Option V
  | .bool b => some (.bool b)
  | .int k n => some (.int k n)
  | .str s => some (.str s)
  | .nilS => some (.sl [])
  | .sl l => some (.sl l)
  | .lit _ l => some (.sl l)
  | .hp t k o => some (.hp t k o)
  | .hm t k => some (.hm t k)
  | .nilP => some .nilP
  | .nilM => some .nilM
  | _ => none
def immX : V → Option V
  | .agg cs => (mapO imm1 cs).map .agg
  | v => imm1 v
def putCells (x : V) (off : Nat) (vs : List V) : Option V :=
  match x with
  | .agg cs => if off + vs.length ≤ cs.length then some (.agg (cs.take off ++ vs ++ cs.drop (off + vs.length))) else none
  | _ => match vs with
    | [v] => if off = 0 ∧ x.one then some v else none
    | _ => none
def tailed (mem : List O) : V → V
  | .own id =>
    match mem[id]? with
    | some (.row _ _ _) => .tail id 0
    | _ => .own id
  | v => v
def storeM (P : Program) (mem : List O) (t : TypeId) (p v : V) : Option (List O) :=
  if v.cells.length = P.cellsOf t ∧ 0 < P.cellsOf t ∧ v.cells.all V.one then
    match p with
    | .ptr id k off =>
      match mem[id]? with
      | some (.row t' els fz) =>
        if fz ≤ k then
          (els[k]?).bind fun x => (mapO imm1 v.cells).bind fun vs => (putCells x off vs).map fun y => mem.set id (.row t' (els.set k y) fz)
        else none
      | some (.box t' x fz) => if k = 0 ∧ fz = false then (putCells x off (v.cells.map (tailed mem))).map fun y => mem.set id (.box t' y fz) else none
      | _ => none
    | .hp t' k off => (findA t' 0 mem).bind fun r => (r.2[k]?).bind fun x => (mapO imm1 v.cells).bind fun vs => (putCells x off vs).map fun y => mem.set r.1 (.arena t' (r.2.set k y))
    | _ => none
  else none
def elems (mem : List O) : V → Option (List V)
  | .nilS => some []
  | .sl l => some l
  | .lit _ l => some l
  | .own id =>
    match mem[id]? with
    | some (.row _ els _) => some els
    | _ => none
  | .win id off len =>
    match mem[id]? with
    | some (.row _ els _) => if off + len ≤ els.length then some ((els.drop off).take len) else none
    | _ => none
  | .tail id off =>
    match mem[id]? with
    | some (.row _ els _) => some (els.drop off)
    | _ => none
  | _ => none
def bytesV (s : List UInt8) : List V := s.map fun b => .int .u8 (b.toNat : Int)
def elemsS (mem : List O) : V → Option (List V)
  | .str s => some (bytesV s)
  | x => elems mem x
def rowTy (P : Program) (t : TypeId) : Bool := decide (P.bytesOf t ≤ 4096) && decide (0 < P.cellsOf t) && (match (P.info? t).bind (·.zero) with | some z => z.cells.size == P.cellsOf t | none => false)
def roomy (P : Program) (t : TypeId) (n : Nat) : Bool := decide (n ≤ 16777216) && rowTy P t
def newRow (mem : List O) (t : TypeId) (els : List V) (fz : Nat) : V × List O := (.own mem.length, mem ++ [.row t els fz])
def boxed (P : Program) : List TypeId → List V → List O → List V × List O
  | t :: ts, .nilS :: vs, mem =>
    match elemOf P t with
    | some e => if roomy P e 0 then
        let r := boxed P ts vs (mem ++ [.row e [] 0])
        (.tail mem.length 0 :: r.1, r.2)
      else
        let r := boxed P ts vs mem
        (.nilS :: r.1, r.2)
    | none =>
        let r := boxed P ts vs mem
        (.nilS :: r.1, r.2)
  | _ :: ts, v :: vs, mem =>
    let r := boxed P ts vs mem
    (tailed mem v :: r.1, r.2)
  | _, vs, mem => (vs, mem)
def cellTys (P : Program) (t : TypeId) : List TypeId :=
  match P.underlying t with
  | some (.struct fs) => fs.toList.flatMap fun f => if P.cellsOf f.type = 1 then [f.type] else List.replicate (P.cellsOf f.type) 0
  | some (.array _ _) => []
  | _ => [t]
def boxVal (P : Program) (mem : List O) (t : TypeId) (v : V) : V × List O :=
  match v with
  | .agg cs => let r := boxed P (cellTys P t) cs mem; (.agg r.1, r.2)
  | v =>
    match boxed P (cellTys P t) [v] mem with
    | ([x], m) => (x, m)
    | (_, _) => (v, mem)
def newBox (P : Program) (mem : List O) (t : TypeId) (v : V) : V × List O :=
  let r := boxVal P mem t v
  (.ptr r.2.length 0 0, r.2 ++ [.box t r.1 false])
def newBoxA (P : Program) (mem : List O) (t : TypeId) (v : V) : Option (V × List O) :=
  match findA t 0 mem with
  | some r => if 0 < P.cellsOf t then (immX v).map fun y => (.hp t r.2.length 0, mem.set r.1 (.arena t (r.2 ++ [y]))) else none
  | none => some (newBox P mem t v)
def newMapA (mem : List O) (t : TypeId) : V × List O :=
  match findM t 0 mem with
  | some r => (.hm t r.2.length, mem.set r.1 (.marena t (r.2 ++ [[]])))
  | none => (.mp mem.length, mem ++ [.map []])
def appendM (P : Program) (mem : List O) (t : TypeId) (s x : V) : Option (V × List O) :=
  (elemOf P t).bind fun e => (elemsS mem x).bind fun xs =>
    if xs.all (fun y => y.cells.length == P.cellsOf e) then
      match s with
      | .nilS => if roomy P e xs.length then some (newRow mem e xs 0) else none
      | .own id =>
        match mem[id]? with
        | some (.row e' els fz) => if e' = e ∧ roomy P e (els.length + xs.length) then some (newRow (mem.set id .dead) e (els ++ xs) fz) else none
        | _ => none
      | .tail id off =>
        match mem[id]? with
        | some (.row e' els fz) => if e' = e ∧ (fz = 0 ∨ off < fz) ∧ roomy P e ((els.drop off).length + xs.length) then some (.tail mem.length 0, (newRow (mem.set id .dead) e (els.drop off ++ xs) (cond (Nat.beq fz 0) 0 (fz - off))).2) else none
        | _ => none
      | .win id off len =>
        match mem[id]? with
        | some (.row e' els fz) => if e' = e ∧ fz = 0 ∧ off + len ≤ els.length ∧ roomy P e (len + xs.length) then some (.tail mem.length 0, (newRow (mem.set id .dead) e ((els.drop off).take len ++ xs) 0).2) else none
        | _ => none
      | .lit t' l => if t' = e ∧ roomy P e (l.length + xs.length) ∧ l.all (fun y => y.cells.length == P.cellsOf e) then some (.sl (l ++ xs), mem) else none
      | _ => none
    else none
def appTy (P : Program) (t t' : TypeId) (x : V) : Bool :=
  match x with
  | .str _ => (match P.underlying t', (elemOf P t).bind P.underlying with | some .string, some (.int .u8) => true | _, _ => false)
  | _ => t == t'
def spanM (mem : List O) : V → Option (Nat × Nat × Nat)
  | .own id =>
    match mem[id]? with
    | some (.row _ els _) => some (id, 0, els.length)
    | _ => none
  | .tail id off =>
    match mem[id]? with
    | some (.row _ els _) => some (id, off, els.length - off)
    | _ => none
  | .win id off len => some (id, off, len)
  | _ => none
def copyM (P : Program) (mem : List O) (t : TypeId) (s x : V) : Option (V × List O) :=
  (elemOf P t).bind fun e => (elemsS mem x).bind fun xs => (spanM mem s).bind fun r =>
    match mem[r.1]? with
    | some (.row e' els fz) =>
      if e' = e ∧ xs.all (fun y => y.cells.length == P.cellsOf e) ∧ fz ≤ r.2.1 ∧ r.2.1 + r.2.2 ≤ els.length then
        some (.int .i64 (min xs.length r.2.2 : Nat), mem.set r.1 (.row e' (els.take r.2.1 ++ xs.take (min xs.length r.2.2) ++ els.drop (r.2.1 + min xs.length r.2.2)) fz))
      else none
    | _ => none
def clearM (P : Program) (mem : List O) (t : TypeId) (s : V) : Option (V × List O) :=
  (elemOf P t).bind fun e => (spanM mem s).bind fun r =>
    match mem[r.1]? with
    | some (.row e' els fz) =>
      if e' = e ∧ roomy P e 0 ∧ fz ≤ r.2.1 ∧ r.2.1 + r.2.2 ≤ els.length then
        (zeroV P e).bind fun z => (immX z).map fun z => (.tup [], mem.set r.1 (.row e' (els.take r.2.1 ++ List.replicate r.2.2 z ++ els.drop (r.2.1 + r.2.2)) fz))
      else none
    | _ => none
def makeM (P : Program) (mem : List O) (t : TypeId) (a b : V) : Option (V × List O) :=
  (elemOf P t).bind fun e =>
    match a, b with
    | .int _ n, .int _ c => if 0 ≤ n ∧ n ≤ c ∧ roomy P e c.toNat then (zeroV P e).bind fun z => (immX z).map fun z => newRow mem e (List.replicate n.toNat z) 0 else none
    | _, _ => none
def snap1 (mem : List O) : V → Option V
  | .bool b => some (.bool b)
  | .int k n => some (.int k n)
  | .str s => some (.str s)
  | .nilP => some .nilP
  | .nilF => some .nilF
  | .nilS => some (.sl [])
  | .sl l => some (.sl l)
  | .lit _ l => some (.sl l)
  | .own id => (elems mem (.own id)).map .sl
  | .win id off len => (elems mem (.win id off len)).map .sl
  | .tail id off => (elems mem (.tail id off)).map .sl
  | .ref x off => some (.ref x off)
  | .hp t k o => some (.hp t k o)
  | .hm t k => some (.hm t k)
  | .nilM => some .nilM
  | .fn f caps => if caps.isEmpty then some (.fn f []) else none
  | _ => none
def snap2 (mem : List O) : V → Option V
  | .agg cs => (mapO (snap1 mem) cs).map .agg
  | .ptr id k off => (look mem (.ptr id k off)).bind fun (x, off) =>
      match x with
      | .agg cs => (mapO (snap1 mem) cs).map fun ds => .ref (.agg ds) off
      | x => (snap1 mem x).map fun y => .ref y off
  | v => snap1 mem v
def snap3 (mem : List O) : V → Option V
  | .fn f caps => (mapO (snap2 mem) caps).map (.fn f)
  | v => snap2 mem v
def ids1 : V → List Nat
  | .own id | .win id _ _ | .tail id _ => [id]
  | _ => []
def ids2 (mem : List O) : V → List Nat
  | .agg cs => cs.flatMap ids1
  | .ptr id _ _ => id :: (match mem[id]? with
    | some (.box _ v _) => v.cells.flatMap ids1
    | _ => [])
  | v => ids1 v
def ids3 (mem : List O) : V → List Nat
  | .fn _ caps => caps.flatMap (ids2 mem)
  | v => ids2 mem v
def freeze (mem : List O) (id : Nat) : List O :=
  match mem[id]? with
  | some (.row t els _) => mem.set id (.row t els els.length)
  | some (.box t v _) => mem.set id (.box t v true)
  | _ => mem
def leads : V → Bool
  | .bool _ | .int _ _ | .str _ | .nilP | .nilF | .fr _ _ | .nilS => false
  | _ => true
def leadsX : V → Bool
  | .agg cs => cs.any leads
  | v => leads v
def leadsT : V → Bool
  | .tup vs => vs.any leadsX
  | v => leadsX v
def giveS (mem : List O) (v : V) : Option V :=
  match v with
  | .ptr _ _ _ => none
  | v => snap3 mem v
def flatTy (P : Program) (e : TypeId) : Bool :=
  match zeroV P e with
  | some z => z.cells.all V.flat1
  | none => false
def give1 (P : Program) (mem : List O) (t : TypeId) (v : V) : Option V :=
  match v with
  | .own id =>
    match mem[id]? with
    | some (.row e els fz) => if flatTy P e then (if fz = 0 then (if els.all (fun x => x.cells.all V.flat1) then some (.fr e els) else none) else some (.sl els)) else some (.sl els)
    | _ => none
  | .nilS => (elemOf P t).bind fun e => if 0 < P.cellsOf e then (if flatTy P e then some (.fr e []) else some (.sl [])) else none
  | v => giveS mem v
def tupV : List V → V
  | [v] => v
  | vs => .tup vs
def give (P : Program) (mem : List O) (ts : List TypeId) (vs : List V) : Option V :=
  match ts, vs with
  | [t], [v] => give1 P mem t v
  | _, [_] => none
  | _, vs => (mapO (giveS mem) vs).map .tup
def take1 (adopt : Bool) (mem : List O) : V → V × List O
  | .fr t els => if adopt then newRow mem t els 0 else (.sl els, mem)
  | v => (v, mem)
def takeT (adopt : Bool) (mem : List O) : V → V × List O
  | .tup vs => (.tup (vs.map fun v => (take1 false mem v).1), mem)
  | v => take1 adopt mem v
def inRange (k : IntKind) (n : Int) : Bool := k.wrap n == n
def arith (op : BinOp) (k : IntKind) (a b : Int) : Option V :=
  match op with
  | .add => some (.int k (k.wrap (a + b)))
  | .sub => some (.int k (k.wrap (a - b)))
  | .mul => some (.int k (k.wrap (a * b)))
  | .quo => if b = 0 then none else some (.int k (k.wrap (a.tdiv b)))
  | .rem => if b = 0 then none else some (.int k (a.tmod b))
  | .and => some (.int k (k.wrap ((BitVec.ofInt k.bits a &&& BitVec.ofInt k.bits b).toNat : Int)))
  | .or => some (.int k (k.wrap ((BitVec.ofInt k.bits a ||| BitVec.ofInt k.bits b).toNat : Int)))
  | .xor => some (.int k (k.wrap ((BitVec.ofInt k.bits a ^^^ BitVec.ofInt k.bits b).toNat : Int)))
  | .andNot => some (.int k (k.wrap ((BitVec.ofInt k.bits a &&& ~~~(BitVec.ofInt k.bits b)).toNat : Int)))
  | .eql => some (.bool (a == b))
  | .neq => some (.bool (a != b))
  | .lss => some (.bool (decide (a < b)))
  | .leq => some (.bool (decide (a ≤ b)))
  | .gtr => some (.bool (decide (a > b)))
  | .geq => some (.bool (decide (a ≥ b)))
  | _ => none
def stringA (op : BinOp) (a b : List UInt8) : Option V :=
  match op with
  | .add => if a.length + b.length ≤ 4611686018427387904 then some (.str (a ++ b)) else none
  | .eql => some (.bool (a == b))
  | .neq => some (.bool (!(a == b)))
  | .lss => some (.bool (Op.bytesLess a b))
  | .leq => some (.bool (Op.bytesLess a b || a == b))
  | .gtr => some (.bool (!(Op.bytesLess a b || a == b)))
  | .geq => some (.bool (!Op.bytesLess a b))
  | _ => none
def eq1 : V → V → Option Bool
  | .bool a, .bool b => some (a == b)
  | .int j a, .int k b => if j = k then some (a == b) else none
  | .str a, .str b => some (a == b)
  | _, _ => none
def eqTy : Option TypeDesc → V → V → Option Bool
  | some .bool, .bool a, .bool b => some (a == b)
  | some (.int _), .int j a, .int k b => if j = k then some (a == b) else none
  | some .string, .str a, .str b => some (a == b)
  | _, _, _ => none
def eqL (P : Program) : List TypeId → List V → List V → Option Bool
  | [], [], [] => some true
  | t :: ts, a :: as, b :: bs => (eqTy (P.underlying t) a b).bind fun x => (eqL P ts as bs).map fun y => x && y
  | _, _, _ => none
def fieldTys (P : Program) (t : TypeId) : List TypeId :=
  match P.underlying t with
  | some (.struct fs) => fs.toList.map (·.type)
  | _ => []
def plainStruct (P : Program) (t : TypeId) : Bool :=
  match P.underlying t with
  | some (.struct fs) => !P.eqGuardType P.depth t && !P.stoodInHeld t && fs.toList.zipIdx.all fun x => x.1.name != "_" && x.1.offset == x.2
  | _ => false
def binB (P : Program) (op : BinOp) (t : TypeId) (x y : V) : Option V :=
  match x, y with
  | .int k a, .int k' b =>
    match op with
    | .shl => if b < 0 then none else some (.int k (k.wrap (a * 2 ^ (min b.toNat k.bits))))
    | .shr => if b < 0 then none else some (.int k (a.fdiv (2 ^ (min b.toNat k.bits))))
    | op => if k = k' then arith op k a b else none
  | .str a, .str b => stringA op a b
  | .bool a, .bool b =>
    if (match P.underlying t with | some .bool => true | _ => false) then
      match op with
      | .eql => some (.bool (a == b))
      | .neq => some (.bool (!(a == b)))
      | _ => none
    else none
  | .agg cs, .agg ds =>
    if plainStruct P t then
      match op with
      | .eql => (eqL P (fieldTys P t) cs ds).map .bool
      | .neq => (eqL P (fieldTys P t) cs ds).map fun b => .bool (!b)
      | _ => none
    else none
  | _, _ => none
def nilish : V → Bool
  | .nilP | .nilF => true
  | _ => false
def nilEq (P : Program) (t : TypeId) (x y : V) : Option Bool :=
  match P.underlying t, x, y with
  | some (.pointer _), .nilP, .nilP => some true
  | some (.pointer _), .ptr _ _ _, .nilP => some false
  | some (.pointer _), .ref _ _, .nilP => some false
  | some (.pointer _), .hp _ _ _, .nilP => some false
  | some (.func _ _ _), .nilF, .nilF => some true
  | some (.func _ _ _), .fn _ _, .nilF => some false
  | _, _, _ => none
def binA (P : Program) (op : BinOp) (t : TypeId) (x y : V) : Option V :=
  if nilish y then
    match op with
    | .eql => (nilEq P t x y).map .bool
    | .neq => (nilEq P t x y).map fun b => .bool (!b)
    | _ => none
  else binB P op t x y
def unA (op : UnOp) (x : V) : Option V :=
  match op, x with
  | .not, .bool b => some (.bool (!b))
  | .neg, .int k n => some (.int k (k.wrap (0 - n)))
  | .xor, .int k n => arith .xor k (if k.signed then -1 else k.max) n
  | _, _ => none
def numsOf : List V → Option (List Int)
  | [] => some []
  | .int .u8 n :: l => (numsOf l).map (n :: ·)
  | _ => none
def textOf (P : Program) (e : TypeId) (l : List V) : Option V :=
  match P.underlying e with
  | some (.int .u8) => (numsOf l).map fun xs => .str (xs.map fun n => UInt8.ofNat n.toNat)
  | _ => none
def convA (P : Program) (mem : List O) (src dst : TypeId) (x : V) : Option V :=
  match P.underlying src, P.underlying dst, x with
  | some _, some (.int k), .int _ n => some (.int k (k.wrap n))
  | some _, some .string, .str s => some (.str s)
  | some (.slice e), some .string, x => (elems mem x).bind (textOf P e)
  | some .string, some (.slice e), .str s =>
    match P.underlying e with
    | some (.int .u8) => some (.sl (bytesV s))
    | _ => none
  | _, _, _ => none
def boundOf (o : Option (Option V)) (d : Nat) : Option Nat :=
  match o with
  | none => some d
  | some (some (.int _ n)) => if 0 ≤ n then some n.toNat else none
  | some _ => none
def sliceA (P : Program) (mem : List O) (t : TypeId) (x : V) (lo hi mx : Option (Option V)) : Option V :=
  match P.underlying t, x with
  | some .string, .str s =>
    if mx.isSome then none else
    (boundOf lo 0).bind fun l => (boundOf hi s.length).bind fun h => if l ≤ h ∧ h ≤ s.length then some (.str ((s.take h).drop l)) else none
  | some (.slice e), x =>
    (elems mem x).bind fun xs => (boundOf lo 0).bind fun l => (boundOf hi xs.length).bind fun h => (boundOf mx xs.length).bind fun m =>
      if 0 < P.cellsOf e ∧ l ≤ h ∧ h ≤ m ∧ m ≤ xs.length ∧ (mx.isSome = true → hi.isSome = true) ∧ xs.all (fun y => y.cells.length == P.cellsOf e) then
        match x with
        | .nilS => some .nilS
        | .sl xs => some (.sl ((xs.take h).drop l))
        | .own id =>
          match mem[id]? with
          | some (.row e' _ _) => if mx.isSome then none else if e' = e then some (if hi.isNone then .tail id l else .win id l (h - l)) else none
          | _ => none
        | .tail id off =>
          match mem[id]? with
          | some (.row e' _ _) => if mx.isSome then none else if e' = e then some (if hi.isNone then .tail id (off + l) else .win id (off + l) (h - l)) else none
          | _ => none
        | .win id off _ =>
          match mem[id]? with
          | some (.row e' _ _) => if mx.isSome then none else if e' = e then some (.win id (off + l) (h - l)) else none
          | _ => none
        | _ => none
      else none
  | _, _ => none
def fieldAddrA (P : Program) (s : TypeId) (x : V) (f : Nat) : Option V :=
  (fieldOf P s f).bind fun (o, t) => if P.cellsOf t = 0 then none else
    match x with
    | .ref y off => some (.ref y (off + o))
    | .ptr id k off => some (.ptr id k (off + o))
    | .hp t k off => some (.hp t k (off + o))
    | _ => none
def indexAddrA (P : Program) (mem : List O) (t : TypeId) (x i : V) : Option V :=
  match P.underlying t, i with
  | some (.slice e), .int _ n =>
    if 0 ≤ n then
      match x with
      | .sl l => (l[n.toNat]?).bind fun y => if y.cells.length = P.cellsOf e then some (.ref y 0) else none
      | .own id =>
        match mem[id]? with
        | some (.row e' els _) => if e' = e ∧ n.toNat < els.length then some (.ptr id n.toNat 0) else none
        | _ => none
      | .win id off len =>
        match mem[id]? with
        | some (.row e' els _) => if e' = e ∧ n.toNat < len ∧ off + len ≤ els.length then some (.ptr id (off + n.toNat) 0) else none
        | _ => none
      | .tail id off =>
        match mem[id]? with
        | some (.row e' els _) => if e' = e ∧ n.toNat < (els.drop off).length then some (.ptr id (off + n.toNat) 0) else none
        | _ => none
      | _ => none
    else none
  | some (.array len e), .int _ n =>
    if 0 ≤ n ∧ n.toNat < len ∧ 0 < P.cellsOf e then
      match x with
      | .ref y off => some (.ref y (off + n.toNat * P.cellsOf e))
      | .ptr id k off => some (.ptr id k (off + n.toNat * P.cellsOf e))
      | _ => none
    else none
  | _, _ => none
def partA (P : Program) (t : TypeId) (cs : List V) (off : Nat) : Option V :=
  let ds := (cs.drop off).take (P.cellsOf t)
  if ds.length = P.cellsOf t then mkV P t ds else none
def indexA (P : Program) (t : TypeId) (x i : V) : Option V :=
  match P.underlying t, x, i with
  | some .string, .str s, .int _ n => if 0 ≤ n then (s[n.toNat]?).map fun b => .int .u8 (b.toNat : Int) else none
  | some (.array len e), .agg cs, .int _ n => if 0 ≤ n ∧ n.toNat < len then partA P e cs (n.toNat * P.cellsOf e) else none
  | _, _, _ => none
def fillA (place : Nat → Option (Nat × Nat)) : List V → List (Nat × V) → Option (List V)
  | cells, [] => some cells
  | cells, (i, v) :: rest =>
    (place i).bind fun (off, size) =>
      if v.cells.length = size ∧ off + size ≤ cells.length ∧ v.cells.all V.one then fillA place (cells.take off ++ v.cells ++ cells.drop (off + size)) rest else none
def placesOf (P : Program) (t : TypeId) : Option (List (Nat × Nat)) :=
  match P.underlying t with
  | some (.struct fs) => if fs.toList.all (fun f => decide (0 < P.cellsOf f.type)) then some (fs.toList.map fun f => (f.offset, P.cellsOf f.type)) else none
  | some (.array n e) => if 0 < P.cellsOf e then some ((List.range n).map fun i => (i * P.cellsOf e, P.cellsOf e)) else none
  | _ => none
def buildA (P : Program) (t : TypeId) (parts : List (Nat × V)) : Option V :=
  match zeroV P t with
  | some (.agg zs) => (placesOf P t).bind fun pl => (fillA (fun i => pl[i]?) zs parts).map .agg
  | _ => none
def litEls : Nat → List (Nat × V) → Option (List V)
  | _, [] => some []
  | k, (i, v) :: rest => if i = k then (immX v).bind fun x => (litEls (k + 1) rest).map (x :: ·) else none
def lenA (P : Program) (mem : List O) (t : TypeId) (x : V) : Option V :=
  match P.underlying t, x with
  | some .string, .str s => some (.int .i64 (s.length : Int))
  | some (.array n _), _ => some (.int .i64 (n : Int))
  | some (.slice _), x => (elems mem x).map fun l => .int .i64 (l.length : Int)
  | some (.map _ _), x => (mapAt mem x).map fun es => .int .i64 (es.length : Int)
  | _, _ => none
def min2 : V → V → Option V
  | .int k a, .int k' b => if k = k' then some (.int k (if b < a then b else a)) else none
  | _, _ => none
def max2 : V → V → Option V
  | .int k a, .int k' b => if k = k' then some (.int k (if a < b then b else a)) else none
  | _, _ => none
def foldO (f : V → V → Option V) : V → List V → Option V
  | x, [] => some x
  | x, y :: ys => (f x y).bind fun z => foldO f z ys
def mapFind : List (V × V) → V → Option (Option V)
  | [], _ => some none
  | (a, x) :: es, k => (eq1 k a).bind fun b => if b then some (some x) else mapFind es k
def mapPut : List (V × V) → V → V → Option (List (V × V))
  | [], k, x => some [(k, x)]
  | (a, y) :: es, k, x => (eq1 k a).bind fun b => if b then some ((a, x) :: es) else (mapPut es k x).map ((a, y) :: ·)
def mapDel : List (V × V) → V → Option (List (V × V))
  | [], _ => some []
  | (a, y) :: es, k => (eq1 k a).bind fun b => if b then some es else (mapDel es k).map ((a, y) :: ·)
def mapKey (P : Program) (t : TypeId) : Option TypeId :=
  match P.underlying t with
  | some (.map k e) =>
    match P.underlying k with
    | some (.int _) | some .string => some e
    | _ => none
  | _ => none
def keyFits (P : Program) (t : TypeId) : V → Bool
  | .int k _ => match P.underlying t with | some (.map kt _) => (match P.underlying kt with | some (.int k') => k == k' | _ => false) | _ => false
  | .str _ => match P.underlying t with | some (.map kt _) => (match P.underlying kt with | some .string => true | _ => false) | _ => false
  | _ => false
structure CM where
  rd : Bool
  wv : Bool
structure Cfg where
  P : Program
  pure : FuncId → Bool
  adopt : FuncId → Bool
  pprim : FuncId → Option (List V → Option V)
  iprim : FuncId → Option (List V → List O → Option (V × List O))
  rxf : FuncId → Nat → Bool := fun _ _ => false
  seqp : FuncId → Option (List TypeId × (List V → Option (List (List V)))) := fun _ => none
  ars : FuncId → List TypeId := fun _ => []
  can : FuncId → Option CM := fun _ => none
structure CallF where
  pc : FuncId → List V → Option V
  ic : FuncId → List V → List O → Option (V × List O)
def lenB (P : Program) (mem : List O) : List TypeId → List V → Option (V × List O)
  | t :: _, x :: _ => (lenA P mem t x).map fun v => (v, mem)
  | _, _ => none
def appendB (P : Program) (mem : List O) : List TypeId → List V → Option (V × List O)
  | [t, t'], [s, x] => if appTy P t t' x then appendM P mem t s x else none
  | _, _ => none
def copyB (P : Program) (mem : List O) : List TypeId → List V → Option (V × List O)
  | [t, t'], [s, x] => if appTy P t t' x then copyM P mem t s x else none
  | _, _ => none
def clearB (P : Program) (mem : List O) : List TypeId → List V → Option (V × List O)
  | [t], [s] => clearM P mem t s
  | _, _ => none
def foldB (f : V → V → Option V) (mem : List O) : List V → Option (V × List O)
  | x :: xs => (foldO f x xs).map fun v => (v, mem)
  | _ => none
def deleteB (P : Program) (mem : List O) : List TypeId → List V → Option (V × List O)
  | t :: _, [m, k] => (mapAt mem m).bind fun es => if keyFits P t k then (mapDel es k).map fun es => (.tup [], mapTo mem m es) else none
  | _, _ => none
def builtinA (P : Program) (b : Builtin) (mem : List O) (ts : List TypeId) (args : List V) : Option (V × List O) :=
  match b with
  | .len => lenB P mem ts args
  | .append => appendB P mem ts args
  | .copy => copyB P mem ts args
  | .min => foldB min2 mem args
  | .max => foldB max2 mem args
  | .delete => deleteB P mem ts args
  | .clear => clearB P mem ts args
  | _ => none
def freezeAll : List Nat → List O → List O
  | [], mem => mem
  | i :: is, mem => freezeAll is (freeze mem i)
def fnOk (P : Program) (f : FuncId) : Bool :=
  match P.funcs[f]? with
  | some fn => fn.body.isSome && fn.name != "runtime.NumGoroutine"
  | none => false
def refs0 : V → List Nat
  | .own id | .win id _ _ | .tail id _ | .ptr id _ _ | .mp id => [id]
  | _ => []
def refs1 : V → List Nat
  | .fn _ caps => caps.flatMap refs0
  | v => refs0 v
def refs2 : V → List Nat
  | .agg cs | .tup cs => cs.flatMap refs1
  | .fn _ caps => caps.flatMap refs1
  | v => refs1 v
def ptrId (v : V) : List Nat := refs2 v
def ren0 (ρ : Nat → Option Nat) : V → V
  | .own id => match ρ id with | some i => .own i | none => .junk
  | .win id a b => match ρ id with | some i => .win i a b | none => .junk
  | .tail id a => match ρ id with | some i => .tail i a | none => .junk
  | .ptr id a b => match ρ id with | some i => .ptr i a b | none => .junk
  | .mp id => match ρ id with | some i => .mp i | none => .junk
  | .bool b => .bool b
  | .int k n => .int k n
  | .str s => .str s
  | .nilS => .nilS
  | .sl l => .sl l
  | .lit t l => .lit t l
  | .rest t l => .rest t l
  | .ref x o => .ref x o
  | .hp t k o => .hp t k o
  | .hm t k => .hm t k
  | .nilM => .nilM
  | .nilP => .nilP
  | .nilF => .nilF
  | .fn f caps => if caps.isEmpty then .fn f [] else .junk
  | .tup vs => if vs.isEmpty then .tup [] else .junk
  | _ => .junk
def ren1 (ρ : Nat → Option Nat) : V → V
  | .fn f caps => .fn f (caps.map (ren0 ρ))
  | v => ren0 ρ v
def ren2 (ρ : Nat → Option Nat) : V → V
  | .agg cs => .agg (cs.map (ren1 ρ))
  | .tup cs => .tup (cs.map (ren1 ρ))
  | .fn f caps => .fn f (caps.map (ren1 ρ))
  | v => ren1 ρ v
def addIds (n0 : Nat) : List Nat → List Nat → List Nat
  | acc, [] => acc
  | acc, i :: is => addIds n0 (if i < n0 || acc.contains i then acc else acc ++ [i]) is
def refsO (mem : List O) (id : Nat) : List Nat :=
  match mem[id]? with
  | some (.box _ v _) => refs2 v
  | _ => []
def reach (n0 : Nat) (mem : List O) : Nat → List Nat → List Nat
  | 0, acc => acc
  | k + 1, acc =>
    let acc' := addIds n0 acc (acc.flatMap (refsO mem))
    if acc'.length = acc.length then acc else reach n0 mem k acc'
def renO (ρ : Nat → Option Nat) : O → O
  | .box t v fz => if (ren2 ρ v).cells.all V.one then .box t (ren2 ρ v) fz else .dead
  | o => o
def renD (ρ : Nat → Option Nat) (o : O) : O := if noArena o then renO ρ o else .dead
def idxO (i : Nat) : List Nat → Option Nat
  | [] => none
  | x :: xs => if x = i then some 0 else (idxO i xs).map fun k => k + 1
def rhoOf (n0 : Nat) (ids : List Nat) (i : Nat) : Option Nat :=
  if i < n0 then some i else (idxO i ids).map fun k => n0 + k
def idsOf (n0 : Nat) (s : S) : List Nat :=
  reach n0 s.mem s.mem.length (addIds n0 [] (s.env.flatMap refs2 ++ (List.range n0).flatMap fun i => refsO s.mem i))
def tidyWith (n0 : Nat) (ids : List Nat) (s : S) : S :=
  ⟨s.env.map (ren2 (rhoOf n0 ids)), (s.mem.take n0).map (renO (rhoOf n0 ids)) ++ ids.map fun i => renD (rhoOf n0 ids) ((s.mem[i]?).getD .dead)⟩
def tidy (n0 : Nat) (s : S) : S := tidyWith (min n0 s.mem.length) (idsOf (min n0 s.mem.length) s) s
def ren3 (ρ : Nat → Option Nat) : V → V
  | .tup vs => .tup (vs.map (ren2 ρ))
  | v => ren2 ρ v
def frontA : List O → Nat
  | o :: l => cond (noArena o) 0 (frontA l + 1)
  | [] => 0
def canIds (args : List V) (mem : List O) : List Nat := reach (frontA mem) mem mem.length (addIds (frontA mem) [] (args.flatMap refs2))
def canS (args : List V) (mem : List O) : S := tidyWith (frontA mem) (canIds args mem) ⟨args, mem⟩
def stays (rd : Bool) (o : O) : Bool :=
  match o with
  | .box _ _ _ | .map _ => true
  | .row _ _ _ => rd
  | _ => false
def liveAt (c : List O) (i : Nat) : Bool :=
  match c[i]? with
  | some .dead => false
  | some _ => true
  | none => false
def stayAt (rd : Bool) (c m1 : List O) (i : Nat) : Bool := liveAt c i && (match m1[i]? with | some o => stays rd o | none => false)
def canNew (rd : Bool) (n0 : Nat) (c m1 : List O) (v : V) : List Nat :=
  (reach n0 m1 m1.length (addIds n0 [] ((List.range c.length).filter (stayAt rd c m1) ++ refs2 v))).filter fun i => !stayAt rd c m1 i
def canSig (rd : Bool) (n0 N : Nat) (ids news : List Nat) (c m1 : List O) (i : Nat) : Option Nat :=
  if i < n0 then none else cond (stayAt rd c m1 i) (ids[i - n0]?) ((idxO i news).map fun k => N + k)
def canFront (m1 : List O) (k : Nat) : O :=
  match m1[k]? with
  | some o => cond (noArena o) .dead o
  | none => .dead
def canOld (rd : Bool) (n0 : Nat) (ids : List Nat) (σ : Nat → Option Nat) (c m1 : List O) (k : Nat) (o : O) : O :=
  if k < n0 then canFront m1 k else
  match idxO k ids with
  | some q => cond (stayAt rd c m1 (n0 + q)) (renD σ ((m1[n0 + q]?).getD .dead)) .dead
  | none => o
def oldFrom (g : Nat → O → O) : Nat → List O → List O
  | _, [] => []
  | i, o :: l => g i o :: oldFrom g (i + 1) l
def canBackW (rd : Bool) (n0 : Nat) (ids : List Nat) (c mem : List O) (v : V) (m1 : List O) : V × List O :=
  let news := canNew rd n0 c m1 v
  let σ := canSig rd n0 mem.length ids news c m1
  (ren3 σ v, oldFrom (canOld rd n0 ids σ c m1) 0 mem ++ news.map fun i => renD σ ((m1[i]?).getD .dead))
def canBack (rd : Bool) (args : List V) (mem : List O) (v : V) (m1 : List O) : V × List O :=
  canBackW rd (frontA mem) (canIds args mem) (canS args mem).mem mem v m1
def winV (m : List O) (v : V) : V :=
  match spanM m v with
  | some r => (match m[r.1]? with | some (.row _ _ _) => .win r.1 r.2.1 r.2.2 | _ => v)
  | none => v
def canNorm (rd : CM) (c : List O) (v : V) (m1 : List O) : V × List O := canBackW rd.rd (frontA c) (List.range' (frontA c) (c.length - frontA c)) c c (cond rd.wv (winV m1 v) v) m1
def canA (call : CallF) (rd : CM) (f : FuncId) (args : List V) (mem : List O) : Option (V × List O) :=
  (call.ic f (canS args mem).env (canS args mem).mem).map fun r => canBack rd.rd args mem (canNorm rd (canS args mem).mem r.1 r.2).1 (canNorm rd (canS args mem).mem r.1 r.2).2
def callA (cfg : Cfg) (call : CallF) (dr : Bool) (f : FuncId) (args : List V) (mem : List O) : Option (V × List O) :=
  if !fnOk cfg.P f then none else
  if cfg.pure f then
    (mapO (snap3 mem) args).bind fun as => (call.pc f as).bind fun r =>
      let ids := args.flatMap (ids3 mem)
      if leadsT r then
        if dr && !ids.isEmpty then none else some (takeT (cfg.adopt f && !dr) (freezeAll ids mem) r)
      else some (takeT (cfg.adopt f && !dr) mem r)
  else if dr then none else
    match cfg.can f with
    | none => call.ic f args mem
    | some rd => canA call rd f args mem
def isAl : Op → Bool
  | .alloc .. => true
  | _ => false
def isLoad : Op → Bool
  | .load .. => true
  | _ => false
def isCV : Op → Bool
  | .call c => match c.callee with
    | .value _ => true
    | _ => false
  | _ => false
def isBS : Op → Bool
  | .buildSlice .. => true
  | _ => false
def frOp (cfg : Cfg) (o : OpA) : Bool :=
  o.bx && (match o.op with
    | .call c => match c.callee with
      | .value (.func f) => !cfg.pure f
      | _ => false
    | _ => false)
def keepFrom (S : List Nat) : Nat → List O → List O
  | _, [] => []
  | i, o :: l => cond (S.contains i) o .dead :: keepFrom S (i + 1) l
def keepOnly (S : List Nat) (mem : List O) : List O := keepFrom S 0 mem
def backFrom (S : List Nat) : Nat → List O → List O → List O
  | _, [], m => m
  | _, _ :: _, [] => []
  | i, o :: l, p :: m => cond (S.contains i) p o :: backFrom S (i + 1) l m
def putBack (S : List Nat) (mem m : List O) : List O := backFrom S 0 mem m
def frOk (S : List Nat) (mem : List O) : Bool := S.all fun i => match mem[i]? with | some o => noArena o | none => true
def framedA (call : CallF) (f : FuncId) (args : List V) (mem : List O) : Option (V × List O) :=
  if !frOk (args.flatMap ptrId) mem then none else
  (call.ic f args (keepOnly (args.flatMap ptrId) mem)).bind fun r => if mem.length ≤ r.2.length then some (r.1, putBack (args.flatMap ptrId) mem r.2) else none
def drO (dr : Bool) (o : OpA) : Bool := dr && !(isCV o.op && (o.sq || o.bx))
def boxy (mem : List O) : V → Bool
  | .ref _ _ => true
  | .ptr id _ _ => match mem[id]? with | some (.box _ _ _) => true | _ => false
  | _ => false
def isHp : V → Bool
  | .hp _ _ _ => true
  | _ => false
def solid : V → Bool
  | .ref _ _ | .ptr _ _ _ | .hp _ _ _ => true
  | _ => false
def noMem : V → Bool
  | .str _ | .sl _ | .nilS | .lit _ _ | .ref _ _ | .ptr _ _ _ => true
  | _ => false
def isLitV : V → Bool
  | .lit _ _ => true
  | _ => false
def bxArgs : Builtin → List V → Bool
  | .len, x :: _ => noMem x
  | .append, [s, x] => isLitV s && noMem x
  | _, _ => false
def memless (env : List V) : List V := env.map (ren2 fun _ => none)
def opA (cfg : Cfg) (call : CallF) (dr : Bool) (o : OpA) (env : List V) (mem : List O) : Option (V × List O) :=
  let P := cfg.P
  let ρ := evalO env
  match o.op with
  | .move x => (ρ x).map fun v => (v, mem)
  | .assign x => (ρ x).bind fun v =>
      match v with
      | .nilS => if dr then some (v, mem) else
        match elemOf P o.type with
        | some e => if roomy P e 0 then some (newRow mem e [] 0) else some (v, mem)
        | none => some (v, mem)
      | v => some (v, mem)
  | .pick c a b => (ρ c).bind fun c => (ρ a).bind fun a => (ρ b).bind fun b => match c with | .bool t => some (if t then a else b, mem) | _ => none
  | .alloc t => (zeroV P t).bind fun z => if z.cells.length = P.cellsOf t ∧ z.cells.all V.one then (if o.bx then some (.junk, mem) else if dr && (findA t 0 mem).isSome then none else newBoxA P mem t z) else none
  | .box t x => (ρ x).bind fun v => if o.bx && P.cellsOf t == 0 then none else if v.cells.length = P.cellsOf t ∧ v.cells.all V.one then (if dr && (findA t 0 mem).isSome then none else newBoxA P mem t v) else none
  | .build t parts => (mapO (partO env) parts.toList).bind fun ps => (buildA P t ps).map fun v => (v, mem)
  | .buildSlice t len parts => (mapO (partO env) parts.toList).bind fun ps =>
      (elemOf P t).bind fun e => (litEls 0 ps).bind fun els =>
        if els.length = len ∧ roomy P e len ∧ len * P.cellsOf e ≤ 16777216 ∧ els.all (fun y => y.cells.length == P.cellsOf e && y.cells.all V.one) then (if o.bx then some (.lit e els, mem) else some (newRow mem e els 0)) else none
  | .load t a => (ρ a).bind fun p => if o.bx && !boxy mem p then none else (loadM P mem t p).map fun v => (v, mem)
  | .nilCheck x => (ρ x).bind fun v => if solid v then some (v, mem) else none
  | .store t a x => (ρ a).bind fun p => (ρ x).bind fun v => if o.bx && isHp p then none else (storeM P mem t p v).map fun m => (.tup [], m)
  | .binOp op t x y _ => (ρ x).bind fun a => (ρ y).bind fun b => (binA P op t a b).map fun v => (v, mem)
  | .unOp op _ x => (ρ x).bind fun a => (unA op a).map fun v => (v, mem)
  | .convert s d x => (ρ x).bind fun a => (convA P (if dr then [] else mem) s d a).map fun v => (v, mem)
  | .makeFunc (.func f) first caps => if first.isEmpty then (mapO ρ caps.toList).map fun cs => (.fn f cs, mem) else none
  | .slice t x lo hi mx => (ρ x).bind fun a => if o.bx && !noMem a then none else (sliceA P mem t a (lo.map ρ) (hi.map ρ) (mx.map ρ)).map fun v => (v, mem)
  | .fieldAddr s x f => (ρ x).bind fun a => (fieldAddrA P s a f).map fun v => (v, mem)
  | .field s x f => (ρ x).bind fun a => match a with | .agg cs => (fieldOf P s f).bind fun (off, t) => (partA P t cs off).map fun v => (v, mem) | _ => none
  | .indexAddr t x i => (ρ x).bind fun a => (ρ i).bind fun b => if o.bx && !noMem a then none else (indexAddrA P mem t a b).map fun v => (v, mem)
  | .index t x i => (ρ x).bind fun a => (ρ i).bind fun b => (indexA P t a b).map fun v => (v, mem)
  | .extract t i => (ρ t).bind fun a => match a with | .tup vs => (vs[i]?).map fun v => (v, mem) | _ => none
  | .makeSlice t n c => (ρ n).bind fun a => (ρ c).bind fun b => makeM P mem t a b
  | .makeMap t none => if (mapKey P t).isSome then (if dr && (findM t 0 mem).isSome then none else some (newMapA mem t)) else none
  | .lookup t m k ok => (ρ m).bind fun m => (ρ k).bind fun k =>
      (mapAt mem m).bind fun es => if keyFits P t k then
            (mapKey P t).bind fun e => (zeroV P e).bind fun z => (mapFind es k).map fun r =>
              (if ok then .tup [r.getD z, .bool r.isSome] else r.getD z, mem)
          else none
  | .mapUpdate t m k x => (ρ m).bind fun m => (ρ k).bind fun k => (ρ x).bind fun x =>
      (mapAt mem m).bind fun es => if keyFits P t k ∧ x.inMap then (mapPut es k x).map fun es => (.tup [], mapTo mem m es) else none
  | .call c =>
    match c.callee with
    | .builtin b => (mapO ρ c.args.toList).bind fun args => if o.bx && !bxArgs b args then none else builtinA P b mem c.argTypes.toList args
    | .value f => (ρ f).bind fun fv => (mapO ρ c.args.toList).bind fun args =>
        match fv with
        | .fn f caps => if o.bx && !cfg.pure f then (if frOp cfg o && fnOk P f then framedA call f (args ++ caps) mem else none) else callA cfg call dr f (args ++ caps) mem
        | _ => none
    | _ => none
  | _ => none
def opX (cfg : Cfg) (call : CallF) (dr : Bool) (o : OpA) (env : List V) (mem : List O) : Option (V × List O) :=
  if o.rx then (opA cfg call true o (memless env) []).bind fun r => match r.2 with | [] => some (r.1, mem) | _ => (snap2 r.2 r.1).map fun v => (v, mem)
  else opA cfg call dr o env mem
def wantedA (env : List V) : Option (Nat × Bool) → Option Bool
  | none => some true
  | some (t, want) =>
    match env[t]? with
    | some (.bool b) => some (b == want)
    | some (.tup []) => some false
    | _ => none
def setO (env : List V) : Option Nat → V → List V
  | none, _ => env
  | some d, v => env.set d v
def opsA (cfg : Cfg) (call : CallF) (dr : Bool) : List OpA → S → Option S
  | [], s => some s
  | o :: rest, s =>
    (wantedA s.env o.guard).bind fun w =>
      if w then (opX cfg call (drO dr o) o s.env s.mem).bind fun (v, m) => opsA cfg call dr rest ⟨setO s.env o.dst v, m⟩
      else opsA cfg call dr rest ⟨setO s.env o.dst (.tup []), s.mem⟩
def forget (env : List V) : List Nat → List V
  | [] => env
  | t :: ts => forget (env.set t .junk) ts
def clean (n0 : Nat) (f : List Nat) (s : S) : S := tidy n0 ⟨forget s.env f, s.mem⟩
def iter (step : S → Option (Ex × S)) : Nat → S → Option (Ex × S)
  | 0, _ => none
  | n + 1, s => (step s).bind fun r =>
    match r with
    | (.norm, s') => iter step n s'
    | (.exit i, s') => some (.exit i, s')
    | (.ret, s') => some (.ret, s')
def setPs : List V → List Nat → List V → List V
  | env, p :: ps, v :: vs => setPs (env.set p v) ps vs
  | env, _, _ => env
def startA (cfg : Cfg) (g : Nat) (s : S) : Option S :=
  match s.env[g]? with
  | some (.fn f caps) => (cfg.seqp f).bind fun th => (mapO (snap2 s.mem) caps).bind fun as => (th.2 as).map fun l =>
      ⟨s.env.set g (.rest th.1 (l.map .tup)), freezeAll (caps.flatMap (ids2 s.mem)) s.mem⟩
  | _ => none
def looksA (o : OpA) : List Nat :=
  (o.op.operands.toList.filterMap fun | .tmp t => some t | _ => none) ++ (match o.guard with | some (t, _) => [t] | none => [])
def bxl (o : OpA) : Bool := !o.rx && o.bx && isLoad o.op
def isSt : Op → Bool
  | .store .. => true
  | _ => false
def frx (cfg : Cfg) (o : OpA) : Bool := !o.rx && (frOp cfg o || (o.bx && isSt o.op))
def ssaAll (cfg : Cfg) : List OpA → Bool
  | [] => true
  | o :: rest => (!(bxl o || frx cfg o) || (looksA o).all fun t => o.dst != some t && rest.all fun q => q.dst != some t) && ssaAll cfg rest
def idsAt (env : List V) (x : Operand) : List Nat := match evalO env x with | some v => ptrId v | none => []
def readsAt (env : List V) (o : OpA) : List Nat :=
  match o.op with
  | .load _ a => idsAt env a
  | _ => []
def framesAt (env : List V) (o : OpA) : List Nat :=
  match o.op with
  | .call c => c.args.toList.flatMap (idsAt env)
  | .store _ a _ => idsAt env a
  | _ => []
def frameChk (cfg : Cfg) (l : List OpA) (env : List V) : Bool :=
  (l.all fun o => !(o.bx && isAl o.op) || Nat.blt (o.dst.getD env.length) env.length) &&
  (!(l.any (frx cfg)) || (ssaAll cfg l && l.all fun c => !frx cfg c || l.all fun o => !bxl o || (readsAt env o).all fun i => !(framesAt env c).contains i))
def exec (cfg : Cfg) (call : CallF) (n n0 : Nat) : C → S → Option (Ex × S)
  | .skip, s => some (.norm, s)
  | .ops dr l, s => (opsA cfg call dr l s).bind fun s => if !dr || frameChk cfg l s.env then some (.norm, s) else none
  | .seq a b, s => (exec cfg call n n0 a s).bind fun r =>
      match r with
      | (.norm, s') => exec cfg call n n0 b s'
      | (.exit i, s') => some (.exit i, s')
      | (.ret, s') => some (.ret, s')
  | .cond c a b, s => (evalO s.env c).bind fun v =>
      match v with
      | .bool t => if t then exec cfg call n n0 a s else exec cfg call n n0 b s
      | _ => none
  | .block id c, s => (exec cfg call n n0 c s).map fun r =>
      match r with
      | (.norm, s') => (.norm, s')
      | (.exit i, s') => if i = id then (.norm, s') else (.exit i, s')
      | (.ret, s') => (.ret, s')
  | .loop f c, s => (iter (fun s => exec cfg call n n0 c (clean n0 f s)) n s).map fun r => (r.1, clean n0 f r.2)
  | .exit i, s => some (.exit i, s)
  | .ret, s => some (.ret, s)
  | .start g, s => (startA cfg g s).map fun s => (.norm, s)
  | .uncons g ps ws a b, s =>
    match s.env[g]? with
    | some (.rest _ []) => exec cfg call n n0 b s
    | some (.rest ts (.tup vs :: l)) =>
      if vs.length = ps.length then (exec cfg call n n0 a ⟨setPs (s.env.set g .junk) ps vs, s.mem⟩).map fun r => (r.1, ⟨(forget r.2.env ws).set g (.rest ts l), r.2.mem⟩) else none
    | _ => none
  | .cseq f a b, s => (exec cfg call n n0 a s).bind fun r =>
      match r with
      | (.norm, s') => exec cfg call n n0 b (clean n0 f s')
      | (.exit i, s') => some (.exit i, s')
      | (.ret, s') => some (.ret, s')
def resV (P : Program) (s : S) : RV → Option V
  | .tmp t => s.env[t]?
  | .cell t ty => (s.env[t]?).bind fun p => loadM P s.mem ty p
def runF (cfg : Cfg) (call : CallF) (n : Nat) (fa : FA) (args : List V) (mem : List O) : Option (List V × List O) :=
  if args.length = fa.np ∧ fa.np ≤ fa.nt then
    (exec cfg call n mem.length fa.body ⟨args ++ List.replicate (fa.nt - fa.np) (.tup []), mem⟩).bind fun r =>
      match r with
      | (.exit _, _) => none
      | (_, s) => (mapO (resV cfg.P s) fa.results).map fun vs => (vs, s.mem)
  else none
def ancs : List Oper → List (List Nat) → List (List Nat)
  | [], acc => acc
  | o :: rest, acc => ancs rest (acc ++ [(o.after.toList.flatMap fun e => if Region.binds .any e then e.on :: acc.getD e.on [] else []).eraseDups])
def readsM : Op → Bool
  | .load .. | .indexAddr .. | .slice .. | .lookup .. => true
  | .call c => match c.callee with
    | .builtin .min | .builtin .max => false
    | _ => true
  | _ => false
def bxi : Op → Bool
  | .indexAddr .. | .slice .. => true
  | .call c => match c.callee with
    | .builtin .len | .builtin .append => true
    | _ => false
  | _ => false
def isApp : Op → Bool
  | .call c => match c.callee with
    | .builtin .append => true
    | _ => false
  | _ => false
def writesM : Op → Bool
  | .store .. | .alloc _ | .box .. | .buildSlice .. | .makeSlice .. | .makeMap .. | .mapUpdate .. => true
  | .call c => match c.callee with
    | .builtin .len | .builtin .min | .builtin .max => false
    | .builtin _ => true
    | _ => false
  | _ => false
def pusher : Op → Bool
  | .alloc _ | .box .. | .buildSlice .. | .makeSlice .. => true
  | .call c => match c.callee with
    | .builtin .append => true
    | _ => false
  | _ => false
def wrA (o : OpA) : Bool := !o.rx && ((writesM o.op && !(o.bx && (isBS o.op || isApp o.op || isAl o.op))) || (isCV o.op && (o.sq || o.bx)))
def rdA (o : OpA) : Bool := !o.rx && readsM o.op && !(o.bx && bxi o.op)
def pushA (o : OpA) : Bool := !o.rx && (pusher o.op || (isCV o.op && o.bx && !o.sq) || (isSt o.op && o.bx))
def dclash (a b : OpA) : Bool :=
  (match a.dst with | some d => (looksA b).contains d || b.dst == some d | none => false) ||
  (match b.dst with | some d => (looksA a).contains d | none => false)
def mclash (a b : OpA) : Bool := (wrA a && (rdA b || wrA b)) || (rdA a && wrA b)
def spare (a b : OpA) : Bool := (pushA a && bxl b) || (bxl a && pushA b)
def clash (a b : OpA) : Bool := dclash a b || (mclash a b && !spare a b)
def writers (l : List OpA) (d : Nat) : List Nat := (List.range l.length).filter fun i => (l[i]?).bind (·.dst) == some d
def lazyOk (l : List OpA) : Bool :=
  (List.range l.length).all fun m =>
    match l[m]? with
    | some ⟨dst, .box T _, _, g, true, _, rx⟩ =>
      match dst with
      | some d => g.isNone && !rx &&
        match writers l d with
        | [k, m'] => m' == m && (match l[k]? with
          | some ⟨_, .alloc T', _, g', bx', _, rx'⟩ => T' == T && g'.isNone && bx' && !rx'
          | _ => false)
        | _ => false
      | none => false
    | _ => true
def drawOk (ops : Array Oper) (l : List OpA) : Bool :=
  let b := ancs ops.toList []
  lazyOk l &&
  (ops.toList.zipIdx.all fun x => x.1.after.toList.all fun e => !Region.binds .any e || decide (e.on < x.2)) &&
  (List.range l.length).all fun j => (List.range j).all fun i =>
    match l[i]?, l[j]? with
    | some oi, some oj => !clash oi oj || (b.getD j []).contains i
    | _, _ => true
def prepOp (ops : Array Oper) (o : Oper) : Option OpA :=
  match o.guard with
  | none => some ⟨o.dst, o.op, o.type, none, false, false, false⟩
  | some (j, want) => ((ops[j]?).bind (·.dst)).map fun d => ⟨o.dst, o.op, o.type, some (d, want), false, false, false⟩
def flagAll : List OpA → List (Bool × Bool × Bool) → List OpA
  | q :: qs, x :: xs => ⟨q.dst, q.op, q.type, q.guard, x.1 || q.bx, x.2.1, x.2.2⟩ :: flagAll qs xs
  | qs, _ => qs
def lazyAt (l : List OpA) (d T : Nat) : Bool :=
  (match l.filter fun o => o.dst == some d with
    | [a] => a.guard.isNone && (match a.op with | .alloc T' => T' == T | _ => false)
    | _ => false) &&
  (match l.filter fun o => (looksA o).contains d with
    | [s] => s.guard.isNone && s.dst.isNone && (match s.op with | .store T' (.tmp d') y => T' == T && d' == d && (match y with | .tmp e => e != d | _ => true) | _ => false)
    | _ => false)
def lazyO (l : List OpA) (o : OpA) : OpA :=
  match o.op with
  | .alloc T => match o.dst with
    | some d => cond (lazyAt l d T) ⟨some d, .alloc T, o.type, o.guard, true, o.sq, o.rx⟩ o
    | none => o
  | .store T (.tmp d) y => cond (lazyAt l d T && o.guard.isNone && o.dst.isNone) ⟨some d, .box T y, o.type, none, true, o.sq, o.rx⟩ o
  | _ => o
def lazyL (l : List OpA) : List OpA := l.map (lazyO l)
def memOp (o : OpA) : Bool := !(o.bx && isAl o.op) && (readsM o.op || writesM o.op)
def wrOp (o : OpA) : Bool := !(o.bx && isAl o.op) && writesM o.op
def rxAble (o : Op) : Bool :=
  match o with
  | .load .. | .indexAddr .. | .slice .. => true
  | .call c => match c.callee with
    | .builtin .len => true
    | _ => false
  | _ => false
def cmp (b : List (List Nat)) (x y : Nat) : Bool := x == y || (b.getD y []).contains x || (b.getD x []).contains y
def flags (m : Nat) (l : List OpA) (b : List (List Nat)) : List (Bool × Bool × Bool) :=
  l.zipIdx.map fun x =>
    let rx := m == 2 && rxAble x.1.op && l.zipIdx.any fun y => (isCV y.1.op || wrOp y.1) && !cmp b x.2 y.2
    let sq := isCV x.1.op && l.zipIdx.all fun y => !memOp y.1 || ((m == 1 || m == 4) && isBS y.1.op) || (m == 4 && bxi y.1.op) || cmp b x.2 y.2 || (m == 2 && rxAble y.1.op)
    let st := (m == 1 || m == 3 || m == 4) && isSt x.1.op && l.zipIdx.any fun y => isLoad y.1.op && !cmp b x.2 y.2
    if m == 4 then
      let inc := l.zipIdx.any fun y => (isCV y.1.op || wrOp y.1) && !cmp b x.2 y.2
      (isLoad x.1.op || isBS x.1.op || (bxi x.1.op && inc) || st || (isCV x.1.op && !sq), sq, false)
    else if m == 3 then
      let inc := l.zipIdx.any fun y => (isCV y.1.op || wrOp y.1) && !cmp b x.2 y.2
      (isLoad x.1.op || isBS x.1.op || (bxi x.1.op && inc) || st, false, isCV x.1.op && inc)
    else (st || m == 1 && (isLoad x.1.op || isBS x.1.op || (isCV x.1.op && !sq)), sq, rx)
def union (a b : List Nat) : List Nat := a.foldr (fun t acc => if acc.contains t then acc else t :: acc) b
def liveOp (o : OpA) (out : List Nat) : List Nat :=
  let rs := (o.op.operands.toList.filterMap fun | .tmp t => some t | _ => none) ++ (match o.guard with | some (t, _) => [t] | none => [])
  union rs (match o.dst with | some d => out.filter (fun t => !(t == d)) | none => out)
def liveEnv (i : Nat) : List (Nat × List Nat) → List Nat
  | [] => []
  | (j, l) :: r => if i = j then l else liveEnv i r
def live (res : List Nat) : List (Nat × List Nat) → C → List Nat → List Nat
  | _, .skip, out => out
  | _, .ops _ l, out => l.foldr liveOp out
  | env, .seq a b, out => live res env a (live res env b out)
  | env, .cond c a b, out => union (match c with | .tmp t => [t] | _ => []) (union (live res env a out) (live res env b out))
  | env, .block i c, out => live res ((i, out) :: env) c out
  | env, .loop _ c, _ => live res env c []
  | env, .exit i, _ => liveEnv i env
  | _, .ret, _ => res
  | _, .start g, out => union [g] out
  | env, .uncons g ps _ a b, out => union [g] (union ((live res env a out).filter fun t => !ps.contains t) (live res env b out))
  | env, .cseq _ a b, out => live res env a (live res env b out)
def isStart : C → Bool
  | .start _ => true
  | _ => false
def headD : C → Option Nat
  | .ops _ l => l.findSome? (·.dst)
  | .seq a _ => headD a
  | _ => none
def cutAt (pr : Nat → Bool) (b : C) : Bool :=
  match headD b with
  | some d => pr (2000000 + d)
  | none => false
def setF (pr : Nat → Bool) (nt : Nat) (res : List Nat) : List (Nat × List Nat) → C → List Nat → C
  | env, .seq a b, out => cond (cutAt pr b && !isStart a)
      (.cseq ((List.range nt).filter fun t => !(union (live res env b out) (union res (env.flatMap (·.2)))).contains t) (setF pr nt res env a (live res env b out)) (setF pr nt res env b out))
      (.seq (setF pr nt res env a (live res env b out)) (setF pr nt res env b out))
  | env, .cond c a b, out => .cond c (setF pr nt res env a out) (setF pr nt res env b out)
  | env, .block i c, out => .block i (setF pr nt res ((i, out) :: env) c out)
  | env, .loop _ c, _ =>
    let h := live res env c []
    let keep := union h (union res (env.flatMap (·.2)))
    .loop ((List.range nt).filter fun t => !keep.contains t) (setF pr nt res env c h)
  | _, .skip, _ => .skip
  | _, .ops d l, _ => .ops d l
  | _, .exit i, _ => .exit i
  | _, .ret, _ => .ret
  | _, .start g, _ => .start g
  | _, .uncons g ps ws a b, _ => .uncons g ps ws a b
  | env, .cseq f a b, out => .cseq f (setF pr nt res env a (live res env b out)) (setF pr nt res env b out)
def bare : C → C
  | .seq a b => .seq (bare a) (bare b)
  | .cond c a b => .cond c (bare a) (bare b)
  | .block i c => .block i (bare c)
  | .loop _ c => .loop [] (bare c)
  | .skip => .skip
  | .ops d l => .ops d l
  | .exit i => .exit i
  | .ret => .ret
  | .start g => .start g
  | .uncons g ps ws a b => .uncons g ps ws a b
  | .cseq _ a b => .seq (cond (isStart a) (.uncons 0 [] [] (.start 0) .skip) (bare a)) (bare b)
def wrs : C → List Nat
  | .ops _ l => l.filterMap (·.dst)
  | .seq a b => wrs a ++ wrs b
  | .cond _ a b => wrs a ++ wrs b
  | .block _ c => wrs c
  | .loop _ c => wrs c
  | .uncons _ _ _ a b => wrs a ++ wrs b
  | .cseq _ a b => wrs a ++ wrs b
  | _ => []
def exits : C → List Nat
  | .seq a b => exits a ++ exits b
  | .cond _ a b => exits a ++ exits b
  | .block _ c => exits c
  | .loop _ c => exits c
  | .uncons _ _ _ a b => exits a ++ exits b
  | .cseq _ a b => exits a ++ exits b
  | .exit i => [i]
  | _ => []
def straight : C → Bool
  | .skip => true
  | .ops _ _ => true
  | .seq a b => straight a && straight b
  | _ => false
def hasStart : C → Bool
  | .start _ => true
  | .seq a b => hasStart a || hasStart b
  | .cond _ a b => hasStart a || hasStart b
  | .block _ c => hasStart c
  | .loop _ c => hasStart c
  | .uncons _ _ _ a b => hasStart a || hasStart b
  | .cseq _ a b => hasStart a || hasStart b
  | _ => false
def rgId (g : Nat) : Nat := 1000000 + g
def rangeC (g : Nat) (ps : List Nat) (pa pc : C) : Option C :=
  if straight pa && !hasStart pa && !hasStart pc && !(exits (.seq pa pc)).contains (rgId g) then
    some (.seq (.start g) (.block (rgId g) (.loop [] (.uncons g ps (ps ++ (wrs pa ++ wrs pc)) (.seq pa pc) (.exit (rgId g))))))
  else none
def tryD (ops : Array Oper) (l : List OpA) : List (Nat × Bool) → Option (List OpA)
  | [] => none
  | (m, lz) :: r =>
    let l0 := if lz then lazyL l else l
    let l1 := flagAll l0 (flags m l0 (ancs ops.toList []))
    if drawOk ops l1 then some l1 else tryD ops l r
def boxRx (pr : Nat → Bool) (o : OpA) : OpA :=
  match o.op, o.dst with
  | .box _ _, some d => cond (pr (5000000 + d)) ⟨o.dst, o.op, o.type, o.guard, o.bx, o.sq, true⟩ o
  | _, _ => o
def prep (pr : Nat → Bool) : Code → Option C
  | .skip => some .skip
  | .region _ ops draw => (mapO (prepOp ops) ops.toList).bind fun l =>
      if draw then (tryD ops l ((if pr (((ops[0]?).bind (·.dst)).getD 0) then [(2, false)] else if pr (4000000 + ((ops[0]?).bind (·.dst)).getD 0) then [(1, false)] else []) ++ [(0, false), (1, false), (0, true), (1, true), (4, false), (4, true), (2, false), (3, false), (2, true), (3, true)])).map (.ops true)
      else some (.ops false (l.map (boxRx pr)))
  | .seq a b => (prep pr a).bind fun a => (prep pr b).map fun b => .seq a b
  | .cond c a b => (prep pr a).bind fun a => (prep pr b).map fun b => .cond c a b
  | .block id c => (prep pr c).map (.block id)
  | .loop c => (prep pr c).map fun c => .loop [] c
  | .exit i => some (.exit i)
  | .ret => some .ret
  | .rangeFunc (.tmp g) ps a c => (prep pr a).bind fun pa => (prep pr c).bind fun pc => rangeC g ps.toList pa pc
  | _ => none
def gId (l : Nat) : Nat := 3000000 + 2 * l
def eId (l : Nat) : Nat := 3000001 + 2 * l
def isLab : Code → Option Nat
  | .label l => some l
  | _ => none
def spineL : Code → List Nat
  | .seq a b => spineL a ++ spineL b
  | .label l => [l]
  | _ => []
def free : C → List Nat
  | .seq a b => free a ++ free b
  | .cond _ a b => free a ++ free b
  | .block id c => (free c).filter fun i => !(i == id)
  | .loop _ c => free c
  | .uncons _ _ _ a b => free a ++ free b
  | .cseq _ a b => free a ++ free b
  | .exit i => [i]
  | _ => []
def prepS (pr : Nat → Bool) : Code → Option C
  | .seq a b =>
    match isLab a with
    | some l => (prepS pr b).map fun cb => .block (eId l) (.loop [] (.block (gId l) (.seq cb (.exit (eId l)))))
    | none => if (spineL a).isEmpty then (prepS pr a).bind fun ca => (prepS pr b).map fun cb => .seq ca cb else none
  | .cond c a b => if (spineL a).isEmpty && (spineL b).isEmpty then (prepS pr a).bind fun ca => (prepS pr b).map fun cb => .cond c ca cb else none
  | .goto l => some (.exit (gId l))
  | c => (prep pr c).bind fun cc => if (exits cc).all fun i => Nat.blt i 3000000 then some cc else none
def scOk (c : Code) (cc : C) : Bool := decide (spineL c).Nodup && (free cc).all fun i => Nat.blt i 3000000
def scOf : Code → Option (Code × Code)
  | .seq r (.scope c) => some (r, c)
  | _ => none
def prepF (pr : Nat → Bool) (c : Code) : Option C :=
  match scOf c with
  | some (r, c) => (prep pr r).bind fun cr => (prepS pr c).bind fun cs => if scOk c cs then some (.seq cr cs) else none
  | none => prep pr c
def toRV : ResultVar → RV
  | .tmp t => .tmp t
  | .cell t ty => .cell t ty
def fnA (P : Program) (pr : Nat → Bool) (f : FuncId) : Option FA :=
  match P.funcs[f]? with
  | some fn =>
    if fn.name == "runtime.NumGoroutine" then none else
    match fn.body with
    | some c => (prepF pr c).map fun b => ⟨fn.params.size + fn.nfree, fn.ntmps, fn.results.toList.map toRV, fn.resultTypes.toList, setF pr fn.ntmps (fn.results.toList.map fun r => match r with | .tmp t => t | .cell t _ => t) [] b []⟩
    | none => none
  | none => none
def arM (P : Program) (t : TypeId) : O :=
  match P.underlying t with
  | some (.map _ _) => .marena t []
  | _ => .arena t []
def arsM (cfg : Cfg) (f : FuncId) : List O := (cfg.ars f).map (arM cfg.P)
def noTwice : List Nat → Bool
  | [] => true
  | x :: l => !l.contains x && noTwice l
def arsOk (cfg : Cfg) (f : FuncId) (as : List V) : Bool := (cfg.ars f).isEmpty || (noTwice (cfg.ars f) && plainL as)
def giveA (cfg : Cfg) (f : FuncId) (mem : List O) (ts : List TypeId) (vs : List V) : Option V :=
  match cfg.ars f with
  | [] => give cfg.P mem ts vs
  | _ => match vs with | [v] => if v.flat1 then some v else none | _ => none
def pcN (cfg : Cfg) (call : CallF) (n : Nat) (f : FuncId) (as : List V) : Option V :=
  match cfg.pprim f with
  | some g => g as
  | none => if arsOk cfg f as then (fnA cfg.P (cfg.rxf f) f).bind fun fa => (runF cfg call n fa as (arsM cfg f)).bind fun r => giveA cfg f r.2 fa.rtypes r.1 else none
def icN (cfg : Cfg) (call : CallF) (n : Nat) (f : FuncId) (as : List V) (mem : List O) : Option (V × List O) :=
  match cfg.iprim f with
  | some g => g as mem
  | none => (fnA cfg.P (cfg.rxf f) f).bind fun fa => (runF cfg call n fa as mem).map fun r => (tupV r.1, r.2)
def callN (cfg : Cfg) : Nat → CallF
  | 0 => ⟨fun _ _ => none, fun _ _ _ => none⟩
  | n + 1 => ⟨pcN cfg (callN cfg n) n, icN cfg (callN cfg n) n⟩
end Go.Lite