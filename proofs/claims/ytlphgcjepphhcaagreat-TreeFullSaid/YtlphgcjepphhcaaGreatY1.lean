/-
  Texts that the last one stands on.
-/
import Derived.WalkKit
import Derived.MapKept
import Derived.Laws.BytesArg
import Derived.Lib.ConvBytes
open Bool renaming and_eq_true->bv,false_eq_true->cK,not_eq_true'->iC,not_true->bR
open Nat renaming blt->gL,beq->kG,le_refl->bG,le_trans->lD,lt_of_lt_of_le->n6,lt_or_ge->jV,add_zero->dK,add_assoc->gT,zero_le->iE,mul_le_mul_right->cO,mul_one->jW,mul_comm->yx,mul_le_mul->yy,add_mul->ij,sub_mul->n7,succ_mul->jX
open List renaming replicate->bE,range->dl,getElem?_eq_some_iff->bj,getElem?_eq_getElem->bC,mem_singleton->eZ,getElem?_set_self->fj,getElem?_set_ne->fE,getElem?_append_left->db,getElem?_take->gI,getElem?_drop->gf,all_cons->yk,map_cons->dj,eq_nil_of_length_eq_zero->pw,getElem?_map->dB,take_of_length_le->kE,mem_of_getElem?->cG,length_drop->gg,drop_eq_nil_of_le->pq,drop_eq_getElem_cons->rl,all_eq_true->di,drop_zero->pu,append_assoc->bu,getElem?_append_right->cY,mem_cons->bP,getElem_of_mem->jR,flatMap_cons->iD,take_length->lC,length_pos_iff->js,mem_map->dP,append_nil->dA,mem_append->bp,size_toArray->tO,length_append->c8,getElem?_toArray->ym,length_take->gq,mem_of_mem_drop->kD,mem_of_mem_take->mE,length_set->nZ
open Option renaming bind_some->aJ,map_some->cg
open Array renaming getElem?_eq_getElem->eW,getElem?_setIfInBounds->BA,ext'->nR,size_append->yf,getElem?_eq_some_iff->eX,length_toList->BC
namespace Go.Lite
theorem obi.{u,v} {α:Type u} {β:Type v} {o:Option α} {f:α->Option β} {b:β}:o.bind f=some b↔∃a,o=some a/\f a=some b:=Option.bind_eq_some_iff
theorem omi.{u,v} {α:Type u} {β:Type v} {o:Option α} {f:α->β} {b:β}:o.map f=some b↔∃a,o=some a/\f a=b:=Option.map_eq_some_iff
inductive V where
 | junk
 | bool (b:Bool)
 | int (k:IntKind) (n:Int)
 | str (s:List UInt8)
 | agg (cs:List V)
 | tup (vs:List V)
 | nilS
 | sl (l:List V)
 | own (id:Nat)
 | win (id off len:Nat)
 | ref (x:V) (off:Nat)
 | ptr (id k off:Nat)
 | fn (f:FuncId) (caps:List V)
 | mp (id:Nat)
 | nilP
 | nilF
 | fr (t:TypeId) (els:List V)
 | lit (t:TypeId) (els:List V)
 | tail (id off:Nat)
 | rest (ts:List TypeId) (l:List V)
 | hp (t:TypeId) (k off:Nat)
 | hm (t:TypeId) (k:Nat)
 | nilM
 | nilI
 | unk
 | ifc (t:TypeId) (x:V)
instance:Inhabited V:=⟨.junk⟩
inductive O where
 | row (t:TypeId) (els:List V) (fz:Nat)
 | box (t:TypeId) (v:V) (fz:Bool)
 | map (es:List (V × V))
 | arena (t:TypeId) (els:List V)
 | marena (t:TypeId) (ms:List (List (V × V)))
 | dead
instance:Inhabited O:=⟨.dead⟩
mutual
def mU:V->V->Bool
 | .junk,.junk=>true
 | .nilS,.nilS=>true
 | .nilP,.nilP=>true
 | .nilF,.nilF=>true
 | .nilM,.nilM=>true
 | .nilI,.nilI=>true
 | .unk,.unk=>true
 | .bool a,.bool b=>a==b
 | .int j a,.int k b=>decide (j=k) && a==b
 | .str a,.str b=>a==b
 | .agg a,.agg b=>jA a b
 | .tup a,.tup b=>jA a b
 | .sl a,.sl b=>jA a b
 | .own a,.own b=>a==b
 | .mp a,.mp b=>a==b
 | .win a b c,.win x y z=>a==x && b==y && c==z
 | .ptr a b c,.ptr x y z=>a==x && b==y && c==z
 | .hp a b c,.hp x y z=>a==x && b==y && c==z
 | .tail a b,.tail x y=>a==x && b==y
 | .hm a b,.hm x y=>a==x && b==y
 | .ref a b,.ref x y=>mU a x && b==y
 | .ifc a b,.ifc x y=>a==x && mU b y
 | .fn a b,.fn x y=>a==x && jA b y
 | .fr a b,.fr x y=>a==x && jA b y
 | .lit a b,.lit x y=>a==x && jA b y
 | .rest a b,.rest x y=>a==x && jA b y
 | _,_=>false
def jA:List V->List V->Bool
 | [],[]=>true
 | a::l,b::m=>mU a b && jA l m
 | _,_=>false
end
mutual
theorem uG:∀(a b:V),mU a b=true->a=b:=by
 intro a b h
 cases a<;>cases b<;>simp only [mU,bv,beq_iff_eq,decide_eq_true_eq,cK] at h<;>first | rfl | (cases h;done) | (subst h;rfl) | (obtain ⟨rfl,rfl⟩:=h;rfl) | (obtain ⟨⟨rfl,rfl⟩,rfl⟩:=h;rfl) | (rw [wR _ _ h]) | (rw [uG _ _ h.1,h.2]) | (rw [h.1,uG _ _ h.2]) | (rw [h.1,wR _ _ h.2])
theorem wR:∀(a b:List V),jA a b=true->a=b:=by
 intro a b h
 cases a<;>cases b<;>simp only [jA,bv,cK] at h
 ·rfl
 ·rw [uG _ _ h.1,wR _ _ h.2]
end
mutual
theorem zA:∀a:V,mU a a=true:=by
 intro a
 cases a<;>simp [mU,zA,Di]
theorem Di:∀a:List V,jA a a=true:=by
 intro a
 cases a<;>simp [jA,zA,Di]
end
def rR:List (V × V)->List (V × V)->Bool
 | [],[]=>true
 | a::l,b::m=>mU a.1 b.1 && mU a.2 b.2 && rR l m
 | _,_=>false
theorem Df:∀(a b:List (V × V)),rR a b=true->a=b
 | [],[],_=>rfl
 | [],_::_,h=>nomatch h
 | _::_,[],h=>nomatch h
 |(a,x)::l,(b,y)::m,h=>by
  simp only [rR,bv] at h
  rw [uG _ _ h.1.1,uG _ _ h.1.2,Df _ _ h.2]
theorem Dh:∀a:List (V × V),rR a a=true
 | []=>rfl
 | a::l=>by simp [rR,zA,Dh l]
def uF:List (List (V × V))->List (List (V × V))->Bool
 | [],[]=>true
 | a::l,b::m=>rR a b && uF l m
 | _,_=>false
theorem JG:∀(a b:List (List (V × V))),uF a b=true->a=b
 | [],[],_=>rfl
 | [],_::_,h=>nomatch h
 | _::_,[],h=>nomatch h
 | a::l,b::m,h=>by
  simp only [uF,bv] at h
  rw [Df _ _ h.1,JG _ _ h.2]
theorem JH:∀a:List (List (V × V)),uF a a=true
 | []=>rfl
 | a::l=>by simp [uF,Dh,JH l]
def wQ:O->O->Bool
 | .row t e f,.row t' e' f'=>t==t' && jA e e' && f==f'
 | .box t e f,.box t' e' f'=>t==t' && mU e e' && f==f'
 | .map e,.map e'=>rR e e'
 | .arena t e,.arena t' e'=>t==t' && jA e e'
 | .marena t e,.marena t' e'=>t==t' && uF e e'
 | .dead,.dead=>true
 | _,_=>false
theorem S4 (a b:O) (h:wQ a b=true):a=b:=by
 cases a<;>cases b<;>simp only [wQ,bv,beq_iff_eq,cK] at h
 ·rw [h.1.1,wR _ _ h.1.2,h.2]
 ·rw [h.1.1,uG _ _ h.1.2,h.2]
 ·rw [Df _ _ h]
 ·rw [h.1,wR _ _ h.2]
 ·rw [h.1,JG _ _ h.2]
 ·rfl
theorem S5 (a:O):wQ a a=true:=by cases a<;>simp [wQ,Di,zA,Dh,JH]
def uE:List O->List O->Bool
 | [],[]=>true
 | a::l,b::m=>wQ a b && uE l m
 | _,_=>false
theorem JE:∀{a b:List O},uE a b=true->a=b
 | [],[],_=>rfl
 | [],_::_,h=>nomatch h
 | _::_,[],h=>nomatch h
 | a::l,b::m,h=>by
  simp only [uE,bv] at h
  rw [S4 _ _ h.1,JE h.2]
theorem JF:∀a:List O,uE a a=true
 | []=>rfl
 | a::l=>by simp [uE,S5,JF l]
def bo {α β:Type} (f:α->Option β):List α->Option (List β)
 | []=>some []
 | x::xs=>(f x).bind fun y=>(bo f xs).map fun ys=>y::ys
def V.cells:V->List V
 | .agg cs=>cs
 | v=>[v]
def V.one:V->Bool
 | .junk | .agg _ | .tup _ | .fr _ _ | .rest _ _=>false
 | _=>true
def V.flat1:V->Bool
 | .bool _ | .int _ _ | .str _=>true
 | _=>false
def V.inMap:V->Bool
 | .bool _ | .int _ _ | .str _ | .hp _ _ _ | .hm _ _=>true
 | _=>false
mutual
def V.plain:V->Bool
 | .agg cs=>mb cs
 | .tup vs=>mb vs
 | .sl l=>mb l
 | .ref x _=>x.plain
 | .ifc _ x=>x.plain
 | .fn _ caps=>mb caps
 | .fr _ els=>mb els
 | .lit _ els=>mb els
 | .rest _ _=>false
 | .hp _ _ _=>false
 | .hm _ _=>false
 | _=>true
def mb:List V->Bool
 | []=>true
 | v::vs=>v.plain && mb vs
end
structure aF where
 dst:Option Nat
 op:Op
 type:TypeId
 guard:Option (Nat × Bool)
 bx:Bool
 sq:Bool
 rx:Bool
inductive C where
 | skip
 | ops (draw:Bool) (l:List aF)
 | seq (a b:C)
 | cond (c:Operand) (thn els:C)
 | block (id:Nat) (body:C)
 | loop (e9:List Nat) (body:C)
 | exit (id:Nat)
 | ret
 | start (g:Nat)
 | uncons (g:Nat) (ps ws:List Nat) (a b:C)
 | cseq (e9:List Nat) (a b:C)
inductive Ex where
 | norm
 | exit (id:Nat)
 | ret
structure S where
 env:List V
 mem:List O
inductive RV where
 | tmp (t:Nat)
 | cell (t:Nat) (ty:TypeId)
structure FA where
 np:Nat
 nt:Nat
 results:List RV
 rtypes:List TypeId
 body:C
def qQ:List V->Option V
 | [c]=>some c
 | _=>none
def nu (P:Program) (t:TypeId) (cs:List V):Option V :=
 match P.underlying t with
 | some (.struct _)=>some (.agg cs)
 | some (.array _ _)=>some (.agg cs)
 | some _=>qQ cs
 | none=>none
def uH (P:Program) (s:TypeId) (f:Nat):Option (Nat × TypeId) :=
 match P.underlying s with
 | some (.struct fs)=>(fs[f]?).map fun x=>(x.offset,x.type)
 | _=>none
def ef (P:Program) (t:TypeId):Option TypeId :=
 match P.underlying t with
 | some (.slice e)=>some e
 | _=>none
def mS:Value->Option V
 | .bool b=>some (.bool b)
 | .int k n=>some (.int k n)
 | .string s=>some (.str s.data.toList)
 | .slice none 0 0=>some .nilS
 | .pointer none=>some .nilP
 | .nilFunc=>some .nilF
 | .map none=>some .nilM
 | .nilIface=>some .nilI
 | .tuple vs=>if vs.isEmpty then some (.tup []) else none
 | _=>none
def gF (P:Program) (t:TypeId):Option V :=
 match (P.info? t).bind (·.zero) with
 | some (.agg cs)=>(bo mS cs.toList).map .agg
 | some v=>mS v
 | none=>none
def gm:Nat:=2048
def aO (env:List V):Operand->Option V
 | .tmp t=>env[t]?
 | .const v=>mS v
 | .func f=>cond (gL f gm) (some (.fn f [])) none
 | .global _=>none
def nB (env:List V) (p:Nat × Operand):Option (Nat × V):=(aO env p.2).map fun v=>(p.1,v)
def iq (t:TypeId):Nat->List O->Option (Nat × List V)
 | _,[]=>none
 | i,.arena t' els::l=>cond (t'==t) (some (i,els)) (iq t (i+1) l)
 | i,_::l=>iq t (i+1) l
def O.ar:O->Option (TypeId × Nat)
 | .arena t els=>some (t,els.length)
 | .marena t ms=>some (t,ms.length)
 | _=>none
def fe (o:O):Bool:=o.ar.isNone
def k7 (t:TypeId):Nat->List O->Option (Nat × List (List (V × V)))
 | _,[]=>none
 | i,.marena t' ms::l=>cond (t'==t) (some (i,ms)) (k7 t (i+1) l)
 | i,_::l=>k7 t (i+1) l
def fd (mem:List O):V->Option (List (V × V))
 | .mp id =>
  match mem[id]? with
  | some (.map es)=>some es
  | _=>none
 | .hm t k=>(k7 t 0 mem).bind fun r=>r.2[k]?
 | _=>none
def qp (mem:List O) (m:V) (es:List (V × V)):List O :=
 match m with
 | .mp id=>mem.set id (.map es)
 | .hm t k =>
  match k7 t 0 mem with
  | some r=>mem.set r.1 (.marena t (r.2.set k es))
  | none=>mem
 | _=>mem
def d6 (mem:List O):V->Option (V × Nat)
 | .ref x off=>some (x,off)
 | .hp t k off=>(iq t 0 mem).bind fun r=>(r.2[k]?).map fun x=>(x,off)
 | .ptr id k off =>
  match mem[id]? with
  | some (.row _ els _)=>(els[k]?).map fun x=>(x,off)
  | some (.box _ v _)=>if k=0 then some (v,off) else none
  | _=>none
 | _=>none
def eP (P:Program) (mem:List O) (t:TypeId) (p:V):Option V :=
 (d6 mem p).bind fun r =>
  if ((r.1.cells.drop r.2).take (P.cellsOf t)).length=P.cellsOf t then nu P t ((r.1.cells.drop r.2).take (P.cellsOf t)) else none
def iP:V->Option V
 | .bool b=>some (.bool b)
 | .int k n=>some (.int k n)
 | .str s=>some (.str s)
 | .nilS=>some (.sl [])
 | .sl l=>some (.sl l)
 | .lit _ l=>some (.sl l)
 | .hp t k o=>some (.hp t k o)
 | .hm t k=>some (.hm t k)
 | .nilP=>some .nilP
 | .nilM=>some .nilM
 | .nilI=>some .nilI
 | .ifc t x=>some (.ifc t x)
 | _=>none
def ir:V->Option V
 | .agg cs=>(bo iP cs).map .agg
 | v=>iP v
def putCells (x:V) (off:Nat) (vs:List V):Option V :=
 match x with
 | .agg cs=>if off+vs.length<=cs.length then some (.agg (cs.take off++vs++cs.drop (off+vs.length))) else none
 | _=>match vs with
  | [v]=>if off=0/\x.one then some v else none
  | _=>none
def mg (mem:List O):V->V
 | .own id =>
  match mem[id]? with
  | some (.row _ _ _)=>.tail id 0
  | _=>.own id
 | v=>v
def lA (P:Program) (mem:List O) (t:TypeId) (p v:V):Option (List O) :=
 if v.cells.length=P.cellsOf t/\0 < P.cellsOf t/\v.cells.all V.one then
  match p with
  | .ptr id k off =>
   match mem[id]? with
   | some (.row t' els fz) =>
    if fz<=k then
     (els[k]?).bind fun x=>(bo iP v.cells).bind fun vs=>(putCells x off vs).map fun y=>mem.set id (.row t' (els.set k y) fz)
    else none
   | some (.box t' x fz)=>if k=0/\fz=false then (putCells x off (v.cells.map (mg mem))).map fun y=>mem.set id (.box t' y fz) else none
   | _=>none
  | .hp t' k off=>(iq t' 0 mem).bind fun r=>(r.2[k]?).bind fun x=>(bo iP v.cells).bind fun vs=>(putCells x off vs).map fun y=>mem.set r.1 (.arena t' (r.2.set k y))
  | _=>none
 else none
def cy (mem:List O):V->Option (List V)
 | .nilS=>some []
 | .sl l=>some l
 | .lit _ l=>some l
 | .own id =>
  match mem[id]? with
  | some (.row _ els _)=>some els
  | _=>none
 | .win id off len =>
  match mem[id]? with
  | some (.row _ els _)=>if off+len<=els.length then some ((els.drop off).take len) else none
  | _=>none
 | .tail id off =>
  match mem[id]? with
  | some (.row _ els _)=>some (els.drop off)
  | _=>none
 | _=>none
def dC (s:List UInt8):List V:=s.map fun b=>.int .u8 (b.toNat:Int)
def lO (mem:List O):V->Option (List V)
 | .str s=>some (dC s)
 | x=>cy mem x
def nK (P:Program) (t:TypeId):Bool:=decide (P.bytesOf t<=4096) && decide (0 < P.cellsOf t) && (match (P.info? t).bind (·.zero) with | some z=>z.cells.size==P.cellsOf t | none=>false)
def dG (P:Program) (t:TypeId) (n:Nat):Bool:=decide (n<=16777216) && nK P t
def newRow (mem:List O) (t:TypeId) (els:List V) (fz:Nat):V × List O:=(.own mem.length,mem++[.row t els fz])
def boxed (P:Program):List TypeId->List V->List O->List V × List O
 | t::ts,.nilS::vs,mem =>
  match ef P t with
  | some e=>if dG P e 0 then
    let r:=boxed P ts vs (mem++[.row e [] 0])
    (.tail mem.length 0::r.1,r.2)
   else
    let r:=boxed P ts vs mem
    (.nilS::r.1,r.2)
  | none =>
    let r:=boxed P ts vs mem
    (.nilS::r.1,r.2)
 | _::ts,v::vs,mem =>
  let r:=boxed P ts vs mem
  (mg mem v::r.1,r.2)
 | _,vs,mem=>(vs,mem)
def mQ (P:Program) (t:TypeId):List TypeId :=
 match P.underlying t with
 | some (.struct fs)=>fs.toList.flatMap fun f=>if P.cellsOf f.type=1 then [f.type] else bE (P.cellsOf f.type) 0
 | some (.array _ _)=>[]
 | _=>[t]
def ol (P:Program) (mem:List O) (t:TypeId) (v:V):V × List O :=
 match v with
 | .agg cs=>let r:=boxed P (mQ P t) cs mem;(.agg r.1,r.2)
 | v =>
  match boxed P (mQ P t) [v] mem with
  |([x],m)=>(x,m)
  |(_,_)=>(v,mem)
def newBox (P:Program) (mem:List O) (t:TypeId) (v:V):V × List O :=
 let r:=ol P mem t v
 (.ptr r.2.length 0 0,r.2++[.box t r.1 false])
def qD (P:Program) (mem:List O) (t:TypeId) (v:V):Option (V × List O) :=
 match iq t 0 mem with
 | some r=>if 0 < P.cellsOf t then (ir v).map fun y=>(.hp t r.2.length 0,mem.set r.1 (.arena t (r.2++[y]))) else none
 | none=>some (newBox P mem t v)
def As (mem:List O) (t:TypeId):V × List O :=
 match k7 t 0 mem with
 | some r=>(.hm t r.2.length,mem.set r.1 (.marena t (r.2++[[]])))
 | none=>(.mp mem.length,mem++[.map []])
def iH (P:Program) (mem:List O) (t:TypeId) (s x:V):Option (V × List O) :=
 (ef P t).bind fun e=>(lO mem x).bind fun xs =>
  if xs.all (fun y=>y.cells.length==P.cellsOf e) then
   match s with
   | .nilS=>if dG P e xs.length then some (newRow mem e xs 0) else none
   | .own id =>
    match mem[id]? with
    | some (.row e' els fz)=>if e'=e/\dG P e (els.length+xs.length) then some (newRow (mem.set id .dead) e (els++xs) fz) else none
    | _=>none
   | .tail id off =>
    match mem[id]? with
    | some (.row e' els fz)=>if e'=e/\(fz=0∨off < fz)/\dG P e ((els.drop off).length+xs.length) then some (.tail mem.length 0,(newRow (mem.set id .dead) e (els.drop off++xs) (cond (kG fz 0) 0 (fz - off))).2) else none
    | _=>none
   | .win id off len =>
    match mem[id]? with
    | some (.row e' els fz)=>if e'=e/\fz=0/\off+len<=els.length/\dG P e (len+xs.length) then some (.tail mem.length 0,(newRow (mem.set id .dead) e ((els.drop off).take len++xs) 0).2) else none
    | _=>none
   | .lit t' l=>if t'=e/\dG P e (l.length+xs.length)/\l.all (fun y=>y.cells.length==P.cellsOf e) then some (.sl (l++xs),mem) else none
   | _=>none
  else none
def kK (P:Program) (t t':TypeId) (x:V):Bool :=
 match x with
 | .str _=>(match P.underlying t',(ef P t).bind P.underlying with | some .string,some (.int .u8)=>true | _,_=>false)
 | _=>t==t'
def tq (mem:List O):V->Option (Nat × Nat × Nat)
 | .own id =>
  match mem[id]? with
  | some (.row _ els _)=>some (id,0,els.length)
  | _=>none
 | .tail id off =>
  match mem[id]? with
  | some (.row _ els _)=>some (id,off,els.length - off)
  | _=>none
 | .win id off len=>some (id,off,len)
 | _=>none
def wH (P:Program) (mem:List O) (t:TypeId) (s x:V):Option (V × List O) :=
 (ef P t).bind fun e=>(lO mem x).bind fun xs=>(tq mem s).bind fun r =>
  match mem[r.1]? with
  | some (.row e' els fz) =>
   if e'=e/\xs.all (fun y=>y.cells.length==P.cellsOf e)/\fz<=r.2.1/\r.2.1+r.2.2<=els.length then
    some (.int .i64 (min xs.length r.2.2:Nat),mem.set r.1 (.row e' (els.take r.2.1++xs.take (min xs.length r.2.2)++els.drop (r.2.1+min xs.length r.2.2)) fz))
   else none
  | _=>none
def wE (P:Program) (mem:List O) (t:TypeId) (s:V):Option (V × List O) :=
 (ef P t).bind fun e=>(tq mem s).bind fun r =>
  match mem[r.1]? with
  | some (.row e' els fz) =>
   if e'=e/\dG P e 0/\fz<=r.2.1/\r.2.1+r.2.2<=els.length then
    (gF P e).bind fun z=>(ir z).map fun z=>(.tup [],mem.set r.1 (.row e' (els.take r.2.1++bE r.2.2 z++els.drop (r.2.1+r.2.2)) fz))
   else none
  | _=>none
def oH (P:Program) (mem:List O) (t:TypeId) (a b:V):Option (V × List O) :=
 (ef P t).bind fun e =>
  match a,b with
  | .int _ n,.int _ c=>if 0<=n/\n<=c/\dG P e c.toNat then (gF P e).bind fun z=>(ir z).map fun z=>newRow mem e (bE n.toNat z) 0 else none
  | _,_=>none
def Ez (P:Program) (t:TypeId) (v:V):Option V :=
 match P.underlying t with
 | some (.interface _)=>none
 | some _=>(ir v).map (.ifc t)
 | none=>none
def tE (P:Program) (t:TypeId):Option V:=(gF P t).map fun z=>.tup [z,.bool false]
def yU (P:Program) (t:TypeId) (ok:Bool):V->Option V
 | .nilI=>if ok then tE P t else none
 | .ifc t' x=>if t'=t then some (if ok then .tup [x,.bool true] else x) else if ok then tE P t else none
 | _=>none
def vK (P:Program) (t:TypeId) (ok:Bool) (v:V):Option V :=
 match P.underlying t with
 | some (.interface _)=>none
 | some _=>yU P t ok v
 | none=>none
def dX (mem:List O):V->Option V
 | .bool b=>some (.bool b)
 | .int k n=>some (.int k n)
 | .str s=>some (.str s)
 | .nilP=>some .nilP
 | .nilF=>some .nilF
 | .nilS=>some (.sl [])
 | .sl l=>some (.sl l)
 | .lit _ l=>some (.sl l)
 | .own id=>(cy mem (.own id)).map .sl
 | .win id off len=>(cy mem (.win id off len)).map .sl
 | .tail id off=>(cy mem (.tail id off)).map .sl
 | .ref x off=>some (.ref x off)
 | .hp t k o=>some (.hp t k o)
 | .hm t k=>some (.hm t k)
 | .nilM=>some .nilM
 | .nilI=>some .nilI
 | .ifc t x=>some (.ifc t x)
 | .fn f caps=>if caps.isEmpty then some (.fn f []) else none
 | _=>none
def fD (mem:List O):V->Option V
 | .agg cs=>(bo (dX mem) cs).map .agg
 | .ptr id k off=>(d6 mem (.ptr id k off)).bind fun (x,off) =>
   match x with
   | .agg cs=>(bo (dX mem) cs).map fun ds=>.ref (.agg ds) off
   | x=>(dX mem x).map fun y=>.ref y off
 | v=>dX mem v
def gR (mem:List O):V->Option V
 | .fn f caps=>(bo (fD mem) caps).map (.fn f)
 | v=>fD mem v
def gx:V->List Nat
 | .own id | .win id _ _ | .tail id _=>[id]
 | _=>[]
def fW (mem:List O):V->List Nat
 | .agg cs=>cs.flatMap gx
 | .ptr id _ _=>id::(match mem[id]? with
  | some (.box _ v _)=>v.cells.flatMap gx
  | _=>[])
 | v=>gx v
def ml (v:V):V:=cond v.flat1 v .unk
def Oh (r:V × Nat):V:=.ref (match r.1 with | .agg cs=>.agg (cs.map ml) | x=>ml x) r.2
def nO (mem:List O) (v:V):V :=
 match v with
 | .ptr id k off=>(match d6 mem (.ptr id k off) with | some r=>Oh r | none=>.unk)
 | v=>ml v
def E3:V->List Nat
 | .ptr id _ _=>[id]
 | _=>[]
def tp (q:Bool) (mem:List O) (v:V):Option V :=
 cond q (match v with
  | .ptr id k off=>(match mem[id]? with
   | some (.box _ _ _)=>(d6 mem (.ptr id k off)).map fun r=>.ref (match r.1 with | .agg cs=>.agg (cs.map (nO mem)) | x=>nO mem x) r.2
   | _=>none)
  | v=>if v.flat1 then some v else none) (fD mem v)
def m5 (q:Bool) (mem:List O) (v:V):List Nat :=
 cond q (match v with
  | .ptr id _ _=>id::(match mem[id]? with
   | some (.box _ v _)=>v.cells.flatMap E3
   | _=>[])
  | _=>[]) (fW mem v)
def iO (mem:List O):V->List Nat
 | .fn _ caps=>caps.flatMap (fW mem)
 | v=>fW mem v
def freeze (mem:List O) (id:Nat):List O :=
 match mem[id]? with
 | some (.row t els _)=>mem.set id (.row t els els.length)
 | some (.box t v _)=>mem.set id (.box t v true)
 | _=>mem
def sA:V->Bool
 | .bool _ | .int _ _ | .str _ | .nilP | .nilF | .fr _ _ | .nilS=>false
 | _=>true
def sC:V->Bool
 | .agg cs=>cs.any sA
 | v=>sA v
def sB:V->Bool
 | .tup vs=>vs.any sC
 | v=>sC v
def mZ (mem:List O) (v:V):Option V :=
 match v with
 | .ptr _ _ _=>none
 | v=>gR mem v
def Du (P:Program) (e:TypeId):Bool :=
 match gF P e with
 | some z=>z.cells.all V.flat1
 | none=>false
def p9 (P:Program) (mem:List O) (t:TypeId) (v:V):Option V :=
 match v with
 | .own id =>
  match mem[id]? with
  | some (.row e els fz)=>if Du P e then (if fz=0 then (if els.all (fun x=>x.cells.all V.flat1) then some (.fr e els) else none) else some (.sl els)) else some (.sl els)
  | _=>none
 | .nilS=>(ef P t).bind fun e=>if 0 < P.cellsOf e then (if Du P e then some (.fr e []) else some (.sl [])) else none
 | v=>mZ mem v
def o7:List V->V
 | [v]=>v
 | vs=>.tup vs
def lS (P:Program) (mem:List O) (ts:List TypeId) (vs:List V):Option V :=
 match ts,vs with
 | [t],[v]=>p9 P mem t v
 | _,[_]=>none
 | _,vs=>(bo (mZ mem) vs).map .tup
def vJ (adopt:Bool) (mem:List O):V->V × List O
 | .fr t els=>if adopt then newRow mem t els 0 else (.sl els,mem)
 | v=>(v,mem)
def mh (adopt:Bool) (mem:List O):V->V × List O
 | .tup vs=>(.tup (vs.map fun v=>(vJ false mem v).1),mem)
 | v=>vJ adopt mem v
def pJ (op:BinOp) (k:IntKind) (a b:Int):Option V :=
 match op with
 | .add=>some (.int k (k.wrap (a+b)))
 | .sub=>some (.int k (k.wrap (a - b)))
 | .mul=>some (.int k (k.wrap (a * b)))
 | .quo=>if b=0 then none else some (.int k (k.wrap (a.tdiv b)))
 | .rem=>if b=0 then none else some (.int k (a.tmod b))
 | .and=>some (.int k (k.wrap ((BitVec.ofInt k.bits a &&& BitVec.ofInt k.bits b).toNat:Int)))
 | .or=>some (.int k (k.wrap ((BitVec.ofInt k.bits a ||| BitVec.ofInt k.bits b).toNat:Int)))
 | .xor=>some (.int k (k.wrap ((BitVec.ofInt k.bits a ^^^ BitVec.ofInt k.bits b).toNat:Int)))
 | .andNot=>some (.int k (k.wrap ((BitVec.ofInt k.bits a &&& ~~~(BitVec.ofInt k.bits b)).toNat:Int)))
 | .eql=>some (.bool (a==b))
 | .neq=>some (.bool (a != b))
 | .lss=>some (.bool (decide (a < b)))
 | .leq=>some (.bool (decide (a<=b)))
 | .gtr=>some (.bool (decide (a > b)))
 | .geq=>some (.bool (decide (a ≥ b)))
 | _=>none
def Bl (op:BinOp) (a b:List UInt8):Option V :=
 match op with
 | .add=>if a.length+b.length<=4611686018427387904 then some (.str (a++b)) else none
 | .eql=>some (.bool (a==b))
 | .neq=>some (.bool (!(a==b)))
 | .lss=>some (.bool (Op.bytesLess a b))
 | .leq=>some (.bool (Op.bytesLess a b || a==b))
 | .gtr=>some (.bool (!(Op.bytesLess a b || a==b)))
 | .geq=>some (.bool (!Op.bytesLess a b))
 | _=>none
def dL:V->V->Option Bool
 | .bool a,.bool b=>some (a==b)
 | .int j a,.int k b=>if j=k then some (a==b) else none
 | .str a,.str b=>some (a==b)
 | _,_=>none
def pW:Option TypeDesc->V->V->Option Bool
 | some .bool,.bool a,.bool b=>some (a==b)
 | some (.int _),.int j a,.int k b=>if j=k then some (a==b) else none
 | some .string,.str a,.str b=>some (a==b)
 | _,_,_=>none
def lQ (P:Program):List TypeId->List V->List V->Option Bool
 | [],[],[]=>some true
 | t::ts,a::as0,b::bs=>(pW (P.underlying t) a b).bind fun x=>(lQ P ts as0 bs).map fun y=>x && y
 | _,_,_=>none
def zF (P:Program) (t:TypeId):List TypeId :=
 match P.underlying t with
 | some (.struct fs)=>fs.toList.map (·.type)
 | _=>[]
def L8 (P:Program) (t:TypeId):Bool :=
 match P.underlying t with
 | some (.struct fs)=>!P.eqGuardType P.depth t && !P.stoodInHeld t && fs.toList.zipIdx.all fun x=>x.1.name != "_" && x.1.offset==x.2
 | _=>false
def gi (P:Program) (op:BinOp) (t:TypeId) (x y:V):Option V :=
 match x,y with
 | .int k a,.int k' b =>
  match op with
  | .shl=>if b < 0 then none else some (.int k (k.wrap (a * 2 ^ (min b.toNat k.bits))))
  | .shr=>if b < 0 then none else some (.int k (a.fdiv (2 ^ (min b.toNat k.bits))))
  | op=>if k=k' then pJ op k a b else none
 | .str a,.str b=>Bl op a b
 | .bool a,.bool b =>
  if (match P.underlying t with | some .bool=>true | _=>false) then
   match op with
   | .eql=>some (.bool (a==b))
   | .neq=>some (.bool (!(a==b)))
   | _=>none
  else none
 | .agg cs,.agg ds =>
  if L8 P t then
   match op with
   | .eql=>(lQ P (zF P t) cs ds).map .bool
   | .neq=>(lQ P (zF P t) cs ds).map fun b=>.bool (!b)
   | _=>none
  else none
 | _,_=>none
def sP:V->Bool
 | .nilP | .nilF=>true
 | _=>false
def qE (P:Program) (t:TypeId) (x y:V):Option Bool :=
 match P.underlying t,x,y with
 | some (.pointer _),.nilP,.nilP=>some true
 | some (.pointer _),.ptr _ _ _,.nilP=>some false
 | some (.pointer _),.ref _ _,.nilP=>some false
 | some (.pointer _),.hp _ _ _,.nilP=>some false
 | some (.func _ _ _),.nilF,.nilF=>some true
 | some (.func _ _ _),.fn _ _,.nilF=>some false
 | _,_,_=>none
def lI (P:Program) (op:BinOp) (t:TypeId) (x y:V):Option V :=
 if sP y then
  match op with
  | .eql=>(qE P t x y).map .bool
  | .neq=>(qE P t x y).map fun b=>.bool (!b)
  | _=>none
 else gi P op t x y
def Bp (op:UnOp) (x:V):Option V :=
 match op,x with
 | .not,.bool b=>some (.bool (!b))
 | .neg,.int k n=>some (.int k (k.wrap (0 - n)))
 | .xor,.int k n=>pJ .xor k (if k.signed then -1 else k.max) n
 | _,_=>none
def fM:List V->Option (List Int)
 | []=>some []
 | .int .u8 n::l=>(fM l).map (n::·)
 | _=>none
def tB (P:Program) (e:TypeId) (l:List V):Option V :=
 match P.underlying e with
 | some (.int .u8)=>(fM l).map fun xs=>.str (xs.map fun n=>UInt8.ofNat n.toNat)
 | _=>none
def mT (P:Program) (mem:List O) (src dst:TypeId) (x:V):Option V :=
 match P.underlying src,P.underlying dst,x with
 | some _,some (.int k),.int _ n=>some (.int k (k.wrap n))
 | some _,some .string,.str s=>some (.str s)
 | some (.slice e),some .string,x=>(cy mem x).bind (tB P e)
 | some .string,some (.slice e),.str s =>
  match P.underlying e with
  | some (.int .u8)=>some (.sl (dC s))
  | _=>none
 | _,_,_=>none
def eD (o:Option (Option V)) (d:Nat):Option Nat :=
 match o with
 | none=>some d
 | some (some (.int _ n))=>if 0<=n then some n.toNat else none
 | some _=>none
def jn (P:Program) (mem:List O) (t:TypeId) (x:V) (lo hi mx:Option (Option V)):Option V :=
 match P.underlying t,x with
 | some .string,.str s =>
  if mx.isSome then none else
  (eD lo 0).bind fun l=>(eD hi s.length).bind fun h=>if l<=h/\h<=s.length then some (.str ((s.take h).drop l)) else none
 | some (.slice e),x =>
  (cy mem x).bind fun xs=>(eD lo 0).bind fun l=>(eD hi xs.length).bind fun h=>(eD mx xs.length).bind fun m =>
   if 0 < P.cellsOf e/\l<=h/\h<=m/\m<=xs.length/\(mx.isSome=true->hi.isSome=true)/\xs.all (fun y=>y.cells.length==P.cellsOf e) then
    match x with
    | .nilS=>some .nilS
    | .sl xs=>some (.sl ((xs.take h).drop l))
    | .own id =>
     match mem[id]? with
     | some (.row e' _ _)=>if mx.isSome then none else if e'=e then some (if hi.isNone then .tail id l else .win id l (h - l)) else none
     | _=>none
    | .tail id off =>
     match mem[id]? with
     | some (.row e' _ _)=>if mx.isSome then none else if e'=e then some (if hi.isNone then .tail id (off+l) else .win id (off+l) (h - l)) else none
     | _=>none
    | .win id off _ =>
     match mem[id]? with
     | some (.row e' _ _)=>if mx.isSome then none else if e'=e then some (.win id (off+l) (h - l)) else none
     | _=>none
    | _=>none
   else none
 | _,_=>none
def zE (P:Program) (s:TypeId) (x:V) (f:Nat):Option V :=
 (uH P s f).bind fun (o,t)=>if P.cellsOf t=0 then none else
  match x with
  | .ref y off=>some (.ref y (off+o))
  | .ptr id k off=>some (.ptr id k (off+o))
  | .hp t k off=>some (.hp t k (off+o))
  | _=>none
def iu (P:Program) (mem:List O) (t:TypeId) (x i:V):Option V :=
 match P.underlying t,i with
 | some (.slice e),.int _ n =>
  if 0<=n then
   match x with
   | .sl l=>(l[n.toNat]?).bind fun y=>if y.cells.length=P.cellsOf e then some (.ref y 0) else none
   | .own id =>
    match mem[id]? with
    | some (.row e' els _)=>if e'=e/\n.toNat < els.length then some (.ptr id n.toNat 0) else none
    | _=>none
   | .win id off len =>
    match mem[id]? with
    | some (.row e' els _)=>if e'=e/\n.toNat < len/\off+len<=els.length then some (.ptr id (off+n.toNat) 0) else none
    | _=>none
   | .tail id off =>
    match mem[id]? with
    | some (.row e' els _)=>if e'=e/\n.toNat < (els.drop off).length then some (.ptr id (off+n.toNat) 0) else none
    | _=>none
   | _=>none
  else none
 | some (.array len e),.int _ n =>
  if 0<=n/\n.toNat < len/\0 < P.cellsOf e then
   match x with
   | .ref y off=>some (.ref y (off+n.toNat * P.cellsOf e))
   | .ptr id k off=>some (.ptr id k (off+n.toNat * P.cellsOf e))
   | _=>none
  else none
 | _,_=>none
def oS (P:Program) (t:TypeId) (cs:List V) (off:Nat):Option V :=
 let ds:=(cs.drop off).take (P.cellsOf t)
 if ds.length=P.cellsOf t then nu P t ds else none
def oz (P:Program) (t:TypeId) (x i:V):Option V :=
 match P.underlying t,x,i with
 | some .string,.str s,.int _ n=>if 0<=n then (s[n.toNat]?).map fun b=>.int .u8 (b.toNat:Int) else none
 | some (.array len e),.agg cs,.int _ n=>if 0<=n/\n.toNat < len then oS P e cs (n.toNat * P.cellsOf e) else none
 | _,_,_=>none
def pY (place:Nat->Option (Nat × Nat)):List V->List (Nat × V)->Option (List V)
 | cells,[]=>some cells
 | cells,(i,v)::rest =>
  (place i).bind fun (off,size) =>
   if v.cells.length=size/\off+size<=cells.length/\v.cells.all V.one then pY place (cells.take off++v.cells++cells.drop (off+size)) rest else none
def EX (P:Program) (t:TypeId):Option (List (Nat × Nat)) :=
 match P.underlying t with
 | some (.struct fs)=>if fs.toList.all (fun f=>decide (0 < P.cellsOf f.type)) then some (fs.toList.map fun f=>(f.offset,P.cellsOf f.type)) else none
 | some (.array n e)=>if 0 < P.cellsOf e then some ((dl n).map fun i=>(i * P.cellsOf e,P.cellsOf e)) else none
 | _=>none
def y5 (P:Program) (t:TypeId) (parts:List (Nat × V)):Option V :=
 match gF P t with
 | some (.agg zs)=>(EX P t).bind fun pl=>(pY (fun i=>pl[i]?) zs parts).map .agg
 | _=>none
def qn:Nat->List (Nat × V)->Option (List V)
 | _,[]=>some []
 | k,(i,v)::rest=>if i=k then (ir v).bind fun x=>(qn (k+1) rest).map (x::·) else none
def lp (P:Program) (mem:List O) (t:TypeId) (x:V):Option V :=
 match P.underlying t,x with
 | some .string,.str s=>some (.int .i64 (s.length:Int))
 | some (.array n _),_=>some (.int .i64 (n:Int))
 | some (.slice _),x=>(cy mem x).map fun l=>.int .i64 (l.length:Int)
 | some (.map _ _),x=>(fd mem x).map fun es=>.int .i64 (es.length:Int)
 | _,_=>none
def min2:V->V->Option V
 | .str a,.str b=>some (.str (if Op.bytesLess a b || a==b then a else b))
 | .int k a,.int k' b=>if k=k' then some (.int k (if b < a then b else a)) else none
 | _,_=>none
def max2:V->V->Option V
 | .str a,.str b=>some (.str (if Op.bytesLess a b then b else a))
 | .int k a,.int k' b=>if k=k' then some (.int k (if a < b then b else a)) else none
 | _,_=>none
def rZ (f:V->V->Option V):V->List V->Option V
 | x,[]=>some x
 | x,y::ys=>(f x y).bind fun z=>rZ f z ys
def en:List (V × V)->V->Option (Option V)
 | [],_=>some none
 |(a,x)::es,k=>(dL k a).bind fun b=>if b then some (some x) else en es k
def ix:List (V × V)->V->V->Option (List (V × V))
 | [],k,x=>some [(k,x)]
 |(a,y)::es,k,x=>(dL k a).bind fun b=>if b then some ((a,x)::es) else (ix es k x).map ((a,y)::·)
def lr:List (V × V)->V->Option (List (V × V))
 | [],_=>some []
 |(a,y)::es,k=>(dL k a).bind fun b=>if b then some es else (lr es k).map ((a,y)::·)
def uW (P:Program) (t:TypeId):Option TypeId :=
 match P.underlying t with
 | some (.map k e) =>
  match P.underlying k with
  | some (.int _) | some .string=>some e
  | _=>none
 | _=>none
def lZ (P:Program) (t:TypeId):V->Bool
 | .int k _=>match P.underlying t with | some (.map kt _)=>(match P.underlying kt with | some (.int k')=>k==k' | _=>false) | _=>false
 | .str _=>match P.underlying t with | some (.map kt _)=>(match P.underlying kt with | some .string=>true | _=>false) | _=>false
 | _=>false
structure CM where
 rd:Bool
 wv:Bool
 sv:Bool
 mv:List TypeId
def CM.row (m:CM) (t:TypeId):Bool:=m.rd && !m.mv.contains t
abbrev aH:CM:=⟨true,false,true,[]⟩
structure bi where
 P:Program
 pure:FuncId->Bool
 adopt:FuncId->Bool
 pprim:FuncId->Option (List V->Option V)
 iprim:FuncId->Option (List V->List O->Option (V × List O))
 rxf:FuncId->Nat->Bool:=fun _ _=>false
 sqj:FuncId->Bool:=fun _=>false
 seqp:FuncId->Option (List TypeId × (List V->Option (List (List V)))):=fun _=>none
 ars:FuncId->List TypeId:=fun _=>[]
 can:FuncId->Option CM:=fun _=>none
 ro:FuncId->Bool:=fun _=>false
structure b9 where
 pc:FuncId->List V->Option V
 ic:FuncId->List V->List O->Option (V × List O)
def oG (P:Program) (mem:List O):List TypeId->List V->Option (V × List O)
 | t::_,x::_=>(lp P mem t x).map fun v=>(v,mem)
 | _,_=>none
def rz (P:Program) (mem:List O) (t t':TypeId) (s x:V):Option (V × List O) :=
 match P.underlying t',s,x with
 | some (.int _),.nilS,.int .i64 n=>(ef P t).bind fun e=>if 0 < n/\dG P e n.toNat then (gF P e).bind fun z=>(ir z).map fun z=>newRow mem e (bE n.toNat z) 0 else none
 | _,_,_=>none
def un (P:Program) (mem:List O):List TypeId->List V->Option (V × List O)
 | [t,t'],[s,x]=>if kK P t t' x then iH P mem t s x else rz P mem t t' s x
 | _,_=>none
def Ci (P:Program) (mem:List O):List TypeId->List V->Option (V × List O)
 | [t,t'],[s,x]=>if kK P t t' x then wH P mem t s x else none
 | _,_=>none
def Cc (P:Program) (mem:List O):List TypeId->List V->Option (V × List O)
 | [t],[s]=>wE P mem t s
 | _,_=>none
def H9 (P:Program) (mem:List O):List TypeId->List V->Option (V × List O)
 | [t],[.nilS]=>match P.underlying t with | some (.slice _)=>some (.int .i64 0,mem) | _=>none
 | _,_=>none
def mW (f:V->V->Option V) (mem:List O):List V->Option (V × List O)
 | x::xs=>(rZ f x xs).map fun v=>(v,mem)
 | _=>none
def Cr (P:Program) (mem:List O):List TypeId->List V->Option (V × List O)
 | t::_,[m,k]=>(fd mem m).bind fun es=>if lZ P t k then (lr es k).map fun es=>(.tup [],qp mem m es) else none
 | _,_=>none
def gv (P:Program) (b:Builtin) (mem:List O) (ts:List TypeId) (args:List V):Option (V × List O) :=
 match b with
 | .len=>oG P mem ts args
 | .append=>un P mem ts args
 | .copy=>Ci P mem ts args
 | .min=>mW min2 mem args
 | .max=>mW max2 mem args
 | .delete=>Cr P mem ts args
 | .clear=>Cc P mem ts args
 | .cap=>H9 P mem ts args
 | _=>none
def freezeAll:List Nat->List O->List O
 | [],mem=>mem
 | i::is,mem=>freezeAll is (freeze mem i)
def jB (P:Program) (f:FuncId):Bool :=
 match P.funcs[f]? with
 | some fn=>fn.body.isSome && fn.name != "runtime.NumGoroutine"
 | none=>false
def fO:V->List Nat
 | .own id | .win id _ _ | .tail id _ | .ptr id _ _ | .mp id=>[id]
 | _=>[]
def xB:V->List Nat
 | .fn _ caps=>caps.flatMap fO
 | v=>fO v
def nI:V->List Nat
 | .agg cs | .tup cs=>cs.flatMap xB
 | .fn _ caps=>caps.flatMap xB
 | v=>xB v
def ji (v:V):List Nat:=nI v
def ren0 (ρ:Nat->Option Nat):V->V
 | .own id=>match ρ id with | some i=>.own i | none=>.junk
 | .win id a b=>match ρ id with | some i=>.win i a b | none=>.junk
 | .tail id a=>match ρ id with | some i=>.tail i a | none=>.junk
 | .ptr id a b=>match ρ id with | some i=>.ptr i a b | none=>.junk
 | .mp id=>match ρ id with | some i=>.mp i | none=>.junk
 | .bool b=>.bool b
 | .int k n=>.int k n
 | .str s=>.str s
 | .nilS=>.nilS
 | .sl l=>.sl l
 | .lit t l=>.lit t l
 | .rest t l=>.rest t l
 | .ref x o=>.ref x o
 | .hp t k o=>.hp t k o
 | .hm t k=>.hm t k
 | .nilM=>.nilM
 | .nilI=>.nilI
 | .ifc t x=>.ifc t x
 | .nilP=>.nilP
 | .nilF=>.nilF
 | .fn f caps=>if caps.isEmpty then .fn f [] else .junk
 | .tup vs=>if vs.isEmpty then .tup [] else .junk
 | _=>.junk
def ren1 (ρ:Nat->Option Nat):V->V
 | .fn f caps=>.fn f (caps.map (ren0 ρ))
 | v=>ren0 ρ v
def ren2 (ρ:Nat->Option Nat):V->V
 | .agg cs=>.agg (cs.map (ren1 ρ))
 | .tup cs=>.tup (cs.map (ren1 ρ))
 | .fn f caps=>.fn f (caps.map (ren1 ρ))
 | v=>ren1 ρ v
def pH (n0:Nat):List Nat->List Nat->List Nat
 | acc,[]=>acc
 | acc,i::is=>pH n0 (if i < n0 || acc.contains i then acc else acc++[i]) is
def AM (mem:List O) (id:Nat):List Nat :=
 match mem[id]? with
 | some (.box _ v _)=>nI v
 | _=>[]
def s7 (n0:Nat) (mem:List O):Nat->List Nat->List Nat
 | 0,acc=>acc
 | k+1,acc =>
  let acc':=pH n0 acc (acc.flatMap (AM mem))
  if acc'.length=acc.length then acc else s7 n0 mem k acc'
def iz (ρ:Nat->Option Nat):O->O
 | .box t v fz=>if (ren2 ρ v).cells.all V.one then .box t (ren2 ρ v) fz else .dead
 | o=>o
def renD (ρ:Nat->Option Nat) (o:O):O:=if fe o then iz ρ o else .dead
def jb (i:Nat):List Nat->Option Nat
 | []=>none
 | x::xs=>if x=i then some 0 else (jb i xs).map fun k=>k+1
def oX (n0:Nat) (ids:List Nat) (i:Nat):Option Nat :=
 if i < n0 then some i else (jb i ids).map fun k=>n0+k
def D4 (n0:Nat) (s:S):List Nat :=
 s7 n0 s.mem s.mem.length (pH n0 [] (s.env.flatMap nI++(dl n0).flatMap fun i=>AM s.mem i))
def iB (n0:Nat) (ids:List Nat) (s:S):S :=
 ⟨s.env.map (ren2 (oX n0 ids)),(s.mem.take n0).map (iz (oX n0 ids))++ids.map fun i=>renD (oX n0 ids) ((s.mem[i]?).getD .dead)⟩
def N8 (n0:Nat) (s:S):S:=iB (min n0 s.mem.length) (D4 (min n0 s.mem.length) s) s
def ren3 (ρ:Nat->Option Nat):V->V
 | .tup vs=>.tup (vs.map (ren2 ρ))
 | v=>ren2 ρ v
def cX:List O->Nat
 | o::l=>cond (fe o) 0 (cX l+1)
 | []=>0
def gU (args:List V) (mem:List O):List Nat:=s7 (cX mem) mem mem.length (pH (cX mem) [] (args.flatMap nI))
def gj (args:List V) (mem:List O):S:=iB (cX mem) (gU args mem) ⟨args,mem⟩
def NM (rd:TypeId->Bool) (o:O):Bool :=
 match o with
 | .box _ _ _ | .map _=>true
 | .row t _ _=>rd t
 | _=>false
def KZ (c:List O) (i:Nat):Bool :=
 match c[i]? with
 | some .dead=>false
 | some _=>true
 | none=>false
def mf (rd:TypeId->Bool) (c m1:List O) (i:Nat):Bool:=KZ c i && (match m1[i]? with | some o=>NM rd o | none=>false)
def uw (rd:TypeId->Bool) (n0:Nat) (c m1:List O) (v:V):List Nat :=
 (s7 n0 m1 m1.length (pH n0 [] ((dl c.length).filter (mf rd c m1)++nI v))).filter fun i=>!mf rd c m1 i
def y8 (rd:TypeId->Bool) (n0 N:Nat) (ids news:List Nat) (c m1:List O) (i:Nat):Option Nat :=
 if i < n0 then none else cond (mf rd c m1 i) (ids[i - n0]?) ((jb i news).map fun k=>N+k)
def uv (m1:List O) (k:Nat):O :=
 match m1[k]? with
 | some o=>cond (fe o) .dead o
 | none=>.dead
def rH (rd:TypeId->Bool) (n0:Nat) (ids:List Nat) (σ:Nat->Option Nat) (c m1:List O) (k:Nat) (o:O):O :=
 if k < n0 then uv m1 k else
 match jb k ids with
 | some q=>cond (mf rd c m1 (n0+q)) (renD σ ((m1[n0+q]?).getD .dead)) .dead
 | none=>o
def ny (g:Nat->O->O):Nat->List O->List O
 | _,[]=>[]
 | i,o::l=>g i o::ny g (i+1) l
def rG (rd:TypeId->Bool) (n0:Nat) (ids:List Nat) (c mem:List O) (v:V) (m1:List O):V × List O :=
 let news:=uw rd n0 c m1 v
 let σ:=y8 rd n0 mem.length ids news c m1
 (ren3 σ v,ny (rH rd n0 ids σ c m1) 0 mem++news.map fun i=>renD σ ((m1[i]?).getD .dead))
def kO (rd:TypeId->Bool) (args:List V) (mem:List O) (v:V) (m1:List O):V × List O :=
 rG rd (cX mem) (gU args mem) (gj args mem).mem mem v m1
def pb (m:List O) (v:V):V :=
 match tq m v with
 | some r=>(match m[r.1]? with | some (.row _ _ _)=>.win r.1 r.2.1 r.2.2 | _=>v)
 | none=>v
def xU (m:List O) (v:V):V :=
 match v with
 | .own _ | .win _ _ _ | .tail _ _ | .nilS=>(match dX m v with | some x=>x | none=>v)
 | v=>v
def Gn (m:List O):V->V
 | .tup vs=>.tup (vs.map (xU m))
 | v=>xU m v
def tl:V->List Nat
 | .tup vs=>vs.flatMap gx
 | v=>gx v
def o5 (b:Bool) (r:V × List O):V × List O:=cond b (Gn r.2 r.1,freezeAll (tl r.1) r.2) r
def zM (l:List TypeId) (m:List O):List Nat:=(dl m.length).filter fun i=>match m[i]? with
 | some (.box t _ _)=>l.contains (t+1000000)
 | _=>false
def p8 (l:List TypeId) (r:V × List O):V × List O:=cond (l.any fun t=>Nat.ble 1000000 t) (r.1,freezeAll (zM l r.2) r.2) r
def gV (rd:CM) (c:List O) (v:V) (m1:List O):V × List O :=
 rG rd.row (cX c) (List.range' (cX c) (c.length - cX c)) c c (p8 rd.mv (o5 rd.sv (cond rd.wv (pb m1 v) v,m1))).1 (p8 rd.mv (o5 rd.sv (cond rd.wv (pb m1 v) v,m1))).2
def pM (call:b9) (rd:CM) (f:FuncId) (args:List V) (mem:List O):Option (V × List O) :=
 (call.ic f (gj args mem).env (gj args mem).mem).map fun r=>kO rd.row args mem (gV rd (gj args mem).mem r.1 r.2).1 (gV rd (gj args mem).mem r.1 r.2).2
noncomputable section
def xE (ro:Bool) (mem:List O) (r:Option (V × List O)):Option (V × List O):=r.bind fun x=>if !ro || uE (x.2.take mem.length) mem then some x else none
theorem AR {ro:Bool} {mem:List O} {r:Option (V × List O)} {x:V × List O} (h:xE ro mem r=some x):r=some x/\(ro=true->x.2.take mem.length=mem):=by
 unfold xE at h
 cases r with
 | none=>cases h
 | some y =>
  rw [aJ] at h
  split at h
  ·rename_i hc
   cases h
   exact ⟨rfl,fun e=>by subst e;exact JE hc⟩
  ·cases h
theorem Fs {ro:Bool} {mem:List O} {r:Option (V × List O)} {x:V × List O} (h:r=some x) (hr:ro=true->x.2.take mem.length=mem):xE ro mem r=some x:=by
 unfold xE
 rw [h,aJ,if_pos]
 cases ro
 ·rfl
 ·rw [hr rfl,JF];rfl
noncomputable def gN (cfg:bi) (call:b9) (dr:Bool) (f:FuncId) (args:List V) (mem:List O):Option (V × List O) :=
 if !jB cfg.P f then none else
 if cfg.pure f then
  (bo (gR mem) args).bind fun as0=>(call.pc f as0).bind fun r =>
   let ids:=args.flatMap (iO mem)
   if sB r then
    if dr && !ids.isEmpty then none else some (mh (cfg.adopt f && !dr) (freezeAll ids mem) r)
   else some (mh (cfg.adopt f && !dr) mem r)
 else if dr then none else
  match cfg.can f with
  | none=>call.ic f args mem
  | some rd=>xE (cfg.ro f) mem (pM call rd f args mem)
def oD:Op->Bool
 | .alloc ..=>true
 | _=>false
def uN:Op->Bool
 | .load ..=>true
 | _=>false
def ej:Op->Bool
 | .call c=>match c.callee with
  | .value _=>true
  | _=>false
 | _=>false
def m8:Op->Bool
 | .buildSlice ..=>true
 | _=>false
def wV (cfg:bi) (o:aF):Bool :=
 o.bx && !o.sq && (match o.op with
  | .call c=>match c.callee with
   | .value (.func f)=>!cfg.pure f
   | _=>false
  | _=>false)
def qf (S:List Nat):Nat->List O->List O
 | _,[]=>[]
 | i,o::l=>cond (S.contains i) o .dead::qf S (i+1) l
def keepOnly (S:List Nat) (mem:List O):List O:=qf S 0 mem
def oh (S:List Nat):Nat->List O->List O->List O
 | _,[],m=>m
 | _,_::_,[]=>[]
 | i,o::l,p::m=>cond (S.contains i) p o::oh S (i+1) l m
def qI (S:List Nat) (mem m:List O):List O:=oh S 0 mem m
def Dy (S:List Nat) (mem:List O):Bool:=S.all fun i=>match mem[i]? with | some o=>fe o | none=>true
def mX (call:b9) (f:FuncId) (args:List V) (mem:List O):Option (V × List O) :=
 if !Dy (args.flatMap ji) mem then none else
 (call.ic f args (keepOnly (args.flatMap ji) mem)).bind fun r=>if mem.length<=r.2.length then some (r.1,qI (args.flatMap ji) mem r.2) else none
def dw (dr:Bool) (o:aF):Bool:=dr && !(ej o.op && (o.sq || o.bx))
def o4 (o:Op):Bool :=
 match o with
 | .load .. | .indexAddr .. | .slice ..=>true
 | .call c=>match c.callee with
  | .builtin .len=>true
  | _=>false
 | _=>false
def j6 (mem:List O):V->Bool
 | .ref _ _=>true
 | .ptr id _ _=>match mem[id]? with | some (.box _ _ _)=>true | _=>false
 | _=>false
def lk:V->Bool
 | .hp _ _ _=>true
 | _=>false
def Gu:V->Bool
 | .ref _ _ | .ptr _ _ _ | .hp _ _ _=>true
 | _=>false
def nv:V->Bool
 | .str _ | .sl _ | .nilS | .lit _ _ | .ref _ _ | .ptr _ _ _=>true
 | _=>false
def UE:V->Bool
 | .lit _ _=>true
 | _=>false
def mO:Builtin->List V->Bool
 | .len,x::_=>nv x
 | .append,[s,x]=>UE s && nv x
 | _,_=>false
def qo:Builtin->List V->Bool
 | .len,.hm _ _::_=>false
 | .len,_=>true
 | _,_=>false
def qt (env:List V):List V:=env.map (ren2 fun _=>none)
def qT (P:Program) (mem:List O) (t:TypeId) (p v:V):Option (List O) :=
 if lk p && !(fW mem v).isEmpty then (fD mem v).bind fun v'=>lA P (freezeAll (fW mem v) mem) t p v' else lA P mem t p v
def bQ (cfg:bi) (call:b9) (dr:Bool) (o:aF) (env:List V) (mem:List O):Option (V × List O) :=
 let P:=cfg.P
 let ρ:=aO env
 match o.op with
 | .move x=>(ρ x).bind fun v=>if o.bx && !dr then (dX mem v).map fun w=>(w,freezeAll (gx v) mem) else some (v,mem)
 | .assign x=>(ρ x).bind fun v=>if o.bx && !dr then (dX mem v).map fun w=>(w,freezeAll (gx v) mem) else
   match v with
   | .nilS=>if dr then some (v,mem) else
    match ef P o.type with
    | some e=>if dG P e 0 then some (newRow mem e [] 0) else some (v,mem)
    | none=>some (v,mem)
   | v=>some (v,mem)
 | .pick c a b=>(ρ c).bind fun c=>(ρ a).bind fun a=>(ρ b).bind fun b=>match c with | .bool t=>some (if t then a else b,mem) | _=>none
 | .alloc t=>(gF P t).bind fun z=>if z.cells.length=P.cellsOf t/\z.cells.all V.one then (if o.bx then some (.junk,mem) else if dr && (iq t 0 mem).isSome then none else qD P mem t z) else none
 | .box t x=>(ρ x).bind fun v=>if o.bx && P.cellsOf t==0 then none else if v.cells.length=P.cellsOf t/\v.cells.all V.one then (if dr && (iq t 0 mem).isSome then none else qD P mem t v) else none
 | .build t parts=>(bo (nB env) parts.toList).bind fun ps=>(y5 P t ps).map fun v=>(v,mem)
 | .buildSlice t len parts=>(bo (nB env) parts.toList).bind fun ps =>
   (ef P t).bind fun e=>(qn 0 ps).bind fun els =>
    if els.length=len/\dG P e len/\len * P.cellsOf e<=16777216/\els.all (fun y=>y.cells.length==P.cellsOf e && y.cells.all V.one) then (if o.bx then some (.lit e els,mem) else some (newRow mem e els 0)) else none
 | .load t a=>(ρ a).bind fun p=>if o.bx && cond o.sq (lk p) (!j6 mem p) then none else (eP P mem t p).map fun v=>(v,mem)
 | .nilCheck x=>(ρ x).bind fun v=>if Gu v then some (v,mem) else none
 | .store t a x=>(ρ a).bind fun p=>(ρ x).bind fun v=>if o.bx && lk p then none else (qT P mem t p v).map fun m=>(.tup [],m)
 | .binOp op t x y _=>(ρ x).bind fun a=>(ρ y).bind fun b=>(lI P op t a b).map fun v=>(v,mem)
 | .unOp op _ x=>(ρ x).bind fun a=>(Bp op a).map fun v=>(v,mem)
 | .convert s d x=>(ρ x).bind fun a=>(mT P (if dr then [] else mem) s d a).map fun v=>(v,mem)
 | .makeFunc (.func f) first caps=>if first.isEmpty then (if f < gm then (bo ρ caps.toList).map fun cs=>(.fn f cs,mem) else none) else if caps.isEmpty then (bo ρ first.toList).map fun cs=>(.fn (gm+f) cs,mem) else none
 | .slice t x lo hi mx=>(ρ x).bind fun a=>if o.bx && !o.sq && !nv a then none else (jn P mem t a (lo.map ρ) (hi.map ρ) (mx.map ρ)).map fun v=>(v,mem)
 | .fieldAddr s x f=>(ρ x).bind fun a=>(zE P s a f).map fun v=>(v,mem)
 | .field s x f=>(ρ x).bind fun a=>match a with | .agg cs=>(uH P s f).bind fun (off,t)=>(oS P t cs off).map fun v=>(v,mem) | _=>none
 | .indexAddr t x i=>(ρ x).bind fun a=>(ρ i).bind fun b=>if o.bx && !o.sq && !nv a then none else (iu P mem t a b).map fun v=>(v,mem)
 | .index t x i=>(ρ x).bind fun a=>(ρ i).bind fun b=>(oz P t a b).map fun v=>(v,mem)
 | .extract t i=>(ρ t).bind fun a=>match a with | .tup vs=>(vs[i]?).map fun v=>(v,mem) | _=>none
 | .makeSlice t n c=>(ρ n).bind fun a=>(ρ c).bind fun b=>oH P mem t a b
 | .makeInterface t x=>(ρ x).bind fun v=>(Ez P t v).map fun u=>(u,mem)
 | .typeAssert x _ t ok=>(ρ x).bind fun v=>(vK P t ok v).map fun u=>(u,mem)
 | .makeMap t none=>if (uW P t).isSome then (if dr && (k7 t 0 mem).isSome then none else some (As mem t)) else none
 | .lookup t m k ok=>(ρ m).bind fun m=>(ρ k).bind fun k =>
   (fd mem m).bind fun es=>if lZ P t k then
      (uW P t).bind fun e=>(gF P e).bind fun z=>(en es k).map fun r =>
       (if ok then .tup [r.getD z,.bool r.isSome] else r.getD z,mem)
     else none
 | .mapUpdate t m k x=>(ρ m).bind fun m=>(ρ k).bind fun k=>(ρ x).bind fun x =>
   (fd mem m).bind fun es=>if lZ P t k/\x.inMap then (ix es k x).map fun es=>(.tup [],qp mem m es) else none
 | .call c =>
  match c.callee with
  | .builtin b=>(bo ρ c.args.toList).bind fun args=>if o.bx && !cond o.sq (qo b args) (mO b args) then none else gv P b mem c.argTypes.toList args
  | .value f=>(ρ f).bind fun fv=>(bo ρ c.args.toList).bind fun args =>
    match fv with
    | .fn f caps=>if gm<=f then (if dr || o.bx || o.sq then none else gN cfg call dr (f - gm) (caps++args) mem) else if o.bx && !o.sq && !cfg.pure f then (if wV cfg o && jB P f then mX call f (args++caps) mem else none) else gN cfg call dr f (args++caps) mem
    | _=>none
  | _=>none
 | _=>none
def da (cfg:bi) (call:b9) (dr:Bool) (o:aF) (env:List V) (mem:List O):Option (V × List O) :=
 if o.rx then (bQ cfg call true o (qt env) []).bind fun r=>match r.2 with | []=>some (r.1,mem) | _=>(fD r.2 r.1).map fun v=>(v,mem)
 else bQ cfg call dr o env mem
def dN (env:List V):Option (Nat × Bool)->Option Bool
 | none=>some true
 | some (t,want) =>
  match env[t]? with
  | some (.bool b)=>some (b==want)
  | some (.tup [])=>some false
  | _=>none
def dM (env:List V):Option Nat->V->List V
 | none,_=>env
 | some d,v=>env.set d v
def fB (cfg:bi) (call:b9) (dr:Bool):List aF->S->Option S
 | [],s=>some s
 | o::rest,s =>
  (dN s.env o.guard).bind fun w =>
   if w then (da cfg call (dw dr o) o s.env s.mem).bind fun (v,m)=>fB cfg call dr rest ⟨dM s.env o.dst v,m⟩
   else fB cfg call dr rest ⟨dM s.env o.dst (.tup []),s.mem⟩
def e9 (env:List V):List Nat->List V
 | []=>env
 | t::ts=>e9 (env.set t .junk) ts
def cM (n0:Nat) (f:List Nat) (s:S):S:=N8 n0 ⟨e9 s.env f,s.mem⟩
def dm (step:S->Option (Ex × S)):Nat->S->Option (Ex × S)
 | 0,_=>none
 | n+1,s=>(step s).bind fun r =>
  match r with
  |(.norm,s')=>dm step n s'
  |(.exit i,s')=>some (.exit i,s')
  |(.ret,s')=>some (.ret,s')
def tj:List V->List Nat->List V->List V
 | env,p::ps,v::vs=>tj (env.set p v) ps vs
 | env,_,_=>env
def tz (cfg:bi) (g:Nat) (s:S):Option S :=
 match s.env[g]? with
 | some (.fn f caps)=>if gm<=f then none else (cfg.seqp f).bind fun th=>(bo (tp (cfg.sqj f) s.mem) caps).bind fun as0=>(th.2 as0).map fun l =>
   ⟨s.env.set g (.rest th.1 (l.map .tup)),freezeAll (caps.flatMap (m5 (cfg.sqj f) s.mem)) s.mem⟩
 | _=>none
def gP (o:aF):List Nat :=
 (o.op.operands.toList.filterMap fun | .tmp t=>some t | _=>none)++(match o.guard with | some (t,_)=>[t] | none=>[])
def il (o:aF):Bool:=!o.rx && o.bx && !o.sq && uN o.op
def fG (o:aF):Bool:=!o.rx && ej o.op && o.bx && o.sq
def hJ (o:aF):Bool:=!o.rx && o.bx && o.sq && o4 o.op
def uO:Op->Bool
 | .store ..=>true
 | _=>false
def iM (cfg:bi) (o:aF):Bool:=!o.rx && (wV cfg o || (o.bx && uO o.op))
def Bh (cfg:bi):List aF->Bool
 | []=>true
 | o::rest=>(!(il o || iM cfg o) || (gP o).all fun t=>o.dst != some t && rest.all fun q=>q.dst != some t) && Bh cfg rest
def lh (env:List V) (x:Operand):List Nat:=match aO env x with | some v=>ji v | none=>[]
def s9 (env:List V) (o:aF):List Nat :=
 match o.op with
 | .load _ a=>lh env a
 | _=>[]
def lg (env:List V) (o:aF):List Nat :=
 match o.op with
 | .call c=>c.args.toList.flatMap (lh env)
 | .store _ a _=>lh env a
 | _=>[]
def pZ (cfg:bi) (l:List aF) (env:List V):Bool :=
 (l.all fun o=>!(o.bx && oD o.op) || gL (o.dst.getD env.length) env.length) &&
 (!(l.any (iM cfg)) || (Bh cfg l && l.all fun c=>!iM cfg c || l.all fun o=>!il o || (s9 env o).all fun i=>!(lg env c).contains i))
def kU (o:aF) (env:List V) (mem:List O):List Nat :=
 match o.op with
 | .call c=>match bo (aO env) c.args.toList with
  | some as0=>gU as0 mem
  | none=>[]
 | _=>[]
def zd (cfg:bi) (o:aF):Bool :=
 match o.op with
 | .call c=>match c.callee with
  | .value (.func f)=>!cfg.pure f && (cfg.can f).isSome
  | _=>false
 | _=>false
def kV (cfg:bi) (o:aF):Bool :=
 match o.op with
 | .call c=>match c.callee with
  | .value (.func f)=>cfg.ro f
  | _=>false
 | _=>false
def jg (env:List V) (x:Operand):List Nat:=match aO env x with | some v=>fO v | none=>[]
def iQ (env:List V) (o:aF):List Nat :=
 match o.op with
 | .load _ a=>jg env a
 | .indexAddr _ x _=>jg env x
 | .slice _ x _ _ _=>jg env x
 | .call c=>c.args.toList.flatMap (jg env)
 | _=>[]
def Bi:List aF->Bool
 | []=>true
 | o::rest=>(!hJ o || (gP o).all fun t=>o.dst != some t && rest.all fun q=>q.dst != some t) && Bi rest
def ze (cfg:bi) (l:List aF) (env:List V) (fs:List Nat):Bool :=
 Bi l && (l.all fun o=>!fG o || zd cfg o) && l.all fun o=>!hJ o || (iQ env o).all fun i=>!fs.contains i
def gB (cfg:bi) (call:b9):List aF->S->List Nat->Option (S × List Nat)
 | [],s,fs=>some (s,fs)
 | o::rest,s,fs =>
  (dN s.env o.guard).bind fun w =>
   if w then (da cfg call (dw true o) o s.env s.mem).bind fun (v,m)=>gB cfg call rest ⟨dM s.env o.dst v,m⟩ (if fG o && !kV cfg o then kU o s.env s.mem++fs else fs)
   else gB cfg call rest ⟨dM s.env o.dst (.tup []),s.mem⟩ fs
def jF (cfg:bi) (call:b9) (dr:Bool) (l:List aF) (s:S):Option S :=
 if dr && l.any fG then (gB cfg call l s []).bind fun r=>if ze cfg l r.1.env r.2 then some r.1 else none else fB cfg call dr l s
def exec (cfg:bi) (call:b9) (n n0:Nat):C->S->Option (Ex × S)
 | .skip,s=>some (.norm,s)
 | .ops dr l,s=>(jF cfg call dr l s).bind fun s=>if !dr || pZ cfg l s.env then some (.norm,s) else none
 | .seq a b,s=>(exec cfg call n n0 a s).bind fun r =>
   match r with
   |(.norm,s')=>exec cfg call n n0 b s'
   |(.exit i,s')=>some (.exit i,s')
   |(.ret,s')=>some (.ret,s')
 | .cond c a b,s=>(aO s.env c).bind fun v =>
   match v with
   | .bool t=>if t then exec cfg call n n0 a s else exec cfg call n n0 b s
   | _=>none
 | .block id c,s=>(exec cfg call n n0 c s).map fun r =>
   match r with
   |(.norm,s')=>(.norm,s')
   |(.exit i,s')=>if i=id then (.norm,s') else (.exit i,s')
   |(.ret,s')=>(.ret,s')
 | .loop f c,s=>(dm (fun s=>exec cfg call n n0 c (cM n0 f s)) n s).map fun r=>(r.1,cM n0 f r.2)
 | .exit i,s=>some (.exit i,s)
 | .ret,s=>some (.ret,s)
 | .start g,s=>(tz cfg g s).map fun s=>(.norm,s)
 | .uncons g ps ws a b,s =>
  match s.env[g]? with
  | some (.rest _ [])=>exec cfg call n n0 b s
  | some (.rest ts (.tup vs::l)) =>
   if vs.length=ps.length then (exec cfg call n n0 a ⟨tj (s.env.set g .junk) ps vs,s.mem⟩).map fun r=>(r.1,⟨(e9 r.2.env ws).set g (.rest ts l),r.2.mem⟩) else none
  | _=>none
 | .cseq f a b,s=>(exec cfg call n n0 a s).bind fun r =>
   match r with
   |(.norm,s')=>exec cfg call n n0 b (cM n0 f s')
   |(.exit i,s')=>some (.exit i,s')
   |(.ret,s')=>some (.ret,s')
def md (P:Program) (s:S):RV->Option V
 | .tmp t=>s.env[t]?
 | .cell t ty=>(s.env[t]?).bind fun p=>eP P s.mem ty p
def oZ (cfg:bi) (call:b9) (n:Nat) (fa:FA) (args:List V) (mem:List O):Option (List V × List O) :=
 if args.length=fa.np/\fa.np<=fa.nt then
  (exec cfg call n mem.length fa.body ⟨args++bE (fa.nt - fa.np) (.tup []),mem⟩).bind fun r =>
   match r with
   |(.exit _,_)=>none
   |(_,s)=>(bo (md cfg.P s) fa.results).map fun vs=>(vs,s.mem)
 else none
def iG:List Oper->List (List Nat)->List (List Nat)
 | [],acc=>acc
 | o::rest,acc=>iG rest (acc++[(o.after.toList.flatMap fun e=>if Region.binds .any e then e.on::acc.getD e.on [] else []).eraseDups])
def oV:Op->Bool
 | .load .. | .indexAddr .. | .slice .. | .lookup ..=>true
 | .call c=>match c.callee with
  | .builtin .min | .builtin .max=>false
  | _=>true
 | _=>false
def mP:Op->Bool
 | .indexAddr .. | .slice ..=>true
 | .call c=>match c.callee with
  | .builtin .len | .builtin .append=>true
  | _=>false
 | _=>false
def so:Op->Bool
 | .call c=>match c.callee with
  | .builtin .append=>true
  | _=>false
 | _=>false
def iT:Op->Bool
 | .store .. | .alloc _ | .box .. | .buildSlice .. | .makeSlice .. | .makeMap .. | .mapUpdate ..=>true
 | .call c=>match c.callee with
  | .builtin .len | .builtin .min | .builtin .max=>false
  | .builtin _=>true
  | _=>false
 | _=>false
def Me:Op->Bool
 | .alloc _ | .box .. | .buildSlice .. | .makeSlice ..=>true
 | .call c=>match c.callee with
  | .builtin .append=>true
  | _=>false
 | _=>false
def cN (o:aF):Bool:=!o.rx && ((iT o.op && !(o.bx && (m8 o.op || so o.op || oD o.op))) || (ej o.op && (o.sq || o.bx)))
def nH (o:aF):Bool:=!o.rx && oV o.op && !(o.bx && !o.sq && mP o.op)
def nE (o:aF):Bool:=!o.rx && (Me o.op || (ej o.op && o.bx && !o.sq) || (uO o.op && o.bx))
def jz (a b:aF):Bool :=
 (match a.dst with | some d=>(gP b).contains d || b.dst==some d | none=>false) ||
 (match b.dst with | some d=>(gP a).contains d | none=>false)
def nc (a b:aF):Bool:=(cN a && (nH b || cN b)) || (nH a && cN b)
def iA (a b:aF):Bool:=(nE a && il b) || (il a && nE b) || (fG a && hJ b) || (hJ a && fG b)
def gW (a b:aF):Bool:=jz a b || (nc a b && !iA a b)
def writers (l:List aF) (d:Nat):List Nat:=(dl l.length).filter fun i=>(l[i]?).bind (·.dst)==some d
def xh (l:List aF):Bool :=
 (dl l.length).all fun m =>
  match l[m]? with
  | some ⟨dst,.box T _,_,g,true,_,rx⟩ =>
   match dst with
   | some d=>g.isNone && !rx &&
    match writers l d with
    | [k,m']=>m'==m && (match l[k]? with
     | some ⟨_,.alloc T',_,g',bx',_,rx'⟩=>T'==T && g'.isNone && bx' && !rx'
     | _=>false)
    | _=>false
   | none=>false
  | _=>true
def wM (ops:Array Oper) (l:List aF):Bool :=
 let b:=iG ops.toList []
 xh l &&
 (ops.toList.zipIdx.all fun x=>x.1.after.toList.all fun e=>!Region.binds .any e || decide (e.on < x.2)) &&
 (dl l.length).all fun j=>(dl j).all fun i =>
  match l[i]?,l[j]? with
  | some oi,some oj=>!gW oi oj || (b.getD j []).contains i
  | _,_=>true
def zK (ops:Array Oper) (l:List aF):Bool :=
 let b:=iG ops.toList []
 (l.all fun o=>o.guard.isNone && !o.rx && match o.op with | .assign _=>!o.bx | .makeSlice ..=>true | _=>false) &&
 (ops.toList.zipIdx.all fun x=>x.1.after.toList.all fun e=>!Region.binds .any e || decide (e.on < x.2)) &&
 (dl l.length).all fun j=>(dl j).all fun i =>
  match l[i]?,l[j]? with
  | some oi,some oj=>!jz oi oj || (b.getD j []).contains i
  | _,_=>true
def uB (ops:Array Oper) (l:List aF):Bool:=wM ops l || zK ops l
def xu (ops:Array Oper) (o:Oper):Option aF :=
 match o.guard with
 | none=>some ⟨o.dst,o.op,o.type,none,false,false,false⟩
 | some (j,want)=>((ops[j]?).bind (·.dst)).map fun d=>⟨o.dst,o.op,o.type,some (d,want),false,false,false⟩
def lR:List aF->List (Bool × Bool × Bool)->List aF
 | q::qs,x::xs=>⟨q.dst,q.op,q.type,q.guard,x.1 || q.bx,x.2.1,x.2.2⟩::lR qs xs
 | qs,_=>qs
def Ad (l:List aF) (d T:Nat):Bool :=
 (match l.filter fun o=>o.dst==some d with
  | [a]=>a.guard.isNone && (match a.op with | .alloc T'=>T'==T | _=>false)
  | _=>false) &&
 (match l.filter fun o=>(gP o).contains d with
  | [s]=>s.guard.isNone && s.dst.isNone && (match s.op with | .store T' (.tmp d') y=>T'==T && d'==d && (match y with | .tmp e=>e != d | _=>true) | _=>false)
  | _=>false)
def KE (l:List aF) (o:aF):aF :=
 match o.op with
 | .alloc T=>match o.dst with
  | some d=>cond (Ad l d T) ⟨some d,.alloc T,o.type,o.guard,true,o.sq,o.rx⟩ o
  | none=>o
 | .store T (.tmp d) y=>cond (Ad l d T && o.guard.isNone && o.dst.isNone) ⟨some d,.box T y,o.type,none,true,o.sq,o.rx⟩ o
 | _=>o
def xg (l:List aF):List aF:=l.map (KE l)
def Ld (o:aF):Bool:=!(o.bx && oD o.op) && (oV o.op || iT o.op)
def GV (o:aF):Bool:=!(o.bx && oD o.op) && iT o.op
def pN (b:List (List Nat)) (x y:Nat):Bool:=x==y || (b.getD y []).contains x || (b.getD x []).contains y
def Dr (m:Nat) (l:List aF) (b:List (List Nat)):List (Bool × Bool × Bool) :=
 l.zipIdx.map fun x =>
  let rx:=(m==2 || m==5) && o4 x.1.op && l.zipIdx.any fun y=>(ej y.1.op || GV y.1) && !pN b x.2 y.2
  let sq:=ej x.1.op && l.zipIdx.all fun y=>!Ld y.1 || ((m==1 || m==4 || m==5) && m8 y.1.op) || (m==4 && mP y.1.op) || pN b x.2 y.2 || ((m==2 || m==5) && o4 y.1.op)
  let st:=(m==1 || m==3 || m==4) && uO x.1.op && l.zipIdx.any fun y=>uN y.1.op && !pN b x.2 y.2
  if m==6 then
   let cl:=ej x.1.op && l.zipIdx.any fun y=>o4 y.1.op && !pN b x.2 y.2
   let ls:=o4 x.1.op && l.zipIdx.any fun y=>ej y.1.op && !pN b x.2 y.2
   (cl || ls,cl || ls || (ej x.1.op && l.zipIdx.all fun y=>!Ld y.1 || pN b x.2 y.2),false)
  else if m==4 then
   let inc:=l.zipIdx.any fun y=>(ej y.1.op || GV y.1) && !pN b x.2 y.2
   (uN x.1.op || m8 x.1.op || (mP x.1.op && inc) || st || (ej x.1.op && !sq),sq,false)
  else if m==3 then
   let inc:=l.zipIdx.any fun y=>(ej y.1.op || GV y.1) && !pN b x.2 y.2
   (uN x.1.op || m8 x.1.op || (mP x.1.op && inc) || st,false,ej x.1.op && inc)
  else (st || m==1 && (uN x.1.op || m8 x.1.op || (ej x.1.op && !sq)) || m==5 && m8 x.1.op,sq,rx)
def nN (a b:List Nat):List Nat:=a.foldr (fun t acc=>if acc.contains t then acc else t::acc) b
def Vh (o:aF) (out:List Nat):List Nat :=
 let rs:=(o.op.operands.toList.filterMap fun | .tmp t=>some t | _=>none)++(match o.guard with | some (t,_)=>[t] | none=>[])
 nN rs (match o.dst with | some d=>out.filter (fun t=>!(t==d)) | none=>out)
def K0 (i:Nat):List (Nat × List Nat)->List Nat
 | []=>[]
 |(j,l)::r=>if i=j then l else K0 i r
def live (res:List Nat):List (Nat × List Nat)->C->List Nat->List Nat
 | _,.skip,out=>out
 | _,.ops _ l,out=>l.foldr Vh out
 | env,.seq a b,out=>live res env a (live res env b out)
 | env,.cond c a b,out=>nN (match c with | .tmp t=>[t] | _=>[]) (nN (live res env a out) (live res env b out))
 | env,.block i c,out=>live res ((i,out)::env) c out
 | env,.loop _ c,_=>live res env c []
 | env,.exit i,_=>K0 i env
 | _,.ret,_=>res
 | _,.start g,out=>nN [g] out
 | env,.uncons g ps _ a b,out=>nN [g] (nN ((live res env a out).filter fun t=>!ps.contains t) (live res env b out))
 | env,.cseq _ a b,out=>live res env a (live res env b out)
def fX:C->Bool
 | .start _=>true
 | _=>false
def headD:C->Option Nat
 | .ops _ l=>l.findSome? (·.dst)
 | .seq a _=>headD a
 | _=>none
def Cl (pr:Nat->Bool) (b:C):Bool :=
 match headD b with
 | some d=>pr (2000000+d)
 | none=>false
def gD (pr:Nat->Bool) (nt:Nat) (res:List Nat):List (Nat × List Nat)->C->List Nat->C
 | env,.seq a b,out=>cond (Cl pr b && !fX a)
   (.cseq ((dl nt).filter fun t=>!(nN (live res env b out) (nN res (env.flatMap (·.2)))).contains t) (gD pr nt res env a (live res env b out)) (gD pr nt res env b out))
   (.seq (gD pr nt res env a (live res env b out)) (gD pr nt res env b out))
 | env,.cond c a b,out=>.cond c (gD pr nt res env a out) (gD pr nt res env b out)
 | env,.block i c,out=>.block i (gD pr nt res ((i,out)::env) c out)
 | env,.loop _ c,_ =>
  let h:=live res env c []
  let keep:=nN h (nN res (env.flatMap (·.2)))
  .loop ((dl nt).filter fun t=>!keep.contains t) (gD pr nt res env c h)
 | _,.skip,_=>.skip
 | _,.ops d l,_=>.ops d l
 | _,.exit i,_=>.exit i
 | _,.ret,_=>.ret
 | _,.start g,_=>.start g
 | _,.uncons g ps ws a b,_=>.uncons g ps ws a b
 | env,.cseq f a b,out=>.cseq f (gD pr nt res env a (live res env b out)) (gD pr nt res env b out)
def bH:C->C
 | .seq a b=>.seq (bH a) (bH b)
 | .cond c a b=>.cond c (bH a) (bH b)
 | .block i c=>.block i (bH c)
 | .loop _ c=>.loop [] (bH c)
 | .skip=>.skip
 | .ops d l=>.ops d l
 | .exit i=>.exit i
 | .ret=>.ret
 | .start g=>.start g
 | .uncons g ps ws a b=>.uncons g ps ws a b
 | .cseq _ a b=>.seq (cond (fX a) (.uncons 0 [] [] (.start 0) .skip) (bH a)) (bH b)
def cV:C->List Nat
 | .ops _ l=>l.filterMap (·.dst)
 | .seq a b=>cV a++cV b
 | .cond _ a b=>cV a++cV b
 | .block _ c=>cV c
 | .loop _ c=>cV c
 | .uncons _ _ _ a b=>cV a++cV b
 | .cseq _ a b=>cV a++cV b
 | _=>[]
def dq:C->List Nat
 | .seq a b=>dq a++dq b
 | .cond _ a b=>dq a++dq b
 | .block _ c=>dq c
 | .loop _ c=>dq c
 | .uncons _ _ _ a b=>dq a++dq b
 | .cseq _ a b=>dq a++dq b
 | .exit i=>[i]
 | _=>[]
def vG:C->Bool
 | .skip=>true
 | .ops _ _=>true
 | .seq a b=>vG a && vG b
 | _=>false
def fJ:C->Bool
 | .start _=>true
 | .seq a b=>fJ a || fJ b
 | .cond _ a b=>fJ a || fJ b
 | .block _ c=>fJ c
 | .loop _ c=>fJ c
 | .uncons _ _ _ a b=>fJ a || fJ b
 | .cseq _ a b=>fJ a || fJ b
 | _=>false
def oW (g:Nat):Nat:=1000000+g
def AL (g:Nat) (ps:List Nat) (pa pc:C):Option C :=
 if vG pa && !fJ pa && !fJ pc && !(dq (.seq pa pc)).contains (oW g) then
  some (.seq (.start g) (.block (oW g) (.loop [] (.uncons g ps (ps++(cV pa++cV pc)) (.seq pa pc) (.exit (oW g))))))
 else none
def yb (ops:Array Oper) (l:List aF):List (Nat × Bool)->Option (List aF)
 | []=>none
 |(m,lz)::r =>
  let l0:=if lz then xg l else l
  let l1:=lR l0 (Dr m l0 (iG ops.toList []))
  if uB ops l1 then some l1 else yb ops l r
def yZ (pr:Nat->Bool) (o:aF):aF :=
 match o.op,o.dst with
 | .box _ _,some d=>cond (pr (5000000+d)) ⟨o.dst,o.op,o.type,o.guard,o.bx,o.sq,true⟩ o
 | .assign _,some d | .move _,some d | .buildSlice ..,some d=>cond (pr (7000000+d)) ⟨o.dst,o.op,o.type,o.guard,true,o.sq,o.rx⟩ o
 | _,_=>o
def cJ (pr:Nat->Bool):Code->Option C
 | .skip=>some .skip
 | .region _ ops draw=>(bo (xu ops) ops.toList).bind fun l =>
   if draw then (yb ops l ((if pr (((ops[0]?).bind (·.dst)).getD 0) then [(2,false)] else if pr (4000000+((ops[0]?).bind (·.dst)).getD 0) then [(1,false)] else if pr (6000000+((ops[0]?).bind (·.dst)).getD 0) then [(5,false)] else if pr (8000000+((ops[0]?).bind (·.dst)).getD 0) then [(6,false)] else [])++[(0,false),(1,false),(0,true),(1,true),(4,false),(4,true),(2,false),(3,false),(2,true),(3,true)])).map (.ops true)
   else some (.ops false (l.map (yZ pr)))
 | .seq a b=>(cJ pr a).bind fun a=>(cJ pr b).map fun b=>.seq a b
 | .cond c a b=>(cJ pr a).bind fun a=>(cJ pr b).map fun b=>.cond c a b
 | .block id c=>(cJ pr c).map (.block id)
 | .loop c=>(cJ pr c).map fun c=>.loop [] c
 | .exit i=>some (.exit i)
 | .ret=>some .ret
 | .rangeFunc (.tmp g) ps a c=>(cJ pr a).bind fun pa=>(cJ pr c).bind fun pc=>AL g ps.toList pa pc
 | _=>none
def ko (l:Nat):Nat:=3000000+2 * l
def lN (l:Nat):Nat:=3000001+2 * l
def z8:Code->Option Nat
 | .label l=>some l
 | _=>none
def er:Code->List Nat
 | .seq a b=>er a++er b
 | .label l=>[l]
 | _=>[]
def cZ:C->List Nat
 | .seq a b=>cZ a++cZ b
 | .cond _ a b=>cZ a++cZ b
 | .block id c=>(cZ c).filter fun i=>!(i==id)
 | .loop _ c=>cZ c
 | .uncons _ _ _ a b=>cZ a++cZ b
 | .cseq _ a b=>cZ a++cZ b
 | .exit i=>[i]
 | _=>[]
def df (pr:Nat->Bool):Code->Option C
 | .seq a b =>
  match z8 a with
  | some l=>(df pr b).map fun cb=>.block (lN l) (.loop [] (.block (ko l) (.seq cb (.exit (lN l)))))
  | none=>if (er a).isEmpty then (df pr a).bind fun ca=>(df pr b).map fun cb=>.seq ca cb else none
 | .cond c a b=>if (er a).isEmpty && (er b).isEmpty then (df pr a).bind fun ca=>(df pr b).map fun cb=>.cond c ca cb else none
 | .goto l=>some (.exit (ko l))
 | .block id c=>if (er c).isEmpty && gL id 3000000 then (df pr c).map (.block id) else none
 | c=>(cJ pr c).bind fun cc=>if (dq cc).all fun i=>gL i 3000000 then some cc else none
def Nv (c:Code) (cc:C):Bool:=decide (er c).Nodup && (cZ cc).all fun i=>gL i 3000000
def Gh:Code->Option (Code × Code)
 | .seq r (.scope c)=>some (r,c)
 | _=>none
def vh (pr:Nat->Bool) (c:Code):Option C :=
 match Gh c with
 | some (r,c)=>(cJ pr r).bind fun cr=>(df pr c).bind fun cs=>if Nv c cs then some (.seq cr cs) else none
 | none=>cJ pr c
def tD:ResultVar->RV
 | .tmp t=>.tmp t
 | .cell t ty=>.cell t ty
def fH (P:Program) (pr:Nat->Bool) (f:FuncId):Option FA :=
 match P.funcs[f]? with
 | some fn =>
  if fn.name=="runtime.NumGoroutine" then none else
  match fn.body with
  | some c=>(vh pr c).map fun b=>⟨fn.params.size+fn.nfree,fn.ntmps,fn.results.toList.map tD,fn.resultTypes.toList,gD pr fn.ntmps (fn.results.toList.map fun r=>match r with | .tmp t=>t | .cell t _=>t) [] b []⟩
  | none=>none
 | none=>none
def wC (P:Program) (t:TypeId):O :=
 match P.underlying t with
 | some (.map _ _)=>.marena t []
 | _=>.arena t []
def og (cfg:bi) (f:FuncId):List O:=(cfg.ars f).map (wC cfg.P)
def u4:List Nat->Bool
 | []=>true
 | x::l=>!l.contains x && u4 l
def yT (cfg:bi) (f:FuncId) (as0:List V):Bool:=(cfg.ars f).isEmpty || (u4 (cfg.ars f) && mb as0)
def zO (cfg:bi) (f:FuncId) (mem:List O) (ts:List TypeId) (vs:List V):Option V :=
 match cfg.ars f with
 | []=>lS cfg.P mem ts vs
 | _=>match vs with | [v]=>if v.flat1 then some v else none | _=>none
def nC (cfg:bi) (call:b9) (n:Nat) (f:FuncId) (as0:List V):Option V :=
 match cfg.pprim f with
 | some g=>g as0
 | none=>if yT cfg f as0 then (fH cfg.P (cfg.rxf f) f).bind fun fa=>(oZ cfg call n fa as0 (og cfg f)).bind fun r=>zO cfg f r.2 fa.rtypes r.1 else none
def m4 (cfg:bi) (call:b9) (n:Nat) (f:FuncId) (as0:List V) (mem:List O):Option (V × List O) :=
 match cfg.iprim f with
 | some g=>g as0 mem
 | none=>(fH cfg.P (cfg.rxf f) f).bind fun fa=>(oZ cfg call n fa as0 mem).map fun r=>(o7 r.1,r.2)
def dD (cfg:bi):Nat->b9
 | 0=>⟨fun _ _=>none,fun _ _ _=>none⟩
 | n+1=>⟨nC cfg (dD cfg n) n,m4 cfg (dD cfg n) n⟩
end
end Go.Lite
namespace Go.Lite
open Go
structure bz where
 u:Value
 sz:Nat
abbrev J:=Nat->Option bz
structure Zs where
 z:Nat->Nat->Prop
 a:TypeId->Nat->Option Nat
 i:TypeId->Option Nat
instance:CoeFun Zs (fun _=>Nat->Nat->Prop):=⟨Zs.z⟩
def j0:J:=fun _=>none
def bz.start:bz->Option (Nat × Nat)
 | ⟨.slice (some ⟨g,b,none⟩) _ _,_⟩=>some (g,b)
 | ⟨.pointer (some ⟨g,b,none⟩),_⟩=>some (g,b)
 | _=>none
def bz.blk:bz->Option Nat
 | ⟨.slice (some a) _ _,_⟩=>some a.block
 | ⟨.pointer (some a),_⟩=>some a.block
 | ⟨.map (some r),_⟩=>some r
 | _=>none
def cf (j:J) (id:Nat):Option Nat:=(j id).bind bz.blk
def gy (w:World) (g:Nat):Option (Nat × TypeId × Nat × Nat) :=
 match w.heap[g]? with
 | some (.cells us t fr)=>some (us.size,t,fr)
 | _=>none
theorem UZ {w w':World} {g:Nat} (h:w'.heap[g]? = w.heap[g]?):gy w' g=gy w g:=by simp only [gy,h]
theorem gC {w w':World} {g:Nat} (h:w'.heap[g]? = w.heap[g]?) (o:Nat):w'.cell? ⟨g,o,none⟩=w.cell? ⟨g,o,none⟩/\gy w' g=gy w g :=
 ⟨World.cell?_of_block (a:=⟨g,o,none⟩) h,UZ h⟩
def mV (f:FuncId) (us:List Value):Value:=if f < gm then .func (.func f) #[] us.toArray else .func (.func (f - gm)) us.toArray #[]
theorem zI {f:FuncId} {us:List Value} (h:f < gm):mV f us = .func (.func f) #[] us.toArray:=if_pos h
theorem Tq {f:FuncId} {us:List Value} (h:gm<=f):mV f us = .func (.func (f - gm)) us.toArray #[]:=if_neg (Nat.not_lt.2 h)
theorem Tp {f:FuncId} {us:List Value}:mV (gm+f) us = .func (.func f) us.toArray #[]:=by
 unfold mV
 generalize gm=B
 rw [if_neg (by simp),Nat.add_sub_cancel_left]
inductive VR (Z:Zs) (w:World):J->V->Value->Prop
 | junk {j:J} {u:Value}:VR Z w j .junk u
 | bool {j:J} {b:Bool}:VR Z w j (.bool b) (.bool b)
 | int {j:J} {k:IntKind} {n:Int}:VR Z w j (.int k n) (.int k n)
 | str {j:J} {s:ByteArray}:VR Z w j (.str s.data.toList) (.string s)
 | agg {j:J} {cs:List V} {us:List Value} (hl:cs.length=us.length) (h:∀(i:Nat) (c:V) (u:Value),cs[i]? = some c->us[i]? = some u->VR Z w j c u):VR Z w j (.agg cs) (.agg us.toArray)
 | tup {j:J} {cs:List V} {us:List Value} (hl:cs.length=us.length) (h:∀(i:Nat) (c:V) (u:Value),cs[i]? = some c->us[i]? = some u->VR Z w j c u):VR Z w j (.tup cs) (.tuple us.toArray)
 | nilS {j:J}:VR Z w j .nilS (.slice none 0 0)
 | sl0 {j:J} {A:Option Addr} {c:Nat}:VR Z w j (.sl []) (.slice A 0 c)
 | sl {j:J} {l:List V} {g b c sz:Nat} (f:Nat->Nat->Value) (hlc:l.length<=c) (hsz:0 < sz) (hl:∀(k:Nat) (x:V),l[k]? = some x->x.cells.length=sz)
   (hc:∀(k:Nat) (x:V) (i:Nat) (y:V),l[k]? = some x->x.cells[i]? = some y->y.one=true/\Z g (b+(k * sz+i))/\w.cell? ⟨g,b+(k * sz+i),none⟩=some (f k i))
   (hv:∀(k:Nat) (x:V) (i:Nat) (y:V),l[k]? = some x->x.cells[i]? = some y->VR Z w j0 y (f k i)):VR Z w j (.sl l) (.slice (some ⟨g,b,none⟩) l.length c)
 | own {j:J} {id:Nat} {A:Option Addr} {n c sz:Nat} (hj:j id=some ⟨.slice A n c,sz⟩) (h0:∀a,A=some a->a.off=0):VR Z w j (.own id) (.slice A n c)
 | win {j:J} {id off len n c sz c':Nat} {A A':Option Addr} (hj:j id=some ⟨.slice A n c,sz⟩) (hn:off+len<=n) (hlc:len<=c') (hcc:off+c'=c)
   (ha:(A=none/\A'=none)∨∃g b o,A=some ⟨g,b,none⟩/\A'=some ⟨g,b+o,none⟩/\o<=off * sz/\(0 < c'->o=off * sz)):VR Z w j (.win id off len) (.slice A' len c')
 | ptr {j:J} {id k off g b:Nat} {h:bz} (hj:j id=some h) (hs:h.start=some (g,b)):VR Z w j (.ptr id k off) (.pointer (some ⟨g,b+(k * h.sz+off),none⟩))
 | ref {j:J} {x:V} {off g b:Nat} (f:Nat->Value)
   (hc:∀(i:Nat) (y:V),x.cells[i]? = some y->y.one=true/\Z g (b+i)/\w.cell? ⟨g,b+i,none⟩=some (f i))
   (hv:∀(i:Nat) (y:V),x.cells[i]? = some y->VR Z w j0 y (f i)):VR Z w j (.ref x off) (.pointer (some ⟨g,b+off,none⟩))
 | fn {j:J} {f:FuncId} {cs:List V} {us:List Value} (hl:cs.length=us.length) (h:∀(i:Nat) (c:V) (u:Value),cs[i]? = some c->us[i]? = some u->VR Z w j c u):VR Z w j (.fn f cs) (mV f us)
 | mp {j:J} {id r sz:Nat} (hj:j id=some ⟨.map (some r),sz⟩):VR Z w j (.mp id) (.map (some r))
 | nilP {j:J}:VR Z w j .nilP (.pointer none)
 | nilF {j:J}:VR Z w j .nilF .nilFunc
 | nilM {j:J}:VR Z w j .nilM (.map none)
 | nilI {j:J}:VR Z w j .nilI .nilIface
 | unk {j:J} {u:Value} (h:u.oneCell'=true):VR Z w j .unk u
 | ifc {j:J} {t:TypeId} {x:V} {u:Value} (h:VR Z w j0 x u):VR Z w j (.ifc t x) (.iface t u)
 | hp {j:J} {t:TypeId} {k off g:Nat} (h:Z.a t k=some g):VR Z w j (.hp t k off) (.pointer (some ⟨g,off,none⟩))
 | hm {j:J} {t:TypeId} {k g:Nat} (h:Z.a t k=some g):VR Z w j (.hm t k) (.map (some g))
 | rest {j:J} {ts:List TypeId} {l:List V} {u:Value}:VR Z w j (.rest ts l) u
 | tail {j:J} {id off n c sz:Nat} {A:Option Addr} {u:Value} (hj:j id=some ⟨.slice A n c,sz⟩) (hn:off<=n) (h:VR Z w j (.win id off (n - off)) u):VR Z w j (.tail id off) u
 | lit {j:J} {t:TypeId} {l:List V} {g n:Nat} (h:VR Z w j (.sl l) (.slice (some ⟨g,0,none⟩) l.length l.length)) (hk:0 < l.length->gy w g=some (n,t,0,0)) (hz:0 < l.length->Z g 0):VR Z w j (.lit t l) (.slice (some ⟨g,0,none⟩) l.length l.length)
section
variable {P:Program} {Z Z':Zs} {w w':World} {j j':J}
def aQ (j j':J):Prop:=∀id h,j id=some h->j' id=some h
theorem aQ.refl (j:J):aQ j j:=fun _ _ h=>h
theorem aQ.trans {j1:J} (h:aQ j j1) (h':aQ j1 j'):aQ j j':=fun id x e=>h' id x (h id x e)
theorem aQ.zero (j:J):aQ j0 j:=fun _ _ h=>by cases h
structure be (Z:Zs) (w:World) (Z':Zs) (w':World):Prop where
 z:∀g o,Z g o->Z' g o/\w'.cell? ⟨g,o,none⟩=w.cell? ⟨g,o,none⟩/\gy w' g=gy w g
 a:∀t k g,Z.a t k=some g->Z'.a t k=some g
 i:Z'.i=Z.i
instance:CoeFun (be Z w Z' w') (fun _=>∀g o,Z g o->Z' g o/\w'.cell? ⟨g,o,none⟩=w.cell? ⟨g,o,none⟩/\gy w' g=gy w g):=⟨be.z⟩
theorem be.of (h:∀g o,Z g o->Z' g o/\w'.cell? ⟨g,o,none⟩=w.cell? ⟨g,o,none⟩/\gy w' g=gy w g) (ha:Z'.a=Z.a:=by rfl) (hi:Z'.i=Z.i:=by rfl):be Z w Z' w' :=
 ⟨h,fun t k g e=>by grind,hi⟩
theorem be.refl (Z:Zs) (w:World):be Z w Z w:=.of fun _ _ h=>⟨h,rfl,rfl⟩
theorem be.trans {Z1:Zs} {w1:World} (h:be Z w Z1 w1) (h':be Z1 w1 Z' w'):be Z w Z' w':=⟨fun g o z =>
 ⟨(h' g o (h g o z).1).1,((h' g o (h g o z).1).2.1).trans (h g o z).2.1,((h' g o (h g o z).1).2.2).trans (h g o z).2.2⟩,fun t k g e=>h'.a t k g (h.a t k g e),h'.i.trans h.i⟩
theorem VR.mono {v:V} {u:Value} (h:VR Z w j v u) (hz:be Z w Z' w'):∀{j':J},aQ j j'->VR Z' w' j' v u:=by
 induction h with
 | junk=>intro j' _;exact .junk
 | bool=>intro j' _;exact .bool
 | int=>intro j' _;exact .int
 | str=>intro j' _;exact .str
 | agg hl _ ih=>intro j' hj;exact .agg hl fun i c u h1 h2=>ih i c u h1 h2 hj
 | tup hl _ ih=>intro j' hj;exact .tup hl fun i c u h1 h2=>ih i c u h1 h2 hj
 | nilS=>intro j' _;exact .nilS
 | sl0=>intro j' _;exact .sl0
 | sl f hlc hsz hl hc _ ih =>
  intro j' _
  refine .sl f hlc hsz hl (fun k x i y h1 h2=>?_) (fun k x i y h1 h2=>ih k x i y h1 h2 (aQ.refl _))
  obtain ⟨a,b,c⟩:=hc k x i y h1 h2
  exact ⟨a,(hz _ _ b).1,(hz _ _ b).2.1.trans c⟩
 | own hj h0=>intro j' h';exact .own (h' _ _ hj) h0
 | win hj hn hlc hcc ha=>intro j' h';exact .win (h' _ _ hj) hn hlc hcc ha
 | ptr hj hs=>intro j' h';exact .ptr (h' _ _ hj) hs
 | ref f hc _ ih =>
  intro j' _
  refine .ref f (fun i y h1=>?_) (fun i y h1=>ih i y h1 (aQ.refl _))
  obtain ⟨a,b,c⟩:=hc i y h1
  exact ⟨a,(hz _ _ b).1,(hz _ _ b).2.1.trans c⟩
 | fn hl _ ih=>intro j' hj;exact .fn hl fun i c u h1 h2=>ih i c u h1 h2 hj
 | mp hj=>intro j' h';exact .mp (h' _ _ hj)
 | nilP=>intro j' _;exact .nilP
 | nilF=>intro j' _;exact .nilF
 | nilM=>intro j' _;exact .nilM
 | nilI=>intro j' _;exact .nilI
 | unk h=>intro j' _;exact .unk h
 | ifc _ ih=>intro j' _;exact .ifc (ih (aQ.refl _))
 | hp h=>intro j' _;exact .hp (hz.a _ _ _ h)
 | hm h=>intro j' _;exact .hm (hz.a _ _ _ h)
 | rest=>intro j' _;exact .rest
 | tail hj hn _ ih=>intro j' h';exact .tail (h' _ _ hj) hn (ih h')
 | lit h hk hzz ih=>intro j' hj;exact .lit (ih hj) (fun h0=>(hz _ _ (hzz h0)).2.2.trans (hk h0)) (fun h0=>(hz _ _ (hzz h0)).1)
theorem VR.up {v:V} {u:Value} (h:VR Z w j0 v u) (j:J):VR Z w j v u:=h.mono (be.refl Z w) (aQ.zero j)
theorem VR.oneCell {v:V} {u:Value} (h:VR Z w j v u) (ho:v.one=true):u.oneCell'=true:=by
 cases h<;>first | rfl | (simp [V.one] at ho;done) | assumption | (unfold mV;split<;>rfl) | skip
 rename_i h
 cases h
 rfl
theorem jw {v:V} (h:v.one=true):v.cells=[v]:=by cases v<;>first | rfl | (simp [V.one] at h)
theorem ZS {u:Value} (h:u.oneCell'=true):u.cells=#[u]:=by cases u<;>first | rfl | (simp [Value.oneCell'] at h)
theorem VR.cellsOf {v:V} {u:Value} (h:VR Z w j v u) (ho:∀y∈v.cells,y.one=true) :
  u.cells.size=v.cells.length/\∀(i:Nat) (y:V),v.cells[i]? = some y->∃c,u.cells[i]? = some c/\VR Z w j y c:=by
 have key:v.one=true->u.cells.size=v.cells.length/\∀(i:Nat) (y:V),v.cells[i]? = some y->∃c,u.cells[i]? = some c/\VR Z w j y c:=by
  intro h1
  rw [jw h1,ZS (h.oneCell h1)]
  grind
 by_cases h1:v.one=true
 ·grind
 ·cases h with
  | agg hl hh =>
   refine ⟨by simp [V.cells,Value.cells,hl],fun i y hy=>?_⟩
   simp only [V.cells] at hy
   have hi:i < _:=(bj.1 hy).1
   rename_i cs us
   have:us[i]? = some (us[i]'(by omega)):=bC (by omega)
   exact ⟨us[i]'(by omega),by simp [Value.cells,this],hh i y _ hy this⟩
  | junk=>have:=ho .junk (by simp [V.cells]);grind
  | rest=>have:=ho _ (eZ.2 rfl);grind
  | tup hl hh=>have:=ho _ (eZ.2 rfl);grind
  | _=>simp [V.one] at h1
def dY (Z:Zs) (w:World) (j:J) (g b:Nat) (cs:List V):Prop :=
 ∀(i:Nat) (y:V),cs[i]? = some y->y.one=true/\∃u,w.cell? ⟨g,b+i,none⟩=some u/\VR Z w j y u
theorem dY.mono {g b:Nat} {cs:List V} (h:dY Z w j g b cs) (hz:be Z w Z' w') (hj:aQ j j') (hb:w'.heap[g]? = w.heap[g]?):dY Z' w' j' g b cs:=by
 intro i y hy
 obtain ⟨a,u,hu,hv⟩:=h i y hy
 exact ⟨a,u,(World.cell?_of_block (a:=⟨g,b+i,none⟩) hb).trans hu,hv.mono hz hj⟩
theorem VR.slInv {l:List V} {u:Value} (h:VR Z w j (.sl l) u):(∃A c,l=[]/\u = .slice A 0 c) ∨
  ∃g b c sz,u = .slice (some ⟨g,b,none⟩) l.length c/\l.length<=c/\0 < sz/\∀(k:Nat) (x:V),l[k]? = some x->x.cells.length=sz/\(∀i,i < sz->Z g (b+(k * sz+i)))/\dY Z w j0 g (b+k * sz) x.cells:=by
 cases h with
 | sl0=>grind
 | sl f hlc hsz hl hc hv =>
  refine .inr ⟨_,_,_,_,rfl,hlc,hsz,fun k x hk=>⟨hl k x hk,fun i hi=>?_,fun i y hy=>?_⟩⟩
  all_goals grind
theorem VR.slMk {l:List V} {g b c sz:Nat} (hlc:l.length<=c) (hsz:0 < sz) (h:∀(k:Nat) (x:V),l[k]? = some x->x.cells.length=sz/\(∀i,i < sz->Z g (b+(k * sz+i)))/\dY Z w j0 g (b+k * sz) x.cells) :
  VR Z w j (.sl l) (.slice (some ⟨g,b,none⟩) l.length c):=by
 refine .sl (fun k i=>(w.cell? ⟨g,b+(k * sz+i),none⟩).getD undef) hlc hsz (fun k x hk=>(h k x hk).1) (fun k x i y hk hy=>?_) (fun k x i y hk hy=>?_)
 ·obtain ⟨h1,h2,h3⟩:=h k x hk
  obtain ⟨a,u,hu,_⟩:=h3 i y hy
  grind
 ·obtain ⟨h1,h2,h3⟩:=h k x hk
  obtain ⟨a,u,hu,hv⟩:=h3 i y hy
  grind
theorem VR.refInv {x:V} {off:Nat} {u:Value} (h:VR Z w j (.ref x off) u) :
  ∃g b,u = .pointer (some ⟨g,b+off,none⟩)/\(∀i,i < x.cells.length->Z g (b+i))/\dY Z w j0 g b x.cells:=by
 cases h with
 | ref f hc hv =>
  refine ⟨_,_,rfl,fun i hi=>(hc i _ (bC hi)).2.1,fun i y hy=>?_⟩
  grind
theorem VR.refMk {x:V} {off g b:Nat} (hz:∀i,i < x.cells.length->Z g (b+i)) (h:dY Z w j0 g b x.cells):VR Z w j (.ref x off) (.pointer (some ⟨g,b+off,none⟩)):=by
 refine .ref (fun i=>(w.cell? ⟨g,b+i,none⟩).getD undef) (fun i y hy=>?_) (fun i y hy=>?_)
 ·obtain ⟨a,u,hu,_⟩:=h i y hy
  grind
 ·obtain ⟨a,u,hu,hv⟩:=h i y hy
  grind
def O.live:O->Bool
 | .dead=>false
 | _=>true
def jt (P:Program) (Z:Zs) (w:World) (h:bz) (t:TypeId) (els:List V) (fz:Nat):Prop :=
 h.sz=P.cellsOf t/\0 < h.sz/\fz<=els.length/\(∀x∈els,x.cells.length=h.sz) /\
 ((h.u = .slice none 0 0/\els=[]) ∨
  ∃g b c us,h.u = .slice (some ⟨g,b,none⟩) els.length c/\els.length<=c/\c<=maxLen/\w.heap[g]? = some (.cells us t (0,0))/\b+c * h.sz<=us.size /\
   (∀k x,els[k]? = some x->dY Z w j0 g (b+k * h.sz) x.cells)/\(∀o,Z g o->0 < fz/\o < b+fz * h.sz)/\(∀o,o < fz * h.sz->Z g (b+o)))
structure nQ (Z:Zs) (id:Nat) (t:TypeId) (n:Nat):Prop where
 i:Z.i t=some id
 get:∀k,k < n->∃g,Z.a t k=some g
 none:∀k,n<=k->Z.a t k=none
 inj:∀k k' g,Z.a t k=some g->Z.a t k'=some g->k=k'
def yg (P:Program) (Z:Zs) (w:World) (t:TypeId) (g:Nat) (x:V):Prop :=
 ∃us,w.heap[g]? = some (.cells us t (0,0))/\x.cells.length=P.cellsOf t/\us.size=P.cellsOf t/\0 < P.cellsOf t/\dY Z w j0 g 0 x.cells/\∀o,¬Z g o
def tS (Z:Zs) (w:World) (g:Nat) (es:List (V × V)):Prop :=
 ∃es' clock,w.heap[g]? = some (.map es' clock)/\es.length=es'.size /\
   (∀(i:Nat) (a x:V),es[i]? = some (a,x)->∃e:MapEntry,es'[i]? = some e/\a.flat1=true/\x.inMap=true/\VR Z w j0 a e.key/\VR Z w j0 x e.val)/\(∀o,¬Z g o)/\MapKept.Stamped es' clock
def OR (P:Program) (Z:Zs) (w:World) (j:J) (id:Nat):O->Prop
 | .row t els fz=>∃h,j id=some h/\jt P Z w h t els fz
 | .box t v fz=>∃g us,j id=some ⟨.pointer (some ⟨g,0,none⟩),P.cellsOf t⟩/\w.heap[g]? = some (.cells us t (0,0))/\v.cells.length=P.cellsOf t/\us.size=P.cellsOf t /\
   dY Z w j g 0 v.cells/\(∀o,Z g o->fz=true)/\(fz=true->∀o,o < us.size->Z g o)
 | .map es=>∃r es' clock,j id=some ⟨.map (some r),0⟩/\w.heap[r]? = some (.map es' clock)/\es.length=es'.size /\
   (∀(i:Nat) (a x:V),es[i]? = some (a,x)->∃e:MapEntry,es'[i]? = some e/\a.flat1=true/\x.inMap=true/\VR Z w j0 a e.key/\VR Z w j0 x e.val)/\(∀o,¬Z r o)/\MapKept.Stamped es' clock
 | .arena t els=>nQ Z id t els.length/\∀(k:Nat) (x:V) (g:Nat),els[k]? = some x->Z.a t k=some g->yg P Z w t g x
 | .marena t ms=>nQ Z id t ms.length/\∀(k:Nat) (es:List (V × V)) (g:Nat),ms[k]? = some es->Z.a t k=some g->tS Z w g es
 | .dead=>True
def bf (Z:Zs) (j:J) (id:Nat) (o:O) (g:Nat):Prop :=
 match o.ar with
 | some r=>∃k,k < r.2/\Z.a r.1 k=some g
 | none=>cf j id=some g
structure SR (P:Program) (Z:Zs) (w:World) (j:J) (mem:List O):Prop where
 obj:∀id o,mem[id]? = some o->OR P Z w j id o
 inj:∀id id' o o' g,mem[id]? = some o->mem[id']? = some o'->o.live=true->o'.live=true->bf Z j id o g->bf Z j id' o' g->id=id'
 out:∀id,mem.length<=id->j id=none
 zin:∀g o,Z g o->g < w.heap.size
def bd (Z:Zs) (j:J) (mem:List O) (g:Nat):Prop:=∃id o,mem[id]? = some o/\o.live=true/\bf Z j id o g
def dW (t:TypeId) (mem:List O):Prop:=∀(id:Nat) (o:O) (n:Nat),mem[id]? = some o->o.ar≠some (t,n)
structure aI (Z:Zs) (w:World) (j:J) (mem:List O) (Z':Zs) (w':World) (j':J) (mem':List O):Prop where
 os:w'.os=w.os
 tape:w'.tape=w.tape
 output:w'.output=w.output
 size:w.heap.size<=w'.heap.size
 keep:∀g,g < w.heap.size->¬bd Z j mem g->w'.heap[g]? = w.heap[g]?/\∀o,Z' g o↔Z g o
 owned:∀g,g < w.heap.size->bd Z' j' mem' g->bd Z j mem g
 z:be Z w Z' w'
 ar:∀t,dW t mem->dW t mem'/\Z'.a t=Z.a t
theorem aI.refl (Z:Zs) (w:World) (j:J) (mem:List O):aI Z w j mem Z w j mem :=
 ⟨rfl,rfl,rfl,bG _,fun _ _ _=>⟨rfl,fun _=>Iff.rfl⟩,fun _ _ h=>h,be.refl Z w,fun _ h=>⟨h,rfl⟩⟩
theorem aI.trans {Z1:Zs} {w1:World} {j1:J} {mem mem1 mem':List O} (h:aI Z w j mem Z1 w1 j1 mem1) (h':aI Z1 w1 j1 mem1 Z' w' j' mem'):aI Z w j mem Z' w' j' mem' :=
 ⟨h'.os.trans h.os,h'.tape.trans h.tape,h'.output.trans h.output,lD h.size h'.size,fun g hg hn=>by
  obtain ⟨a,b⟩:=h.keep g hg hn
  obtain ⟨c,d⟩:=h'.keep g (n6 hg h.size) (fun ho=>hn (h.owned g hg ho))
  grind,fun g hg ho=>h.owned g hg (h'.owned g (n6 hg h.size) ho),h.z.trans h'.z,
  fun t hn=>⟨(h'.ar t (h.ar t hn).1).1,(h'.ar t (h.ar t hn).1).2.trans (h.ar t hn).2⟩⟩
theorem dW.set {id:Nat} {o o':O} {mem:List O} {t:TypeId} (hm:mem[id]? = some o) (ho:∀n,o'.ar=some (t,n)->∃m,o.ar=some (t,m)) (h:dW t mem):dW t (mem.set id o'):=by
 intro k x n hx hn
 have aC:id < mem.length:=(bj.1 hm).1
 by_cases e:id=k
 ·subst e
  rw [fj aC] at hx
  cases hx
  obtain ⟨m,hm'⟩:=ho n hn
  exact h id o m hm hm'
 ·rw [fE e] at hx
  exact h k x n hx hn
theorem dW.add {o:O} {mem:List O} {t:TypeId} (ho:o.ar=none) (h:dW t mem):dW t (mem++[o]):=by
 intro k x n hx hn
 by_cases e:k < mem.length
 ·rw [db e] at hx;exact h k x n hx hn
 grind
theorem nQ.same {id n:Nat} {t:TypeId} (h:nQ Z id t n) (ha:Z'.a t=Z.a t) (hi:Z'.i=Z.i):nQ Z' id t n :=
 ⟨by rw [hi];exact h.i,by rw [ha];exact h.get,by rw [ha];exact h.none,by rw [ha];exact h.inj⟩
theorem yg.mono {t:TypeId} {g:Nat} {x:V} (h:yg P Z w t g x) (hz:be Z w Z' w') (hb:w'.heap[g]? = w.heap[g]?/\∀o,Z' g o↔Z g o):yg P Z' w' t g x:=by
 obtain ⟨us,h1,h2,h3,h4,h5,h6⟩:=h
 exact ⟨us,hb.1.trans h1,h2,h3,h4,h5.mono hz (aQ.refl _) hb.1,fun o ho=>h6 o ((hb.2 o).1 ho)⟩
theorem tS.mono {g:Nat} {es:List (V × V)} (h:tS Z w g es) (hz:be Z w Z' w') (hb:w'.heap[g]? = w.heap[g]?/\∀o,Z' g o↔Z g o):tS Z' w' g es:=by
 obtain ⟨es',clock,h1,h2,h3,h4⟩:=h
 refine ⟨es',clock,hb.1.trans h1,h2,fun i a x hi=>?_,⟨fun o ho=>h4.1 o ((hb.2 o).1 ho),h4.2⟩⟩
 obtain ⟨e,he,ha,hx,hva,hvx⟩:=h3 i a x hi
 exact ⟨e,he,ha,hx,hva.mono hz (aQ.refl _),hvx.mono hz (aQ.refl _)⟩
theorem jt.mono {h:bz} {t:TypeId} {els:List V} {fz:Nat} (r:jt P Z w h t els fz) (hz:be Z w Z' w')
  (hb:∀g,h.blk=some g->w'.heap[g]? = w.heap[g]?/\∀o,Z' g o↔Z g o):jt P Z' w' h t els fz:=by
 obtain ⟨h1,h2,h3,h4,h5⟩:=r
 refine ⟨h1,h2,h3,h4,?_⟩
 rcases h5 with h5 | ⟨g,b,c,us,hu,hc,hm,hg,hs,hcells,hz1,hz2⟩
 ·grind
 ·have hbb:=hb g (by cases h;simp at hu;simp [bz.blk,hu])
  exact .inr ⟨g,b,c,us,hu,hc,hm,hbb.1.trans hg,hs,fun k x hk=>(hcells k x hk).mono hz (aQ.refl _) hbb.1,fun o ho=>hz1 o ((hbb.2 o).1 ho),fun o ho=>(hbb.2 _).2 (hz2 o ho)⟩
theorem OR.mono {id:Nat} {o:O} (r:OR P Z w j id o) (hz:be Z w Z' w') (hj:aQ j j')
  (hb:∀g,bf Z j id o g->w'.heap[g]? = w.heap[g]?/\∀o,Z' g o↔Z g o) (ha:∀t n,o.ar=some (t,n)->Z'.a t=Z.a t):OR P Z' w' j' id o:=by
 cases o with
 | dead=>exact True.intro
 | arena t els =>
  obtain ⟨h1,h2⟩:=r
  have e:=ha t els.length rfl
  refine ⟨h1.same e hz.i,fun k x g hk hg=>?_⟩
  rw [e] at hg
  exact (h2 k x g hk hg).mono hz (hb g ⟨k,(bj.1 hk).1,hg⟩)
 | marena t ms =>
  obtain ⟨h1,h2⟩:=r
  have e:=ha t ms.length rfl
  refine ⟨h1.same e hz.i,fun k x g hk hg=>?_⟩
  rw [e] at hg
  exact (h2 k x g hk hg).mono hz (hb g ⟨k,(bj.1 hk).1,hg⟩)
 | row t els fz =>
  obtain ⟨h,hh,hr⟩:=r
  exact ⟨h,hj _ _ hh,hr.mono hz fun g hg=>hb g (by simp [bf,O.ar,cf,hh,hg])⟩
 | box t v fz =>
  obtain ⟨g,us,h1,h2,h3,h4,h5,h6,h7⟩:=r
  have hbb:=hb g (by simp [bf,O.ar,cf,h1,bz.blk])
  exact ⟨g,us,hj _ _ h1,hbb.1.trans h2,h3,h4,h5.mono hz hj hbb.1,fun o ho=>h6 o ((hbb.2 o).1 ho),fun hf o ho=>(hbb.2 o).2 (h7 hf o ho)⟩
 | map es =>
  obtain ⟨r,es',clock,h1,h2,h3,h4,h5⟩:=r
  have hbb:=hb r (by simp [bf,O.ar,cf,h1,bz.blk])
  refine ⟨r,es',clock,hj _ _ h1,hbb.1.trans h2,h3,fun i a x hi=>?_,⟨fun o ho=>h5.1 o ((hbb.2 o).1 ho),h5.2⟩⟩
  obtain ⟨e,he,ha,hx,hva,hvx⟩:=h4 i a x hi
  exact ⟨e,he,ha,hx,hva.mono hz (aQ.refl _),hvx.mono hz (aQ.refl _)⟩
end
set_option linter.unusedVariables false
section
variable {P:Program} {Z Z':Zs} {w w':World} {j j':J} {mem:List O}
def dz (j:J) (i:Nat) (h:bz):J:=fun id=>if id=i then some h else j id
theorem eU (j:J) (i:Nat) (h:bz):dz j i h i=some h:=by simp [dz]
theorem qX (j:J) {i k:Nat} (h:bz) (hne:k≠i):dz j i h k=j k:=by simp [dz,hne]
theorem SR.ext (s:SR P Z w j mem) (h:bz):aQ j (dz j mem.length h):=by
 intro id x hx
 by_cases e:id=mem.length
 ·rw [e,s.out _ (bG _)] at hx;grind
 ·rw [qX j h e];grind
theorem bf.eqA {id g:Nat} {o:O} (ha:Z'.a=Z.a):bf Z' j id o g↔bf Z j id o g:=by unfold bf;rw [ha]
theorem bf.plain {id g:Nat} {o:O} (ho:o.ar=none):bf Z j id o g↔cf j id=some g:=by unfold bf;rw [ho]
theorem bf.jeq {id g:Nat} {o:O} (h:j' id=j id):bf Z j' id o g↔bf Z j id o g:=by
 unfold bf cf;rw [h]
theorem bd.eqA {g:Nat} (ha:Z'.a=Z.a):bd Z' j mem g↔bd Z j mem g :=
 ⟨fun ⟨id,o,h1,h2,h3⟩=>⟨id,o,h1,h2,(bf.eqA ha).1 h3⟩,fun ⟨id,o,h1,h2,h3⟩=>⟨id,o,h1,h2,(bf.eqA ha).2 h3⟩⟩
theorem SR.world (s:SR P Z w j mem) (hz:be Z w Z' w') (hb:∀g,bd Z j mem g->w'.heap[g]? = w.heap[g]?/\∀o,Z' g o↔Z g o)
  (hin:∀g o,Z' g o->g < w'.heap.size) (ha:Z'.a=Z.a:=by rfl):SR P Z' w' j mem where
 obj:=fun id o ho=>by
  by_cases hl:o.live=true
  ·exact (s.obj id o ho).mono hz (aQ.refl _) (fun g hg=>hb g ⟨id,o,ho,hl,hg⟩) (fun t n _=>by rw [ha])
  ·cases o<;>first | exact True.intro | (simp [O.live] at hl)
 inj:=fun id id' o o' g h1 h2 h3 h4 h5 h6=>s.inj id id' o o' g h1 h2 h3 h4 ((bf.eqA ha).1 h5) ((bf.eqA ha).1 h6)
 out:=s.out
 zin:=hin
theorem SR.add (s:SR P Z w j mem) {h:bz} {o:O} (hn:∀g,h.blk=some g->¬bd Z j mem g) (ho:OR P Z w (dz j mem.length h) mem.length o) (har:o.ar=none:=by rfl) :
  SR P Z w (dz j mem.length h) (mem++[o]) where
 obj:=fun id x hx=>by
  by_cases e:id < mem.length
  ·rw [db e] at hx
   exact (s.obj id x hx).mono (be.refl _ _) (s.ext h) (fun _ _=>⟨rfl,fun _=>Iff.rfl⟩) (fun _ _ _=>rfl)
  grind
 inj:=fun id id' x x' g hx hx' hl hl' hg hg'=>by
  have side:∀id x,(mem++[o])[id]? = some x->id < mem.length/\mem[id]? = some x∨id=mem.length/\x=o:=by
   grind
  have up:∀id x,id < mem.length->bf Z (dz j mem.length h) id x g->bf Z j id x g:=fun id x e hg=>(bf.jeq (qX j h (by omega))).1 hg
  have old:∀id x,id < mem.length->mem[id]? = some x->x.live=true->bf Z (dz j mem.length h) id x g->bd Z j mem g:=fun id x e hx hl hg=>⟨id,x,hx,hl,up id x e hg⟩
  have new:∀id x,id=mem.length->x=o->bf Z (dz j mem.length h) id x g->h.blk=some g:=by
   intro id x e ex hg
   subst ex
   have hg:=(bf.plain har).1 hg
   unfold cf at hg
   rw [e,eU] at hg
   grind
  rcases side id x hx with ⟨e,hx⟩ | ⟨e,ex⟩<;>rcases side id' x' hx' with ⟨e',hx'⟩ | ⟨e',ex'⟩
  ·exact s.inj id id' x x' g hx hx' hl hl' (up id x e hg) (up id' x' e' hg')
  all_goals grind
 out:=fun id hid=>by
  simp at hid
  rw [qX j h (by omega)]
  exact s.out id (by omega)
 zin:=s.zin
theorem SR.set (s:SR P Z w j mem) {id:Nat} {o o':O} (hm:mem[id]? = some o) (hl:o'.live=true->o.live=true) (hz:be Z w Z' w')
  (hb:∀g,cf j id≠some g->w'.heap[g]? = w.heap[g]?/\∀o,Z' g o↔Z g o) (hin:∀g o,Z' g o->g < w'.heap.size)
  (hd:o.live=false->∀g,w'.heap[g]? = w.heap[g]?/\∀o,Z' g o↔Z g o)
  (ho:OR P Z' w' j id o') (har:o.ar=none:=by rfl) (har':o'.ar=none:=by rfl) (ha:Z'.a=Z.a:=by rfl):SR P Z' w' j (mem.set id o') where
 obj:=fun k x hx=>by
  have aC:id < mem.length:=(bj.1 hm).1
  by_cases e:id=k
  ·grind
  ·rw [fE e] at hx
   by_cases hlx:x.live=true
   ·refine (s.obj k x hx).mono hz (aQ.refl _) (fun g hg=>?_) (fun _ _ _=>by rw [ha])
    by_cases hlo:o.live=true
    ·exact hb g fun hg'=>e (s.inj id k o x g hm hx hlo hlx ((bf.plain har).2 hg') hg)
    grind
   ·cases x<;>first | exact True.intro | (simp [O.live] at hlx)
 inj:=fun a b x y g hx hy hlx hly hg hg'=>by
  have aC:id < mem.length:=(bj.1 hm).1
  have side:∀(k:Nat) (x:O),(mem.set id o')[k]? = some x->x.live=true->bf Z' j k x g->∃x':O,mem[k]? = some x'/\x'.live=true/\bf Z j k x' g:=by
   intro k x hx hlx hg
   have hg:=(bf.eqA ha).1 hg
   by_cases e:id=k
   ·subst e
    rw [fj aC] at hx
    cases hx
    exact ⟨o,hm,hl hlx,(bf.plain har).2 ((bf.plain har').1 hg)⟩
   grind
  obtain ⟨x',hx',hlx',hgx⟩:=side a x hx hlx hg
  obtain ⟨y',hy',hly',hgy⟩:=side b y hy hly hg'
  exact s.inj a b x' y' g hx' hy' hlx' hly' hgx hgy
 out:=fun k hk=>s.out k (by grind)
 zin:=hin
theorem SR.kill (s:SR P Z w j mem) {id:Nat} {o:O} (hm:mem[id]? = some o) (har:o.ar=none:=by rfl):SR P Z w j (mem.set id .dead) :=
 s.set hm (by intro h;cases h) (be.refl _ _) (fun _ _=>⟨rfl,fun _=>Iff.rfl⟩) s.zin (fun _ _=>⟨rfl,fun _=>Iff.rfl⟩) True.intro har
theorem bd.set {id:Nat} {o o':O} {g:Nat} (hm:mem[id]? = some o) (hl:o'.live=true->o.live=true) (h:bd Z j (mem.set id o') g) (har:o.ar=none:=by rfl) (har':o'.ar=none:=by rfl):bd Z j mem g:=by
 obtain ⟨k,x,hx,hlx,hg⟩:=h
 have aC:id < mem.length:=(bj.1 hm).1
 by_cases e:id=k
 ·subst e
  rw [fj aC] at hx
  cases hx
  exact ⟨id,o,hm,hl hlx,(bf.plain har).2 ((bf.plain har').1 hg)⟩
 ·rw [fE e] at hx
  exact ⟨k,x,hx,hlx,hg⟩
theorem bd.add {h:bz} {o:O} {g:Nat} (hg:bd Z (dz j mem.length h) (mem++[o]) g) (har:o.ar=none:=by rfl):bd Z j mem g∨h.blk=some g:=by
 obtain ⟨k,x,hx,hlx,hb⟩:=hg
 by_cases e:k < mem.length
 ·rw [db e] at hx
  exact .inl ⟨k,x,hx,hlx,(bf.jeq (qX j h (by omega))).1 hb⟩
 ·right
  have:=(bj.1 hx).1
  simp at this
  have e:k=mem.length:=by omega
  rw [e] at hx
  simp at hx
  subst hx
  have hb:=(bf.plain har).1 hb
  unfold cf at hb
  rw [e,eU] at hb
  grind
def fS (Z:Zs) (g n:Nat):Zs:={ Z with z:=fun b o=>Z b o∨(b=g/\o < n) }
theorem be.heap {w1:World} {ob:Obj} (hh:w1.heap=w.heap.push ob) (hin:∀g o,Z g o->g < w.heap.size) (n:Nat):be Z w (fS Z w.heap.size n) w1:=by
 refine .of fun g o h=>?_
 refine ⟨.inl h,gC ?_ o⟩
 grind
theorem kp {w1:World} {ob:Obj} (hh:w1.heap=w.heap.push ob) {g:Nat} (hg:g < w.heap.size):w1.heap[g]? = w.heap[g]?:=by
 grind
theorem DT {w1:World} {ob:Obj} (hh:w1.heap=w.heap.push ob) {g:Nat} (hg:g < w.heap.size):w1.heap[g]? = w.heap[g]?:=kp hh hg
theorem bd.lt (s:SR P Z w j mem) {g:Nat} (h:bd Z j mem g):g < w.heap.size:=by
 obtain ⟨id,o,ho,hl,hg⟩:=h
 have hO:=s.obj id o ho
 cases o with
 | arena t els =>
  obtain ⟨k,hk,hg⟩:=hg
  obtain ⟨us,h1,_⟩:=hO.2 k _ g (bC hk) hg
  grind
 | marena t ms =>
  obtain ⟨k,hk,hg⟩:=hg
  obtain ⟨es',clock,h1,_⟩:=hO.2 k _ g (bC hk) hg
  grind
 | dead=>simp [O.live] at hl
 | row t els fz =>
  obtain ⟨h,hh,hr⟩:=hO
  rcases hr.2.2.2.2 with ⟨hu,_⟩ | ⟨g',b,c,us,hu,_,_,hgg,_⟩
  ·cases h;simp at hu;simp [bf,O.ar,cf,hh,bz.blk,hu] at hg
  ·cases h;simp at hu;simp [bf,O.ar,cf,hh,bz.blk,hu] at hg
   grind
 | box t v fz =>
  obtain ⟨g',us,h1,h2,_⟩:=hO
  simp [bf,O.ar,cf,h1,bz.blk] at hg
  grind
 | map es =>
  obtain ⟨r,es',clock,h1,h2,_⟩:=hO
  simp [bf,O.ar,cf,h1,bz.blk] at hg
  grind
theorem SR.push (s:SR P Z w j mem) {w1:World} {ob:Obj} (hh:w1.heap=w.heap.push ob) (hos:w1.os=w.os) (htape:w1.tape=w.tape) (hout:w1.output=w.output)
  (n:Nat) {h:bz} (hb:∀g,h.blk=some g->g=w.heap.size) {o:O} (ho:OR P (fS Z w.heap.size n) w1 (dz j mem.length h) mem.length o) (har:o.ar=none:=by rfl) :
  SR P (fS Z w.heap.size n) w1 (dz j mem.length h) (mem++[o])/\aI Z w j mem (fS Z w.heap.size n) w1 (dz j mem.length h) (mem++[o])/\aQ j (dz j mem.length h):=by
 have hz:=be.heap (Z:=Z) hh s.zin n
 have iff:∀g,g < w.heap.size->∀o,fS Z w.heap.size n g o↔Z g o:=fun g hg o=>⟨fun h=>h.resolve_right fun h=>by omega,.inl⟩
 have hsz:w1.heap.size=w.heap.size+1:=by grind
 have s1:SR P (fS Z w.heap.size n) w1 j mem:=s.world hz (fun g hg=>⟨kp hh (bd.lt s hg),iff g (bd.lt s hg)⟩) (fun g o h=>by
  rcases h with h | h
  ·have:=s.zin g o h;omega
  grind)
 refine ⟨s1.add (fun g hg ho=>?_) ho har,⟨hos,htape,hout,by omega,fun g hg _=>⟨kp hh hg,iff g hg⟩,fun g hg ho=>?_,hz,fun t hn=>⟨hn.add har,rfl⟩⟩,s.ext h⟩
 ·have:=hb g hg
  have:=bd.lt s ho
  omega
 ·rcases bd.add ho har with ho | ho
  ·exact ho
  grind
theorem SR.pushV (s:SR P Z w j mem) {h:bz} (hb:h.blk=none) {o:O} (ho:OR P Z w (dz j mem.length h) mem.length o) (har:o.ar=none:=by rfl) :
  SR P Z w (dz j mem.length h) (mem++[o])/\aI Z w j mem Z w (dz j mem.length h) (mem++[o])/\aQ j (dz j mem.length h):=by
 refine ⟨s.add (fun _ hg=>by grind) ho har,⟨rfl,rfl,rfl,bG _,fun _ _ _=>⟨rfl,fun _=>Iff.rfl⟩,fun _ _ ho=>?_,be.refl _ _,fun t hn=>⟨hn.add har,rfl⟩⟩,s.ext h⟩
 rcases bd.add ho har with ho | ho
 all_goals grind
theorem aI.set {id:Nat} {o o':O} (hm:mem[id]? = some o) (hl:o'.live=true->o.live=true) (hlo:o.live=true) (hz:be Z w Z' w')
  (hb:∀g,cf j id≠some g->w'.heap[g]? = w.heap[g]?/\∀o,Z' g o↔Z g o)
  (hos:w'.os=w.os) (htape:w'.tape=w.tape) (hout:w'.output=w.output) (hsz:w.heap.size<=w'.heap.size) (har:o.ar=none:=by rfl) (har':o'.ar=none:=by rfl) (ha:Z'.a=Z.a:=by rfl):aI Z w j mem Z' w' j (mem.set id o') :=
 ⟨hos,htape,hout,hsz,fun g _ hn=>hb g fun hg=>hn ⟨id,o,hm,hlo,(bf.plain har).2 hg⟩,fun g _ ho=>((bd.eqA ha).1 ho).set hm hl har har',hz,fun t hn=>⟨hn.set hm fun n e=>(by grind),by rw [ha]⟩⟩
theorem rW {t:TypeId}:∀(mem:List O) (i id:Nat) (els:List V),iq t i mem=some (id,els)->i<=id/\mem[id - i]? = some (.arena t els)
 | [],_,_,_,h=>by simp [iq] at h
 | .arena t' els'::l,i,id,els,h=>by
  simp only [iq] at h
  by_cases e:(t'==t)=true
  ·grind
  ·simp only [e,cond_false] at h
   obtain ⟨a,b⟩:=rW l (i+1) id els h
   grind
 | .row ..::l,i,id,els,h=>by
  obtain ⟨a,b⟩:=rW l (i+1) id els h
  grind
 | .box ..::l,i,id,els,h=>by
  obtain ⟨a,b⟩:=rW l (i+1) id els h
  grind
 | .map ..::l,i,id,els,h=>by
  obtain ⟨a,b⟩:=rW l (i+1) id els h
  grind
 | .marena ..::l,i,id,els,h=>by
  obtain ⟨a,b⟩:=rW l (i+1) id els h
  grind
 | .dead::l,i,id,els,h=>by
  obtain ⟨a,b⟩:=rW l (i+1) id els h
  grind
theorem rY {t:TypeId}:∀(mem:List O) (i id:Nat) (ms:List (List (V × V))),k7 t i mem=some (id,ms)->i<=id/\mem[id - i]? = some (.marena t ms)
 | [],_,_,_,h=>by simp [k7] at h
 | .marena t' els'::l,i,id,els,h=>by
  simp only [k7] at h
  by_cases e:(t'==t)=true
  ·grind
  ·simp only [e,cond_false] at h
   obtain ⟨a,b⟩:=rY l (i+1) id els h
   grind
 | .row ..::l,i,id,els,h=>by
  obtain ⟨a,b⟩:=rY l (i+1) id els h
  grind
 | .box ..::l,i,id,els,h=>by
  obtain ⟨a,b⟩:=rY l (i+1) id els h
  grind
 | .map ..::l,i,id,els,h=>by
  obtain ⟨a,b⟩:=rY l (i+1) id els h
  grind
 | .arena ..::l,i,id,els,h=>by
  obtain ⟨a,b⟩:=rY l (i+1) id els h
  grind
 | .dead::l,i,id,els,h=>by
  obtain ⟨a,b⟩:=rY l (i+1) id els h
  grind
theorem Dl {t:TypeId} {id:Nat} {els:List V} (h:iq t 0 mem=some (id,els)):mem[id]? = some (.arena t els):=by simpa using (rW mem 0 id els h).2
theorem Do {t:TypeId} {id:Nat} {ms:List (List (V × V))} (h:k7 t 0 mem=some (id,ms)):mem[id]? = some (.marena t ms):=by simpa using (rY mem 0 id ms h).2
theorem OR.arena {id n:Nat} {o:O} {t:TypeId} (h:OR P Z w j id o) (ho:o.ar=some (t,n)):nQ Z id t n:=by
 cases o<;>simp [O.ar] at ho<;>(obtain ⟨rfl,rfl⟩:=ho;exact h.1)
theorem mN {o:O} {r:TypeId × Nat} (h:o.ar=some r):o.live=true:=by
 cases o<;>simp [O.ar] at h<;>rfl
theorem SR.setA (s:SR P Z w j mem) {id n:Nat} {o o':O} {t:TypeId} (hm:mem[id]? = some o) (hn:o.ar=some (t,n)) (hn':o'.ar=some (t,n)) (hz:be Z w Z' w')
  (hb:∀g,¬bf Z j id o g->w'.heap[g]? = w.heap[g]?/\∀o,Z' g o↔Z g o) (hin:∀g o,Z' g o->g < w'.heap.size)
  (hos:w'.os=w.os) (htape:w'.tape=w.tape) (hout:w'.output=w.output) (hsz:w.heap.size<=w'.heap.size)
  (ho:OR P Z' w' j id o') (ha:Z'.a=Z.a:=by rfl):SR P Z' w' j (mem.set id o')/\aI Z w j mem Z' w' j (mem.set id o'):=by
 have aC:id < mem.length:=(bj.1 hm).1
 have same:∀g,bf Z j id o' g↔bf Z j id o g:=fun g=>by unfold bf;grind
 have side:∀(g k:Nat) (x:O),(mem.set id o')[k]? = some x->x.live=true->bf Z' j k x g->∃x':O,mem[k]? = some x'/\x'.live=true/\bf Z j k x' g:=by
  intro g k x hx hlx hg
  have hg:=(bf.eqA ha).1 hg
  by_cases e:id=k
  ·subst e
   rw [fj aC] at hx
   cases hx
   exact ⟨o,hm,mN hn,(same g).1 hg⟩
  grind
 refine ⟨⟨fun k x hx=>?_,fun a b x y g hx hy hlx hly hg hg'=>?_,fun k hk=>s.out k (by grind),hin⟩,
  ⟨hos,htape,hout,hsz,fun g _ hno=>hb g fun hg=>hno ⟨id,o,hm,mN hn,hg⟩,fun g _ ho=>?_,hz,fun t' h=>⟨h.set hm fun m e=>?_,by rw [ha]⟩⟩⟩
 ·by_cases e:id=k
  ·grind
  ·rw [fE e] at hx
   by_cases hlx:x.live=true
   ·exact (s.obj k x hx).mono hz (aQ.refl _) (fun g hg=>hb g fun hg'=>e (s.inj id k o x g hm hx (mN hn) hlx hg' hg)) (fun _ _ _=>by rw [ha])
   ·cases x<;>first | exact True.intro | (simp [O.live] at hlx)
 ·obtain ⟨x',hx',hlx',hgx⟩:=side g a x hx hlx hg
  obtain ⟨y',hy',hly',hgy⟩:=side g b y hy hly hg'
  exact s.inj a b x' y' g hx' hy' hlx' hly' hgx hgy
 ·obtain ⟨k,x,hx,hlx,hg⟩:=ho
  obtain ⟨x',hx',hlx',hgx⟩:=side g k x hx hlx hg
  exact ⟨k,x',hx',hlx',hgx⟩
 grind
def j4 (Z:Zs) (t:TypeId) (k g:Nat):Zs:={ Z with a:=fun t' k'=>if t'=t/\k'=k then some g else Z.a t' k' }
theorem pG (t:TypeId) (k g:Nat):(j4 Z t k g).a t k=some g:=by simp [j4]
theorem j5 {t t':TypeId} {k k' g:Nat} (h:¬(t'=t/\k'=k)):(j4 Z t k g).a t' k'=Z.a t' k':=by simp only [j4,if_neg h]
theorem SR.growA (s:SR P Z w j mem) {id n:Nat} {o o':O} {t:TypeId} (hm:mem[id]? = some o) (hn:o.ar=some (t,n)) (hn':o'.ar=some (t,n+1)) {w1:World} {ob:Obj}
  (hh:w1.heap=w.heap.push ob) (hos:w1.os=w.os) (htape:w1.tape=w.tape) (hout:w1.output=w.output)
  (ho:be Z w (j4 Z t n w.heap.size) w1->nQ (j4 Z t n w.heap.size) id t (n+1)->OR P (j4 Z t n w.heap.size) w1 j id o') :
  SR P (j4 Z t n w.heap.size) w1 j (mem.set id o')/\aI Z w j mem (j4 Z t n w.heap.size) w1 j (mem.set id o'):=by
 have aC:id < mem.length:=(bj.1 hm).1
 have hA:=(s.obj id o hm).arena hn
 have hz:be Z w (j4 Z t n w.heap.size) w1:=by
  refine ⟨fun g x h=>⟨h,gC (DT hh (s.zin g x h)) x⟩,fun t' k' g h=>?_,rfl⟩
  by_cases e:t'=t/\k'=n
  ·obtain ⟨rfl,rfl⟩:=e;rw [hA.none _ (bG _)] at h;cases h
  ·rw [j5 e];exact h
 have lt:∀k g,Z.a t k=some g->g < w.heap.size:=fun k g hg=>bd.lt s ⟨id,o,hm,mN hn,by
  unfold bf;rw [hn]
  refine ⟨k,?_,hg⟩
  rcases jV k n with h | h
  ·exact h
  ·rw [hA.none k h] at hg;grind⟩
 have hA':nQ (j4 Z t n w.heap.size) id t (n+1):=by
  refine ⟨hA.i,fun k hk=>?_,fun k hk=>?_,fun k k' g h h'=>?_⟩
  ·by_cases e:k=n
   ·subst e;exact ⟨_,pG _ _ _⟩
   ·rw [j5 (by omega)];exact hA.get k (by omega)
  ·rw [j5 (by omega)];exact hA.none k (by omega)
  ·by_cases e:k=n
   ·subst e
    rw [pG] at h;cases h
    by_cases e':k'=k
    ·grind
    ·rw [j5 (by omega)] at h';grind
   ·rw [j5 (by omega)] at h
    by_cases e':k'=n
    ·subst e';rw [pG] at h';grind
    ·rw [j5 (by omega)] at h';exact hA.inj _ _ _ h h'
 have back:∀(g k:Nat) (x:O),g < w.heap.size->(mem.set id o')[k]? = some x->x.live=true->bf (j4 Z t n w.heap.size) j k x g->∃x':O,mem[k]? = some x'/\x'.live=true/\bf Z j k x' g:=by
  intro g k x hlg hx hlx hg
  by_cases e:id=k
  ·subst e
   rw [fj aC] at hx
   cases hx
   refine ⟨o,hm,mN hn,?_⟩
   unfold bf at hg |-
   rw [hn'] at hg
   rw [hn]
   obtain ⟨m,hmm,hg⟩:=hg
   by_cases em:m=n
   ·subst em;rw [pG] at hg;grind
   ·simp only at hmm hg
    rw [j5 (by omega)] at hg;grind
  ·rw [fE e] at hx
   refine ⟨x,hx,hlx,?_⟩
   unfold bf at hg |-
   cases hr:x.ar with
   | none=>grind
   | some r =>
    obtain ⟨t',m⟩:=r
    rw [hr] at hg
    have hne:t'≠t:=fun e'=>e (by subst e';have h1:=((s.obj k x hx).arena hr).i;rw [hA.i] at h1;grind)
    obtain ⟨m',hm',hg⟩:=hg
    simp only at hg
    rw [j5 (fun h=>hne h.1)] at hg
    grind
 have new:∀(g k:Nat) (x:O),¬g < w.heap.size->(mem.set id o')[k]? = some x->x.live=true->bf (j4 Z t n w.heap.size) j k x g->k=id:=by
  intro g k x hlg hx hlx hg
  apply Classical.byContradiction
  intro e
  have e:¬id=k:=fun h=>e h.symm
  rw [fE e] at hx
  refine hlg (bd.lt s ⟨k,x,hx,hlx,?_⟩)
  unfold bf at hg |-
  cases hr:x.ar with
  | none=>grind
  | some r =>
   obtain ⟨t',m⟩:=r
   rw [hr] at hg
   have hne:t'≠t:=fun e'=>e (by subst e';have h1:=((s.obj k x hx).arena hr).i;rw [hA.i] at h1;grind)
   obtain ⟨m',hm',hg⟩:=hg
   simp only at hg
   rw [j5 (fun h=>hne h.1)] at hg
   grind
 have hsz:w1.heap.size=w.heap.size+1:=by grind
 refine ⟨⟨fun k x hx=>?_,fun a b x y g hx hy hlx hly hg hg'=>?_,fun k hk=>s.out k (by grind),fun g x h=>by have:=s.zin g x h;omega⟩,
  ⟨hos,htape,hout,by omega,fun g hg _=>⟨DT hh hg,fun _=>Iff.rfl⟩,fun g hg ho=>?_,hz,fun t' h=>⟨h.set hm fun m e=>?_,?_⟩⟩⟩
 ·by_cases e:id=k
  ·grind
  ·rw [fE e] at hx
   by_cases hlx:x.live=true
   ·refine (s.obj k x hx).mono hz (aQ.refl _) (fun g hg=>⟨DT hh (bd.lt s ⟨k,x,hx,hlx,hg⟩),fun _=>Iff.rfl⟩) (fun t' m hr=>?_)
    have hne:t'≠t:=fun e'=>e (by subst e';have h1:=((s.obj k x hx).arena hr).i;rw [hA.i] at h1;grind)
    funext k'
    exact j5 fun h=>hne h.1
   ·cases x<;>first | exact True.intro | (simp [O.live] at hlx)
 ·by_cases hlg:g < w.heap.size
  ·obtain ⟨x',hx',hlx',hgx⟩:=back g a x hlg hx hlx hg
   obtain ⟨y',hy',hly',hgy⟩:=back g b y hlg hy hly hg'
   exact s.inj a b x' y' g hx' hy' hlx' hly' hgx hgy
  grind
 ·obtain ⟨k,x,hx,hlx,hb⟩:=ho
  obtain ⟨x',hx',hlx',hgx⟩:=back g k x hg hx hlx hb
  exact ⟨k,x',hx',hlx',hgx⟩
 ·grind
 ·have hne:t'≠t:=fun e=>h id o n hm (by grind)
  funext k'
  exact j5 fun h=>hne h.1
theorem K6 (s:SR P Z w j mem) {p x:V} {off:Nat} {u:Value} (h:d6 mem p=some (x,off)) (hv:VR Z w j p u) :
  ∃g b,u = .pointer (some ⟨g,b+off,none⟩)/\dY Z w j g b x.cells:=by
 cases p with
 | ref y o =>
  simp [d6] at h
  obtain ⟨rfl,rfl⟩:=h
  obtain ⟨g,b,hu,_,hc⟩:=hv.refInv
  exact ⟨g,b,hu,hc.mono (be.refl _ _) (aQ.zero _) rfl⟩
 | ptr id k o =>
  cases hv with
  | ptr hj hs =>
   rename_i g b hn
   simp only [d6] at h
   cases hm:mem[id]? with
   | none=>grind
   | some ob =>
    have hO:=s.obj id ob hm
    cases ob with
    | dead=>grind
    | map es=>grind
    | arena t els=>grind
    | marena t els=>grind
    | row t els fz =>
     simp only [hm] at h
     obtain ⟨hn',hh,hr⟩:=hO
     rw [hj] at hh
     cases hh
     cases hk:els[k]? with
     | none=>grind
     | some y =>
      simp [hk] at h
      obtain ⟨rfl,rfl⟩:=h
      rcases hr.2.2.2.2 with ⟨_,he⟩ | ⟨g',b',c,us,hu,_,_,_,_,hcells,_⟩
      ·grind
      ·have e:(g',b')=(g,b):=by
        cases hn;simp at hu;subst hu;simpa [bz.start] using hs
       cases e
       exact ⟨g,b+k * hn.sz,by grind,(hcells k y hk).mono (be.refl _ _) (aQ.zero _) rfl⟩
    | box t v fz =>
     simp only [hm] at h
     by_cases hk:k=0
     ·simp [hk] at h
      obtain ⟨rfl,rfl⟩:=h
      obtain ⟨g',us,h1,h2,h3,h4,h5,_⟩:=hO
      rw [hj] at h1
      cases h1
      simp [bz.start] at hs
      grind
     grind
 | hp t k o =>
  cases hv with
  | hp hg =>
   rename_i g
   simp only [d6,obi,omi] at h
   obtain ⟨⟨id,els⟩,hf,y,hk,e⟩:=h
   cases e
   obtain ⟨us,_,_,_,_,hc,_⟩:=(s.obj id _ (Dl hf)).2 k _ g hk hg
   exact ⟨g,0,by simp,hc.mono (be.refl _ _) (aQ.zero _) rfl⟩
 | _=>simp [d6] at h
theorem Aj (s:SR P Z w j mem) {m:V} {es:List (V × V)} {u:Value} (h:fd mem m=some es) (hv:VR Z w j m u):∃r,u = .map (some r)/\tS Z w r es:=by
 cases m with
 | mp id =>
  simp only [fd] at h
  cases hm:mem[id]? with
  | none=>grind
  | some o =>
   cases o<;>simp only [hm] at h<;>first | (cases h;done) | skip
   cases h
   obtain ⟨r,es',clock,h1,h2,h3,h4,h5⟩:=s.obj id _ hm
   cases hv with
   | mp hj=>rw [hj] at h1;cases h1;exact ⟨_,rfl,es',clock,h2,h3,h4,h5⟩
 | hm t k =>
  simp only [fd,obi] at h
  obtain ⟨⟨id,ms⟩,hf,hk⟩:=h
  cases hv with
  | hm hg=>exact ⟨_,rfl,(s.obj id _ (Do hf)).2 k es _ hk hg⟩
 | _=>simp [fd] at h
theorem Ea {t:TypeId} {d:TypeDesc} (h:P.underlying t=some d):∃i,P.info? t=some i/\P.cellsOf t=i.size/\P.bytesOf t=i.bytes:=by
 unfold Program.underlying at h
 cases hi:P.info? t with
 | none=>grind
 | some i=>exact ⟨i,rfl,by simp [Program.cellsOf,hi],by simp [Program.bytesOf,hi]⟩
theorem dY.drop {g b:Nat} {cs:List V} (h:dY Z w j g b cs) (off n:Nat):dY Z w j g (b+off) ((cs.drop off).take n):=by
 intro i y hy
 rw [gI] at hy
 split at hy
 ·rw [gf] at hy
  obtain ⟨a,u,hu,hv⟩:=h (off+i) y hy
  grind
 grind
theorem MM {g b:Nat} {cs:List V} (h:dY Z w j g b cs) :
  ∃us:List Value,us.length=cs.length/\(loadCells ⟨g,b,none⟩ cs.length).run P w = .ok us.toArray w/\(∀(i:Nat) (c:V) (u:Value),cs[i]? = some c->us[i]? = some u->VR Z w j c u) /\
   ∀(i:Nat) (u:Value),us[i]? = some u->w.cell? ⟨g,b+i,none⟩=some u/\u.oneCell'=true:=by
 have add:∀i,(⟨g,b,none⟩:Addr).add i=⟨g,b+i,none⟩:=by intro i;unfold Addr.add;all_goals grind
 refine ⟨(dl cs.length).map fun i=>(w.cell? ⟨g,b+i,none⟩).getD undef,by simp,run_loadCells w _ _ _ (fun i hi=>?_),fun i c u hc hu=>?_,fun i u hu=>?_⟩
 ·obtain ⟨_,u,hu,_⟩:=h i _ (bC hi)
  grind
 ·obtain ⟨_,u',hu',hv⟩:=h i c hc
  grind
 ·have hi:i < cs.length:=by grind
  obtain ⟨ho,u',hu',hv⟩:=h i _ (bC hi)
  simp [hi,hu'] at hu
  subst hu
  exact ⟨hu',hv.oneCell ho⟩
theorem Wb {t:TypeId} {g b:Nat} {cs:List V} {v:V} (hl:cs.length=P.cellsOf t) (h:nu P t cs=some v) (hc:dY Z w j g b cs) :
  ∃u,(loadVar t ⟨g,b,none⟩).run P w = .ok u w/\VR Z w j v u:=by
 unfold nu at h
 cases hu:P.underlying t with
 | none=>grind
 | some d =>
  obtain ⟨i,hi,hsz,_⟩:=Ea hu
  have agg:(d matches .struct _ | .array _ _)=true->v = .agg cs->∃u,(loadVar t ⟨g,b,none⟩).run P w = .ok u w/\VR Z w j v u:=by
   intro hd hv
   subst hv
   obtain ⟨us,hul,hrun,hvr,_⟩:=MM (P:=P) hc
   refine ⟨.agg us.toArray,?_,.agg hul.symm hvr⟩
   rw [hl,hsz] at hrun
   cases d<;>first | (simp at hd;done) | simp [loadVar,isAgg,run_underlying hu,sizeOf,typeInfo,hi,hrun]
  have one:(d matches .struct _ | .array _ _)=false->qQ cs=some v->∃u,(loadVar t ⟨g,b,none⟩).run P w = .ok u w/\VR Z w j v u:=by
   intro hd hv
   unfold qQ at hv
   split at hv
   ·cases hv
    obtain ⟨_,u,hu',hvr⟩:=hc 0 _ rfl
    refine ⟨u,?_,hvr⟩
    simp only [dK] at hu'
    cases d<;>first | (simp at hd;done) | simp [loadVar,isAgg,run_underlying hu,hu']
   grind
  cases d<;>simp only [hu] at h<;>first | grind | grind
theorem K3 (s:SR P Z w j mem) {t:TypeId} {p v:V} {u:Value} (h:eP P mem t p=some v) (hv:VR Z w j p u) :
  ∃u',(Instr.loadAt t u).run P w = .ok u' w/\VR Z w j v u':=by
 unfold eP at h
 cases hl:d6 mem p with
 | none=>grind
 | some r =>
  obtain ⟨x,off⟩:=r
  simp only [hl,aJ] at h
  split at h
  ·rename_i hlen
   obtain ⟨g,b,hu,hc⟩:=K6 s hl hv
   subst hu
   obtain ⟨u',h1,h2⟩:=Wb (P:=P) hlen h (hc.drop off _)
   exact ⟨u',by simpa [Instr.loadAt,Instr.sureAddr] using h1,h2⟩
  grind
end
section
variable {P:Program} {Z Z':Zs} {w w':World} {j j':J} {mem mem':List O}
def kH (P:Program) (Post:Value->World->Prop):Result Next->Prop
 | .ok (.value u) w'=>Post u w'
 | .ok .skip w'=>Post undef w'
 | .ok (.enter f args) w'=>Calls P f args w' fun e w''=>∃u,e = .returned u/\Post u w''
 | _=>False
def cC (P:Program) (Z:Zs) (w:World) (j:J) (mem:List O) (v:V) (mem':List O) (u:Value) (w':World):Prop :=
 ∃Z' j',VR Z' w' j' v u/\SR P Z' w' j' mem'/\aI Z w j mem Z' w' j' mem'/\aQ j j'
theorem dF (s:SR P Z w j mem) {v:V} {u:Value} (hv:VR Z w j v u):cC P Z w j mem v mem u w :=
 ⟨Z,j,hv,s,aI.refl _ _ _ _,aQ.refl _⟩
theorem Cg {c:Value} {v:V} (h:mS c=some v):VR Z w j v c:=by
 unfold mS at h
 split at h<;>first | (cases h;constructor;done) | skip
 ·rename_i vs
  split at h
  ·rename_i he
   cases h
   have e:vs=([]:List Value).toArray:=by grind
   rw [e]
   exact .tup rfl fun i c u hc=>by grind
  grind
 grind
theorem Pj {op:BinOp} {k:IntKind} {a b:Int} {v:V} (X Y:Operand) (t:TypeId) (hs:op≠.shl) (hs':op≠.shr) (h:pJ op k a b=some v) :
  ∃u,(do eqGuard op t X Y (.int k a) (.int k b);binOp op t (.int k a) (.int k b):Sem Value).run P w = .ok u w/\VR Z w j v u:=by
 cases op<;>simp [pJ] at h hs hs' <;>
  first
  |(subst h;refine ⟨_,?_,.int⟩;simp [eqGuard,binOp,Op.intArith,Op.intBits];done)
  |(subst h;refine ⟨_,?_,.bool⟩;simp [eqGuard,binOp,Op.intCmp];done)
  |(obtain ⟨hb,rfl⟩:=h;refine ⟨_,?_,.int⟩;simp [eqGuard,binOp,Op.intDiv,hb];done)
theorem tC (s:ByteArray):s.toList=s.data.toList:=Go.ByteArray.toList_eq s
theorem Zp {op:BinOp} {a b:ByteArray} {v:V} (X Y:Operand) (t:TypeId) (h:Bl op a.data.toList b.data.toList=some v) :
  ∃u,(do eqGuard op t X Y (.string a) (.string b);binOp op t (.string a) (.string b):Sem Value).run P w = .ok u w/\VR Z w j v u:=by
 cases op<;>simp [Bl] at h <;>
  first
  |(subst h;refine ⟨_,?_,.bool⟩;simp [eqGuard,binOp,Op.stringOp,tC];done)
  | skip
 obtain ⟨hb,rfl⟩:=h
 refine ⟨.string (a++b),?_,?_⟩
 ·have:¬(((a.size+b.size:Nat):Int) > IntKind.i64.max):=by
   have e:IntKind.i64.max=9223372036854775807:=by decide
   grind
  simp only [eqGuard,binOp,Op.stringOp,Sem.run_bind,Sem.run_pure,if_neg this]
  simp_all
 ·have e:a.data.toList++b.data.toList=(a++b).data.toList:=by simp
  rw [e]
  exact .str
theorem S7 {t:TypeId} {a b:V} {u v:Value} {r:Bool} (d:Nat) (h:pW (P.underlying t) a b=some r) (ha:VR Z w j a u) (hb:VR Z w j b v) :
  (Op.equalIn (d+1) t u v).run P w = .ok r w:=by
 cases hu:P.underlying t with
 | none=>simp [hu,pW] at h
 | some dd =>
  rw [hu] at h
  cases ha<;>cases hb<;>cases dd<;>simp [pW] at h
  ·subst h;exact run_equalIn_bool' w d t _ _ hu
  ·obtain ⟨rfl,rfl⟩:=h;exact run_equalIn_int w d t _ _ _ _ hu
  ·rw [run_equalIn_string w d t _ _ hu,tC,tC,<-h]
   simp
def uM:TypeDesc->Bool
 | .struct _ | .array _ _=>true
 | _=>false
theorem S6 {t:TypeId} {a b:V} {r:Bool} (h:pW (P.underlying t) a b=some r):∃d,P.underlying t=some d/\uM d=false:=by
 cases hu:P.underlying t with
 | none=>simp [hu,pW] at h
 | some d =>
  refine ⟨d,rfl,?_⟩
  rw [hu] at h
  cases d<;>first | rfl | (simp [pW] at h)
theorem Fy {t:TypeId} {d:TypeDesc} {cs:Array Value} {off:Nat} {u:Value} (hu:P.underlying t=some d) (hd:uM d=false) (hc:cs[off]? = some u) :
  (part t cs off).run P w = .ok u w:=by
 cases d<;>first | (simp [uM] at hd;done) | simp [part,isAgg,run_underlying hu,hc]
theorem S3 (d:Nat) {xs ys:List Value}:∀(fs:List Field) (i:Nat) (cs ds:List V) (r:Bool),
  (fs.zipIdx i).all (fun x=>x.1.name != "_" && x.1.offset==x.2)=true->lQ P (fs.map (·.type)) cs ds=some r ->
  (∀k c,cs[k]? = some c->∃u,xs[i+k]? = some u/\VR Z w j c u)->(∀k c,ds[k]? = some c->∃u,ys[i+k]? = some u/\VR Z w j c u) ->
  (Op.eqFields (d+1) xs.toArray ys.toArray fs).run P w = .ok r w:=by
 intro fs
 induction fs with
 | nil =>
  intro i cs ds r _ h _ _
  cases cs<;>cases ds<;>simp [lQ] at h
  subst h
  simp [Op.eqFields]
 | cons f fs ih =>
  intro i cs ds r hall h hx hy
  cases cs with
  | nil=>simp [lQ] at h
  | cons a cs =>
   cases ds with
   | nil=>simp [lQ] at h
   | cons b ds =>
    simp only [List.zipIdx_cons,yk,bv,bne_iff_ne,beq_iff_eq] at hall
    obtain ⟨⟨hn,ho⟩,hall⟩:=hall
    simp only [dj,lQ] at h
    cases h1:pW (P.underlying f.type) a b with
    | none=>grind
    | some e =>
     cases h2:lQ P (fs.map (·.type)) cs ds with
     | none=>grind
     | some e2 =>
      simp [h1,h2] at h
      obtain ⟨u,hu,hau⟩:=hx 0 a rfl
      obtain ⟨v,hv,hbv⟩:=hy 0 b rfl
      obtain ⟨dd,hdd,hpl⟩:=S6 h1
      have p1:=Fy (P:=P) (w:=w) (cs:=xs.toArray) (off:=i) hdd hpl (by simpa using hu)
      have p2:=Fy (P:=P) (w:=w) (cs:=ys.toArray) (off:=i) hdd hpl (by simpa using hv)
      have p3:=S7 (w:=w) d h1 hau hbv
      have ihh:=ih (i+1) cs ds e2 hall h2 (fun k c hk=>by have:=hx (k+1) c (by grind);grind)
       (fun k c hk=>by have:=hy (k+1) c (by grind);grind)
      simp only [Op.eqFields,hn,ne_eq,not_false_eq_true,if_true,Sem.run_bind,ho,p1,p2,p3,Result.andThen_ok]
      cases e
      all_goals simp_all
theorem Zr {op:BinOp} {t:TypeId} {x y v:V} {cs ds:List V} {u u':Value} (X Y:Operand) (hx:x = .agg cs) (hy:y = .agg ds) (h:gi P op t x y=some v) (hu:VR Z w j x u) (hu':VR Z w j y u') :
  ∃r,(do eqGuard op t X Y u u';binOp op t u u':Sem Value).run P w = .ok r w/\VR Z w j v r:=by
 subst hx hy
 cases hu with
 | agg hl hc =>
  cases hu' with
  | agg hl' hc' =>
   rename_i xs ys
   simp only [gi] at h
   split at h
   ·rename_i hp
    unfold L8 at hp
    cases hd:P.underlying t with
    | none=>grind
    | some dd =>
     cases dd<;>simp only [hd] at hp<;>first | (cases hp;done) | skip
     rename_i fs
     simp only [bv,iC] at hp
     obtain ⟨⟨hg,hst⟩,hall⟩:=hp
     have hfo:P.fieldsOf t=fs:=by simp [Program.fieldsOf,hd]
     have hft:zF P t=fs.toList.map (·.type):=by simp [zF,hd]
     rw [hft] at h
     have key:∀r,lQ P (fs.toList.map (·.type)) cs ds=some r->(Op.equalIn 10000 t (.agg xs.toArray) (.agg ys.toArray)).run P w = .ok r w:=by
      intro r hr
      rw [run_equalIn_struct w 9999 t xs.toArray ys.toArray (by grind) hst,hfo]
      refine S3 (Z:=Z) (j:=j) 9998 fs.toList 0 cs ds r (by grind) hr (fun k c hk=>?_) (fun k c hk=>?_)
      ·have hkl:k < cs.length:=(bj.1 hk).1
       exact ⟨xs[k]'(by omega),by simp,hc k c _ hk (bC (by omega))⟩
      ·have hkl:k < ds.length:=(bj.1 hk).1
       exact ⟨ys[k]'(by omega),by simp,hc' k c _ hk (bC (by omega))⟩
     cases hr:lQ P (fs.toList.map (·.type)) cs ds with
     | none=>all_goals grind
     | some r =>
      have hk:=key r hr
      have hgd:=run_eqGuard_agg (P:=P) w op t X Y xs.toArray ys.toArray hg
      cases op<;>simp [hr] at h
      ·subst h
       exact ⟨_,by rw [Sem.run_bind,hgd,Result.andThen_ok,run_eql_struct,hk,Result.andThen_ok],.bool⟩
      ·subst h
       exact ⟨_,by rw [Sem.run_bind,hgd,Result.andThen_ok,run_neq_struct,hk,Result.andThen_ok],.bool⟩
   grind
theorem Pv {op:BinOp} {t:TypeId} {x y v:V} {u u':Value} (X Y:Operand) (h:gi P op t x y=some v) (hx:VR Z w j x u) (hy:VR Z w j y u') :
  ∃r,(do eqGuard op t X Y u u';binOp op t u u':Sem Value).run P w = .ok r w/\VR Z w j v r:=by
 cases x with
 | agg cs =>
  cases y with
  | agg ds=>exact Zr X Y rfl rfl h hx hy
  | _=>simp [gi] at h
 | int k a =>
  cases y with
  | int k' b =>
   cases hx;cases hy
   by_cases hs:op = .shl
   ·subst hs
    simp [gi] at h
    obtain ⟨hb,rfl⟩:=h
    have:¬b < 0:=by omega
    exact ⟨_,by simp [eqGuard,binOp,Op.shift,this],.int⟩
   ·by_cases hs':op = .shr
    ·subst hs'
     simp [gi] at h
     obtain ⟨hb,rfl⟩:=h
     have:¬b < 0:=by omega
     exact ⟨_,by simp [eqGuard,binOp,Op.shift,this],.int⟩
    ·by_cases hk:k=k'
     ·subst hk
      have h':pJ op k a b=some v:=by
       cases op<;>first | (simpa [gi] using h) | grind | grind
      exact Pj X Y t hs hs' h'
     ·cases op<;>first | (simp [gi,hk] at h;done) | grind | grind
  | _=>simp [gi] at h
 | str a =>
  cases y with
  | str b =>
   cases hx;cases hy
   exact Zp X Y t (by simpa [gi] using h)
  | _=>simp [gi] at h
 | bool a =>
  cases y with
  | bool b =>
   cases hx;cases hy
   cases hd:P.underlying t with
   | none=>simp [gi,hd] at h
   | some d =>
    cases d<;>simp [gi,hd] at h
    have e:=run_equalIn_bool' (P:=P) w 9999 t a b hd
    cases op<;>simp at h
    ·subst h
     exact ⟨.bool (a==b),by simp [eqGuard,binOp,Op.equal,Op.maxDepth,e],.bool⟩
    ·subst h
     exact ⟨.bool (!(a==b)),by simp [eqGuard,binOp,Op.equal,Op.maxDepth,e],.bool⟩
  | _=>simp [gi] at h
 | _=>simp [gi] at h
theorem Lw {t:TypeId} {x y:V} {u u':Value} {b:Bool} (h:qE P t x y=some b) (hx:VR Z w j x u) (hy:VR Z w j y u'):(Op.equal t u u').run P w = .ok b w:=by
 have key:∀d:Nat,(Op.equalIn (d+1) t u u').run P w = .ok b w:=by
  intro d
  unfold qE at h
  split at h
  ·rename_i hu;cases h;cases hx;cases hy;simp [Op.equalIn,run_underlying hu]
  ·rename_i hu;cases h;cases hx;cases hy;simp [Op.equalIn,run_underlying hu]
  ·rename_i hu;cases h;cases hx;cases hy;simp [Op.equalIn,run_underlying hu]
  ·rename_i hu;cases h;cases hx;cases hy;simp [Op.equalIn,run_underlying hu]
  ·rename_i hu;cases h;cases hx;cases hy;simp [Op.equalIn,run_underlying hu]
  ·rename_i hu;cases h;cases hx;cases hy;unfold mV;split<;>simp [Op.equalIn,run_underlying hu]
  ·cases h
 exact key 9999
theorem Px {op:BinOp} {t:TypeId} {x y v:V} {u u':Value} (X Y:Operand) (h:lI P op t x y=some v) (hx:VR Z w j x u) (hy:VR Z w j y u') :
  ∃r,(do eqGuard op t X Y u u';binOp op t u u':Sem Value).run P w = .ok r w/\VR Z w j v r:=by
 unfold lI at h
 split at h
 rotate_left
 ·exact Pv X Y h hx hy
 rename_i hn
 have hy':(∃p,u' = .pointer p)∨u' = .nilFunc:=by
  cases y<;>simp [sP] at hn<;>cases hy
  ·exact .inl ⟨_,rfl⟩
  ·exact .inr rfl
 have hu:∀b,qE P t x y=some b->(∃p,u = .pointer p)∨u = .nilFunc∨∃f a c,u = .func f a c:=by
  intro b hb
  unfold qE at hb
  split at hb<;>first | (cases hb;done) | skip
  all_goals cases hx
  ·exact .inl ⟨_,rfl⟩
  ·exact .inl ⟨_,rfl⟩
  ·exact .inl ⟨_,rfl⟩
  ·exact .inl ⟨_,rfl⟩
  ·exact .inr (.inl rfl)
  ·refine .inr (.inr ?_);unfold mV;split<;>exact ⟨_,_,_,rfl⟩
 cases op<;>simp only at h<;>first | (cases h;done) | skip
 ·cases hb:qE P t x y with
  | none=>simp [hb] at h
  | some b =>
   simp [hb] at h
   subst h
   have he:=Lw hb hx hy
   refine ⟨.bool b,?_,.bool⟩
   rcases hy' with ⟨p,rfl⟩ | rfl<;>rcases hu b hb with ⟨q,rfl⟩ | rfl | ⟨f,a,c,rfl⟩<;>simp only [eqGuard,binOp,Sem.run_bind,Sem.run_pure,Result.andThen_ok,he,bR,cK,if_false]
 ·cases hb:qE P t x y with
  | none=>simp [hb] at h
  | some b =>
   simp [hb] at h
   subst h
   have he:=Lw hb hx hy
   refine ⟨.bool (!b),?_,.bool⟩
   rcases hy' with ⟨p,rfl⟩ | rfl<;>rcases hu b hb with ⟨q,rfl⟩ | rfl | ⟨f,a,c,rfl⟩<;>simp only [eqGuard,binOp,Sem.run_bind,Sem.run_pure,Result.andThen_ok,he,bR,cK,if_false]
theorem ZT {op:UnOp} {x v:V} {u:Value} (h:Bp op x=some v) (hx:VR Z w j x u):∃r,(Op.unary op u).run P w = .ok r w/\VR Z w j v r:=by
 cases op<;>cases x<;>simp [Bp] at h<;>first | (subst h;cases hx) | cases hx
 ·exact ⟨.int _ _,by simp only [Op.unary,Op.intArith,Int.zero_sub];rfl,.int⟩
 ·simp only [pJ,Option.some.injEq] at h
  subst h
  exact ⟨_,by simp [Op.unary,Op.intBits],.int⟩
 ·exact ⟨.bool _,by simp only [Op.unary];rfl,.bool⟩
theorem EM:∀{l:List V} {xs:List Int},fM l=some xs->xs.length=l.length/\∀(i:Nat) (n:Int),xs[i]? = some n->l[i]? = some (.int .u8 n):=by
 intro l
 induction l with
 | nil=>intro xs h;cases h;grind
 | cons x l ih =>
  intro xs h
  unfold fM at h
  split at h
  ·grind
  ·rename_i n l' e
   cases e
   simp only [omi] at h
   grind
  grind
theorem N6 {s d e:TypeId} {l:List V} {v:V} {A:Option Addr} {c:Nat} (hs:P.underlying s=some (.slice e)) (hd:P.underlying d=some .string) (h:tB P e l=some v)
  (hel:l=[]∨∃g b sz,A=some ⟨g,b,none⟩/\0 < sz/\∀(k:Nat) (y:V),l[k]? = some y->y.cells.length=sz/\dY Z w j0 g (b+k * sz) y.cells) :
  ∃r,(convert s d (.slice A l.length c)).run P w = .ok r w/\VR Z w j v r:=by
 unfold tB at h
 split at h
 ·rename_i he
  simp only [omi] at h
  obtain ⟨xs,h1,rfl⟩:=h
  obtain ⟨q1,q2⟩:=EM h1
  have key:(∀a,A=some a->(loadCells a l.length).run P w = .ok (xs.map (Value.int .u8)).toArray w)->(A=none->l=[])->∃r,(convert s d (.slice A l.length c)).run P w = .ok r w/\VR Z w j (.str (xs.map fun n=>UInt8.ofNat n.toNat)) r:=by
   intro hl hn
   cases A with
   | none =>
    have e0:l=[]:=hn rfl
    have:xs=[]:=pw (by grind)
    subst this
    exact ⟨_,run_convert_bytes_nil w s e hs he _ _ d hd,VR.str (s:=ByteArray.empty)⟩
   | some a =>
    refine ⟨_,by rw [run_convert_bytes_string w s d e _ _ c hs he hd];exact run_bytesToString w a _ c xs (hl a rfl),?_⟩
    rw [foldl_push_bytes]
    have:=VR.str (Z:=Z) (w:=w) (j:=j) (s:=(⟨ByteArray.empty.data++(xs.map fun n=>UInt8.ofNat n.toNat).toArray⟩:ByteArray))
    simp_all
  rcases hel with rfl | ⟨g,b,sz,rfl,hsz,hh⟩
  ·have:xs=[]:=pw q1
   subst this
   exact key (fun a _=>run_loadCells_list (P:=P) w a [] (fun j v hj=>by grind)) (fun _=>rfl)
  ·refine key (fun a ha=>?_) (fun h=>by cases h)
   cases ha
   have:=run_loadCells_list (P:=P) w ⟨g,b,none⟩ (xs.map (Value.int .u8)) (fun i u hi=>by
    rw [dB] at hi
    cases hx:xs[i]? with
    | none=>grind
    | some n =>
     simp [hx] at hi
     subst hi
     obtain ⟨p1,p3⟩:=hh i _ (q2 i n hx)
     have e1:sz=1:=by rw [<-p1];rfl
     subst e1
     obtain ⟨_,u,hu,hv⟩:=p3 0 _ rfl
     cases hv
     rw [<-hu]
     have e2:(⟨g,b,none⟩:Addr).add i=⟨g,b+i,none⟩:=by unfold Addr.add;all_goals grind
     grind)
   grind
 grind
end
section
variable {P:Program} {Z Z':Zs} {w w':World} {j j':J} {mem mem':List O}
theorem pI (g b n:Nat):(⟨g,b,none⟩:Addr).add n=⟨g,b+n,none⟩:=by unfold Addr.add;all_goals grind
theorem vI (s:SR P Z w j mem) {id off fz:Nat} {t:TypeId} {els:List V} {u:Value} (hm:mem[id]? = some (.row t els fz)) (hv:VR Z w j (.tail id off) u) :
  off<=els.length/\VR Z w j (.win id off (els.length - off)) u:=by
 cases hv with
 | tail hj hn h =>
  obtain ⟨hn',hh,h1,h2,h3,h4,h5⟩:=s.obj id _ hm
  grind
theorem NY {id off fz:Nat} {t:TypeId} {els:List V} (hm:mem[id]? = some (.row t els fz)) (hn:off<=els.length):cy mem (.win id off (els.length - off))=some (els.drop off):=by
 simp only [cy,hm]
 rw [if_pos (by omega),kE (by simp)]
theorem Jx (s:SR P Z w j mem) {x:V} {xs:List V} {u:Value} (h:cy mem x=some xs) (hv:VR Z w j x u) (ht:∀id off,x≠.tail id off) :
  ∃A c,u = .slice A xs.length c/\(xs=[]∨∃g b sz,A=some ⟨g,b,none⟩/\0 < sz/\∀(k:Nat) (y:V),xs[k]? = some y->y.cells.length=sz/\dY Z w j0 g (b+k * sz) y.cells):=by
 cases x with
 | nilS=>simp [cy] at h;subst h;cases hv;simp_all
 | sl l =>
  simp [cy] at h;subst h
  rcases hv.slInv with ⟨A,c,rfl,rfl⟩ | ⟨g,b,c,sz,rfl,_,hsz,hh⟩
  ·grind
  ·exact ⟨_,_,rfl,.inr ⟨g,b,sz,rfl,hsz,fun k y hk=>⟨(hh k y hk).1,(hh k y hk).2.2⟩⟩⟩
 | lit t l =>
  simp [cy] at h;subst h
  cases hv with
  | lit hv =>
   rcases hv.slInv with ⟨A,c,rfl,he⟩ | ⟨g,b,c,sz,he,_,hsz,hh⟩
   ·grind
   ·rw [he]
    exact ⟨_,_,rfl,.inr ⟨g,b,sz,rfl,hsz,fun k y hk=>⟨(hh k y hk).1,(hh k y hk).2.2⟩⟩⟩
 | own id =>
  simp only [cy] at h
  cases hm:mem[id]? with
  | none=>grind
  | some o =>
   cases o<;>simp [hm] at h
   subst h
   rename_i t els fz
   obtain ⟨hn,hh,h1,h2,h3,h4,h5⟩:=s.obj id _ hm
   cases hv with
   | own hj =>
    rw [hj] at hh;cases hh
    rcases h5 with ⟨hu,he⟩ | ⟨g,b,c,us,hu,_,_,_,_,hcells,_⟩
    ·grind
    ·cases hu
     refine ⟨_,_,rfl,.inr ⟨g,b,_,rfl,h2,fun k y hk=>⟨h4 y (cG hk),hcells k y hk⟩⟩⟩
 | win id off len =>
  simp only [cy] at h
  cases hm:mem[id]? with
  | none=>grind
  | some o =>
   cases o<;>simp [hm] at h
   obtain ⟨hle,rfl⟩:=h
   rename_i t els fz
   obtain ⟨hn,hh,h1,h2,h3,h4,h5⟩:=s.obj id _ hm
   cases hv with
   | win hj hn hlc _ ha =>
    rw [hj] at hh;cases hh
    have hlen:((els.drop off).take len).length=len:=by grind
    rw [hlen]
    refine ⟨_,_,rfl,?_⟩
    by_cases h0:len=0
    ·grind
    ·right
     rcases h5 with ⟨hu,he⟩ | ⟨g',b',c',us,hu,_,_,_,_,hcells,_⟩
     ·grind
     ·cases hu
      obtain ⟨g,b,o,hA,hA',_,ho⟩:=ha.resolve_left (fun h=>by grind)
      have ho:=ho (by omega)
      subst ho
      cases hA
      refine ⟨_,_,_,hA',h2,fun k y hk=>?_⟩
      grind
 | tail id off=>grind
 | _=>simp [cy] at h
theorem PE {k:IntKind} {n:Int} {y d l:Nat} {code:BoundsCode} (h:eD (some (some (.int k n))) d=some l) (hl:l<=y) :
  (Instr.sliceBound (.int k n) y code).run P w = .ok l w:=by
 simp only [eD] at h
 split at h
 ·rename_i h0
  cases h
  have:n<=(y:Int):=by omega
  simp [Instr.sliceBound,asIntOf,h0,this]
 grind
def nT (Z:Zs) (w:World) (j:J):Option (Option V)->Option Value->Prop
 | none,none=>True
 | some (some v),some u=>VR Z w j v u
 | some none,some _=>True
 | _,_=>False
theorem Zz (s:SR P Z w j mem) {id off:Nat} {xs:List V} {u:Value} (h:cy mem (.tail id off)=some xs) (hv:VR Z w j (.tail id off) u) :
  ∃len,cy mem (.win id off len)=some xs/\VR Z w j (.win id off len) u:=by
 simp only [cy] at h
 cases hm:mem[id]? with
 | none=>grind
 | some o =>
  cases o<;>simp [hm] at h
  subst h
  obtain ⟨h1,h2⟩:=vI s hm hv
  exact ⟨_,NY hm h1,h2⟩
theorem rO (s:SR P Z w j mem) {x:V} {xs:List V} {u:Value} (h:cy mem x=some xs) (hv:VR Z w j x u) :
  ∃A c,u = .slice A xs.length c/\(xs=[]∨∃g b sz,A=some ⟨g,b,none⟩/\0 < sz/\∀(k:Nat) (y:V),xs[k]? = some y->y.cells.length=sz/\dY Z w j0 g (b+k * sz) y.cells):=by
 by_cases ht:∃id off,x = .tail id off
 ·obtain ⟨id,off,rfl⟩:=ht
  obtain ⟨len,h1,h2⟩:=Zz s h hv
  exact Jx s h1 h2 (by grind)
 ·exact Jx s h hv (fun id off e=>ht ⟨id,off,e⟩)
theorem H0 {isSlice:Bool} {len cap l h m:Nat} {lo hi mx:Option (Option V)} {lo' hi' mx':Option Value} (hlo:nT Z w j lo lo') (hhi:nT Z w j hi hi') (hmx:nT Z w j mx mx')
  (h1:eD lo 0=some l) (h2:eD hi len=some h) (h3:eD mx len=some m) (hlh:l<=h) (hhm:h<=m) (hml:m<=len) (hlc:len<=cap) (hh:mx.isSome=true->hi.isSome=true) :
  ∃m',(Instr.sliceBounds isSlice len cap lo' hi' mx').run P w = .ok (l,h,m') w/\m'<=cap/\h<=m'/\(mx=none->m'=cap):=by
 have val:∀(o:Option (Option V)) (o':Option Value) (d r:Nat),nT Z w j o o'->eD o d=some r->(o=none/\o'=none/\r=d)∨∃k n,o=some (some (.int k n))/\o'=some (.int k n):=by
  intro o o' d r hr hb
  cases o with
  | none=>cases o' with
   | none=>simp [eD] at hb;grind
   | some u=>exact hr.elim
  | some v=>cases o' with
   | none=>cases v<;>exact hr.elim
   | some u=>cases v with
    | none=>simp [eD] at hb
    | some v =>
     cases v<;>simp [eD] at hb
     simp only [nT] at hr
     cases hr
     grind
 have eb:∀(o:Option (Option V)) (k:IntKind) (n:Int) (d r:Nat),o=some (some (.int k n))->eD o d=some r->∀(y:Nat) (code:BoundsCode),r<=y->(Instr.sliceBound (.int k n) y code).run P w = .ok r w:=by
  intro o k n d r ho hb y code hy
  subst ho
  exact PE hb hy
 unfold Instr.sliceBounds
 rcases val mx mx' len m hmx h3 with ⟨rfl,rfl,rfl⟩ | ⟨km,nm,rfl,rfl⟩
 ·rcases val hi hi' m h hhi h2 with ⟨rfl,rfl,rfl⟩ | ⟨kh,nh,rfl,rfl⟩
  ·rcases val lo lo' 0 l hlo h1 with ⟨rfl,rfl,rfl⟩ | ⟨kl,nl,rfl,rfl⟩
   ·simp_all
   ·have e:=eb _ kl nl 0 l rfl h1
    simp_all
  ·have e2:=eb _ kh nh m h rfl h2
   rcases val lo lo' 0 l hlo h1 with ⟨rfl,rfl,rfl⟩ | ⟨kl,nl,rfl,rfl⟩
   ·exact ⟨cap,by cases isSlice<;>simp [e2 cap _ (by omega)],by omega,by omega,fun _=>rfl⟩
   ·have e:=eb _ kl nl 0 l rfl h1
    exact ⟨cap,by cases isSlice<;>simp [e h _ hlh,e2 cap _ (by omega)],by omega,by omega,fun _=>rfl⟩
 ·have e3:=eb _ km nm len m rfl h3
  rcases val hi hi' len h hhi h2 with ⟨rfl,rfl,rfl⟩ | ⟨kh,nh,rfl,rfl⟩
  ·grind
  ·have e2:=eb _ kh nh len h rfl h2
   rcases val lo lo' 0 l hlo h1 with ⟨rfl,rfl,rfl⟩ | ⟨kl,nl,rfl,rfl⟩
   ·exact ⟨m,by simp [e2 m _ hhm,e3 cap _ (by omega)],by omega,by omega,fun h=>by cases h⟩
   ·have e:=eb _ kl nl 0 l rfl h1
    exact ⟨m,by simp [e h _ hlh,e2 m _ hhm,e3 cap _ (by omega)],by omega,by omega,fun h=>by cases h⟩
theorem Ta (s:ByteArray) (l h:Nat):(s.extract l h).data.toList=(s.data.toList.take h).drop l:=by
 simp [ByteArray.data_extract,List.extract_eq_take_drop,List.drop_take]
theorem Gq (s:SR P Z w j mem) {x:V} {xs:List V} {A:Option Addr} {n c:Nat} (h:cy mem x=some xs) (hv:VR Z w j x (.slice A n c)):n<=c:=by
 cases x with
 | nilS=>cases hv;omega
 | sl l =>
  rcases hv.slInv with ⟨A,c,_,he⟩ | ⟨g,b,c,sz,he,hlc,_⟩
  all_goals grind
 | lit t l =>
  cases hv with
  | lit hv =>
   grind
 | own id =>
  simp only [cy] at h
  cases hm:mem[id]? with
  | none=>grind
  | some o =>
   cases o<;>simp [hm] at h
   obtain ⟨hn,hh,h1,h2,h3,h4,h5⟩:=s.obj id _ hm
   cases hv with
   | own hj =>
    grind
 | win id off len=>cases hv with
  | win _ _ hlc _ _=>grind
 | tail id off=>cases hv with
  | tail _ _ h2=>cases h2 with
   | win _ _ hlc _ _=>grind
 | _=>simp [cy] at h
theorem YT (s:SR P Z w j mem) {t:TypeId} {x v:V} {u:Value} {lo hi mx:Option (Option V)} {lo' hi' mx':Option Value} (h:jn P mem t x lo hi mx=some v) (hv:VR Z w j x u)
  (hlo:nT Z w j lo lo') (hhi:nT Z w j hi hi') (hmx:nT Z w j mx mx'):∃r,(Instr.sliceAt t u lo' hi' mx').run P w = .ok r w/\VR Z w j v r:=by
 unfold jn at h
 cases hu:P.underlying t with
 | none=>grind
 | some d =>
  rw [hu] at h
  cases d<;>first | (simp at h;done) | skip
  case string =>
   cases x<;>simp only at h<;>first | (cases h;done) | skip
   cases hv
   rename_i sb
   split at h
   ·cases h
   ·rename_i hm0
    cases hl:eD lo 0 with
    | none=>grind
    | some l =>
     cases hh:eD hi sb.data.toList.length with
     | none=>grind
     | some hh' =>
      simp only [hl,hh,aJ] at h
      split at h
      ·rename_i hc
       cases h
       cases mx with
       | some y=>grind
       | none =>
        cases mx' with
        | some y=>exact hmx.elim
        | none =>
         obtain ⟨m',hr,hm1,hm2,_⟩:=H0 (P:=P) (isSlice:=false) (len:=sb.size) (cap:=sb.size) (mx:=none) (mx':=none) hlo hhi True.intro hl hh (by rfl:eD none sb.size=some sb.size) hc.1 hc.2 (bG _) (bG _) (by simp)
         refine ⟨.string (sb.extract l hh'),?_,?_⟩
         ·simp [Instr.sliceAt,Instr.slice,run_underlying hu,hr]
         ·rw [<-Ta];exact .str
      grind
  case slice e =>
   cases hx:cy mem x with
   | none=>grind
   | some xs =>
    simp only [hx,aJ] at h
    cases hl:eD lo 0 with
    | none=>grind
    | some l =>
     cases hh:eD hi xs.length with
     | none=>grind
     | some hh' =>
      cases hm:eD mx xs.length with
      | none=>grind
      | some m =>
       simp only [hl,hh,hm,aJ] at h
       split at h
       ·rename_i hc
        obtain ⟨hpos,hlh,hhm,hml,hmh,hall⟩:=hc
        have hinfo:∃i,P.info? e=some i/\i.size=P.cellsOf e:=by
         cases hi:P.info? e with
         | none=>simp [Program.cellsOf,hi] at hpos
         | some i=>exact ⟨i,rfl,by simp [Program.cellsOf,hi]⟩
        obtain ⟨i,hinf,hisz⟩:=hinfo
        obtain ⟨A,c,rfl,hel⟩:=rO s hx hv
        have hle:xs.length<=c:=Gq s hx hv
        obtain ⟨m',hr,hm1,hm2,hm3⟩:=H0 (P:=P) (isSlice:=true) hlo hhi hmx hl hh hm hlh hhm hml hle hmh
        have hrun:(Instr.sliceAt t (.slice A xs.length c) lo' hi' mx').run P w = .ok (.slice (if m'=l then A else A.map (·.add (l * P.cellsOf e))) (hh' - l) (m' - l)) w:=by
         simp [Instr.sliceAt,Instr.slice,run_underlying hu,hr,sizeOf,typeInfo,hinf,hisz]
        have hA:0 < hh' - l->∃g b,A=some ⟨g,b,none⟩/\(if m'=l then A else A.map (·.add (l * P.cellsOf e)))=some ⟨g,b+l * P.cellsOf e,none⟩/\∀(k:Nat) (y:V),xs[k]? = some y->y.cells.length=P.cellsOf e/\dY Z w j0 g (b+k * P.cellsOf e) y.cells:=by
         intro h0
         rcases hel with rfl | ⟨g,b,sz,rfl,hsz,hcl⟩
         ·grind
         ·have h1:xs[l]? = some (xs[l]'(by omega)):=bC (by omega)
          have h2:sz=P.cellsOf e:=by
           grind
          subst h2
          refine ⟨g,b,rfl,?_,hcl⟩
          rw [if_neg (by omega)]
          simp [pI]
        refine ⟨_,hrun,?_⟩
        cases x<;>simp only at h<;>first | (cases h;done) | skip
        case nilS =>
         cases h
         simp [cy] at hx
         subst hx
         cases hv
         simp at hml hm1
         have e1:hh'=0:=by omega
         have e2:l=0:=by omega
         have e3:m'=0:=by omega
         subst e1 e2 e3
         simpa using VR.nilS
        case sl l0 =>
         simp [cy] at hx
         subst hx
         cases h
         by_cases h0:0 < hh' - l
         ·obtain ⟨g,b,hA1,hA2,hcl⟩:=hA h0
          rw [hA2]
          rcases hv.slInv with ⟨_,_,rfl,_⟩ | ⟨g',b',c',sz,he,_,hsz,hz⟩
          ·grind
          ·rw [hA1] at he
           simp at he
           obtain ⟨⟨rfl,rfl⟩,rfl⟩:=he
           have e4:hh' - l=((l0.take hh').drop l).length:=by grind
           rw [e4]
           have h1:l0[l]? = some (l0[l]'(by omega)):=bC (by omega)
           have h2:sz=P.cellsOf e:=by grind
           subst h2
           refine VR.slMk (by grind) hsz fun k y hk=>?_
           grind
         ·have e4:(l0.take hh').drop l=[]:=by grind
          rw [e4,show hh' - l=0 by omega]
          exact .sl0
        case own id =>
         split at h
         ·rename_i e' els fz hmem
          cases mx<;>simp at h
          obtain ⟨rfl,h⟩:=h
          have hm':=hm3 rfl
          obtain ⟨hn,hh2,h1,h2,h3,h4,h5⟩:=s.obj id _ hmem
          cases hv with
          | own hj =>
           rw [hj] at hh2;cases hh2
           simp only at h1
           have hw:VR Z w j (.win id l (hh' - l)) (.slice (if m'=l then A else A.map (·.add (l * P.cellsOf e'))) (hh' - l) (m' - l)):=by
            refine .win hj (by omega) (by omega) (by omega) ?_
            rcases h5 with ⟨h5,_⟩ | ⟨g,b,c',us,h5,_⟩
            ·grind
            ·simp only [Value.slice.injEq] at h5
             obtain ⟨rfl,_⟩:=h5
             refine .inr ⟨g,b,if m'=l then 0 else l * P.cellsOf e',rfl,?_,?_,?_⟩
             ·split<;>simp [pI]
             all_goals grind
           cases hi0:hi with
           | some y=>grind
           | none =>
            rw [hi0] at h hh
            simp at h
            subst h
            simp only [eD,Option.some.injEq] at hh
            subst hh
            exact .tail hj (by omega) hw
         grind
        case win id off len =>
         split at h
         ·rename_i e' els fz hmem
          cases mx<;>simp at h
          obtain ⟨rfl,rfl⟩:=h
          have hm':=hm3 rfl
          obtain ⟨hn',hh2,h1,h2,h3,h4,h5⟩:=s.obj id _ hmem
          cases hv with
          | win hj hn hlc hcc ha =>
           rw [hj] at hh2;cases hh2
           simp only at h1
           refine .win hj (by omega) (by omega) (by omega) ?_
           rcases ha with ⟨hA1,rfl⟩ | ⟨g,b,o,hA1,rfl,ho1,ho2⟩
           ·grind
           ·refine .inr ⟨g,b,o+if m'=l then 0 else l * P.cellsOf e',hA1,?_,?_,?_⟩
            ·split<;>simp [pI,gT]
            all_goals grind
         grind
        case tail id off =>
         split at h
         ·rename_i e' els fz hmem
          cases mx<;>simp at h
          obtain ⟨rfl,h⟩:=h
          have hm':=hm3 rfl
          obtain ⟨hn',hh2,h1,h2,h3,h4,h5⟩:=s.obj id _ hmem
          have hxs:xs=els.drop off:=by simp only [cy,hmem,Option.some.injEq] at hx;grind
          obtain ⟨ho0,hwv⟩:=vI s hmem hv
          obtain ⟨At,nt,ct,szt,hjt,hnt⟩:∃A0 n0 c0 sz0,j id=some ⟨.slice A0 n0 c0,sz0⟩/\off<=n0:=by
           cases hv with
           | tail hj hn _=>grind
          rw [hjt] at hh2
          cases hh2
          have hnt2:nt=els.length:=by
           grind
          have hxl:xs.length=els.length - off:=by grind
          have hw:VR Z w j (.win id (off+l) (hh' - l)) (.slice (if m'=l then A else A.map (·.add (l * P.cellsOf e'))) (hh' - l) (m' - l)):=by
           rw [<-hxl] at hwv
           cases hwv with
           | win hj hn hlc hcc ha =>
            rw [hjt] at hj
            cases hj
            simp only at h1
            refine .win hjt (by omega) (by omega) (by omega) ?_
            rcases ha with ⟨hA1,rfl⟩ | ⟨g,b,o,hA1,rfl,ho1,ho2⟩
            ·grind
            ·refine .inr ⟨g,b,o+if m'=l then 0 else l * P.cellsOf e',hA1,?_,?_,?_⟩
             ·split<;>simp [pI,gT]
             all_goals grind
          cases hi0:hi with
          | some y=>grind
          | none =>
           rw [hi0] at h hh
           simp at h
           subst h
           simp only [eD,Option.some.injEq] at hh
           refine .tail hjt (by omega) ?_
           grind
         grind
       grind
theorem Tc {st:TypeId} {x v:V} {u:Value} {f:Nat} (h:zE P st x f=some v) (hv:VR Z w j x u):∃r,(Instr.fieldAt st u f).run P w = .ok r w/\VR Z w j v r:=by
 unfold zE uH at h
 cases hu:P.underlying st with
 | none=>grind
 | some d =>
  cases d<;>simp only [hu] at h<;>first | (simp at h;done) | skip
  rename_i fs
  cases hf:fs[f]? with
  | none=>grind
  | some fl =>
  simp only [hf,cg,aJ] at h
  split at h
  ·cases h
  rename_i h0
  have hinfo:∃i,P.info? fl.type=some i/\i.size≠0:=by
   cases hi:P.info? fl.type with
   | none=>simp [Program.cellsOf,hi] at h0
   | some i=>exact ⟨i,rfl,by simpa [Program.cellsOf,hi] using h0⟩
  obtain ⟨i,hi,hi0⟩:=hinfo
  have run:∀g b,(Instr.fieldAt st (.pointer (some ⟨g,b,none⟩)) f).run P w = .ok (.pointer (some ⟨g,b+fl.offset,none⟩)) w:=by
   intro g b
   simp [Instr.fieldAt,run_underlying hu,hf,Instr.sureAddr,fieldPlace,sizeOf,typeInfo,hi,hi0,pI]
  cases x<;>simp at h<;>subst h
  ·cases hv with
   | ref f' hc hvv =>
    refine ⟨_,run _ _,?_⟩
    rw [gT]
    exact .ref f' hc hvv
  ·cases hv with
   | ptr hj hs =>
    refine ⟨_,run _ _,?_⟩
    rw [gT,gT]
    exact .ptr hj hs
  ·cases hv with
   | hp hg=>exact ⟨_,run _ _,.hp hg⟩
theorem Fv {h:bz} {t:TypeId} {els:List V} {fz:Nat} (r:jt P Z w h t els fz) {A:Option Addr} {n c:Nat} (hu:h.u = .slice A n c) (h0:0 < els.length) :
  n=els.length/\n<=c/\∃g b,A=some ⟨g,b,none⟩/\h.start=some (g,b):=by
 rcases r.2.2.2.2 with ⟨_,he⟩ | ⟨g,b,c',us,hu',hlc,_⟩
 ·grind
 ·rw [hu] at hu'
  cases hu'
  refine ⟨rfl,hlc,g,b,rfl,?_⟩
  cases h;simp at hu;subst hu;rfl
theorem Uu (s:SR P Z w j mem) {t:TypeId} {x i v:V} {u ui:Value} (h:iu P mem t x i=some v) (hv:VR Z w j x u) (hi:VR Z w j i ui) :
  ∃r,(Instr.indexAt t u ui).run P w = .ok r w/\VR Z w j v r:=by
 unfold iu at h
 cases hu:P.underlying t with
 | none=>grind
 | some d =>
  cases i<;>(try (simp [hu] at h;done))<;>(try (cases d<;>simp [hu] at h;done))
  rename_i k n
  cases hi
  cases d<;>simp only [hu] at h<;>first | (cases h;done) | skip
  case slice e =>
   split at h
   ·rename_i hn0
    have run:∀g b len c,n.toNat < len->0 < P.cellsOf e->(Instr.indexAt t (.slice (some ⟨g,b,none⟩) len c) (.int k n)).run P w = .ok (.pointer (some ⟨g,b+n.toNat * P.cellsOf e,none⟩)) w:=by
     intro g b len c aC hpos
     have hinfo:∃i,P.info? e=some i/\i.size=P.cellsOf e:=by
      cases hi:P.info? e with
      | none=>simp [Program.cellsOf,hi] at hpos
      | some i=>exact ⟨i,rfl,by simp [Program.cellsOf,hi]⟩
     obtain ⟨i,hi,hisz⟩:=hinfo
     have h1:n < (len:Int):=by omega
     simp [Instr.indexAt,asIntOf,run_underlying hu,hn0,h1,sizeOf,typeInfo,hi,hisz,pI]
    cases x<;>simp only at h<;>first | (cases h;done) | skip
    case sl l =>
     cases hl:l[n.toNat]? with
     | none=>grind
     | some y =>
      simp [hl] at h
      obtain ⟨hy,rfl⟩:=h
      have aC:n.toNat < l.length:=(bj.1 hl).1
      rcases hv.slInv with ⟨_,_,rfl,_⟩ | ⟨g,b,c,sz,rfl,hlc,hsz,hh⟩
      ·grind
      ·obtain ⟨h1,h2,h3⟩:=hh _ y hl
       have e1:sz=P.cellsOf e:=by omega
       subst e1
       refine ⟨_,run g b _ c aC hsz,?_⟩
       have:=VR.refMk (Z:=Z) (w:=w) (j:=j) (x:=y) (off:=0) (g:=g) (b:=b+n.toNat * P.cellsOf e) (fun i hi=>by grind) h3
       grind
    case own id =>
     cases hm:mem[id]? with
     | none=>grind
     | some o =>
      cases o<;>simp [hm] at h
      rename_i t' els fz
      obtain ⟨⟨rfl,aC⟩,rfl⟩:=h
      obtain ⟨hn,hh,hr⟩:=s.obj id _ hm
      cases hv with
      | own hj =>
       rw [hj] at hh;cases hh
       obtain ⟨e1,e2,g,b,rfl,hst⟩:=Fv hr rfl (by omega)
       subst e1
       have h1:=hr.1
       simp only at h1
       refine ⟨_,run g b _ _ aC (by have:=hr.2.1;grind),?_⟩
       have:=VR.ptr (Z:=Z) (w:=w) (k:=n.toNat) (off:=0) hj hst
       grind
    case win id off len =>
     cases hm:mem[id]? with
     | none=>grind
     | some o =>
      cases o<;>simp [hm] at h
      rename_i t' els fz
      obtain ⟨⟨rfl,aC,hle⟩,rfl⟩:=h
      obtain ⟨hn,hh,hr⟩:=s.obj id _ hm
      cases hv with
      | win hj hnn hlc _ ha =>
       rw [hj] at hh;cases hh
       obtain ⟨e1,e2,g,b,rfl,hst⟩:=Fv hr rfl (by omega)
       obtain ⟨g',b',o,hA,hA',_,ho⟩:=ha.resolve_left (fun h=>by grind)
       have ho:=ho (by omega)
       subst ho
       cases hA
       subst hA'
       have h1:=hr.1
       simp only at h1
       refine ⟨_,run g _ _ _ aC (by have:=hr.2.1;grind),?_⟩
       have:=VR.ptr (Z:=Z) (w:=w) (k:=off+n.toNat) (off:=0) hj hst
       grind
    case tail id off =>
     cases hm:mem[id]? with
     | none=>grind
     | some o =>
      cases o<;>simp only [hm] at h<;>first | (cases h;done) | skip
      rename_i t' els fz
      split at h
      ·rename_i hc
       obtain ⟨rfl,aC⟩:=hc
       cases h
       obtain ⟨ho0,hwv⟩:=vI s hm hv
       rw [gg] at aC
       obtain ⟨hn,hh,hr⟩:=s.obj id _ hm
       cases hwv with
       | win hj hnn hlc _ ha =>
        rw [hj] at hh;cases hh
        obtain ⟨e1,e2,g,b,rfl,hst⟩:=Fv hr rfl (by omega)
        obtain ⟨g',b',o,hA,hA',_,ho⟩:=ha.resolve_left (fun h=>by grind)
        have ho:=ho (by omega)
        subst ho
        cases hA
        subst hA'
        have h1:=hr.1
        simp only at h1
        refine ⟨_,run g _ _ _ aC (by have:=hr.2.1;grind),?_⟩
        have:=VR.ptr (Z:=Z) (w:=w) (k:=off+n.toNat) (off:=0) hj hst
        grind
      grind
   grind
  case array len e =>
   split at h
   ·rename_i hc
    have run:∀g b,0 < P.cellsOf e->(Instr.indexAt t (.pointer (some ⟨g,b,none⟩)) (.int k n)).run P w = .ok (.pointer (some ⟨g,b+n.toNat * P.cellsOf e,none⟩)) w:=by
     intro g b hpos
     have hinfo:∃i,P.info? e=some i/\i.size=P.cellsOf e:=by
      cases hi:P.info? e with
      | none=>simp [Program.cellsOf,hi] at hpos
      | some i=>exact ⟨i,rfl,by simp [Program.cellsOf,hi]⟩
     obtain ⟨i,hi,hisz⟩:=hinfo
     have h1:n < (len:Int):=by omega
     simp [Instr.indexAt,asIntOf,run_underlying hu,Instr.sureAddr,hc.1,h1,sizeOf,typeInfo,hi,hisz,pI]
    cases x<;>simp only at h<;>first | (cases h;done) | skip
    ·cases h
     cases hv with
     | ref f' hcc hvv =>
      refine ⟨_,run _ _ hc.2.2,?_⟩
      rw [gT]
      exact .ref f' hcc hvv
    ·cases h
     cases hv with
     | ptr hj hs =>
      refine ⟨_,run _ _ hc.2.2,?_⟩
      rw [gT,gT]
      exact .ptr hj hs
   grind
end
section
variable {P:Program} {Z Z':Zs} {w w':World} {j j':J} {mem mem':List O}
def LR (Z:Zs) (w:World) (j:J) (cs:List V) (us:Array Value):Prop :=
 us.size=cs.length/\∀(i:Nat) (c:V),cs[i]? = some c->∃u,us[i]? = some u/\VR Z w j c u
theorem LR.of {cs:List V} {us:List Value} (hl:cs.length=us.length) (h:∀(i:Nat) (c:V) (u:Value),cs[i]? = some c->us[i]? = some u->VR Z w j c u):LR Z w j cs us.toArray:=by
 refine ⟨by grind,fun i c hc=>?_⟩
 have hi:i < cs.length:=(bj.1 hc).1
 exact ⟨us[i]'(by omega),by simp,h i c _ hc (bC (by omega))⟩
theorem LR.aggMk {cs:List V} {us:Array Value} (h:LR Z w j cs us):VR Z w j (.agg cs) (.agg us):=by
 have e:us=us.toList.toArray:=by simp
 rw [e]
 refine .agg (by simpa using h.1.symm) fun i c u hc hu=>?_
 obtain ⟨u',hu',hv⟩:=h.2 i c hc
 grind
theorem VR.aggInv {cs:List V} {u:Value} (h:VR Z w j (.agg cs) u):∃us,u = .agg us/\LR Z w j cs us:=by
 cases h with
 | agg hl hh=>exact ⟨_,rfl,LR.of hl hh⟩
theorem VR.tupInv {cs:List V} {u:Value} (h:VR Z w j (.tup cs) u):∃us,u = .tuple us/\LR Z w j cs us:=by
 cases h with
 | tup hl hh=>exact ⟨_,rfl,LR.of hl hh⟩
theorem LR.extract {cs:List V} {us:Array Value} (h:LR Z w j cs us) {off n:Nat} (hl:((cs.drop off).take n).length=n):LR Z w j ((cs.drop off).take n) (us.extract off (off+n)):=by
 have h1:=h.1
 simp at hl
 refine ⟨by grind,fun i c hc=>?_⟩
 rw [gI] at hc
 split at hc
 ·rw [gf] at hc
  obtain ⟨u,hu,hv⟩:=h.2 _ c hc
  grind
 grind
theorem L0 {t:TypeId} {cs:List V} {us:Array Value} {off:Nat} {v:V} (h:oS P t cs off=some v) (hr:LR Z w j cs us):∃r,(part t us off).run P w = .ok r w/\VR Z w j v r:=by
 unfold oS at h
 simp only at h
 split at h
 ·rename_i hlen
  unfold nu at h
  cases hu:P.underlying t with
  | none=>grind
  | some d =>
   obtain ⟨i,hi,hsz,_⟩:=Ea hu
   have ex:=hr.extract hlen
   have agg:uM d=true->v = .agg ((cs.drop off).take (P.cellsOf t))->∃r,(part t us off).run P w = .ok r w/\VR Z w j v r:=by
    intro hd hv
    subst hv
    refine ⟨.agg (us.extract off (off+P.cellsOf t)),?_,ex.aggMk⟩
    cases d<;>first | (simp [uM] at hd;done) | simp [part,isAgg,run_underlying hu,sizeOf,typeInfo,hi,hsz]
   have one:uM d=false->qQ ((cs.drop off).take (P.cellsOf t))=some v->∃r,(part t us off).run P w = .ok r w/\VR Z w j v r:=by
    intro hd hv
    unfold qQ at hv
    split at hv
    ·cases hv
     rename_i c he
     have h0:cs[off]? = some v:=by
      have h9:((cs.drop off).take (P.cellsOf t))[0]? = some v:=by grind
      grind
     obtain ⟨u,hu',hvv⟩:=hr.2 off v h0
     exact ⟨u,Fy hu hd hu',hvv⟩
    grind
   cases d<;>simp only [hu] at h<;>first | (cases h;exact agg rfl rfl) | exact one rfl h
 grind
theorem Td {st:TypeId} {cs:List V} {u:Value} {f off:Nat} {t:TypeId} {v:V} (hf:uH P st f=some (off,t)) (h:oS P t cs off=some v) (hv:VR Z w j (.agg cs) u) :
  ∃r,(Instr.field st u f).run P w = .ok r w/\VR Z w j v r:=by
 obtain ⟨us,rfl,hr⟩:=hv.aggInv
 unfold uH at hf
 cases hu:P.underlying st with
 | none=>grind
 | some d =>
  cases d<;>simp [hu] at hf
  obtain ⟨fl,hf,rfl,rfl⟩:=hf
  obtain ⟨r,h1,h2⟩:=L0 h hr
  exact ⟨r,by simp [Instr.field,run_underlying hu,hf,asAgg,h1],h2⟩
theorem Ux {t:TypeId} {x i v:V} {u ui:Value} (h:oz P t x i=some v) (hv:VR Z w j x u) (hi:VR Z w j i ui):∃r,(Instr.index t u ui).run P w = .ok r w/\VR Z w j v r:=by
 unfold oz at h
 split at h
 ·rename_i s k n hu
  cases hv;cases hi
  rename_i sb
  split at h
  ·rename_i h0
   cases hb:sb.data.toList[n.toNat]? with
   | none=>grind
   | some b =>
    simp [hb] at h
    subst h
    have aC:n.toNat < sb.size:=by have:=(bj.1 hb).1;simp_all
    have hg:sb[n.toNat]? = some b:=by
     rw [getElem?_pos sb n.toNat aC]
     congr 1
     simp at hb
     rw [eW (by grind)] at hb
     have hb':=Option.some.inj hb
     exact hb'
    exact ⟨.int .u8 (b.toNat:Int),by simp [Instr.index,asIntOf,run_underlying hu,h0,hg],.int⟩
  grind
 ·rename_i len e cs k n hu
  cases hi
  split at h
  ·rename_i hc
   obtain ⟨us,rfl,hr⟩:=hv.aggInv
   have hc1:n < (len:Int):=by omega
   have hpos:∃i,P.info? e=some i/\i.size=P.cellsOf e:=by
    unfold oS nu at h
    simp only at h
    split at h
    ·cases hu':P.underlying e with
     | none=>grind
     | some d=>obtain ⟨i,hi,hs,_⟩:=Ea hu';grind
    grind
   obtain ⟨i,hi,hisz⟩:=hpos
   obtain ⟨r,h1,h2⟩:=L0 h hr
   exact ⟨r,by simp [Instr.index,asIntOf,run_underlying hu,hc.1,hc1,sizeOf,typeInfo,hi,hisz,h1],h2⟩
  grind
 grind
theorem Ve (s:SR P Z w j mem) {t ty:TypeId} {x v:V} {u:Value} {ts:Array TypeId} {us:Array Value} (ht:ts[0]? = some t) (hu0:us[0]? = some u) (h:lp P mem t x=some v) (hv:VR Z w j x u) :
  ∃r,(Builtin.len_ ts ty us).run P w = .ok r w/\VR Z w j v r:=by
 unfold lp at h
 split at h
 ·rename_i hu;cases h;cases hv
  rename_i sb
  exact ⟨goInt (sb.size:Int),by simp [Builtin.len_,ht,hu0,run_underlying hu],.int⟩
 ·rename_i n e hu;cases h
  exact ⟨goInt n,by cases u<;>simp [Builtin.len_,ht,hu0,run_underlying hu],.int⟩
 ·rename_i y _ _ e hu
  cases hx:cy mem y with
  | none=>grind
  | some xs =>
   simp only [hx,cg] at h
   cases h
   obtain ⟨A,c,rfl,_⟩:=rO s hx hv
   exact ⟨goInt xs.length,by simp [Builtin.len_,ht,hu0,run_underlying hu],.int⟩
 ·rename_i x _ _ k e hu
  cases hm:fd mem x with
  | none=>grind
  | some es =>
   simp only [hm,cg] at h
   cases h
   obtain ⟨r,rfl,es',clock,h2,h3,_⟩:=Aj s hm hv
   refine ⟨goInt es'.size,?_,by rw [h3];exact .int⟩
   simp [Builtin.len_,ht,hu0,run_underlying hu,getObj,Sem.run,h2]
 grind
theorem VN {a b v:V} {u u':Value} (h:min2 a b=some v) (ha:VR Z w j a u) (hb:VR Z w j b u'):∃r,(Builtin.min2 u u').run P w = .ok r w/\VR Z w j v r:=by
 cases a<;>cases b<;>simp [min2] at h
 ·obtain ⟨rfl,rfl⟩:=h
  cases ha;cases hb
  exact ⟨_,rfl,.int⟩
 ·subst h
  cases ha;cases hb
  rename_i s t
  refine ⟨.string (if Op.bytesLess s.data.toList t.data.toList || s.data.toList==t.data.toList then s else t),by simp [Builtin.min2,Op.stringOp,asBool,tC],?_⟩
  cases h:(Op.bytesLess s.data.toList t.data.toList || s.data.toList==t.data.toList)<;>simp at h<;>simp [h]<;>exact .str
theorem VF {a b v:V} {u u':Value} (h:max2 a b=some v) (ha:VR Z w j a u) (hb:VR Z w j b u'):∃r,(Builtin.max2 u u').run P w = .ok r w/\VR Z w j v r:=by
 cases a<;>cases b<;>simp [max2] at h
 ·obtain ⟨rfl,rfl⟩:=h
  cases ha;cases hb
  exact ⟨_,rfl,.int⟩
 ·subst h
  cases ha;cases hb
  rename_i s t
  refine ⟨.string (if !(Op.bytesLess s.data.toList t.data.toList) then s else t),by simp [Builtin.max2,Op.stringOp,asBool,tC],?_⟩
  cases Op.bytesLess s.data.toList t.data.toList<;>exact .str
theorem J1 {f:V->V->Option V} {g:Value->Value->Sem Value} (hf:∀(a b v:V) (u u':Value),f a b=some v->VR Z w j a u->VR Z w j b u'->∃r,(g u u').run P w = .ok r w/\VR Z w j v r) :
  ∀(xs:List V) (us:List Value) (x v:V) (u:Value),rZ f x xs=some v->VR Z w j x u->us.length=xs.length->(∀(i:Nat) (c:V) (u:Value),xs[i]? = some c->us[i]? = some u->VR Z w j c u) ->
   ∃r,(us.foldlM g u).run P w = .ok r w/\VR Z w j v r:=by
 intro xs
 induction xs with
 | nil =>
  intro us x v u h hx hl _
  simp [rZ] at h
  simp_all
 | cons y ys ih =>
  intro us x v u h hx hl hh
  cases us with
  | nil=>grind
  | cons u1 us =>
   simp only [rZ] at h
   cases h1:f x y with
   | none=>grind
   | some z =>
    simp [h1] at h
    obtain ⟨r,hr,hv⟩:=hf x y z u u1 h1 hx (hh 0 y u1 rfl rfl)
    obtain ⟨r2,hr2,hv2⟩:=ih us z v r h hv (by grind) (fun i c u hc hu=>hh (i+1) c u (by grind) (by grind))
    simp_all
theorem Tr {cs:Array Value} {off:Nat} (vs:List Value):∀(k:Nat) (acc:Array Value),acc.size=cs.size->(∀i,acc[i]? = if off<=i/\i < off+k then vs[i - off]? else cs[i]?) ->
  k<=vs.length->off+vs.length<=cs.size ->
  (((vs.drop k).zipIdx k).foldl (fun a (x:Value × Nat)=>a.setIfInBounds (off+x.2) x.1) acc).size=cs.size /\
  ∀i,(((vs.drop k).zipIdx k).foldl (fun a (x:Value × Nat)=>a.setIfInBounds (off+x.2) x.1) acc)[i]? = if off<=i/\i < off+vs.length then vs[i - off]? else cs[i]?:=by
 intro k
 generalize hn:vs.length - k=n
 induction n generalizing k with
 | zero =>
  intro acc hsz hacc hk hle
  have e:vs.drop k=[]:=pq (by omega)
  rw [e]
  refine ⟨hsz,fun i=>?_⟩
  simp only [List.zipIdx_nil,List.foldl_nil]
  grind
 | succ n ih =>
  intro acc hsz hacc hk hle
  have hk':k < vs.length:=by omega
  rw [rl hk']
  simp only [List.zipIdx_cons,List.foldl_cons]
  refine ih (k+1) (by omega) _ (by grind) (fun i=>?_) (by omega) hle
  rw [BA]
  by_cases hi:off+k=i
  ·subst hi
   rw [if_pos rfl,if_pos (by omega),if_pos (by omega)]
   simp_all
  ·rw [if_neg hi,hacc i]
   by_cases h1:off<=i/\i < off+k
   ·grind
   ·rw [if_neg h1,if_neg (by omega)]
def PR (Z:Zs) (w:World) (j:J):List (Nat × V)->List (Nat × Value)->Prop
 | [],[]=>True
 |(i,v)::ps,(k,u)::qs=>i=k/\VR Z w j v u/\PR Z w j ps qs
 | _,_=>False
theorem L2 {env:List V} {ρ:Operand->Value} (hρ:∀x v,aO env x=some v->VR Z w j v (ρ x)):∀(l:List (Nat × Operand)) (ps:List (Nat × V)),bo (nB env) l=some ps->PR Z w j ps (l.map fun p=>(p.1,ρ p.2)):=by
 intro l
 induction l with
 | nil=>intro ps h;simp [bo] at h;subst h;trivial
 | cons p l ih =>
  intro ps h
  simp only [bo,nB] at h
  cases h1:aO env p.2 with
  | none=>grind
  | some v =>
   cases h2:bo (nB env) l with
   | none=>grind
   | some qs =>
    simp [h1,h2] at h
    subst h
    exact ⟨rfl,hρ _ _ h1,ih _ h2⟩
theorem nA {v:V} (h:v.cells.all V.one=true):∀y∈v.cells,y.one=true:=di.1 h
theorem JO {place:Nat->Option (Nat × Nat)}:∀(ps:List (Nat × V)) (qs:List (Nat × Value)) (cs out:List V) (us:Array Value),pY place cs ps=some out->PR Z w j ps qs->LR Z w j cs us ->
  ∃us',Instr.fill place us qs=some us'/\LR Z w j out us':=by
 intro ps
 induction ps with
 | nil =>
  intro qs cs out us h hp hr
  cases qs with
  | nil=>simp [pY] at h;subst h;exact ⟨us,rfl,hr⟩
  | cons _ _=>exact hp.elim
 | cons p ps ih =>
  intro qs cs out us h hp hr
  obtain ⟨i,v⟩:=p
  cases qs with
  | nil=>exact hp.elim
  | cons q qs =>
   obtain ⟨k,u⟩:=q
   obtain ⟨rfl,hv,hp⟩:=hp
   simp only [pY] at h
   cases hpl:place i with
   | none=>grind
   | some os =>
    obtain ⟨off,size⟩:=os
    simp only [hpl,aJ] at h
    split at h
    ·rename_i hc
     obtain ⟨h1,h2,h3⟩:=hc
     obtain ⟨hsz,hcl⟩:=hv.cellsOf (nA h3)
     have hus:=hr.1
     have hle:off+u.cells.toList.length<=us.size:=by grind
     have fs:=Tr (cs:=us) (off:=off) u.cells.toList 0 us rfl (fun i=>by grind) (by omega) hle
     simp only [pu] at fs
     have hr':LR Z w j (cs.take off++v.cells++cs.drop (off+size)) ((u.cells.toList.zipIdx 0).foldl (fun a (x:Value × Nat)=>a.setIfInBounds (off+x.2) x.1) us):=by
      refine ⟨by grind,fun i c hc=>?_⟩
      rw [fs.2 i]
      have hto:(cs.take off).length=off:=by grind
      by_cases hi:i < off
      ·rw [if_neg (by omega)]
       rw [bu,db (by omega),gI,if_pos hi] at hc
       exact hr.2 i c hc
      ·rw [bu,cY (by omega),hto] at hc
       by_cases hi2:i - off < v.cells.length
       ·grind
       ·rw [cY (by omega),gf] at hc
        rw [if_neg (by grind)]
        have e:off+size+(i - off - v.cells.length)=i:=by omega
        rw [e] at hc
        exact hr.2 i c hc
     obtain ⟨us',h4,h5⟩:=ih qs _ out _ h hp hr'
     refine ⟨us',?_,h5⟩
     have g1:¬(u.cells.size≠size):=by omega
     have g2:¬(off+u.cells.size > us.size):=by grind
     simp only [Instr.fill,hpl]
     rw [if_neg (by grind)]
     rw [<-h4]
     congr 1
     rw [<-Array.foldl_toList,Array.toList_zipIdx]
    grind
theorem rc {t:TypeId} {z:V} (h:gF P t=some z):∃i zv,P.info? t=some i/\i.zero=some zv/\VR Z w j z zv/\P.cellsOf t=i.size:=by
 unfold gF at h
 cases hi:P.info? t with
 | none=>grind
 | some i =>
  simp only [hi,aJ] at h
  have sz:P.cellsOf t=i.size:=by simp [Program.cellsOf,hi]
  cases hz:i.zero with
  | none=>grind
  | some zv =>
   refine ⟨i,zv,rfl,hz,?_,sz⟩
   simp only [hz] at h
   split at h
   ·rename_i cs he
    cases he
    cases hm:bo mS cs.toList with
    | none=>grind
    | some vs =>
     simp [hm] at h
     subst h
     have key:∀(l:List Value) (vs:List V),bo mS l=some vs->vs.length=l.length/\∀(i:Nat) (c:V) (u:Value),vs[i]? = some c->l[i]? = some u->VR Z w j c u:=by
      intro l
      induction l with
      | nil=>intro vs h;simp [bo] at h;grind
      | cons x l ih =>
       intro vs h
       simp only [bo] at h
       cases h1:mS x with
       | none=>grind
       | some y =>
        cases h2:bo mS l with
        | none=>grind
        | some ys =>
         simp [h1,h2] at h
         subst h
         obtain ⟨a,b⟩:=ih ys h2
         refine ⟨by grind,fun i c u hc hu=>?_⟩
         cases i with
         | zero=>simp at hc hu;subst hc hu;exact Cg h1
         | succ i=>grind
     obtain ⟨a,b⟩:=key _ _ hm
     have e:cs=cs.toList.toArray:=by simp
     rw [e]
     exact .agg a b
   ·cases ‹some _=some _›
    exact Cg h
   grind
end
section
variable {P:Program} {Z Z':Zs} {w w':World} {j j':J} {mem mem':List O}
theorem eG {g b:Nat} {us:Array Value} {t:TypeId} {fr:Nat × Nat} (h:w.heap[g]? = some (.cells us t fr)):w.cell? ⟨g,b,none⟩=us[b]?:=cell_of_row w g b us t fr h
theorem N0 (s:SR P Z w j mem) {v:V} {u:Value} (hv:VR Z w j v u):VR Z w j (mg mem v) u:=by
 cases v<;>simp only [mg]<;>first | exact hv | skip
 rename_i id
 cases hm:mem[id]? with
 | none=>grind
 | some o =>
  cases o<;>simp only<;>first | exact hv | skip
  rename_i t els fz
  obtain ⟨hn,hh,h1,h2,h3,h4,h5⟩:=s.obj id _ hm
  cases hv with
  | own hj h0 =>
   rw [hj] at hh
   cases hh
   rcases h5 with ⟨hu,he⟩ | ⟨g,b,c,us,hu,hlc,_⟩
   ·simp only [Value.slice.injEq] at hu
    obtain ⟨rfl,rfl,rfl⟩:=hu
    exact .tail hj (iE _) (.win hj (by simp) (by simp) (by simp) (.inl ⟨rfl,rfl⟩))
   ·simp only [Value.slice.injEq] at hu
    obtain ⟨rfl,rfl,rfl⟩:=hu
    exact .tail hj (iE _) (.win hj (by simp) hlc (by simp) (.inr ⟨g,b,0,rfl,by simp,by simp,by simp⟩))
theorem NZ {v:V}:(mg mem v).one=v.one:=by
 cases v<;>simp only [mg]
 split<;>rfl
theorem y4:∀(ts:List TypeId) (vs:List V) (us:List Value) (mem:List O) (j:J),SR P Z w j mem->vs.length=us.length->(∀(i:Nat) (v:V) (u:Value),vs[i]? = some v->us[i]? = some u->VR Z w j v u) ->
  ∃j',SR P Z w j' (boxed P ts vs mem).2/\aI Z w j mem Z w j' (boxed P ts vs mem).2/\aQ j j'/\(boxed P ts vs mem).1.length=vs.length /\
   (∀(i:Nat) (v:V) (u:Value),(boxed P ts vs mem).1[i]? = some v->us[i]? = some u->VR Z w j' v u)/\((∀v∈vs,v.one=true)->∀v∈(boxed P ts vs mem).1,v.one=true):=by
 intro ts
 induction ts with
 | nil =>
  intro vs us mem j s hl hv
  have e:boxed P [] vs mem=(vs,mem):=by cases vs<;>rfl
  rw [e]
  exact ⟨j,s,aI.refl _ _ _ _,aQ.refl _,rfl,hv,fun h=>h⟩
 | cons t ts ih =>
  intro vs us mem j s hl hv
  cases vs with
  | nil=>exact ⟨j,s,aI.refl _ _ _ _,aQ.refl _,rfl,hv,fun h=>h⟩
  | cons v vs =>
   cases us with
   | nil=>grind
   | cons u us =>
    have hv0:=hv 0 v u rfl rfl
    have hvs:∀(i:Nat) (v:V) (u:Value),vs[i]? = some v->us[i]? = some u->VR Z w j v u:=fun i v u h1 h2=>hv (i+1) v u (by grind) (by grind)
    have hl':vs.length=us.length:=by grind
    have same:∀(x:V),VR Z w j x u->x.one=v.one->boxed P (t::ts) (v::vs) mem=(x::(boxed P ts vs mem).1,(boxed P ts vs mem).2)->_:=fun x hx h1 e=>(by
     rw [e]
     obtain ⟨j',a1,a2,a3,a4,a5,a6⟩:=ih vs us mem j s hl' hvs
     refine ⟨j',a1,a2,a3,by grind,fun i y z hy hz=>?_,fun h y hy=>?_⟩
     ·cases i with
      | zero=>simp at hy hz;subst hy hz;exact hx.mono (be.refl _ _) a3
      | succ i=>grind
     grind:∃j',SR P Z w j' (boxed P (t::ts) (v::vs) mem).2/\aI Z w j mem Z w j' (boxed P (t::ts) (v::vs) mem).2/\aQ j j'/\(boxed P (t::ts) (v::vs) mem).1.length=(v::vs).length /\
   (∀(i:Nat) (x:V) (z:Value),(boxed P (t::ts) (v::vs) mem).1[i]? = some x->(u::us)[i]? = some z->VR Z w j' x z)/\((∀x∈v::vs,x.one=true)->∀x∈(boxed P (t::ts) (v::vs) mem).1,x.one=true))
    by_cases hn:v = .nilS
    ·subst hn
     cases he:ef P t with
     | none=>exact same .nilS hv0 rfl (by simp only [boxed,he])
     | some e =>
      by_cases hr:dG P e 0=true
      ·have e1:boxed P (t::ts) (.nilS::vs) mem=(.tail mem.length 0::(boxed P ts vs (mem++[.row e [] 0])).1,(boxed P ts vs (mem++[.row e [] 0])).2):=by simp only [boxed,he,hr,if_true]
       rw [e1]
       have hpos:0 < P.cellsOf e:=by
        simp only [dG,nK,bv,decide_eq_true_eq] at hr
        grind
       obtain ⟨s1,st,je⟩:=s.pushV (h:=⟨.slice none 0 0,P.cellsOf e⟩) rfl (o:=.row e [] 0) ⟨_,eU _ _ _,rfl,hpos,bG _,by simp,.inl ⟨rfl,rfl⟩⟩
       obtain ⟨j',a1,a2,a3,a4,a5,a6⟩:=ih vs us _ _ s1 hl' (fun i v u h1 h2=>(hvs i v u h1 h2).mono (be.refl _ _) je)
       refine ⟨j',a1,st.trans a2,je.trans a3,by grind,fun i y z hy hz=>?_,fun h y hy=>?_⟩
       ·cases i with
        | zero =>
         simp at hy hz
         subst hy hz
         cases hv0
         have hj:=a3 mem.length _ (eU j mem.length ⟨.slice none 0 0,P.cellsOf e⟩)
         exact .tail hj (bG _) (.win hj (by simp) (by simp) (by simp) (.inl ⟨rfl,rfl⟩))
        | succ i=>grind
       ·rcases bP.1 hy with rfl | hy
        ·rfl
        grind
      ·exact same .nilS hv0 rfl (by simp only [boxed,he];grind)
    ·exact same (mg mem v) (N0 s hv0) NZ (by cases v<;>first | exact (hn rfl).elim | rfl)
theorem PH (s:SR P Z w j mem) {t:TypeId} {v:V} {u:Value} (hl:v.cells.length=P.cellsOf t) (ho:v.cells.all V.one=true) (hv:VR Z w j v u) :
  ∃r w1,(Instr.box t u).run P w = .ok r w1/\cC P Z w j mem (.ptr mem.length 0 0) (mem++[.box t v false]) r w1:=by
 obtain ⟨hsz,hcl⟩:=hv.cellsOf (nA ho)
 refine ⟨.pointer (some ⟨w.heap.size,0,none⟩),w.alloc (.cells u.cells t),by simp [Instr.box,newVar,Go.newRow,newObj,Sem.run],?_⟩
 have hz:=be.heap (Z:=Z) (w1:=w.alloc (.cells u.cells t)) (ob:=.cells u.cells t) rfl s.zin 0
 obtain ⟨s1,st,je⟩:=s.push (w1:=w.alloc (.cells u.cells t)) (ob:=.cells u.cells t) rfl rfl rfl rfl 0 (h:=⟨.pointer (some ⟨w.heap.size,0,none⟩),P.cellsOf t⟩) (by simp [bz.blk]) (o:=.box t v false)
  (by
   refine ⟨w.heap.size,u.cells,eU _ _ _,heap_alloc_new w _,hl,by omega,fun i y hy=>?_,fun o ho=>?_,fun h=>by cases h⟩
   ·obtain ⟨c,hc,hvr⟩:=hcl i y hy
    refine ⟨nA ho y (cG hy),c,?_,hvr.mono hz (s.ext _)⟩
    simp_all
   ·rcases ho with ho | ho
    ·have:=s.zin _ _ ho;omega
    grind)
 refine ⟨_,_,?_,s1,st,je⟩
 have:=VR.ptr (Z:=fS Z w.heap.size 0) (w:=w.alloc (.cells u.cells t)) (j:=dz j mem.length ⟨.pointer (some ⟨w.heap.size,0,none⟩),P.cellsOf t⟩) (id:=mem.length) (k:=0) (off:=0) (g:=w.heap.size) (b:=0) (eU _ _ _) rfl
 grind
theorem PG (s:SR P Z w j mem) {t:TypeId} {v:V} {u:Value} (hl:v.cells.length=P.cellsOf t) (ho:v.cells.all V.one=true) (hv:VR Z w j v u) :
  ∃r w1,(Instr.box t u).run P w = .ok r w1/\cC P Z w j mem (newBox P mem t v).1 (newBox P mem t v).2 r w1:=by
 have fin:∀(v':V) (m':List O) (j':J),ol P mem t v=(v',m')->SR P Z w j' m'->aI Z w j mem Z w j' m'->aQ j j'->v'.cells.length=P.cellsOf t->v'.cells.all V.one=true->VR Z w j' v' u ->
   ∃r w1,(Instr.box t u).run P w = .ok r w1/\cC P Z w j mem (newBox P mem t v).1 (newBox P mem t v).2 r w1:=by
  intro v' m' j' e s' st je hl' ho' hv'
  obtain ⟨r,w1,h1,Z2,j2,h2,h3,h4,h5⟩:=PH s' hl' ho' hv'
  refine ⟨r,w1,h1,?_⟩
  unfold newBox
  rw [e]
  exact ⟨Z2,j2,h2,h3,st.trans h4,je.trans h5⟩
 have qQ:(∀cs,v≠.agg cs)->∃r w1,(Instr.box t u).run P w = .ok r w1/\cC P Z w j mem (newBox P mem t v).1 (newBox P mem t v).2 r w1:=by
  intro hna
  obtain ⟨j',a1,a2,a3,a4,a5,a6⟩:=y4 (P:=P) (mQ P t) [v] [u] mem j s rfl (fun i x z hx hz=>by
   grind)
  have hc1:v.cells=[v]:=by cases v<;>first | rfl | grind
  have h1:v.one=true:=by grind
  match hb:boxed P (mQ P t) [v] mem,a1,a2,a4,a5,a6 with
  |([x],m),a1,a2,a4,a5,a6 =>
   have hx1:x.one=true:=a6 (fun y hy=>by grind) x (by simp)
   have hxc:=jw hx1
   refine fin x m j' ?_ a1 a2 a3 (by grind) (by grind) (a5 0 x u rfl rfl)
   unfold ol
   all_goals grind
  |([],m),a1,a2,a4,a5,a6=>grind
  |(_::_::_,m),a1,a2,a4,a5,a6=>grind
 cases v with
 | agg cs =>
  cases hv with
  | agg hl2 hh =>
   rename_i us
   obtain ⟨j',a1,a2,a3,a4,a5,a6⟩:=y4 (P:=P) (mQ P t) cs us mem j s hl2 hh
   refine fin _ _ j' rfl a1 a2 a3 ?_ ?_ (.agg (by grind) a5)
   ·simp only [V.cells] at hl |-
    grind
   ·simp only [V.cells,di] at ho |-
    grind
 | _=>simp_all
def jZ (P:Program) (Z:Zs) (w:World) (j:J) (mem:List O) (id:Nat) (mem':List O) (u:Value) (w':World):Prop :=
 ∃Z' j' sz,j' id=some ⟨u,sz⟩/\SR P Z' w' j' mem'/\aI Z w j mem Z' w' j' mem'/\aQ j j'
theorem jZ.own {id:Nat} {mem':List O} {A:Option Addr} {n c:Nat} {w':World} (h:jZ P Z w j mem id mem' (.slice A n c) w') (h0:∀a,A=some a->a.off=0):cC P Z w j mem (.own id) mem' (.slice A n c) w' :=
 let ⟨Z',j',_,h1,h2,h3,h4⟩:=h
 ⟨Z',j',.own h1 h0,h2,h3,h4⟩
theorem jZ.tail {id:Nat} {mem':List O} {u:Value} {w':World} {t:TypeId} {els:List V} {fz:Nat} (h:jZ P Z w j mem id mem' u w') (hm:mem'[id]? = some (.row t els fz)):cC P Z w j mem (.tail id 0) mem' u w':=by
 obtain ⟨Z',j',sz,h1,h2,h3,h4⟩:=h
 obtain ⟨hn,hh,q1,q2,q3,q4,q5⟩:=h2.obj id _ hm
 rw [h1] at hh;cases hh
 rcases q5 with ⟨hv,he⟩ | ⟨g,b,c,us,hv,hlc,_⟩
 ·simp only at hv
  subst hv he
  exact ⟨Z',j',.tail h1 (iE _) (.win h1 (by simp) (by simp) (by simp) (.inl ⟨rfl,rfl⟩)),h2,h3,h4⟩
 ·simp only at hv
  subst hv
  exact ⟨Z',j',.tail h1 (iE _) (.win h1 (by simp) hlc (by simp) (.inr ⟨g,b,0,rfl,by simp,by simp,by simp⟩)),h2,h3,h4⟩
theorem MB (hzin:∀g o,Z g o->g < w.heap.size) (id:Nat) {w1:World} {t:TypeId} {us:Array Value} {els:List V} {fz c:Nat} (hh:w1.heap=w.heap.push (.cells us t))
  (hpos:0 < P.cellsOf t) (hels:∀x∈els,x.cells.length=P.cellsOf t) (hfz:fz<=els.length) (hlc:els.length<=c) (hc:c<=maxLen) (hus:us.size=c * P.cellsOf t)
  (hcl:∀(k:Nat) (x:V) (i:Nat) (y:V),els[k]? = some x->x.cells[i]? = some y->y.one=true/\∃u,us[k * P.cellsOf t+i]? = some u/\VR Z w j0 y u) :
  OR P (fS Z w.heap.size (fz * P.cellsOf t)) w1 (dz j id ⟨.slice (some ⟨w.heap.size,0,none⟩) els.length c,P.cellsOf t⟩) id (.row t els fz):=by
 have hz:=be.heap (Z:=Z) hh hzin (fz * P.cellsOf t)
 have hg:w1.heap[w.heap.size]? = some (.cells us t (0,0)):=by rw [hh];simp
 refine ⟨_,eU _ _ _,rfl,hpos,hfz,hels,.inr ⟨w.heap.size,0,c,us,rfl,hlc,hc,hg,by simpa using Nat.le_of_eq hus.symm,fun k x hk i y hy=>?_,fun o ho=>?_,fun o ho=>.inr ⟨rfl,by simpa using ho⟩⟩⟩
 ·obtain ⟨h1,u,hu,hv⟩:=hcl k x i y hk hy
  refine ⟨h1,u,?_,hv.mono hz (aQ.refl _)⟩
  rw [eG hg,<-hu]
  simp
 ·rcases ho with ho | ho
  ·have:=hzin _ _ ho;omega
  ·have ho:=ho.2
   exact ⟨Nat.pos_of_ne_zero fun e=>by subst e;simp at ho,by simpa using ho⟩
theorem MD (s:SR P Z w j mem) {w1:World} {t:TypeId} {us:Array Value} {els:List V} {fz c:Nat} (hh:w1.heap=w.heap.push (.cells us t)) (hos:w1.os=w.os) (htape:w1.tape=w.tape) (hout:w1.output=w.output)
  (hpos:0 < P.cellsOf t) (hels:∀x∈els,x.cells.length=P.cellsOf t) (hfz:fz<=els.length) (hlc:els.length<=c) (hc:c<=maxLen) (hus:us.size=c * P.cellsOf t)
  (hcl:∀(k:Nat) (x:V) (i:Nat) (y:V),els[k]? = some x->x.cells[i]? = some y->y.one=true/\∃u,us[k * P.cellsOf t+i]? = some u/\VR Z w j0 y u) :
  jZ P Z w j mem mem.length (newRow mem t els fz).2 (.slice (some ⟨w.heap.size,0,none⟩) els.length c) w1:=by
 obtain ⟨s1,st,je⟩:=s.push hh hos htape hout (fz * P.cellsOf t) (h:=⟨.slice (some ⟨w.heap.size,0,none⟩) els.length c,P.cellsOf t⟩) (by simp [bz.blk]) (o:=.row t els fz) (MB s.zin _ hh hpos hels hfz hlc hc hus hcl)
 exact ⟨_,_,_,eU _ _ _,s1,st,je⟩
theorem xH (s:SR P Z w j mem) {w1:World} {t:TypeId} {us:Array Value} {els:List V} {fz c:Nat} (hh:w1.heap=w.heap.push (.cells us t)) (hos:w1.os=w.os) (htape:w1.tape=w.tape) (hout:w1.output=w.output)
  (hpos:0 < P.cellsOf t) (hels:∀x∈els,x.cells.length=P.cellsOf t) (hfz:fz<=els.length) (hlc:els.length<=c) (hc:c<=maxLen) (hus:us.size=c * P.cellsOf t)
  (hcl:∀(k:Nat) (x:V) (i:Nat) (y:V),els[k]? = some x->x.cells[i]? = some y->y.one=true/\∃u,us[k * P.cellsOf t+i]? = some u/\VR Z w j0 y u) :
  cC P Z w j mem (newRow mem t els fz).1 (newRow mem t els fz).2 (.slice (some ⟨w.heap.size,0,none⟩) els.length c) w1 :=
 (MD s hh hos htape hout hpos hels hfz hlc hc hus hcl).own (fun a ha=>by grind)
theorem My (s:SR P Z w j mem) {w1:World} {t:TypeId} {us:Array Value} {els:List V} {c:Nat} (hh:w1.heap=w.heap.push (.cells us t)) (hos:w1.os=w.os) (htape:w1.tape=w.tape) (hout:w1.output=w.output)
  (hpos:0 < P.cellsOf t) (hels:∀x∈els,x.cells.length=P.cellsOf t) (hlc:els.length<=c)
  (hcl:∀(k:Nat) (x:V) (i:Nat) (y:V),els[k]? = some x->x.cells[i]? = some y->y.one=true/\∃u,us[k * P.cellsOf t+i]? = some u/\VR Z w j0 y u) :
  cC P Z w j mem (.sl els) mem (.slice (some ⟨w.heap.size,0,none⟩) els.length c) w1/\(c=els.length->cC P Z w j mem (.lit t els) mem (.slice (some ⟨w.heap.size,0,none⟩) els.length c) w1):=by
 have hz:=be.heap (Z:=Z) hh s.zin (els.length * P.cellsOf t)
 have iff:∀g,g < w.heap.size->∀o,fS Z w.heap.size (els.length * P.cellsOf t) g o↔Z g o:=fun g hg o=>⟨fun h=>h.resolve_right fun h=>by omega,.inl⟩
 have hsz:w1.heap.size=w.heap.size+1:=by grind
 have hg:w1.heap[w.heap.size]? = some (.cells us t (0,0)):=by grind
 have hv:VR (fS Z w.heap.size (els.length * P.cellsOf t)) w1 j (.sl els) (.slice (some ⟨w.heap.size,0,none⟩) els.length c):=by
  refine VR.slMk (b:=0) hlc hpos fun k x hk=>?_
  have hx:=hels x (cG hk)
  have hkl:k < els.length:=(bj.1 hk).1
  refine ⟨hx,fun i hi=>.inr ⟨rfl,?_⟩,fun i y hy=>?_⟩
  ·have:(k+1) * P.cellsOf t<=els.length * P.cellsOf t:=cO _ hkl
   grind
  ·obtain ⟨h1,u,hu,hv⟩:=hcl k x i y hk hy
   refine ⟨h1,u,?_,hv.mono hz (aQ.refl _)⟩
   rw [eG hg,<-hu]
   simp
 have s1:SR P (fS Z w.heap.size (els.length * P.cellsOf t)) w1 j mem:=s.world hz (fun g hg=>⟨kp hh (bd.lt s hg),iff g (bd.lt s hg)⟩) (fun g o h=>by
  rcases h with h | ⟨h,_⟩
  ·have:=s.zin g o h;omega
  grind)
 have st:aI Z w j mem (fS Z w.heap.size (els.length * P.cellsOf t)) w1 j mem:=⟨hos,htape,hout,by omega,fun g hg _=>⟨kp hh hg,iff g hg⟩,fun _ _ ho=>ho,hz,fun _ h=>⟨h,rfl⟩⟩
 refine ⟨⟨_,j,hv,s1,st,aQ.refl _⟩,fun hc=>⟨_,j,by subst hc;exact .lit (n:=us.size) hv (fun _=>by simp only [gy,hg]) (fun h0=>.inr ⟨rfl,Nat.mul_pos h0 hpos⟩),s1,st,aQ.refl _⟩⟩
theorem XZ (s:SR P Z w j mem) {w1:World} {t:TypeId} {us:Array Value} {fr:Nat × Nat} {els:List V} {c:Nat} (hsz:w1.heap.size=w.heap.size+1) (hold:∀g,g < w.heap.size->w1.heap[g]? = w.heap[g]?) (hg:w1.heap[w.heap.size]? = some (.cells us t fr))
  (hos:w1.os=w.os) (htape:w1.tape=w.tape) (hout:w1.output=w.output) {sz:Nat} (hpos:0 < sz) (hels:∀x∈els,x.cells.length=sz) (hlc:els.length<=c)
  (hcl:∀(k:Nat) (x:V) (i:Nat) (y:V),els[k]? = some x->x.cells[i]? = some y->y.one=true/\∃u,us[k * sz+i]? = some u/\VR Z w j0 y u) :
  cC P Z w j mem (.sl els) mem (.slice (some ⟨w.heap.size,0,none⟩) els.length c) w1:=by
 have hz:be Z w (fS Z w.heap.size (els.length * sz)) w1:=.of fun g o h=>⟨.inl h,gC (hold g (s.zin g o h)) o⟩
 have iff:∀g,g < w.heap.size->∀o,fS Z w.heap.size (els.length * sz) g o↔Z g o:=fun g hg o=>⟨fun h=>h.resolve_right fun h=>by omega,.inl⟩
 have hv:VR (fS Z w.heap.size (els.length * sz)) w1 j (.sl els) (.slice (some ⟨w.heap.size,0,none⟩) els.length c):=by
  refine VR.slMk (b:=0) hlc hpos fun k x hk=>?_
  have hx:=hels x (cG hk)
  have hkl:k < els.length:=(bj.1 hk).1
  refine ⟨hx,fun i hi=>.inr ⟨rfl,?_⟩,fun i y hy=>?_⟩
  ·have:(k+1) * sz<=els.length * sz:=cO _ hkl
   grind
  ·obtain ⟨h1,u,hu,hv⟩:=hcl k x i y hk hy
   refine ⟨h1,u,?_,hv.mono hz (aQ.refl _)⟩
   rw [eG hg,<-hu]
   simp
 have s1:SR P (fS Z w.heap.size (els.length * sz)) w1 j mem:=s.world hz (fun g hg=>⟨hold g (bd.lt s hg),iff g (bd.lt s hg)⟩) (fun g o h=>by
  rcases h with h | ⟨h,_⟩
  ·have:=s.zin g o h;omega
  grind)
 exact ⟨_,j,hv,s1,⟨hos,htape,hout,by omega,fun g hg _=>⟨hold g hg,iff g hg⟩,fun _ _ ho=>ho,hz,fun _ h=>⟨h,rfl⟩⟩,aQ.refl _⟩
theorem SU {x:V} {xs:List V} (h:cy [] x=some xs):cy mem x=some xs:=by
 cases x<;>simp [cy] at h |-<;>exact h
theorem y6 {s:List UInt8} {k:Nat} {x:V} (h:(dC s)[k]? = some x):∃b,s[k]? = some b/\x = .int .u8 (b.toNat:Int):=by
 unfold dC at h
 grind
theorem Qo (s:SR P Z w j mem) {m:List O} (hm:m=mem∨m=[]) {st d:TypeId} {x v:V} {u:Value} (h:mT P m st d x=some v) (hx:VR Z w j x u):∃r w1,(convert st d u).run P w = .ok r w1/\cC P Z w j mem v mem r w1:=by
 unfold mT at h
 split at h
 ·cases h;cases hx
  exact ⟨_,w,by simp [convert,run_underlying, *,Conv.intToInt],dF s .int⟩
 ·cases h;cases hx
  rename_i ss h1 h2 s'
  refine ⟨_,w,?_,dF s .str⟩
  simp [convert,run_underlying h1,run_underlying h2]
 ·rename_i h1 h2 _
  simp only [obi] at h
  obtain ⟨xs,h3,h4⟩:=h
  have h3:=(hm.elim (fun e=>by rw [<-e];exact h3) (fun e=>by rw [e] at h3;exact SU h3):cy mem _=some xs)
  obtain ⟨A,c,rfl,hel⟩:=rO s h3 hx
  obtain ⟨r,q1,q2⟩:=N6 (j:=j) (c:=c) h1 h2 h4 hel
  exact ⟨r,w,q1,dF s q2⟩
 ·rename_i e bs h1 h2
  split at h
  ·rename_i he
   cases h
   cases hx
   rename_i b
   refine ⟨_,_,Lib.run_convert_string_bytes w st d e b h1 h2 he,?_⟩
   have hl:(dC b.data.toList).length=b.size:=by simp [dC]
   have:=XZ (els:=dC b.data.toList) (c:=grownCap w b.size 0 e) (sz:=1) s (Lib.bytesWorld_size w e b) (Lib.bytesWorld_at_old w e b) (Lib.bytesWorld_at_new w e b) rfl rfl rfl Nat.one_pos (fun x hx=>by
     obtain ⟨k,hk,rfl⟩:=jR hx
     obtain ⟨c,_,e⟩:=y6 (bC hk)
     rw [e];rfl) (by rw [hl];have:=grownCap_ge w b.size 0 e;omega) (fun k x i y hk hy=>by
     obtain ⟨c,hc,rfl⟩:=y6 hk
     cases i with
     | succ i=>simp [V.cells] at hy
     | zero =>
      simp [V.cells] at hy
      subst hy
      refine ⟨rfl,_,?_,.int⟩
      have aC:k < b.data.size:=by grind
      rw [jW,dK]
      unfold Lib.bytesCells
      grind)
   grind
  grind
 grind
theorem XY (s:SR P Z w j mem) {t:TypeId} (hpos:0 < P.cellsOf t):cC P Z w j mem (newRow mem t [] 0).1 (newRow mem t [] 0).2 (.slice none 0 0) w:=by
 obtain ⟨s1,st,je⟩:=s.pushV (h:=⟨.slice none 0 0,P.cellsOf t⟩) rfl (o:=.row t [] 0) ⟨_,eU _ _ _,rfl,hpos,bG _,by simp,.inl ⟨rfl,rfl⟩⟩
 exact ⟨_,_,.own (eU _ _ _) (fun a ha=>by grind),s1,st,je⟩
theorem jZ.stp {id:Nat} {u:Value} {w1:World} {mem1 mem2:List O} (h:jZ P Z w j mem1 id mem2 u w1) (hs:aI Z w j mem Z w j mem1):jZ P Z w j mem id mem2 u w1:=by
 obtain ⟨Z',j',sz,h1,h2,h3,h4⟩:=h
 exact ⟨Z',j',sz,h1,h2,hs.trans h3,h4⟩
theorem cC.stp {v:V} {u:Value} {w1:World} {mem1 mem2:List O} (h:cC P Z w j mem1 v mem2 u w1) (hs:aI Z w j mem Z w j mem1):cC P Z w j mem v mem2 u w1:=by
 obtain ⟨Z',j',a,b,c,d⟩:=h
 exact ⟨Z',j',a,b,hs.trans c,d⟩
theorem aI.kill {id:Nat} {o:O} (hm:mem[id]? = some o) (har:o.ar=none:=by rfl):aI Z w j mem Z w j (mem.set id .dead) :=
 ⟨rfl,rfl,rfl,bG _,fun _ _ _=>⟨rfl,fun _=>Iff.rfl⟩,fun _ _ ho=>ho.set hm (by intro h;cases h) har,be.refl _ _,fun _ h=>⟨h.set hm (fun n e=>by cases e),rfl⟩⟩
theorem JY {els:List V} {sz:Nat} (h:∀x∈els,x.cells.length=sz):∀(k:Nat) (x:V) (i:Nat),els[k]? = some x->i < sz->(els.flatMap V.cells)[k * sz+i]? = x.cells[i]?:=by
 induction els with
 | nil=>grind
 | cons e els ih =>
  intro k x i hk hi
  have he:=h e (by simp)
  simp only [iD]
  cases k with
  | zero =>
   grind
  | succ k =>
   rw [cY (by grind)]
   rw [show (k+1) * sz+i - e.cells.length=k * sz+i by grind]
   grind
theorem Dv {els:List V} {sz:Nat} (h:∀x∈els,x.cells.length=sz):(els.flatMap V.cells).length=els.length * sz:=by
 induction els with
 | nil=>simp
 | cons e els ih =>
  grind
theorem uJ {els:List V} {sz g b:Nat} (hsz:0 < sz) (h:∀x∈els,x.cells.length=sz) (hc:∀(k:Nat) (x:V),els[k]? = some x->dY Z w j0 g (b+k * sz) x.cells) :
  ∃us:List Value,us.length=els.length * sz/\(∀(i:Nat) (u:Value),us[i]? = some u->w.cell? ((⟨g,b,none⟩:Addr).add i)=some u/\u.oneCell'=true) /\
   (∀(k:Nat) (x:V) (i:Nat) (y:V),els[k]? = some x->x.cells[i]? = some y->y.one=true/\∃u,us[k * sz+i]? = some u/\VR Z w j0 y u):=by
 have hcell:dY Z w j0 g b (els.flatMap V.cells):=by
  intro i y hy
  have aC:i < els.length * sz:=by rw [<-Dv h];grind
  have hk:i / sz < els.length:=Nat.div_lt_of_lt_mul (by grind)
  have e1:els[i / sz]? = some (els[i / sz]):=bC hk
  have e2:=JY h (i / sz) _ (i % sz) e1 (Nat.mod_lt _ hsz)
  have e3:i / sz * sz+i % sz=i:=by rw [yx];exact Nat.div_add_mod i sz
  rw [e3,hy] at e2
  obtain ⟨a,u,hu,hv⟩:=hc _ _ e1 _ _ e2.symm
  grind
 obtain ⟨us,h1,_,h3,h4⟩:=MM (P:=default) hcell
 rw [Dv h] at h1
 refine ⟨us,h1,fun i u hu=>?_,fun k x i y hk hy=>?_⟩
 ·rw [pI];grind
 ·have hx:=h x (cG hk)
  have hi:i < sz:=by grind
  have e:=JY h k x i hk hi
  rw [hy] at e
  have aC:k * sz+i < us.length:=by
   rw [h1,<-Dv h];grind
  refine ⟨(hcell _ _ e).1,us[k * sz+i],bC aC,h3 _ _ _ e (bC aC)⟩
theorem jk {t:TypeId} {n:Nat} (h:dG P t n=true):n<=16777216/\P.bytesOf t<=4096/\0 < P.cellsOf t /\
  ∃i z,P.info? t=some i/\i.size=P.cellsOf t/\i.bytes=P.bytesOf t/\i.zero=some z/\z.cells.size=P.cellsOf t:=by
 simp only [dG,nK,bv,decide_eq_true_eq] at h
 obtain ⟨h1,⟨h2,h3⟩,h4⟩:=h
 refine ⟨h1,h2,h3,?_⟩
 cases hi:P.info? t with
 | none=>grind
 | some i =>
  simp only [hi,aJ] at h4
  cases hz:i.zero with
  | none=>grind
  | some z =>
   simp only [hz,beq_iff_eq] at h4
   exact ⟨i,z,rfl,by simp [Program.cellsOf,hi],by simp [Program.bytesOf,hi],hz,h4⟩
theorem sj {t:TypeId} (h:0 < P.cellsOf t):∃i,P.info? t=some i/\i.size=P.cellsOf t/\i.bytes=P.bytesOf t:=by
 cases hi:P.info? t with
 | none=>simp [Program.cellsOf,hi] at h
 | some i=>exact ⟨i,rfl,by simp [Program.cellsOf,hi],by simp [Program.bytesOf,hi]⟩
structure gS (P:Program) (w:World) (tx:TypeId) (ux:Value) (sz m:Nat) (news:List Value):Prop where
 ty:P.underlying tx=some .string∨∃e,P.underlying tx=some (.slice e)
 len:∀w2:World,(Builtin.lenOf ux).run P w2 = .ok m w2
 size:news.length=m * sz
 cells:∀(n:Nat) (w2:World),n<=m->w2.heap=w.heap->(Builtin.firstCells sz n ux).run P w2 = .ok (news.take (n * sz)).toArray w2
 one:∀u∈news,u.oneCell'=true
theorem gS.all {tx:TypeId} {ux:Value} {sz m:Nat} {news:List Value} (h:gS P w tx ux sz m news) (w2:World) (hw:w2.heap=w.heap):(Builtin.firstCells sz m ux).run P w2 = .ok news.toArray w2:=by
 rw [h.cells m w2 (bG _) hw,<-h.size,lC]
theorem MJ (w:World) {t tx ty e:TypeId} {i:TypeInfo} (ht:P.underlying t=some (.slice e)) (hi:P.info? e=some i) {m:Nat} {ux:Value} {news:List Value} (ha:gS P w tx ux i.size m news) {B:Option Addr} {sLen sCap:Nat} (hroom:sLen+m<=sCap) :
  (Builtin.append_ #[t,tx] ty #[.slice B sLen sCap,ux]).run P w=(match B with | some a=>(storeCells (a.add (sLen * i.size)) news).run P w | none=>.ok () w).andThen fun _ w1=>.ok (.slice B (sLen+m) sCap) w1:=by
 have h1:=ha.len w
 have h2:=ha.all w rfl
 rcases ha.ty with hd | ⟨e',hd⟩<;>cases B<;>simp [Builtin.append_,run_underlying ht,run_underlying hd,sizeOf,typeInfo,hi,h1,hroom,h2]
theorem Fx (w:World) {t tx ty e:TypeId} {i:TypeInfo} {z:Value} (ht:P.underlying t=some (.slice e)) (hi:P.info? e=some i) (hz:i.zero=some z) {m:Nat} {ux:Value} {news:List Value} (ha:gS P w tx ux i.size m news) {B:Option Addr} {sLen sCap:Nat} {olds:List Value}
  (hfo:(Builtin.firstCells i.size sLen (.slice B sLen sCap)).run P w.drew = .ok olds.toArray w.drew) (hg:sCap < sLen+m) (h63:((sLen+m:Nat):Int)<=9223372036854775807) (hfit:Builtin.nextslicecap (sLen+m) sCap * i.bytes<=281474976710656) :
  (Builtin.append_ #[t,tx] ty #[.slice B sLen sCap,ux]).run P w = .ok (.slice (some ⟨w.heap.size,0,none⟩) (sLen+m) (grownCap w (sLen+m) sCap e))
    (w.drew.alloc (.cells (olds.toArray++news.toArray++Builtin.zeroCells z.cells (grownCap w (sLen+m) sCap e - (sLen+m))) e)):=by
 have h1:=ha.len w
 have h2:=ha.all w.drew rfl
 have hn:¬(sLen+m<=sCap):=by omega
 have h63':¬(9223372036854775807 < ((sLen:Int)+(m:Int))):=by omega
 have h48':¬(281474976710656 < Builtin.nextslicecap (sLen+m) sCap * i.bytes):=by omega
 rcases ha.ty with hd | ⟨e',hd⟩ <;>
  (simp [Builtin.append_,run_underlying ht,run_underlying hd,sizeOf,typeInfo,zeroValue,hi,hz,h1,hn,h63',h48',Question.forced,h2,hfo,Go.newRow,grownCap];grind)
theorem vr {t tx ty e:TypeId} (ht:P.underlying t=some (.slice e)) (hp:0 < P.cellsOf e) {B:Option Addr} {n cap:Nat} {ux:Value} (ha:gS P w tx ux (P.cellsOf e) 0 []) (hn:n<=cap) :
  (Builtin.append_ #[t,tx] ty #[.slice B n cap,ux]).run P w = .ok (.slice B n cap) w:=by
 obtain ⟨i,hi,his,_⟩:=sj hp
 rw [<-his] at ha
 rw [MJ w ht hi ha (by omega)]
 cases B<;>simp [storeCells]
theorem Mz {mem1:List O} {t:TypeId} {u:Value} {els:List V} {fz:Nat} (s1:SR P Z w j mem1) (st1:aI Z w j mem Z w j mem1) (hr:jt P Z w ⟨u,P.cellsOf t⟩ t els fz)
  (hblk:∀g,bz.blk ⟨u,P.cellsOf t⟩=some g->¬bd Z j mem1 g/\bd Z j mem g):jZ P Z w j mem mem1.length (newRow mem1 t els fz).2 u w:=by
 have s2:=s1.add (h:=⟨u,P.cellsOf t⟩) (o:=.row t els fz) (fun g hg=>(hblk g hg).1) ⟨_,eU _ _ _,hr⟩
 refine ⟨Z,_,_,eU _ _ _,s2,⟨rfl,rfl,rfl,bG _,fun _ _ _=>⟨rfl,fun _=>Iff.rfl⟩,fun g hg ho=>?_,be.refl _ _,fun _ h=>⟨(st1.ar _ h).1.add rfl,rfl⟩⟩,s1.ext _⟩
 ·rcases bd.add ho with ho | ho
  ·exact st1.owned g hg ho
  grind
theorem X7 (w:World) {t tx ty e:TypeId} {i:TypeInfo} (ht:P.underlying t=some (.slice e)) (hi:P.info? e=some i)
  (g b sLen sCap:Nat) (cur:Array Value) (hg:w.heap[g]? = some (.cells cur e (0,0)))
  {ux:Value} {m:Nat} {news:List Value} (ha:gS P w tx ux i.size m news)
  (hroom:sLen+m<=sCap) (hfit:b+sLen * i.size+news.length<=cur.size) :
  (Builtin.append_ #[t,tx] ty #[.slice (some ⟨g,b,none⟩) sLen sCap,ux]).run P w =
   .ok (.slice (some ⟨g,b,none⟩) (sLen+m) sCap) (w.setRow g (cur.toList.take (b+sLen * i.size)++news++cur.toList.drop (b+sLen * i.size+news.length)).toArray):=by
 have hst:=run_storeCells_at P g (b+sLen * i.size) e news 0 cur w hg (by grind) ha.one
 simp only [dK] at hst
 rw [MJ w ht hi ha hroom]
 simp [Addr.add_lit,hst]
theorem gS.of {tx e:TypeId} {A:Option Addr} {xs:List V} {c:Nat} (ht:P.underlying tx=some (.slice e)) (hpos:0 < P.cellsOf e) (hxs:∀y∈xs,y.cells.length=P.cellsOf e)
  (hel:xs=[]∨∃g b sz,A=some ⟨g,b,none⟩/\0 < sz/\∀(k:Nat) (y:V),xs[k]? = some y->y.cells.length=sz/\dY Z w j0 g (b+k * sz) y.cells) :
  ∃news,gS P w tx (.slice A xs.length c) (P.cellsOf e) xs.length news/\∀(k:Nat) (x:V) (i:Nat) (y:V),xs[k]? = some x->x.cells[i]? = some y->y.one=true/\∃u,news[k * P.cellsOf e+i]? = some u/\VR Z w j0 y u:=by
 by_cases hx0:xs=[]
 ·subst hx0
  refine ⟨[],⟨.inr ⟨_,ht⟩,fun w2=>by simp [Builtin.lenOf],by simp,fun n w2 hn _=>?_,by simp⟩,fun k x i y hk=>by grind⟩
  have:n=0:=by grind
  subst this
  cases A<;>simp [Builtin.firstCells,loadCells,loadCellsFrom]
 ·obtain ⟨ga,ba,sz,hA,hsz,hcl⟩:=hel.resolve_left hx0
  have hxl:0 < xs.length:=js.2 hx0
  have hsz':sz=P.cellsOf e:=by
   have e0:xs[0]? = some xs[0]:=bC hxl
   grind
  subst hsz'
  subst hA
  obtain ⟨news,hnl,hnc',hnr⟩:=uJ hpos hxs (fun k x hk=>(hcl k x hk).2)
  refine ⟨news,⟨.inr ⟨_,ht⟩,fun w2=>by simp [Builtin.lenOf],hnl,fun n w2 hn hw=>?_,fun u hu=>?_⟩,hnr⟩
  ·refine run_firstCells_some (P:=P) w2 _ n _ _ c _ (by simp_all) (fun k u hk=>?_)
   have hk':news[k]? = some u:=by
    grind
   have:=(hnc' k u hk').1
   simpa [World.cell?,hw] using this
  ·obtain ⟨k,hk,rfl⟩:=jR hu
   exact (hnc' k _ (bC hk)).2
theorem X9 {t ty e:TypeId} (ht:P.underlying t=some (.slice e)) (hp:0 < P.cellsOf e) {B A:Option Addr} {n cap c:Nat} (hn:n<=cap) :
  (Builtin.append_ #[t,t] ty #[.slice B n cap,.slice A 0 c]).run P w = .ok (.slice B n cap) w:=by
 obtain ⟨news,ha,_⟩:=gS.of (Z:=⟨fun _ _=>False,fun _ _=>none,fun _=>none⟩) (w:=w) (xs:=[]) (A:=A) (c:=c) ht hp (by simp) (.inl rfl)
 have:news=[]:=by have:=ha.size;simp_all
 subst this
 exact vr ht hp ha hn
theorem gS.str {tx:TypeId} {bs:ByteArray} (ht:P.underlying tx=some .string) :
  ∃news,gS P w tx (.string bs) 1 (dC bs.data.toList).length news/\∀(k:Nat) (x:V) (i:Nat) (y:V),(dC bs.data.toList)[k]? = some x->x.cells[i]? = some y->y.one=true/\∃u,news[k * 1+i]? = some u/\VR Z w j0 y u:=by
 have hl:(dC bs.data.toList).length=bs.size:=by simp [dC]
 refine ⟨bs.data.toList.map fun b=>Value.int .u8 b.toNat,⟨.inl ht,fun w2=>by simp [Builtin.lenOf,hl],by simp_all,fun n w2 hn _=>?_,fun u hu=>?_⟩,fun k x i y hk hy=>?_⟩
 ·simp only [Builtin.firstCells,Sem.run_pure,jW]
  congr 1
  apply nR
  simp
 ·obtain ⟨x,_,rfl⟩:=dP.1 hu
  rfl
 ·obtain ⟨b,hb,rfl⟩:=y6 hk
  cases i with
  | succ i=>simp [V.cells] at hy
  | zero =>
   simp [V.cells] at hy
   subst hy
   refine ⟨rfl,_,?_,.int⟩
   grind
theorem yS {t tx ty e:TypeId} {u ux:Value} {els xs:List V} {news:List Value} {fz:Nat} {mem1:List O} {B:Option Addr} {n cap:Nat} (ht:P.underlying t=some (.slice e)) (s1:SR P Z w j mem1) (st1:aI Z w j mem Z w j mem1)
  (hu:u = .slice B n cap) (hr:jt P Z w ⟨u,P.cellsOf e⟩ e els fz) (hroom:dG P e (els.length+xs.length)=true) (hxs:∀y∈xs,y.cells.length=P.cellsOf e)
  (ha:gS P w tx ux (P.cellsOf e) xs.length news) (hnr:∀(k:Nat) (x:V) (i:Nat) (y:V),xs[k]? = some x->x.cells[i]? = some y->y.one=true/\∃u,news[k * P.cellsOf e+i]? = some u/\VR Z w j0 y u)
  (hblk:∀g,bz.blk ⟨u,P.cellsOf e⟩=some g->¬bd Z j mem1 g/\bd Z j mem g) :
  ∃A' n' c' w1,(Builtin.append_ #[t,tx] ty #[u,ux]).run P w = .ok (.slice A' n' c') w1/\jZ P Z w j mem mem1.length (newRow mem1 e (els++xs) fz).2 (.slice A' n' c') w1/\((∀a,B=some a->a.off=0)->∀a,A'=some a->a.off=0):=by
 obtain ⟨hn,hby,hpos,i,z,hi,his,hib,hz,hzs⟩:=jk hroom
 obtain ⟨h1,h2,h3,h4,h5⟩:=hr
 simp only at h2 h4 h5
 have hnc:n=els.length/\n<=cap:=by
  grind
 have hnl:=ha.size
 have ha':=ha
 rw [<-his] at ha'
 by_cases hx0:xs=[]
 ·subst hx0
  have:news=[]:=by simp_all
  subst this
  refine ⟨B,n,cap,w,?_,?_,fun h=>h⟩
  ·rw [hu];exact vr ht hpos ha hnc.2
  ·rw [dA,<-hu]
   exact Mz s1 st1 ⟨rfl,h2,h3,h4,h5⟩ hblk
 ·have hxl:0 < xs.length:=js.2 hx0
  have hbytes:(els.length+xs.length) * i.bytes<=140737488355328:=by
   rw [hib]
   exact lD (yy hn hby) (by decide)
  have fresh:∀(cells:Array Value) (cp:Nat) (olds:List Value),cells=(olds.toArray++news.toArray++Builtin.zeroCells z.cells (cp - (els.length+xs.length)))->olds.length=els.length * P.cellsOf e->els.length+xs.length<=cp->cp<=maxLen ->
    (∀(k:Nat) (x:V) (i:Nat) (y:V),els[k]? = some x->x.cells[i]? = some y->y.one=true/\∃u,olds[k * P.cellsOf e+i]? = some u/\VR Z w j0 y u) ->
    jZ P Z w j mem mem1.length (newRow mem1 e (els++xs) fz).2 (.slice (some ⟨w.heap.size,0,none⟩) (els.length+xs.length) cp) (w.drew.alloc (.cells cells e)):=by
   intro cells cp olds hcells hol hcp hcm hold
   have hall:∀x∈els++xs,x.cells.length=P.cellsOf e:=fun x hx=>(bp.1 hx).elim (h4 x) (hxs x)
   have hp:=MD (fz:=fz) (els:=els++xs) (us:=cells) (c:=cp) (w1:=w.drew.alloc (.cells cells e)) s1 rfl rfl rfl rfl hpos hall (by grind) (by grind) hcm
    (by rw [hcells];simp only [yf,tO,size_zeroCells,hol,hnl,hzs,<-ij];grind)
    (fun k x i y hk hy=>by
     have hi:i < P.cellsOf e:=by grind
     by_cases hk':k < els.length
     ·grind
     ·rw [cY (by omega)] at hk
      obtain ⟨a,u',hu',hv⟩:=hnr _ x i y hk hy
      refine ⟨a,u',?_,hv⟩
      have aC:=(bj.1 hu').1
      have e1:k * P.cellsOf e+i - olds.length=(k - els.length) * P.cellsOf e+i:=by
       rw [hol,n7]
       have:els.length * P.cellsOf e<=k * P.cellsOf e:=cO _ (by omega)
       omega
      have hle:olds.length<=k * P.cellsOf e+i:=by
       rw [hol]
       have:els.length * P.cellsOf e<=k * P.cellsOf e:=cO _ (by omega)
       omega
      grind)
   rw [c8] at hp
   exact hp.stp st1
  rcases h5 with ⟨hv,he⟩ | ⟨g,b,c',us,hv,hlc,hcm,hg,hus,hcells,hz1,hz2⟩
  ·subst he
   rw [hu] at hv;cases hv
   have hn':xs.length<=16777216:=by grind
   have hrun:=Fx (ty:=ty) w ht hi hz ha' (B:=none) (sLen:=0) (sCap:=0) (olds:=[]) (run_firstCells_none w.drew i.size 0 0 0) (by omega) (by omega) (growslice_fits (by omega) (by grind))
   refine ⟨_,_,_,_,by rw [hu];exact hrun,?_,fun _ a ha=>by grind⟩
   exact fresh _ (grownCap w (0+xs.length) 0 e) [] (by simp) (by simp) (by simpa using grownCap_ge w (0+xs.length) 0 e) (grownCap_le_maxLen w _ 0 e (by simp only [maxLen];omega)) (fun k x i y hk=>by grind)
  ·rw [hu] at hv;cases hv
   have hcut:∀k x,els[k]? = some x->dY Z w j0 g (b+k * P.cellsOf e) x.cells:=hcells
   by_cases hfit:els.length+xs.length<=cap
   ·have hul:b+els.length * P.cellsOf e+news.length<=us.size:=by
     have:(els.length+xs.length) * P.cellsOf e<=cap * P.cellsOf e:=cO _ hfit
     grind
    have hrun:=X7 (ty:=ty) w ht hi g b els.length cap us hg ha' hfit (by grind)
    rw [his] at hrun
    refine ⟨_,_,_,_,by rw [hu];exact hrun,?_,fun h a ha=>h a ha⟩
    have hblk':=hblk g (by simp [bz.blk,hu])
    have aC:g < w.heap.size:=(eX.1 hg).1
    obtain ⟨cells,hcdef⟩:∃cells:Array Value,cells=(us.toList.take (b+els.length * P.cellsOf e)++news++us.toList.drop (b+els.length * P.cellsOf e+news.length)).toArray:=⟨_,rfl⟩
    rw [<-hcdef]
    have hg':=setRow_heap w g us cells e (0,0) hg
    have hot:∀k,k≠g->(w.setRow g cells).heap[k]? = w.heap[k]?:=fun k hk=>setRow_other w g k cells hk
    have hfrom:∀o,o < b+els.length * P.cellsOf e->cells[o]? = us[o]?:=by
     intro o ho
     rw [hcdef]
     simp only [ym,bu]
     rw [db (by simp;omega),gI,if_pos ho]
     simp
    have hz':be Z w Z (w.setRow g cells):=by
     refine .of fun g' o ho=>?_
     refine ⟨ho,?_⟩
     by_cases hgg:g'=g
     ·subst hgg
      have h7:=(hz1 o ho).2
      have h8:fz * P.cellsOf e<=els.length * P.cellsOf e:=cO _ h3
      refine ⟨by rw [eG hg',eG hg,hfrom o (by omega)],?_⟩
      simp only [gy,hg',hg]
      rw [show cells.size=us.size by rw [hcdef];simp;omega]
     ·exact gC (hot g' hgg) o
    have s2:SR P Z (w.setRow g cells) j mem1:=s1.world hz' (fun g' hg'=>⟨hot g' (fun e=>hblk'.1 (e ▸ hg')),fun _=>Iff.rfl⟩) (fun g' o ho=>by simpa using s1.zin g' o ho)
    have hall:∀x∈els++xs,x.cells.length=P.cellsOf e:=fun x hx=>(bp.1 hx).elim (h4 x) (hxs x)
    have s3:=s2.add (h:=⟨.slice (some ⟨g,b,none⟩) (els.length+xs.length) cap,P.cellsOf e⟩) (o:=.row e (els++xs) fz) (fun g' hg'=>by
      simp [bz.blk] at hg';grind)
     ⟨_,eU _ _ _,rfl,hpos,by grind,hall,.inr ⟨g,b,cap,cells,by simp,by grind,hcm,hg',by
       rw [hcdef]
       simp only [tO,c8,gq,gg,BC]
       omega,fun k x hk i y hy=>by
       have hi:i < P.cellsOf e:=by grind
       by_cases hk':k < els.length
       ·rw [db hk'] at hk
        obtain ⟨a,u',hu',hv⟩:=hcut k x hk i y hy
        refine ⟨a,u',?_,hv.mono hz' (aQ.refl _)⟩
        rw [eG hg] at hu'
        rw [eG hg',hfrom _ ?_]
        ·grind
        ·have h9:(k+1) * P.cellsOf e<=els.length * P.cellsOf e:=cO _ hk'
         grind
       ·rw [cY (by omega)] at hk
        obtain ⟨a,u',hu',hv⟩:=hnr _ x i y hk hy
        refine ⟨a,u',?_,hv.mono hz' (aQ.refl _)⟩
        rw [eG hg',hcdef]
        have hle2:els.length * P.cellsOf e<=k * P.cellsOf e:=cO _ (by omega)
        have hsub:(k - els.length) * P.cellsOf e=k * P.cellsOf e - els.length * P.cellsOf e:=n7 _ _ _
        have hlt':=(bj.1 hu').1
        have hto:(us.toList.take (b+els.length * P.cellsOf e)).length=b+els.length * P.cellsOf e:=by simp;omega
        simp only [ym,bu]
        rw [cY (by omega),hto,db (by omega)]
        rw [<-hu']
        congr 1
        omega,fun o ho=>by grind,fun o ho=>by grind⟩⟩
    refine ⟨Z,_,_,eU _ _ _,s3,⟨rfl,rfl,rfl,by simp,fun g' hg' hno=>⟨hot g' (fun e=>hno (e ▸ hblk'.2)),fun _=>Iff.rfl⟩,fun g' hg' ho=>?_,hz',fun _ h=>⟨(st1.ar _ h).1.add rfl,rfl⟩⟩,s1.ext _⟩
    rcases bd.add ho with ho | ho
    ·exact st1.owned g' hg' ho
    ·simp [bz.blk] at ho;grind
   ·obtain ⟨olds,hol,hoc,hor⟩:=uJ hpos h4 hcut
    have hrun:=Fx (ty:=ty) w ht hi hz ha' (run_firstCells_some (P:=P) w.drew i.size els.length ⟨g,b,none⟩ els.length cap olds (by grind) (fun k u hk=>by simp_all)) (by omega) (by omega) (growslice_fits (by omega) hbytes)
    refine ⟨_,_,_,_,by rw [hu];exact hrun,?_,fun _ a ha=>by grind⟩
    exact fresh _ (grownCap w (els.length+xs.length) cap e) olds rfl hol (grownCap_ge w _ cap e) (grownCap_le_maxLen w _ cap e (by simp only [maxLen];omega)) hor
end
section
variable {P:Program} {Z Z':Zs} {w w':World} {j j':J} {mem mem':List O}
theorem VR.down {l:List V} {u:Value} (h:VR Z w j (.sl l) u) (j':J):VR Z w j' (.sl l) u:=by
 cases h with
 | sl0=>exact .sl0
 | sl f a b c d e=>exact .sl f a b c d e
theorem VR.litSl {t:TypeId} {l:List V} {u:Value} (h:VR Z w j (.lit t l) u):VR Z w j (.sl l) u:=by
 cases h with
 | lit h=>exact h
theorem Pf {t tx ty e t':TypeId} {l xs:List V} {u ux:Value} {news:List Value} (ht:P.underlying t=some (.slice e)) (s:SR P Z w j mem) (hv:VR Z w j (.lit t' l) u)
  (hroom:dG P e (l.length+xs.length)=true) (h4:∀y∈l,y.cells.length=P.cellsOf e) (hxs:∀y∈xs,y.cells.length=P.cellsOf e)
  (ha:gS P w tx ux (P.cellsOf e) xs.length news) (hnr:∀(k:Nat) (x:V) (i:Nat) (y:V),xs[k]? = some x->x.cells[i]? = some y->y.one=true/\∃u,news[k * P.cellsOf e+i]? = some u/\VR Z w j0 y u) :
  ∃r w1,(Builtin.append_ #[t,tx] ty #[u,ux]).run P w = .ok r w1/\cC P Z w j mem (.sl (l++xs)) mem r w1:=by
 obtain ⟨hn,hby,hpos,i,z,hi,his,hib,hz,hzs⟩:=jk hroom
 cases hv with
 | lit hv hk hzz =>
 rename_i g n
 have hnl:=ha.size
 have ha':=ha
 rw [<-his] at ha'
 by_cases hx0:xs=[]
 ·subst hx0
  have:news=[]:=by simp_all
  subst this
  refine ⟨_,w,vr ht hpos ha (bG _),?_⟩
  rw [dA]
  exact dF s hv
 ·have hxl:0 < xs.length:=js.2 hx0
  have hbytes:(l.length+xs.length) * i.bytes<=140737488355328:=by
   rw [hib]
   exact lD (yy hn hby) (by decide)
  have hcut:∀k x,l[k]? = some x->dY Z w j0 g (0+k * P.cellsOf e) x.cells:=by
   rcases hv.slInv with ⟨_,_,rfl,_⟩ | ⟨g',b',c',sz,he,_,hsz,hh⟩
   all_goals grind
  obtain ⟨olds,hol,hoc,hor⟩:=uJ hpos h4 hcut
  have hrun:=Fx (ty:=ty) w ht hi hz ha' (run_firstCells_some (P:=P) w.drew i.size l.length ⟨g,0,none⟩ l.length l.length olds (by grind) (fun k u hk=>by simp_all)) (by omega) (by omega) (growslice_fits (by omega) hbytes)
  refine ⟨_,_,hrun,?_⟩
  have hall:∀x∈l++xs,x.cells.length=P.cellsOf e:=fun x hx=>(bp.1 hx).elim (h4 x) (hxs x)
  have hcp:=grownCap_ge w (l.length+xs.length) l.length e
  have hp:=(My (els:=l++xs) (us:=olds.toArray++news.toArray++Builtin.zeroCells z.cells (grownCap w (l.length+xs.length) l.length e - (l.length+xs.length))) (c:=grownCap w (l.length+xs.length) l.length e) (t:=e)
    (w1:=w.drew.alloc (.cells (olds.toArray++news.toArray++Builtin.zeroCells z.cells (grownCap w (l.length+xs.length) l.length e - (l.length+xs.length))) e)) s rfl rfl rfl rfl hpos hall (by grind)
    (fun k x i y hk hy=>by
     have hi:i < P.cellsOf e:=by grind
     by_cases hk':k < l.length
     ·grind
     ·rw [cY (by omega)] at hk
      obtain ⟨a,u',hu',hv⟩:=hnr _ x i y hk hy
      refine ⟨a,u',?_,hv⟩
      have aC:=(bj.1 hu').1
      have e1:k * P.cellsOf e+i - olds.length=(k - l.length) * P.cellsOf e+i:=by
       rw [hol,n7]
       have:l.length * P.cellsOf e<=k * P.cellsOf e:=cO _ (by omega)
       omega
      have hle:olds.length<=k * P.cellsOf e+i:=by
       rw [hol]
       have:l.length * P.cellsOf e<=k * P.cellsOf e:=cO _ (by omega)
       omega
      grind)).1
  grind
theorem B3 (s:SR P Z w j mem) {t tx e:TypeId} {x:V} {xs:List V} {ux:Value} (hty:kK P t tx x=true) (ht:P.underlying t=some (.slice e)) (hpos:0 < P.cellsOf e) (hxs:lO mem x=some xs) (hall:∀y∈xs,y.cells.length=P.cellsOf e) (hx:VR Z w j x ux) :
  ∃news,gS P w tx ux (P.cellsOf e) xs.length news/\∀(k:Nat) (x:V) (i:Nat) (y:V),xs[k]? = some x->x.cells[i]? = some y->y.one=true/\∃u,news[k * P.cellsOf e+i]? = some u/\VR Z w j0 y u:=by
 have sl:(∀b,x≠.str b)->∃news,gS P w tx ux (P.cellsOf e) xs.length news/\∀(k:Nat) (x:V) (i:Nat) (y:V),xs[k]? = some x->x.cells[i]? = some y->y.one=true/\∃u,news[k * P.cellsOf e+i]? = some u/\VR Z w j0 y u:=by
  intro hns
  have h1:cy mem x=some xs:=by cases x<;>first | exact hxs | grind
  have h2:t=tx:=by cases x<;>first | simpa [kK] using hty | grind
  subst h2
  obtain ⟨A,c,rfl,hel⟩:=rO s h1 hx
  exact gS.of ht hpos hall hel
 by_cases hs:∃b,x = .str b
 rotate_left
 ·grind
 obtain ⟨bs,rfl⟩:=hs
 cases hx
 rename_i b
 simp only [lO,Option.some.injEq] at hxs
 subst hxs
 have ht2:P.underlying tx=some .string:=by
  simp only [kK] at hty
  grind
 by_cases h0:b.data.toList=[]
 ·have hb0:b.size=0:=by
   have:b.data.toList.length=0:=by grind
   simpa using this
  have hbv:dC b.data.toList=[]:=by rw [h0];rfl
  rw [hbv]
  refine ⟨[],⟨.inl ht2,fun w2=>by simp [Builtin.lenOf,hb0],by simp,fun n w2 hn _=>?_,by simp⟩,fun k x i y hk=>by grind⟩
  have:n=0:=by grind
  subst this
  simp [Builtin.firstCells]
 ·have h1:P.cellsOf e=1:=by
   cases hd:b.data.toList with
   | nil=>grind
   | cons y l =>
    rw [hd] at hall
    have:=hall (.int .u8 (y.toNat:Int)) (by simp [dC])
    rw [<-this];rfl
  rw [h1]
  exact gS.str ht2
theorem BZ (s:SR P Z w j mem) {t tx ty:TypeId} {sv x v:V} {u ux:Value} (hty:kK P t tx x=true) (h:iH P mem t sv x=some (v,mem')) (hv:VR Z w j sv u) (hx:VR Z w j x ux) :
  ∃r w1,(Builtin.append_ #[t,tx] ty #[u,ux]).run P w = .ok r w1/\cC P Z w j mem v mem' r w1:=by
 unfold iH at h
 cases he:ef P t with
 | none=>grind
 | some e =>
  have ht:P.underlying t=some (.slice e):=by
   unfold ef at he
   grind
  cases hxs:lO mem x with
  | none=>grind
  | some xs =>
   simp only [he,hxs,aJ] at h
   split at h
   ·rename_i hall
    have hall':∀y∈xs,y.cells.length=P.cellsOf e:=fun y hy=>by grind
    have arg:=fun hpos=>B3 s hty ht hpos hxs hall' hx
    cases sv<;>simp only at h<;>first | (cases h;done) | skip
    case nilS =>
     split at h
     ·rename_i hroom
      cases h
      cases hv
      have hp:=(jk hroom).2.2.1
      obtain ⟨news,ha,hnr⟩:=arg hp
      obtain ⟨A',n',c',w1,q1,q2,q3⟩:=yS (ty:=ty) (els:=[]) (fz:=0) ht s (aI.refl _ _ _ _) rfl ⟨rfl,hp,bG _,by simp,.inl ⟨rfl,rfl⟩⟩ (by grind) hall' ha hnr (fun g hg=>by simp [bz.blk] at hg)
      exact ⟨_,w1,q1,q2.own (q3 fun a ha=>by grind)⟩
     grind
    case own id =>
     cases hm:mem[id]? with
     | none=>grind
     | some o =>
      cases o<;>simp only [hm] at h<;>first | (cases h;done) | skip
      rename_i e' els fz
      split at h
      ·rename_i hc
       obtain ⟨rfl,hroom⟩:=hc
       cases h
       obtain ⟨hn,hh,hr⟩:=s.obj id _ hm
       cases hv with
       | own hj h00 =>
        rw [hj] at hh;cases hh
        have h1:=hr.1
        simp only at h1
        subst h1
        obtain ⟨news,ha,hnr⟩:=arg (jk hroom).2.2.1
        suffices hsf:∀g,bz.blk ⟨_,P.cellsOf e'⟩=some g->¬bd Z j (mem.set id .dead) g from (let ⟨A',n',c',w1,q1,q2,q3⟩:=yS (ty:=ty) (els:=els) (fz:=fz) ht (s.kill hm) (aI.kill hm) rfl hr hroom hall' ha hnr (fun g hg=>⟨hsf g hg,⟨id,_,hm,rfl,by simp [bf,O.ar,cf,hj,hg]⟩⟩);⟨_,w1,q1,q2.own (q3 h00)⟩)
        intro g hg
        rintro ⟨k,x,hx,hl,hb⟩
        have aC:id < mem.length:=(bj.1 hm).1
        by_cases e:id=k
        ·subst e
         rw [fj aC] at hx
         cases hx
         cases hl
        ·rw [fE e] at hx
         exact e (s.inj id k _ x g hm hx rfl hl (by simp [bf,O.ar,cf,hj,hg]) hb)
      grind
    case lit t' l =>
     split at h
     ·rename_i hc
      obtain ⟨rfl,hroom,hla⟩:=hc
      cases h
      obtain ⟨news,ha,hnr⟩:=arg (jk hroom).2.2.1
      exact Pf ht s hv hroom (fun y hy=>by grind) hall' ha hnr
     grind
    case win id off len =>
     cases hm:mem[id]? with
     | none=>grind
     | some o =>
      cases o<;>simp only [hm] at h<;>first | (cases h;done) | skip
      rename_i e' els fz
      split at h
      ·rename_i hc
       obtain ⟨rfl,rfl,hend,hroom⟩:=hc
       cases h
       obtain ⟨hn,hh,hr⟩:=s.obj id _ hm
       cases hv with
       | win hj hnn hlc hcc ha =>
        rename_i n c' sz c'' A A'
        rw [hj] at hh;cases hh
        obtain ⟨h1,h2,h3,h4,h5⟩:=hr
        simp only at h1 h2 h4 h5
        subst h1
        have hlen:((els.drop off).take len).length=len:=by grind
        have hr':jt P Z w ⟨.slice A' len c'',P.cellsOf e'⟩ e' ((els.drop off).take len) 0:=by
         refine ⟨rfl,h2,iE _,fun x hx=>h4 x (kD (mE hx)),?_⟩
         rcases ha with ⟨rfl,rfl⟩ | ⟨g,b,o,rfl,rfl,ho1,ho2⟩
         ·grind
         ·right
          rcases h5 with ⟨h5,he⟩ | ⟨g',b',c,us,h5,hlc',hcm,hg,hus,hcells,hz1,hz2⟩
          ·grind
          ·simp only [Value.slice.injEq,Option.some.injEq,Addr.mk.injEq,and_true] at h5
           obtain ⟨⟨rfl,rfl⟩,rfl,rfl⟩:=h5
           refine ⟨g,b+o,c'',us,by grind,by grind,by omega,hg,?_,fun k x hk=>?_,fun x hx=>?_,fun x hx=>?_⟩
           ·have:(off+c'') * P.cellsOf e'=off * P.cellsOf e'+c'' * P.cellsOf e':=ij _ _ _
            grind
           all_goals grind
        have hbk:∀g,bz.blk ⟨.slice A' len c'',P.cellsOf e'⟩=some g->cf j id=some g:=by
         intro g hg
         rcases ha with ⟨rfl,rfl⟩ | ⟨g',b,o,rfl,rfl,_⟩
         ·simp [bz.blk] at hg
         ·simp [bz.blk] at hg
          simp [cf,hj,bz.blk,hg]
        have hlm:(mem.set id O.dead).length=mem.length:=by simp
        obtain ⟨news,harg,hnr⟩:=arg (jk hroom).2.2.1
        suffices hsf:∀g,bz.blk ⟨.slice A' len c'',P.cellsOf e'⟩=some g->¬bd Z j (mem.set id .dead) g from (let ⟨A',n',c',w1,q1,q2,q3⟩:=yS (ty:=ty) (els:=(els.drop off).take len) (fz:=0) ht (s.kill hm) (aI.kill hm) rfl hr' (by grind) hall' harg hnr (fun g hg=>⟨hsf g hg,⟨id,_,hm,rfl,hbk g hg⟩⟩);⟨_,w1,q1,hlm ▸ q2.tail (fz:=0) (t:=e') (els:=(els.drop off).take len++xs) (by simp [newRow])⟩)
        intro g hg
        rintro ⟨k,x,hx,hl,hb⟩
        have aC:id < mem.length:=(bj.1 hm).1
        by_cases e:id=k
        ·subst e
         rw [fj aC] at hx
         cases hx
         cases hl
        ·rw [fE e] at hx
         exact e (s.inj id k _ x g hm hx rfl hl (hbk g hg) hb)
      grind
    case tail id off =>
     cases hm:mem[id]? with
     | none=>grind
     | some o =>
      cases o<;>simp only [hm] at h<;>first | (cases h;done) | skip
      rename_i e' els fz
      split at h
      ·rename_i hc
       obtain ⟨rfl,hfz,hroom⟩:=hc
       have efz:cond (kG fz 0) 0 (fz - off)=fz - off:=by
        cases fz<;>simp [kG]
       rw [efz] at h
       cases h
       obtain ⟨hend,hv⟩:=vI s hm hv
       obtain ⟨len,hlen0⟩:∃len,len=els.length - off:=⟨_,rfl⟩
       rw [<-hlen0] at hv
       obtain ⟨hn,hh,hr⟩:=s.obj id _ hm
       cases hv with
       | win hj hnn hlc hcc ha =>
        rename_i n c' sz c'' A A'
        rw [hj] at hh;cases hh
        obtain ⟨h1,h2,h3,h4,h5⟩:=hr
        simp only at h1 h2 h4 h5
        subst h1
        have hlen:(els.drop off).length=len:=by grind
        have hr':jt P Z w ⟨.slice A' len c'',P.cellsOf e'⟩ e' (els.drop off) (fz - off):=by
         refine ⟨rfl,h2,by grind,fun x hx=>h4 x (kD hx),?_⟩
         rcases ha with ⟨rfl,rfl⟩ | ⟨g,b,o,rfl,rfl,ho1,ho2⟩
         ·grind
         ·right
          rcases h5 with ⟨h5,he⟩ | ⟨g',b',c,us,h5,hlc',hcm,hg,hus,hcells,hz1,hz2⟩
          ·grind
          ·simp only [Value.slice.injEq,Option.some.injEq,Addr.mk.injEq,and_true] at h5
           obtain ⟨⟨rfl,rfl⟩,rfl,rfl⟩:=h5
           refine ⟨g,b+o,c'',us,by grind,by grind,by omega,hg,?_,fun k x hk=>?_,fun x hx=>?_,fun x hx=>?_⟩
           ·have:(off+c'') * P.cellsOf e'=off * P.cellsOf e'+c'' * P.cellsOf e':=ij _ _ _
            grind
           ·have hkl:k < (els.drop off).length:=(bj.1 hk).1
            rw [gf] at hk
            grind
           ·obtain ⟨q1,q2⟩:=hz1 x hx
            have q2:x < b+fz * P.cellsOf e':=q2
            have q3:off < fz:=by omega
            refine ⟨by omega,?_⟩
            show x < b+o+(fz - off) * P.cellsOf e'
            rw [ho2 (by omega),n7]
            grind
           ·have hx:x < (fz - off) * P.cellsOf e':=hx
            have q3:off < fz:=by
             grind
            rw [n7] at hx
            grind
        have hbk:∀g,bz.blk ⟨.slice A' len c'',P.cellsOf e'⟩=some g->cf j id=some g:=by
         intro g hg
         rcases ha with ⟨rfl,rfl⟩ | ⟨g',b,o,rfl,rfl,_⟩
         ·simp [bz.blk] at hg
         ·simp [bz.blk] at hg
          simp [cf,hj,bz.blk,hg]
        have hlm:(mem.set id O.dead).length=mem.length:=by simp
        obtain ⟨news,harg,hnr⟩:=arg (jk hroom).2.2.1
        suffices hsf:∀g,bz.blk ⟨.slice A' len c'',P.cellsOf e'⟩=some g->¬bd Z j (mem.set id .dead) g from (let ⟨A',n',c',w1,q1,q2,q3⟩:=yS (ty:=ty) (els:=els.drop off) (fz:=fz - off) ht (s.kill hm) (aI.kill hm) rfl hr' hroom hall' harg hnr (fun g hg=>⟨hsf g hg,⟨id,_,hm,rfl,hbk g hg⟩⟩);⟨_,w1,q1,hlm ▸ q2.tail (fz:=fz - off) (t:=e') (els:=els.drop off++xs) (by simp [newRow])⟩)
        intro g hg
        rintro ⟨k,x,hx,hl,hb⟩
        have aC:id < mem.length:=(bj.1 hm).1
        by_cases e:id=k
        ·subst e
         rw [fj aC] at hx
         cases hx
         cases hl
        ·rw [fE e] at hx
         exact e (s.inj id k _ x g hm hx rfl hl (hbk g hg) hb)
      grind
   grind
theorem VR.flat {v:V} {u:Value} (h:VR Z w j v u) (hf:v.flat1=true) (j':J):VR Z w j' v u:=by
 cases h<;>first | (simp [V.flat1] at hf;done) | constructor
theorem lW {y y':V} {u:Value} (h:iP y=some y') (hv:VR Z w j y u):VR Z w j0 y' u/\y'.one=true/\y.one=true:=by
 cases y<;>simp [iP] at h<;>subst h
 ·cases hv;exact ⟨.bool,rfl,rfl⟩
 ·cases hv;exact ⟨.int,rfl,rfl⟩
 ·cases hv;exact ⟨.str,rfl,rfl⟩
 ·cases hv;exact ⟨.sl0,rfl,rfl⟩
 ·exact ⟨hv.down j0,rfl,rfl⟩
 ·cases hv;exact ⟨.nilP,rfl,rfl⟩
 ·exact ⟨hv.litSl.down j0,rfl,rfl⟩
 ·cases hv;rename_i hg;exact ⟨.hp hg,rfl,rfl⟩
 ·cases hv;rename_i hg;exact ⟨.hm hg,rfl,rfl⟩
 ·cases hv;exact ⟨.nilM,rfl,rfl⟩
 ·cases hv;exact ⟨.nilI,rfl,rfl⟩
 ·cases hv;rename_i hx;exact ⟨.ifc hx,rfl,rfl⟩
theorem iR {α β:Type} {f:α->Option β}:∀{l:List α} {r:List β},bo f l=some r->r.length=l.length/\∀(i:Nat) (y:β),r[i]? = some y->∃x,l[i]? = some x/\f x=some y:=by
 intro l
 induction l with
 | nil=>intro r h;simp [bo] at h;grind
 | cons a l ih =>
  intro r h
  simp only [bo] at h
  cases h1:f a with
  | none=>grind
  | some b =>
   cases h2:bo f l with
   | none=>grind
   | some bs =>
    grind
theorem E4 {x y:V} {off:Nat} {vs:List V} (h:putCells x off vs=some y) (h1:∀v∈vs,v.one=true):y.cells=x.cells.take off++vs++x.cells.drop (off+vs.length)/\off+vs.length<=x.cells.length:=by
 unfold putCells at h
 split at h
 ·split at h
  ·rename_i hle
   cases h
   exact ⟨rfl,hle⟩
  grind
 ·split at h
  ·rename_i v
   split at h
   ·rename_i hc
    cases h
    obtain ⟨rfl,hx⟩:=hc
    rw [jw hx,jw (h1 _ (by simp))]
    simp
   grind
  grind
theorem xZ {g p:Nat} {us:Array Value} {t:TypeId} {vals:List Value} (hg:w.heap[g]? = some (.cells us t (0,0))) (hp:p+vals.length<=us.size) :
  (w.setRow g (us.toList.take p++vals++us.toList.drop (p+vals.length)).toArray).heap[g]? = some (.cells (us.toList.take p++vals++us.toList.drop (p+vals.length)).toArray t (0,0)) /\
  (us.toList.take p++vals++us.toList.drop (p+vals.length)).toArray.size=us.size /\
  ∀o,(w.setRow g (us.toList.take p++vals++us.toList.drop (p+vals.length)).toArray).cell? ⟨g,o,none⟩=if p<=o/\o < p+vals.length then vals[o - p]? else us[o]?:=by
 have hg':=setRow_heap w g us (us.toList.take p++vals++us.toList.drop (p+vals.length)).toArray t (0,0) hg
 refine ⟨hg',by grind,fun o=>?_⟩
 rw [eG hg']
 grind
theorem FC {g p:Nat} {us:Array Value} {t t':TypeId} {u:Value} (hg:w.heap[g]? = some (.cells us t' (0,0))) (hu:u.cells.size=P.cellsOf t) (h0:0 < P.cellsOf t) (h1:∀v∈u.cells.toList,v.oneCell'=true)
  (hp:p+u.cells.toList.length<=us.size) :
  (Instr.storeAt t (.pointer (some ⟨g,p,none⟩)) u).run P w = .ok () (w.setRow g (us.toList.take p++u.cells.toList++us.toList.drop (p+u.cells.toList.length)).toArray):=by
 obtain ⟨i,hi,his,_⟩:=sj h0
 have hst:=run_storeCells_at P g p t' u.cells.toList 0 us w hg (by grind) h1
 simp only [dK] at hst
 have:¬(u.cells.size≠i.size):=by omega
 simp only [Instr.storeAt,Instr.sureAddr,storeVar,sizeOf,typeInfo,Sem.run_bind,Sem.run_pure,Result.andThen_ok,run_program,hi]
 grind
theorem NN (s:SR P Z w j mem) {t:TypeId} {p v:V} {u up:Value} (h:lA P mem t p v=some mem') (hp:VR Z w j p up) (hv:VR Z w j v u) :
  ∃w1,(Instr.storeAt t up u).run P w = .ok () w1/\cC P Z w j mem (.tup []) mem' undef w1:=by
 unfold lA at h
 split at h
 ·rename_i hc
  obtain ⟨hvl,hvp,hv1⟩:=hc
  have hpos:0 < v.cells.length:=by omega
  obtain ⟨hus,hucl⟩:=hv.cellsOf (nA hv1)
  have hu1:∀c∈u.cells.toList,c.oneCell'=true:=by
   intro c hcm
   obtain ⟨i,hi,rfl⟩:=jR hcm
   have hi':i < v.cells.length:=by grind
   have e:=bC hi'
   obtain ⟨c',hc',hvr⟩:=hucl i _ e
   have:u.cells.toList[i]=c':=by
    grind
   rw [this]
   exact hvr.oneCell (nA hv1 _ (cG e))
  have hul:u.cells.toList.length=v.cells.length:=by grind
  have gen:∀(id k off g b:Nat) (hn:bz) (o o':O) (us:Array Value) (t':TypeId),mem[id]? = some o->o.ar=none->o'.ar=none->o.live=true->o'.live=true->j id=some hn->hn.blk=some g->w.heap[g]? = some (.cells us t' (0,0))->0 < v.cells.length ->
    b+v.cells.length<=us.size->(∀x,Z g x->x < b∨b+v.cells.length<=x)->up = .pointer (some ⟨g,b,none⟩) ->
    (∀w1,w1.heap[g]? = some (.cells (us.toList.take b++u.cells.toList++us.toList.drop (b+u.cells.toList.length)).toArray t' (0,0)) ->
     (us.toList.take b++u.cells.toList++us.toList.drop (b+u.cells.toList.length)).toArray.size=us.size->be Z w Z w1 ->
     (∀x,w1.cell? ⟨g,x,none⟩=if b<=x/\x < b+u.cells.toList.length then u.cells.toList[x - b]? else us[x]?)->OR P Z w1 j id o') ->
    mem'=mem.set id o'->∃w1,(Instr.storeAt t up u).run P w = .ok () w1/\cC P Z w j mem (.tup []) mem' undef w1:=by
   intro id k off g b hn o o' us t' hm har har' hl hl' hj hb hg hpos hle hzz hup hor hmem
   subst hup hmem
   obtain ⟨h1,h2,h3⟩:=xZ (w:=w) (p:=b) (vals:=u.cells.toList) hg (by omega)
   refine ⟨_,FC hg (by omega) (by omega) hu1 (by omega),?_⟩
   have hot:∀k,k≠g->(w.setRow g (us.toList.take b++u.cells.toList++us.toList.drop (b+u.cells.toList.length)).toArray).heap[k]? = w.heap[k]?:=fun k hk=>setRow_other w g k _ hk
   have hz':be Z w Z (w.setRow g (us.toList.take b++u.cells.toList++us.toList.drop (b+u.cells.toList.length)).toArray):=by
    refine .of fun g' x hx=>⟨hx,?_⟩
    by_cases e:g'=g
    ·subst e
     have:=hzz x hx
     refine ⟨by rw [h3 x,if_neg (by omega),eG hg],?_⟩
     simp only [gy,h1,hg,h2]
    ·exact gC (hot g' e) x
   have hne:∀g',cf j id≠some g'->g'≠g:=by
    intro g' h e
    subst e
    exact h (by simp [cf,hj,hb])
   refine ⟨Z,j,.tup (us:=[]) rfl (fun i c u hc=>by grind),s.set hm (fun _=>hl) hz' (fun g' hg'=>⟨hot g' (hne g' hg'),fun _=>Iff.rfl⟩) (fun g' x hx=>by simpa using s.zin g' x hx) (fun h=>by grind) (hor _ h1 h2 hz' h3) har har',?_,aQ.refl _⟩
   exact aI.set hm (fun _=>hl) hl hz' (fun g' hg'=>⟨hot g' (hne g' hg'),fun _=>Iff.rfl⟩) rfl rfl rfl (by simp) har har'
  cases p<;>simp only at h<;>first | (cases h;done) | skip
  case hp t' k off =>
   simp only [obi,omi] at h
   obtain ⟨⟨id,els⟩,hf,x,hk,vs,hvs,y,hpc,rfl⟩:=h
   simp only at hk
   have hm:=Dl hf
   have hO:=s.obj id _ hm
   obtain ⟨hvsl,hvsg⟩:=iR hvs
   have hvs1:∀z∈vs,z.one=true:=by
    intro z hz
    obtain ⟨i,hi,rfl⟩:=jR hz
    obtain ⟨y0,hy0,hy1⟩:=hvsg i _ (bC hi)
    obtain ⟨c,hc,hcv⟩:=hucl i y0 hy0
    exact (lW hy1 hcv).2.1
   obtain ⟨hyc,hle⟩:=E4 hpc hvs1
   have hkl:k < els.length:=(bj.1 hk).1
   cases hp with
   | hp hga =>
    rename_i g
    obtain ⟨us,hg,hxl,husl,hpos',hcells,hnz⟩:=hO.2 k x g hk hga
    obtain ⟨h1,h2,h3⟩:=xZ (w:=w) (p:=off) (vals:=u.cells.toList) hg (by omega)
    refine ⟨_,FC hg (by omega) (by omega) hu1 (by omega),?_⟩
    have hot:∀k,k≠g->(w.setRow g (us.toList.take off++u.cells.toList++us.toList.drop (off+u.cells.toList.length)).toArray).heap[k]? = w.heap[k]?:=fun k hk=>setRow_other w g k _ hk
    have hz':be Z w Z (w.setRow g (us.toList.take off++u.cells.toList++us.toList.drop (off+u.cells.toList.length)).toArray):=by
     refine .of fun g' x hx=>⟨hx,?_⟩
     by_cases e:g'=g
     ·grind
     ·exact gC (hot g' e) x
    obtain ⟨q1,q2⟩:=s.setA (o':=.arena t' (els.set k y)) hm (n:=els.length) (t:=t') rfl (by simp [O.ar]) hz' (fun g' hg'=>⟨hot g' fun e=>hg' ⟨k,hkl,by grind⟩,fun _=>Iff.rfl⟩) (fun g' x hx=>by simpa using s.zin g' x hx) rfl rfl rfl (by simp) (by
     refine ⟨by rw [nZ];exact hO.1,fun k' x' g' hk' hg'=>?_⟩
     by_cases e:k=k'
     ·subst e
      rw [hga] at hg';cases hg'
      rw [fj hkl] at hk'
      cases hk'
      refine ⟨_,h1,by grind,by omega,hpos',fun i y' hy'=>?_,hnz⟩
      rw [h3]
      rw [hyc] at hy'
      have hto:(x.cells.take off).length=off:=by grind
      by_cases hi1:i < off
      ·rw [bu,db (by omega),gI,if_pos hi1] at hy'
       rw [if_neg (by omega)]
       obtain ⟨a,u',hu'',hvv⟩:=hcells i y' hy'
       rw [eG hg] at hu''
       exact ⟨a,u',hu'',hvv.mono hz' (aQ.refl _)⟩
      ·rw [bu,cY (by omega),hto] at hy'
       by_cases hi2:i - off < vs.length
       ·rw [db hi2] at hy'
        rw [if_pos (by omega)]
        obtain ⟨y0,hy0,hy1⟩:=hvsg _ _ hy'
        obtain ⟨c,hc,hcv⟩:=hucl _ y0 hy0
        obtain ⟨q1,q2,_⟩:=lW hy1 hcv
        refine ⟨q2,c,?_,q1.mono hz' (aQ.refl _)⟩
        grind
       ·rw [cY (by omega),gf] at hy'
        rw [if_neg (by omega)]
        rw [show off+vs.length+(i - off - vs.length)=i by omega] at hy'
        obtain ⟨a,u',hu'',hvv⟩:=hcells i y' hy'
        rw [eG hg] at hu''
        exact ⟨a,u',hu'',hvv.mono hz' (aQ.refl _)⟩
     ·rw [fE e] at hk'
      exact (hO.2 k' x' g' hk' hg').mono hz' ⟨hot g' fun e'=>e (hO.1.inj k k' g hga (by grind)),fun _=>Iff.rfl⟩)
    exact ⟨Z,j,.tup (us:=[]) rfl (fun i c u hc=>by grind),q1,q2,aQ.refl _⟩
  rename_i id k off
  cases hp with
  | ptr hj hs =>
   rename_i g b0 hn
   cases hm:mem[id]? with
   | none=>grind
   | some o =>
    have hO:=s.obj id o hm
    cases o<;>simp only [hm] at h<;>first | (cases h;done) | skip
    case row t' els fz =>
     split at h
     ·rename_i hfk
      cases hk:els[k]? with
      | none=>grind
      | some x =>
       cases hvs:bo iP v.cells with
       | none=>grind
       | some vs =>
        cases hpc:putCells x off vs with
        | none=>grind
        | some y =>
         simp [hk,hvs,hpc] at h
         obtain ⟨hvsl,hvsg⟩:=iR hvs
         have hvs1:∀z∈vs,z.one=true:=by
          intro z hz
          obtain ⟨i,hi,rfl⟩:=jR hz
          obtain ⟨y0,hy0,hy1⟩:=hvsg i _ (bC hi)
          obtain ⟨c,hc,hcv⟩:=hucl i y0 hy0
          exact (lW hy1 hcv).2.1
         obtain ⟨hyc,hle⟩:=E4 hpc hvs1
         obtain ⟨hn',hh,h1,h2,h3,h4,h5⟩:=hO
         rw [hj] at hh;cases hh
         have hxl:=h4 x (cG hk)
         have hkl:k < els.length:=(bj.1 hk).1
         rcases h5 with ⟨_,he⟩ | ⟨g',b',c',us,hu',hlc,hcm,hg,hsz,hcells,hz1,hz2⟩
         ·grind
         ·have e:(g',b')=(g,b0):=by cases hn;simp at hu';subst hu';simpa [bz.start] using hs
          cases e
          have hkk:(k+1) * hn.sz<=els.length * hn.sz:=cO _ hkl
          have hcc:els.length * hn.sz<=c' * hn.sz:=cO _ hlc
          rw [jX] at hkk
          refine gen id k off g (b0+(k * hn.sz+off)) hn _ (.row t' (els.set k y) fz) us t' hm rfl rfl rfl rfl hj (by cases hn;simp at hu';subst hu';rfl) hg hpos (by omega) (fun x' hx'=>.inl ?_) rfl (fun w1 hw1 hsz1 hz' hcell=>?_) h.symm
          ·have:=(hz1 x' hx').2
           have:fz * hn.sz<=k * hn.sz:=cO _ hfk
           omega
          ·refine ⟨hn,hj,h1,h2,by grind,fun z hz=>?_,.inr ⟨g,b0,c',_,by grind,by grind,hcm,hw1,by omega,fun k' x' hk' i y' hy'=>?_,hz1,hz2⟩⟩
           ·grind
           ·rw [hcell]
            by_cases ek:k=k'
            ·subst ek
             rw [fj hkl] at hk'
             cases hk'
             rw [hyc] at hy'
             have hto:(x.cells.take off).length=off:=by grind
             by_cases hi1:i < off
             ·rw [bu,db (by omega),gI,if_pos hi1] at hy'
              rw [if_neg (by omega)]
              obtain ⟨a,u',hu'',hvv⟩:=hcells k x hk i y' hy'
              rw [eG hg] at hu''
              exact ⟨a,u',hu'',hvv.mono hz' (aQ.refl _)⟩
             ·rw [bu,cY (by omega),hto] at hy'
              by_cases hi2:i - off < vs.length
              ·rw [db hi2] at hy'
               rw [if_pos (by omega)]
               obtain ⟨y0,hy0,hy1⟩:=hvsg _ _ hy'
               obtain ⟨c,hc,hcv⟩:=hucl _ y0 hy0
               obtain ⟨q1,q2,_⟩:=lW hy1 hcv
               refine ⟨q2,c,?_,q1.mono hz' (aQ.refl _)⟩
               rw [<-hc,show b0+k * hn.sz+i - (b0+(k * hn.sz+off))=i - off by omega]
               simp
              ·rw [cY (by omega),gf] at hy'
               rw [if_neg (by omega)]
               rw [show off+vs.length+(i - off - vs.length)=i by omega] at hy'
               obtain ⟨a,u',hu'',hvv⟩:=hcells k x hk i y' hy'
               rw [eG hg] at hu''
               exact ⟨a,u',hu'',hvv.mono hz' (aQ.refl _)⟩
            ·rw [fE ek] at hk'
             have hx'l:=h4 x' (cG hk')
             have hil:i < hn.sz:=by grind
             have hout:¬(b0+(k * hn.sz+off)<=b0+k' * hn.sz+i/\b0+k' * hn.sz+i < b0+(k * hn.sz+off)+u.cells.toList.length):=by
              rintro ⟨q1,q2⟩
              rcases Nat.lt_or_gt_of_ne ek with aC | hgt
              ·have:(k+1) * hn.sz<=k' * hn.sz:=cO _ aC
               grind
              ·have:(k'+1) * hn.sz<=k * hn.sz:=cO _ hgt
               grind
             rw [if_neg hout]
             obtain ⟨a,u',hu'',hvv⟩:=hcells k' x' hk' i y' hy'
             rw [eG hg] at hu''
             exact ⟨a,u',hu'',hvv.mono hz' (aQ.refl _)⟩
     grind
    case box t' x fz =>
     split at h
     ·rename_i hc
      obtain ⟨rfl,rfl⟩:=hc
      have htl:(v.cells.map (mg mem)).length=v.cells.length:=by simp
      have ht1:∀y∈v.cells.map (mg mem),y.one=true:=by
       intro y hy
       obtain ⟨z,hz,rfl⟩:=dP.1 hy
       rw [NZ]
       grind
      have hut:∀(i:Nat) (y:V),(v.cells.map (mg mem))[i]? = some y->∃c,u.cells[i]? = some c/\VR Z w j y c:=by
       intro i y hy
       rw [dB] at hy
       cases hz:v.cells[i]? with
       | none=>grind
       | some z =>
        simp [hz] at hy
        subst hy
        obtain ⟨c,hc,hcv⟩:=hucl i z hz
        exact ⟨c,hc,N0 s hcv⟩
      obtain ⟨vt,hvt⟩:∃vt,vt=v.cells.map (mg mem):=⟨_,rfl⟩
      rw [<-hvt] at htl ht1 hut h
      cases hpc:putCells x off vt with
      | none=>grind
      | some y =>
       simp [hpc] at h
       obtain ⟨hyc,hle⟩:=E4 hpc ht1
       obtain ⟨g',us,hj',hg,hxl,husl,hcells,hz1,hz2⟩:=hO
       rw [hj] at hj';cases hj'
       have e:(g',0)=(g,b0):=by simpa [bz.start] using hs
       cases e
       refine gen id 0 off g (0+(0 * P.cellsOf t'+off)) _ _ (.box t' y false) us t' hm rfl rfl rfl rfl hj rfl hg hpos (by omega) (fun x' hx'=>by grind) rfl (fun w1 hw1 hsz1 hz' hcell=>?_) h.symm
       refine ⟨g,_,hj,hw1,by grind,by omega,fun i y' hy'=>?_,hz1,fun h=>by grind⟩
       rw [hcell]
       rw [hyc] at hy'
       have hto:(x.cells.take off).length=off:=by grind
       by_cases hi1:i < off
       ·rw [bu,db (by omega),gI,if_pos hi1] at hy'
        rw [if_neg (by omega)]
        obtain ⟨a,u',hu'',hvv⟩:=hcells i y' hy'
        rw [eG hg] at hu''
        exact ⟨a,u',hu'',hvv.mono hz' (aQ.refl _)⟩
       ·rw [bu,cY (by omega),hto] at hy'
        by_cases hi2:i - off < vt.length
        ·rw [db hi2] at hy'
         rw [if_pos (by omega)]
         obtain ⟨c,hc,hcv⟩:=hut _ y' hy'
         refine ⟨ht1 _ (cG hy'),c,?_,hcv.mono hz' (aQ.refl _)⟩
         grind
        ·rw [cY (by omega),gf] at hy'
         rw [if_neg (by omega)]
         rw [show off+vt.length+(i - off - vt.length)=i by omega] at hy'
         obtain ⟨a,u',hu'',hvv⟩:=hcells i y' hy'
         rw [eG hg] at hu''
         exact ⟨a,u',hu'',hvv.mono hz' (aQ.refl _)⟩
     grind
 grind
end
end Go.Lite
