/-
  Texts that the last one stands on.
-/
import Derived.WalkKit
import Derived.MapKept
import Derived.Laws.BytesArg
import Derived.Lib.ConvBytes
noncomputable section
open Option renaming some->aA,none->aF,bind_some->bk,map_some->du
open Go renaming FuncId->bL,TypeId->aO,Operand->fi,Program->bu,Value->aR,Oper->dF,World->be,maxLen->f8,run_underlying->dS,typeInfo->gY,grownCap->gv,run_storeCells_at->yu,run_firstCells_some->AS,setRow_other->oP
open Bool renaming true->aC,false->aD,and_eq_true->co,false_eq_true->dw,not_eq_true'->kE,not_true->bK
open Nat renaming blt->jt,beq->ll,le_refl->c7,le_trans->sh,lt_of_lt_of_le->si,lt_or_ge->mY,add_zero->fL,add_assoc->jP,zero_le->jQ,mul_le_mul_right->dQ,mul_one->mZ,mul_comm->BG,mul_le_mul->BH,add_mul->kf,sub_mul->qB,succ_mul->ml
open List renaming replicate->dh,range->fK,getElem?_eq_some_iff->bX,getElem?_eq_getElem->cj,mem_singleton->jO,getElem?_set_self->gR,getElem?_set_ne->ia,getElem?_append_left->eK,getElem?_take->lj,getElem?_drop->js,all_cons->oY,map_cons->d8,eq_nil_of_length_eq_zero->wx,getElem?_map->fW,take_of_length_le->sd,mem_of_getElem?->dx,length_drop->fD,drop_eq_nil_of_le->FI,drop_eq_getElem_cons->qy,all_eq_true->eJ,drop_zero->rW,append_assoc->cO,getElem?_append_right->eO,mem_cons->dE,getElem_of_mem->mi,flatMap_cons->nZ,take_length->iM,length_pos_iff->uy,mem_map->ib,append_nil->fh,mem_append->cz,size_toArray->wB,length_append->eV,getElem?_toArray->Bt,length_take->eC,mem_of_mem_drop->qA,mem_of_mem_take->o4,length_set->gS
open Array renaming getElem?_eq_getElem->gH,getElem?_setIfInBounds->Fx,ext'->qp,size_append->Bl,getElem?_eq_some_iff->hJ,length_toList->Fy
namespace Go.Lite
set_option linter.defProp false
def aW:=@decide_eq_true
def bp:=@decide_eq_false
def aZ:=@cond_true
def aP:=@cond_false
def aU:=@if_pos
def aY:=@if_neg
def gx:=@of_decide_eq_true
def fj:=@beq_self_eq_true
def ef:=@congrArg
def cZ:=@if_true
def dI:=@if_false
def iR:=@decide_eq_true_eq
def lW:=@decide_eq_decide
def iN:=@beq_iff_eq
def gU:=@absurd
theorem obi.{u,v}{α:Type u}{β:Type v}{o:Option α}{f:α->Option β}{b:β}:o.bind f=aA b↔∃a,o=aA a/\f a=aA b:=Option.bind_eq_some_iff
theorem omi.{u,v}{α:Type u}{β:Type v}{o:Option α}{f:α->β}{b:β}:o.map f=aA b↔∃a,o=aA a/\f a=b:=Option.map_eq_some_iff
inductive V where
 |junk
 |bool (b:Bool)
 |int (k:IntKind) (n:Int)
 |str (s:List UInt8)
 |agg (cs:List V)
 |tup (vs:List V)
 |nilS
 |sl (l:List V)
 |own (id:Nat)
 |win (id off len:Nat)
 |ref (x:V) (off:Nat)
 |ptr (id k off:Nat)
 |fn (f:bL) (caps:List V)
 |mp (id:Nat)
 |nilP
 |nilF
 |fr (t:aO) (els:List V)
 |lit (t:aO) (els:List V)
 |tail (id off:Nat)
 |rest (ts:List aO) (l:List V)
 |hp (t:aO) (k off:Nat)
 |hm (t:aO) (k:Nat)
 |nilM
 |nilI
 |unk
 |ifc (t:aO) (x:V)
instance:Inhabited V:=⟨.junk⟩
inductive O where
 |row (t:aO) (els:List V) (fz:Nat)
 |box (t:aO) (v:V) (fz:Bool)
 |map (es:List (V × V))
 |arena (t:aO) (els:List V)
 |marena (t:aO) (ms:List (List (V × V)))
 |dead
instance:Inhabited O:=⟨.dead⟩
mutual
def pB:V->V->Bool
 |.junk,.junk=>aC
 |.nilS,.nilS=>aC
 |.nilP,.nilP=>aC
 |.nilF,.nilF=>aC
 |.nilM,.nilM=>aC
 |.nilI,.nilI=>aC
 |.unk,.unk=>aC
 |.bool a,.bool b=>a==b
 |.int j a,.int k b=>decide (j=k) && a==b
 |.str a,.str b=>a==b
 |.agg a,.agg b=>jU a b
 |.tup a,.tup b=>jU a b
 |.sl a,.sl b=>jU a b
 |.own a,.own b=>a==b
 |.mp a,.mp b=>a==b
 |.win a b c,.win x y z=>a==x && b==y && c==z
 |.ptr a b c,.ptr x y z=>a==x && b==y && c==z
 |.hp a b c,.hp x y z=>a==x && b==y && c==z
 |.tail a b,.tail x y=>a==x && b==y
 |.hm a b,.hm x y=>a==x && b==y
 |.ref a b,.ref x y=>pB a x && b==y
 |.ifc a b,.ifc x y=>a==x && pB b y
 |.fn a b,.fn x y=>a==x && jU b y
 |.fr a b,.fr x y=>a==x && jU b y
 |.lit a b,.lit x y=>a==x && jU b y
 |.rest a b,.rest x y=>a==x && jU b y
 |_,_=>aD
def jU:List V->List V->Bool
 | [],[]=>aC
 |a::l,b::m=>pB a b && jU l m
 |_,_=>aD
end
mutual
theorem xh:∀(a b:V),pB a b=aC->a=b:=by
 intro a b h;cases a<;>cases b<;>simp only[pB,co,iN,iR,dw]at h<;>first|rfl|(cases h;done)|(subst h;rfl)|(obtain⟨rfl,rfl⟩:=h;rfl)|(obtain⟨⟨rfl,rfl⟩,rfl⟩:=h;rfl)|(rw[uY _ _ h])|(rw[xh _ _ h.1,h.2])|(rw[h.1,xh _ _ h.2])|(rw[h.1,uY _ _ h.2])
theorem uY:∀(a b:List V),jU a b=aC->a=b:=by
 intro a b h;cases a<;>cases b<;>simp only[jU,co,dw]at h
 ·rfl
 ·rw[xh _ _ h.1,uY _ _ h.2]
end
mutual
theorem CU:∀a:V,pB a a=true:=by
 intro a;cases a<;>simp[pB,CU,HI]
theorem HI:∀a:List V,jU a a=true:=by
 intro a;cases a<;>simp[jU,CU,HI]
end
def uX:List (V × V)->List (V × V)->Bool
 | [],[]=>aC
 |a::l,b::m=>pB a.1 b.1 && pB a.2 b.2 && uX l m
 |_,_=>aD
theorem HG:∀(a b:List (V × V)),uX a b=aC->a=b
 | [],[],_=>rfl
 | [],_::_,h=>nomatch h
 |_::_,[],h=>nomatch h
 |(a,x)::l,(b,y)::m,h=>by
  simp only[uX,co]at h;rw[xh _ _ h.1.1,xh _ _ h.1.2,HG _ _ h.2]
theorem HH:∀a:List (V × V),uX a a=aC
 | []=>rfl
 |a::l=>by simp[uX,CU,HH l]
def xg:List (List (V × V))->List (List (V × V))->Bool
 | [],[]=>aC
 |a::l,b::m=>uX a b && xg l m
 |_,_=>aD
theorem Oe:∀(a b:List (List (V × V))),xg a b=aC->a=b
 | [],[],_=>rfl
 | [],_::_,h=>nomatch h
 |_::_,[],h=>nomatch h
 |a::l,b::m,h=>by
  simp only[xg,co]at h;rw[HG _ _ h.1,Oe _ _ h.2]
theorem Of:∀a:List (List (V × V)),xg a a=aC
 | []=>rfl
 |a::l=>by simp[xg,HH,Of l]
def zY:O->O->Bool
 |.row t e f,.row t' e' f'=>t==t' && jU e e' && f==f'
 |.box t e f,.box t' e' f'=>t==t' && pB e e' && f==f'
 |.map e,.map e'=>uX e e'
 |.arena t e,.arena t' e'=>t==t' && jU e e'
 |.marena t e,.marena t' e'=>t==t' && xg e e'
 |.dead,.dead=>aC
 |_,_=>aD
theorem ZF(a b:O)(h:zY a b=aC):a=b:=by
 cases a<;>cases b<;>simp only[zY,co,iN,dw]at h
 ·rw[h.1.1,uY _ _ h.1.2,h.2]
 ·rw[h.1.1,xh _ _ h.1.2,h.2]
 ·rw[HG _ _ h]
 ·rw[h.1,uY _ _ h.2]
 ·rw[h.1,Oe _ _ h.2]
 ·rfl
theorem ZG(a:O):zY a a=true:=by cases a<;>simp[zY,HI,CU,HH,Of]
def sW:List O->List O->Bool
 | [],[]=>aC
 |a::l,b::m=>zY a b && sW l m
 |_,_=>aD
theorem HF:∀{a b:List O},sW a b=aC->a=b
 | [],[],_=>rfl
 | [],_::_,h=>nomatch h
 |_::_,[],h=>nomatch h
 |a::l,b::m,h=>by
  simp only[sW,co]at h;rw[ZF _ _ h.1,HF h.2]
theorem Od:∀a:List O,sW a a=aC
 | []=>rfl
 |a::l=>by simp[sW,ZG,Od l]
def cC{α β:Type}(f:α->Option β):List α->Option (List β)
 | []=>aA []
 |x::xs=>(f x).bind fun y=>(cC f xs).map fun ys=>y::ys
def V.cells:V->List V
 |.agg cs=>cs
 |v=>[v]
def V.one:V->Bool
 |.junk |.agg _ |.tup _ |.fr _ _ |.rest _ _=>aD
 |_=>aC
def V.flat1:V->Bool
 |.bool _ |.int _ _ |.str _=>aC
 |_=>aD
def V.inMap:V->Bool
 |.bool _ |.int _ _ |.str _ |.hp _ _ _ |.hm _ _=>aC
 |_=>aD
mutual
def V.plain:V->Bool
 |.agg cs=>oL cs
 |.tup vs=>oL vs
 |.sl l=>oL l
 |.ref x _=>x.plain
 |.ifc _ x=>x.plain
 |.fn _ caps=>oL caps
 |.fr _ els=>oL els
 |.lit _ els=>oL els
 |.rest _ _=>aD
 |.hp _ _ _=>aD
 |.hm _ _=>aD
 |_=>aC
def oL:List V->Bool
 | []=>aC
 |v::vs=>v.plain && oL vs
end
structure bj where
 dst:Option Nat
 op:Op
 type:aO
 guard:Option (Nat × Bool)
 bx:Bool
 sq:Bool
 rx:Bool
inductive C where
 |skip
 |ops (draw:Bool) (l:List bj)
 |seq (a b:C)
 |cond (c:fi) (thn els:C)
 |block (id:Nat) (body:C)
 |loop (gJ:List Nat) (body:C)
 |exit (id:Nat)
 |ret
 |start (g:Nat)
 |uncons (g:Nat) (ps ws:List Nat) (a b:C)
 |cseq (gJ:List Nat) (a b:C)
inductive Ex where
 |norm
 |exit (id:Nat)
 |ret
structure S where
 env:List V
 mem:List O
inductive RV where
 |tmp (t:Nat)
 |cell (t:Nat) (ty:aO)
structure FA where
 np:Nat
 nt:Nat
 results:List RV
 rtypes:List aO
 body:C
def tZ:List V->Option V
 | [c]=>aA c
 |_=>aF
def pP(P:bu)(t:aO)(cs:List V):Option V :=
 match P.underlying t with
 |some (.struct _)=>aA (.agg cs)
 |some (.array _ _)=>aA (.agg cs)
 |some _=>tZ cs
 |none=>aF
def xj(P:bu)(s:aO)(f:Nat):Option (Nat × aO) :=
 match P.underlying s with
 |some (.struct fs)=>(fs[f]?).map fun x=>(x.offset,x.type)
 |_=>aF
def gj(P:bu)(t:aO):Option aO :=
 match P.underlying t with
 |some (.slice e)=>aA e
 |_=>aF
def px:aR->Option V
 |.bool b=>aA (.bool b)
 |.int k n=>aA (.int k n)
 |.string s=>aA (.str s.data.toList)
 |.slice aF 0 0=>aA .nilS
 |.pointer aF=>aA .nilP
 |.nilFunc=>aA .nilF
 |.map aF=>aA .nilM
 |.nilIface=>aA .nilI
 |.tuple vs=>if vs.isEmpty then aA (.tup []) else aF
 |_=>aF
def jq(P:bu)(t:aO):Option V :=
 match (P.info? t).bind (·.zero)with
 |some (.agg cs)=>(cC px cs.toList).map .agg
 |some v=>px v
 |none=>aF
def iS:Nat:=2048
def bv(env:List V):fi->Option V
 |.tmp t=>env[t]?
 |.const v=>px v
 |.func f=>cond (jt f iS) (aA (.fn f [])) aF
 |.global _=>aF
def pW(env:List V)(p:Nat × fi):Option (Nat × V):=(bv env p.2).map fun v=>(p.1,v)
def kj(t:aO):Nat->List O->Option (Nat × List V)
 |_,[]=>aF
 |i,.arena t' els::l=>cond (t'==t) (aA (i,els)) (kj t (i+1) l)
 |i,_::l=>kj t (i+1) l
def O.ar:O->Option (aO × Nat)
 |.arena t els=>aA (t,els.length)
 |.marena t ms=>aA (t,ms.length)
 |_=>aF
def gN(o:O):Bool:=o.ar.isNone
def ny(t:aO):Nat->List O->Option (Nat × List (List (V × V)))
 |_,[]=>aF
 |i,.marena t' ms::l=>cond (t'==t) (aA (i,ms)) (ny t (i+1) l)
 |i,_::l=>ny t (i+1) l
def gL(mem:List O):V->Option (List (V × V))
 |.mp id =>
  match mem[id]? with
  |some (.map es)=>aA es
  |_=>aF
 |.hm t k=>(ny t 0 mem).bind fun r=>r.2[k]?
 |_=>aF
def tC(mem:List O)(m:V)(es:List (V × V)):List O :=
 match m with
 |.mp id=>mem.set id (.map es)
 |.hm t k =>
  match ny t 0 mem with
  |some r=>mem.set r.1 (.marena t (r.2.set k es))
  |none=>mem
 |_=>mem
def f7(mem:List O):V->Option (V × Nat)
 |.ref x off=>aA (x,off)
 |.hp t k off=>(kj t 0 mem).bind fun r=>(r.2[k]?).map fun x=>(x,off)
 |.ptr id k off =>
  match mem[id]? with
  |some (.row _ els _)=>(els[k]?).map fun x=>(x,off)
  |some (.box _ v _)=>if k=0 then aA (v,off) else aF
  |_=>aF
 |_=>aF
def gE(P:bu)(mem:List O)(t:aO)(p:V):Option V :=
 (f7 mem p).bind fun r =>
  if ((r.1.cells.drop r.2).take (P.cellsOf t)).length=P.cellsOf t then pP P t ((r.1.cells.drop r.2).take (P.cellsOf t)) else aF
def kU:V->Option V
 |.bool b=>aA (.bool b)
 |.int k n=>aA (.int k n)
 |.str s=>aA (.str s)
 |.nilS=>aA (.sl [])
 |.sl l=>aA (.sl l)
 |.lit _ l=>aA (.sl l)
 |.hp t k o=>aA (.hp t k o)
 |.hm t k=>aA (.hm t k)
 |.nilP=>aA .nilP
 |.nilM=>aA .nilM
 |.nilI=>aA .nilI
 |.ifc t x=>aA (.ifc t x)
 |_=>aF
def ko:V->Option V
 |.agg cs=>(cC kU cs).map .agg
 |v=>kU v
def rq(x:V)(off:Nat)(vs:List V):Option V :=
 match x with
 |.agg cs=>if off+vs.length<=cs.length then aA (.agg (cs.take off++vs++cs.drop (off+vs.length))) else aF
 |_=>match vs with
  | [v]=>if off=0/\x.one then aA v else aF
  |_=>aF
def oS(mem:List O):V->V
 |.own id =>
  match mem[id]? with
  |some (.row _ _ _)=>.tail id 0
  |_=>.own id
 |v=>v
def nO(P:bu)(mem:List O)(t:aO)(p v:V):Option (List O) :=
 if v.cells.length=P.cellsOf t/\0 < P.cellsOf t/\v.cells.all V.one then
  match p with
  |.ptr id k off =>
   match mem[id]? with
   |some (.row t' els fz) =>
    if fz<=k then
     (els[k]?).bind fun x=>(cC kU v.cells).bind fun vs=>(rq x off vs).map fun y=>mem.set id (.row t' (els.set k y) fz)
    else aF
   |some (.box t' x fz)=>if k=0/\fz=aD then (rq x off (v.cells.map (oS mem))).map fun y=>mem.set id (.box t' y fz) else aF
   |_=>aF
  |.hp t' k off=>(kj t' 0 mem).bind fun r=>(r.2[k]?).bind fun x=>(cC kU v.cells).bind fun vs=>(rq x off vs).map fun y=>mem.set r.1 (.arena t' (r.2.set k y))
  |_=>aF
 else aF
def dy(mem:List O):V->Option (List V)
 |.nilS=>aA []
 |.sl l=>aA l
 |.lit _ l=>aA l
 |.own id =>
  match mem[id]? with
  |some (.row _ els _)=>aA els
  |_=>aF
 |.win id off len =>
  match mem[id]? with
  |some (.row _ els _)=>if off+len<=els.length then aA ((els.drop off).take len) else aF
  |_=>aF
 |.tail id off =>
  match mem[id]? with
  |some (.row _ els _)=>aA (els.drop off)
  |_=>aF
 |_=>aF
def fA(s:List UInt8):List V:=s.map fun b=>.int .u8 (b.toNat:Int)
def og(mem:List O):V->Option (List V)
 |.str s=>aA (fA s)
 |x=>dy mem x
def qe(P:bu)(t:aO):Bool:=decide (P.bytesOf t<=4096) && decide (0 < P.cellsOf t) && (match (P.info? t).bind (·.zero)with|some z=>z.cells.size==P.cellsOf t|none=>aD)
def fC(P:bu)(t:aO)(n:Nat):Bool:=decide (n<=16777216) && qe P t
def newRow(mem:List O)(t:aO)(els:List V)(fz:Nat):V × List O:=(.own mem.length,mem++[.row t els fz])
def boxed(P:bu):List aO->List V->List O->List V × List O
 |t::ts,.nilS::vs,mem =>
  match gj P t with
  |some e=>if fC P e 0 then
    let r:=boxed P ts vs (mem++[.row e [] 0])
    (.tail mem.length 0::r.1,r.2)
   else
    let r:=boxed P ts vs mem
    (.nilS::r.1,r.2)
  |none =>
    let r:=boxed P ts vs mem
    (.nilS::r.1,r.2)
 |_::ts,v::vs,mem =>
  let r:=boxed P ts vs mem
  (oS mem v::r.1,r.2)
 |_,vs,mem=>(vs,mem)
def pq(P:bu)(t:aO):List aO :=
 match P.underlying t with
 |some (.struct fs)=>fs.toList.flatMap fun f=>if P.cellsOf f.type=1 then [f.type] else dh (P.cellsOf f.type) 0
 |some (.array _ _)=>[]
 |_=>[t]
def qL(P:bu)(mem:List O)(t:aO)(v:V):V × List O :=
 match v with
 |.agg cs=>let r:=boxed P (pq P t) cs mem;(.agg r.1,r.2)
 |v =>
  match boxed P (pq P t) [v] mem with
  |([x],m)=>(x,m)
  |(_,_)=>(v,mem)
def newBox(P:bu)(mem:List O)(t:aO)(v:V):V × List O :=
 let r:=qL P mem t v
 (.ptr r.2.length 0 0,r.2++[.box t r.1 aD])
def tJ(P:bu)(mem:List O)(t:aO)(v:V):Option (V × List O) :=
 match kj t 0 mem with
 |some r=>if 0 < P.cellsOf t then (ko v).map fun y=>(.hp t r.2.length 0,mem.set r.1 (.arena t (r.2++[y]))) else aF
 |none=>aA (newBox P mem t v)
def DJ(mem:List O)(t:aO):V × List O :=
 match ny t 0 mem with
 |some r=>(.hm t r.2.length,mem.set r.1 (.marena t (r.2++[[]])))
 |none=>(.mp mem.length,mem++[.map []])
def kJ(P:bu)(mem:List O)(t:aO)(s x:V):Option (V × List O) :=
 (gj P t).bind fun e=>(og mem x).bind fun xs =>
  if xs.all (fun y=>y.cells.length==P.cellsOf e) then
   match s with
   |.nilS=>if fC P e xs.length then aA (newRow mem e xs 0) else aF
   |.own id =>
    match mem[id]? with
    |some (.row e' els fz)=>if e'=e/\fC P e (els.length+xs.length) then aA (newRow (mem.set id .dead) e (els++xs) fz) else aF
    |_=>aF
   |.tail id off =>
    match mem[id]? with
    |some (.row e' els fz)=>if e'=e/\(fz=0∨off < fz)/\fC P e ((els.drop off).length+xs.length) then aA (.tail mem.length 0,(newRow (mem.set id .dead) e (els.drop off++xs) (cond (ll fz 0) 0 (fz - off))).2) else aF
    |_=>aF
   |.win id off len =>
    match mem[id]? with
    |some (.row e' els fz)=>if e'=e/\fz=0/\off+len<=els.length/\fC P e (len+xs.length) then aA (.tail mem.length 0,(newRow (mem.set id .dead) e ((els.drop off).take len++xs) 0).2) else aF
    |_=>aF
   |.lit t' l=>if t'=e/\fC P e (l.length+xs.length)/\l.all (fun y=>y.cells.length==P.cellsOf e) then aA (.sl (l++xs),mem) else aF
   |_=>aF
  else aF
def nc(P:bu)(t t':aO)(x:V):Bool :=
 match x with
 |.str _=>(match P.underlying t',(gj P t).bind P.underlying with|some .string,aA (.int .u8)=>aC|_,_=>aD)
 |_=>t==t'
def v8(mem:List O):V->Option (Nat × Nat × Nat)
 |.own id =>
  match mem[id]? with
  |some (.row _ els _)=>aA (id,0,els.length)
  |_=>aF
 |.tail id off =>
  match mem[id]? with
  |some (.row _ els _)=>aA (id,off,els.length - off)
  |_=>aF
 |.win id off len=>aA (id,off,len)
 |_=>aF
def zJ(P:bu)(mem:List O)(t:aO)(s x:V):Option (V × List O) :=
 (gj P t).bind fun e=>(og mem x).bind fun xs=>(v8 mem s).bind fun r =>
  match mem[r.1]? with
  |some (.row e' els fz) =>
   if e'=e/\xs.all (fun y=>y.cells.length==P.cellsOf e)/\fz<=r.2.1/\r.2.1+r.2.2<=els.length then
    aA (.int .i64 (min xs.length r.2.2:Nat),mem.set r.1 (.row e' (els.take r.2.1++xs.take (min xs.length r.2.2)++els.drop (r.2.1+min xs.length r.2.2)) fz))
   else aF
  |_=>aF
def zH(P:bu)(mem:List O)(t:aO)(s:V):Option (V × List O) :=
 (gj P t).bind fun e=>(v8 mem s).bind fun r =>
  match mem[r.1]? with
  |some (.row e' els fz) =>
   if e'=e/\fC P e 0/\fz<=r.2.1/\r.2.1+r.2.2<=els.length then
    (jq P e).bind fun z=>(ko z).map fun z=>(.tup [],mem.set r.1 (.row e' (els.take r.2.1++dh r.2.2 z++els.drop (r.2.1+r.2.2)) fz))
   else aF
  |_=>aF
def qX(P:bu)(mem:List O)(t:aO)(a b:V):Option (V × List O) :=
 (gj P t).bind fun e =>
  match a,b with
  |.int _ n,.int _ c=>if 0<=n/\n<=c/\fC P e c.toNat then (jq P e).bind fun z=>(ko z).map fun z=>newRow mem e (dh n.toNat z) 0 else aF
  |_,_=>aF
def Iz(P:bu)(t:aO)(v:V):Option V :=
 match P.underlying t with
 |some (.interface _)=>aF
 |some _=>(ko v).map (.ifc t)
 |none=>aF
def wo(P:bu)(t:aO):Option V:=(jq P t).map fun z=>.tup [z,.bool aD]
def Ce(P:bu)(t:aO)(ok:Bool):V->Option V
 |.nilI=>if ok then wo P t else aF
 |.ifc t' x=>if t'=t then aA (if ok then .tup [x,.bool aC] else x) else if ok then wo P t else aF
 |_=>aF
def yQ(P:bu)(t:aO)(ok:Bool)(v:V):Option V :=
 match P.underlying t with
 |some (.interface _)=>aF
 |some _=>Ce P t ok v
 |none=>aF
def f9(mem:List O):V->Option V
 |.bool b=>aA (.bool b)
 |.int k n=>aA (.int k n)
 |.str s=>aA (.str s)
 |.nilP=>aA .nilP
 |.nilF=>aA .nilF
 |.nilS=>aA (.sl [])
 |.sl l=>aA (.sl l)
 |.lit _ l=>aA (.sl l)
 |.own id=>(dy mem (.own id)).map .sl
 |.win id off len=>(dy mem (.win id off len)).map .sl
 |.tail id off=>(dy mem (.tail id off)).map .sl
 |.ref x off=>aA (.ref x off)
 |.hp t k o=>aA (.hp t k o)
 |.hm t k=>aA (.hm t k)
 |.nilM=>aA .nilM
 |.nilI=>aA .nilI
 |.ifc t x=>aA (.ifc t x)
 |.fn f caps=>if caps.isEmpty then aA (.fn f []) else aF
 |_=>aF
def iy(mem:List O):V->Option V
 |.agg cs=>(cC (f9 mem) cs).map .agg
 |.ptr id k off=>(f7 mem (.ptr id k off)).bind fun (x,off) =>
   match x with
   |.agg cs=>(cC (f9 mem) cs).map fun ds=>.ref (.agg ds) off
   |x=>(f9 mem x).map fun y=>.ref y off
 |v=>f9 mem v
def k9(mem:List O):V->Option V
 |.fn f caps=>(cC (iy mem) caps).map (.fn f)
 |v=>iy mem v
def jb:V->List Nat
 |.own id |.win id _ _ |.tail id _=>[id]
 |_=>[]
def iF(mem:List O):V->List Nat
 |.agg cs=>cs.flatMap jb
 |.ptr id _ _=>id::(match mem[id]? with
  |some (.box _ v _)=>v.cells.flatMap jb
  |_=>[])
 |v=>jb v
def oT(v:V):V:=cond v.flat1 v .unk
def Ub(r:V × Nat):V:=.ref (match r.1 with |.agg cs=>.agg (cs.map oT)|x=>oT x) r.2
def qm(mem:List O)(v:V):V :=
 match v with
 |.ptr id k off=>(match f7 mem (.ptr id k off)with|some r=>Ub r|none=>.unk)
 |v=>oT v
def I8:V->List Nat
 |.ptr id _ _=>[id]
 |_=>[]
def v7(q:Bool)(mem:List O)(v:V):Option V :=
 cond q (match v with
  |.ptr id k off=>(match mem[id]? with
   |some (.box _ _ _)=>(f7 mem (.ptr id k off)).map fun r=>.ref (match r.1 with |.agg cs=>.agg (cs.map (qm mem))|x=>qm mem x) r.2
   |_=>aF)
  |v=>if v.flat1 then aA v else aF) (iy mem v)
def pI(q:Bool)(mem:List O)(v:V):List Nat :=
 cond q (match v with
  |.ptr id _ _=>id::(match mem[id]? with
   |some (.box _ v _)=>v.cells.flatMap I8
   |_=>[])
  |_=>[]) (iF mem v)
def kR(mem:List O):V->List Nat
 |.fn _ caps=>caps.flatMap (iF mem)
 |v=>iF mem v
def freeze(mem:List O)(id:Nat):List O :=
 match mem[id]? with
 |some (.row t els _)=>mem.set id (.row t els els.length)
 |some (.box t v _)=>mem.set id (.box t v aC)
 |_=>mem
def vn:V->Bool
 |.bool _ |.int _ _ |.str _ |.nilP |.nilF |.fr _ _ |.nilS=>aD
 |_=>aC
def vo:V->Bool
 |.agg cs=>cs.any vn
 |v=>vn v
def xB:V->Bool
 |.tup vs=>vs.any vo
 |v=>vo v
def pH(mem:List O)(v:V):Option V :=
 match v with
 |.ptr _ _ _=>aF
 |v=>k9 mem v
def HS(P:bu)(e:aO):Bool :=
 match jq P e with
 |some z=>z.cells.all V.flat1
 |none=>aD
def s9(P:bu)(mem:List O)(t:aO)(v:V):Option V :=
 match v with
 |.own id =>
  match mem[id]? with
  |some (.row e els fz)=>if HS P e then (if fz=0 then (if els.all (fun x=>x.cells.all V.flat1) then aA (.fr e els) else aF) else aA (.sl els)) else aA (.sl els)
  |_=>aF
 |.nilS=>(gj P t).bind fun e=>if 0 < P.cellsOf e then (if HS P e then aA (.fr e []) else aA (.sl [])) else aF
 |v=>pH mem v
def rN:List V->V
 | [v]=>v
 |vs=>.tup vs
def ox(P:bu)(mem:List O)(ts:List aO)(vs:List V):Option V :=
 match ts,vs with
 | [t],[v]=>s9 P mem t v
 |_,[_]=>aF
 |_,vs=>(cC (pH mem) vs).map .tup
def yO(adopt:Bool)(mem:List O):V->V × List O
 |.fr t els=>if adopt then newRow mem t els 0 else (.sl els,mem)
 |v=>(v,mem)
def qj(adopt:Bool)(mem:List O):V->V × List O
 |.tup vs=>(.tup (vs.map fun v=>(yO aD mem v).1),mem)
 |v=>yO adopt mem v
def sD(op:BinOp)(k:IntKind)(a b:Int):Option V :=
 match op with
 |.add=>aA (.int k (k.wrap (a+b)))
 |.sub=>aA (.int k (k.wrap (a - b)))
 |.mul=>aA (.int k (k.wrap (a * b)))
 |.quo=>if b=0 then aF else aA (.int k (k.wrap (a.tdiv b)))
 |.rem=>if b=0 then aF else aA (.int k (a.tmod b))
 |.and=>aA (.int k (k.wrap ((BitVec.ofInt k.bits a &&& BitVec.ofInt k.bits b).toNat:Int)))
 |.or=>aA (.int k (k.wrap ((BitVec.ofInt k.bits a |||BitVec.ofInt k.bits b).toNat:Int)))
 |.xor=>aA (.int k (k.wrap ((BitVec.ofInt k.bits a ^^^ BitVec.ofInt k.bits b).toNat:Int)))
 |.andNot=>aA (.int k (k.wrap ((BitVec.ofInt k.bits a &&& ~~~(BitVec.ofInt k.bits b)).toNat:Int)))
 |.eql=>aA (.bool (a==b))
 |.neq=>aA (.bool (a != b))
 |.lss=>aA (.bool (decide (a < b)))
 |.leq=>aA (.bool (decide (a<=b)))
 |.gtr=>aA (.bool (decide (a > b)))
 |.geq=>aA (.bool (decide (a ≥ b)))
 |_=>aF
def E9(op:BinOp)(a b:List UInt8):Option V :=
 match op with
 |.add=>if a.length+b.length<=4611686018427387904 then aA (.str (a++b)) else aF
 |.eql=>aA (.bool (a==b))
 |.neq=>aA (.bool (!(a==b)))
 |.lss=>aA (.bool (Op.bytesLess a b))
 |.leq=>aA (.bool (Op.bytesLess a b ||a==b))
 |.gtr=>aA (.bool (!(Op.bytesLess a b ||a==b)))
 |.geq=>aA (.bool (!Op.bytesLess a b))
 |_=>aF
def fU:V->V->Option Bool
 |.bool a,.bool b=>aA (a==b)
 |.int j a,.int k b=>if j=k then aA (a==b) else aF
 |.str a,.str b=>aA (a==b)
 |_,_=>aF
def sX:Option TypeDesc->V->V->Option Bool
 |some .bool,.bool a,.bool b=>aA (a==b)
 |some (.int _),.int j a,.int k b=>if j=k then aA (a==b) else aF
 |some .string,.str a,.str b=>aA (a==b)
 |_,_,_=>aF
def ol(P:bu):List aO->List V->List V->Option Bool
 | [],[],[]=>aA aC
 |t::ts,a::as0,b::bs=>(sX (P.underlying t) a b).bind fun x=>(ol P ts as0 bs).map fun y=>x && y
 |_,_,_=>aF
def C0(P:bu)(t:aO):List aO :=
 match P.underlying t with
 |some (.struct fs)=>fs.toList.map (·.type)
 |_=>[]
def Q7(P:bu)(t:aO):Bool :=
 match P.underlying t with
 |some (.struct fs)=>!P.eqGuardType P.depth t && !P.stoodInHeld t && fs.toList.zipIdx.all fun x=>x.1.name != "_" && x.1.offset==x.2
 |_=>aD
def iO(P:bu)(op:BinOp)(t:aO)(x y:V):Option V :=
 match x,y with
 |.int k a,.int k' b =>
  match op with
  |.shl=>if b < 0 then aF else aA (.int k (k.wrap (a * 2 ^ (min b.toNat k.bits))))
  |.shr=>if b < 0 then aF else aA (.int k (a.fdiv (2 ^ (min b.toNat k.bits))))
  |op=>if k=k' then sD op k a b else aF
 |.str a,.str b=>E9 op a b
 |.bool a,.bool b =>
  if (match P.underlying t with|some .bool=>aC|_=>aD) then
   match op with
   |.eql=>aA (.bool (a==b))
   |.neq=>aA (.bool (!(a==b)))
   |_=>aF
  else aF
 |.agg cs,.agg ds =>
  if Q7 P t then
   match op with
   |.eql=>(ol P (C0 P t) cs ds).map .bool
   |.neq=>(ol P (C0 P t) cs ds).map fun b=>.bool (!b)
   |_=>aF
  else aF
 |_,_=>aF
def vI:V->Bool
 |.nilP |.nilF=>aC
 |_=>aD
def tK(P:bu)(t:aO)(x y:V):Option Bool :=
 match P.underlying t,x,y with
 |some (.pointer _),.nilP,.nilP=>aA aC
 |some (.pointer _),.ptr _ _ _,.nilP=>aA aD
 |some (.pointer _),.ref _ _,.nilP=>aA aD
 |some (.pointer _),.hp _ _ _,.nilP=>aA aD
 |some (.func _ _ _),.nilF,.nilF=>aA aC
 |some (.func _ _ _),.fn _ _,.nilF=>aA aD
 |_,_,_=>aF
def n6(P:bu)(op:BinOp)(t:aO)(x y:V):Option V :=
 if vI y then
  match op with
  |.eql=>(tK P t x y).map .bool
  |.neq=>(tK P t x y).map fun b=>.bool (!b)
  |_=>aF
 else iO P op t x y
def Fi(op:UnOp)(x:V):Option V :=
 match op,x with
 |.not,.bool b=>aA (.bool (!b))
 |.neg,.int k n=>aA (.int k (k.wrap (0 - n)))
 |.xor,.int k n=>sD .xor k (if k.signed then -1 else k.max) n
 |_,_=>aF
def iv:List V->Option (List Int)
 | []=>aA []
 |.int .u8 n::l=>(iv l).map (n::·)
 |_=>aF
def we(P:bu)(e:aO)(l:List V):Option V :=
 match P.underlying e with
 |some (.int .u8)=>(iv l).map fun xs=>.str (xs.map fun n=>UInt8.ofNat n.toNat)
 |_=>aF
def py(P:bu)(mem:List O)(src dst:aO)(x:V):Option V :=
 match P.underlying src,P.underlying dst,x with
 |some _,aA (.int k),.int _ n=>aA (.int k (k.wrap n))
 |some _,aA .string,.str s=>aA (.str s)
 |some (.slice e),aA .string,x=>(dy mem x).bind (we P e)
 |some .string,aA (.slice e),.str s =>
  match P.underlying e with
  |some (.int .u8)=>aA (.sl (fA s))
  |_=>aF
 |_,_,_=>aF
def gC(o:Option (Option V))(d:Nat):Option Nat :=
 match o with
 |none=>aA d
 |some (aA (.int _ n))=>if 0<=n then aA n.toNat else aF
 |some _=>aF
def lK(P:bu)(mem:List O)(t:aO)(x:V)(lo hi mx:Option (Option V)):Option V :=
 match P.underlying t,x with
 |some .string,.str s =>
  if mx.isSome then aF else
  (gC lo 0).bind fun l=>(gC hi s.length).bind fun h=>if l<=h/\h<=s.length then aA (.str ((s.take h).drop l)) else aF
 |some (.slice e),x =>
  (dy mem x).bind fun xs=>(gC lo 0).bind fun l=>(gC hi xs.length).bind fun h=>(gC mx xs.length).bind fun m =>
   if 0 < P.cellsOf e/\l<=h/\h<=m/\m<=xs.length/\(mx.isSome=aC->hi.isSome=aC)/\xs.all (fun y=>y.cells.length==P.cellsOf e) then
    match x with
    |.nilS=>aA .nilS
    |.sl xs=>aA (.sl ((xs.take h).drop l))
    |.own id =>
     match mem[id]? with
     |some (.row e' _ _)=>if mx.isSome then aF else if e'=e then aA (if hi.isNone then .tail id l else .win id l (h - l)) else aF
     |_=>aF
    |.tail id off =>
     match mem[id]? with
     |some (.row e' _ _)=>if mx.isSome then aF else if e'=e then aA (if hi.isNone then .tail id (off+l) else .win id (off+l) (h - l)) else aF
     |_=>aF
    |.win id off _ =>
     match mem[id]? with
     |some (.row e' _ _)=>if mx.isSome then aF else if e'=e then aA (.win id (off+l) (h - l)) else aF
     |_=>aF
    |_=>aF
   else aF
 |_,_=>aF
def CZ(P:bu)(s:aO)(x:V)(f:Nat):Option V :=
 (xj P s f).bind fun (o,t)=>if P.cellsOf t=0 then aF else
  match x with
  |.ref y off=>aA (.ref y (off+o))
  |.ptr id k off=>aA (.ptr id k (off+o))
  |.hp t k off=>aA (.hp t k (off+o))
  |_=>aF
def kp(P:bu)(mem:List O)(t:aO)(x i:V):Option V :=
 match P.underlying t,i with
 |some (.slice e),.int _ n =>
  if 0<=n then
   match x with
   |.sl l=>(l[n.toNat]?).bind fun y=>if y.cells.length=P.cellsOf e then aA (.ref y 0) else aF
   |.own id =>
    match mem[id]? with
    |some (.row e' els _)=>if e'=e/\n.toNat < els.length then aA (.ptr id n.toNat 0) else aF
    |_=>aF
   |.win id off len =>
    match mem[id]? with
    |some (.row e' els _)=>if e'=e/\n.toNat < len/\off+len<=els.length then aA (.ptr id (off+n.toNat) 0) else aF
    |_=>aF
   |.tail id off =>
    match mem[id]? with
    |some (.row e' els _)=>if e'=e/\n.toNat < (els.drop off).length then aA (.ptr id (off+n.toNat) 0) else aF
    |_=>aF
   |_=>aF
  else aF
 |some (.array len e),.int _ n =>
  if 0<=n/\n.toNat < len/\0 < P.cellsOf e then
   match x with
   |.ref y off=>aA (.ref y (off+n.toNat * P.cellsOf e))
   |.ptr id k off=>aA (.ptr id k (off+n.toNat * P.cellsOf e))
   |_=>aF
  else aF
 |_,_=>aF
def rl(P:bu)(t:aO)(cs:List V)(off:Nat):Option V :=
 let ds:=(cs.drop off).take (P.cellsOf t)
 if ds.length=P.cellsOf t then pP P t ds else aF
def qT(P:bu)(t:aO)(x i:V):Option V :=
 match P.underlying t,x,i with
 |some .string,.str s,.int _ n=>if 0<=n then (s[n.toNat]?).map fun b=>.int .u8 (b.toNat:Int) else aF
 |some (.array len e),.agg cs,.int _ n=>if 0<=n/\n.toNat < len then rl P e cs (n.toNat * P.cellsOf e) else aF
 |_,_,_=>aF
def sZ(place:Nat->Option (Nat × Nat)):List V->List (Nat × V)->Option (List V)
 |cells,[]=>aA cells
 |cells,(i,v)::rest =>
  (place i).bind fun (off,size) =>
   if v.cells.length=size/\off+size<=cells.length/\v.cells.all V.one then sZ place (cells.take off++v.cells++cells.drop (off+size)) rest else aF
def I2(P:bu)(t:aO):Option (List (Nat × Nat)) :=
 match P.underlying t with
 |some (.struct fs)=>if fs.toList.all (fun f=>decide (0 < P.cellsOf f.type)) then aA (fs.toList.map fun f=>(f.offset,P.cellsOf f.type)) else aF
 |some (.array n e)=>if 0 < P.cellsOf e then aA ((fK n).map fun i=>(i * P.cellsOf e,P.cellsOf e)) else aF
 |_=>aF
def Cj(P:bu)(t:aO)(parts:List (Nat × V)):Option V :=
 match jq P t with
 |some (.agg zs)=>(I2 P t).bind fun pl=>(sZ (fun i=>pl[i]?) zs parts).map .agg
 |_=>aF
def tA:Nat->List (Nat × V)->Option (List V)
 |_,[]=>aA []
 |k,(i,v)::rest=>if i=k then (ko v).bind fun x=>(tA (k+1) rest).map (x::·) else aF
def nH(P:bu)(mem:List O)(t:aO)(x:V):Option V :=
 match P.underlying t,x with
 |some .string,.str s=>aA (.int .i64 (s.length:Int))
 |some (.array n _),_=>aA (.int .i64 (n:Int))
 |some (.slice _),x=>(dy mem x).map fun l=>.int .i64 (l.length:Int)
 |some (.map _ _),x=>(gL mem x).map fun es=>.int .i64 (es.length:Int)
 |_,_=>aF
def min2:V->V->Option V
 |.str a,.str b=>aA (.str (if Op.bytesLess a b ||a==b then a else b))
 |.int k a,.int k' b=>if k=k' then aA (.int k (if b < a then b else a)) else aF
 |_,_=>aF
def max2:V->V->Option V
 |.str a,.str b=>aA (.str (if Op.bytesLess a b then b else a))
 |.int k a,.int k' b=>if k=k' then aA (.int k (if a < b then b else a)) else aF
 |_,_=>aF
def vd(f:V->V->Option V):V->List V->Option V
 |x,[]=>aA x
 |x,y::ys=>(f x y).bind fun z=>vd f z ys
def gM:List (V × V)->V->Option (Option V)
 | [],_=>aA aF
 |(a,x)::es,k=>(fU k a).bind fun b=>if b then aA (aA x) else gM es k
def mO:List (V × V)->V->V->Option (List (V × V))
 | [],k,x=>aA [(k,x)]
 |(a,y)::es,k,x=>(fU k a).bind fun b=>if b then aA ((a,x)::es) else (mO es k x).map ((a,y)::·)
def nK:List (V × V)->V->Option (List (V × V))
 | [],_=>aA []
 |(a,y)::es,k=>(fU k a).bind fun b=>if b then aA es else (nK es k).map ((a,y)::·)
def xF(P:bu)(t:aO):Option aO :=
 match P.underlying t with
 |some (.map k e) =>
  match P.underlying k with
  |some (.int _)|some .string=>aA e
  |_=>aF
 |_=>aF
def oF(P:bu)(t:aO):V->Bool
 |.int k _=>match P.underlying t with|some (.map kt _)=>(match P.underlying kt with|some (.int k')=>k==k'|_=>aD)|_=>aD
 |.str _=>match P.underlying t with|some (.map kt _)=>(match P.underlying kt with|some .string=>aC|_=>aD)|_=>aD
 |_=>aD
structure CM where
 rd:Bool
 wv:Bool
 sv:Bool
 mv:List aO
def CM.row(m:CM)(t:aO):Bool:=m.rd && !m.mv.contains t
abbrev aX:CM:=⟨aC,aD,aC,[]⟩
structure bS where
 P:bu
 pure:bL->Bool
 adopt:bL->Bool
 pprim:bL->Option (List V->Option V)
 iprim:bL->Option (List V->List O->Option (V × List O))
 rxf:bL->Nat->Bool:=fun _ _=>aD
 sqj:bL->Bool:=fun _=>aD
 seqp:bL->Option (List aO × (List V->Option (List (List V)))):=fun _=>aF
 ars:bL->List aO:=fun _=>[]
 can:bL->Option CM:=fun _=>aF
 ro:bL->Bool:=fun _=>aD
structure de where
 pc:bL->List V->Option V
 ic:bL->List V->List O->Option (V × List O)
def qW(P:bu)(mem:List O):List aO->List V->Option (V × List O)
 |t::_,x::_=>(nH P mem t x).map fun v=>(v,mem)
 |_,_=>aF
def uK(P:bu)(mem:List O)(t t':aO)(s x:V):Option (V × List O) :=
 match P.underlying t',s,x with
 |some (.int _),.nilS,.int .i64 n=>(gj P t).bind fun e=>if 0 < n/\fC P e n.toNat then (jq P e).bind fun z=>(ko z).map fun z=>newRow mem e (dh n.toNat z) 0 else aF
 |_,_,_=>aF
def wS(P:bu)(mem:List O):List aO->List V->Option (V × List O)
 | [t,t'],[s,x]=>if nc P t t' x then kJ P mem t s x else uK P mem t t' s x
 |_,_=>aF
def Gi(P:bu)(mem:List O):List aO->List V->Option (V × List O)
 | [t,t'],[s,x]=>if nc P t t' x then zJ P mem t s x else aF
 |_,_=>aF
def Gd(P:bu)(mem:List O):List aO->List V->Option (V × List O)
 | [t],[s]=>zH P mem t s
 |_,_=>aF
def Mm(P:bu)(mem:List O):List aO->List V->Option (V × List O)
 | [t],[.nilS]=>match P.underlying t with|some (.slice _)=>aA (.int .i64 0,mem)|_=>aF
 |_,_=>aF
def pF(f:V->V->Option V)(mem:List O):List V->Option (V × List O)
 |x::xs=>(vd f x xs).map fun v=>(v,mem)
 |_=>aF
def Gu(P:bu)(mem:List O):List aO->List V->Option (V × List O)
 |t::_,[m,k]=>(gL mem m).bind fun es=>if oF P t k then (nK es k).map fun es=>(.tup [],tC mem m es) else aF
 |_,_=>aF
def i6(P:bu)(b:Builtin)(mem:List O)(ts:List aO)(args:List V):Option (V × List O) :=
 match b with
 |.len=>qW P mem ts args
 |.append=>wS P mem ts args
 |.copy=>Gi P mem ts args
 |.min=>pF min2 mem args
 |.max=>pF max2 mem args
 |.delete=>Gu P mem ts args
 |.clear=>Gd P mem ts args
 |.cap=>Mm P mem ts args
 |_=>aF
def freezeAll:List Nat->List O->List O
 | [],mem=>mem
 |i::is,mem=>freezeAll is (freeze mem i)
def lX(P:bu)(f:bL):Bool :=
 match P.funcs[f]? with
 |some fn=>fn.body.isSome && fn.name != "runtime.NumGoroutine"
 |none=>aD
def iw:V->List Nat
 |.own id |.win id _ _ |.tail id _ |.ptr id _ _ |.mp id=>[id]
 |_=>[]
def AJ:V->List Nat
 |.fn _ caps=>caps.flatMap iw
 |v=>iw v
def p9:V->List Nat
 |.agg cs |.tup cs=>cs.flatMap AJ
 |.fn _ caps=>caps.flatMap AJ
 |v=>AJ v
def lG(v:V):List Nat:=p9 v
def ren0(ρ:Nat->Option Nat):V->V
 |.own id=>match ρ id with|some i=>.own i|none=>.junk
 |.win id a b=>match ρ id with|some i=>.win i a b|none=>.junk
 |.tail id a=>match ρ id with|some i=>.tail i a|none=>.junk
 |.ptr id a b=>match ρ id with|some i=>.ptr i a b|none=>.junk
 |.mp id=>match ρ id with|some i=>.mp i|none=>.junk
 |.bool b=>.bool b
 |.int k n=>.int k n
 |.str s=>.str s
 |.nilS=>.nilS
 |.sl l=>.sl l
 |.lit t l=>.lit t l
 |.rest t l=>.rest t l
 |.ref x o=>.ref x o
 |.hp t k o=>.hp t k o
 |.hm t k=>.hm t k
 |.nilM=>.nilM
 |.nilI=>.nilI
 |.ifc t x=>.ifc t x
 |.nilP=>.nilP
 |.nilF=>.nilF
 |.fn f caps=>if caps.isEmpty then .fn f [] else .junk
 |.tup vs=>if vs.isEmpty then .tup [] else .junk
 |_=>.junk
def ren1(ρ:Nat->Option Nat):V->V
 |.fn f caps=>.fn f (caps.map (ren0 ρ))
 |v=>ren0 ρ v
def ren2(ρ:Nat->Option Nat):V->V
 |.agg cs=>.agg (cs.map (ren1 ρ))
 |.tup cs=>.tup (cs.map (ren1 ρ))
 |.fn f caps=>.fn f (caps.map (ren1 ρ))
 |v=>ren1 ρ v
def sB(n0:Nat):List Nat->List Nat->List Nat
 |acc,[]=>acc
 |acc,i::is=>sB n0 (if i < n0 ||acc.contains i then acc else acc++[i]) is
def Eb(mem:List O)(id:Nat):List Nat :=
 match mem[id]? with
 |some (.box _ v _)=>p9 v
 |_=>[]
def vU(n0:Nat)(mem:List O):Nat->List Nat->List Nat
 |0,acc=>acc
 |k+1,acc =>
  let acc':=sB n0 acc (acc.flatMap (Eb mem))
  if acc'.length=acc.length then acc else vU n0 mem k acc'
def kx(ρ:Nat->Option Nat):O->O
 |.box t v fz=>if (ren2 ρ v).cells.all V.one then .box t (ren2 ρ v) fz else .dead
 |o=>o
def renD(ρ:Nat->Option Nat)(o:O):O:=if gN o then kx ρ o else .dead
def lB(i:Nat):List Nat->Option Nat
 | []=>aF
 |x::xs=>if x=i then aA 0 else (lB i xs).map fun k=>k+1
def rC(n0:Nat)(ids:List Nat)(i:Nat):Option Nat :=
 if i < n0 then aA i else (lB i ids).map fun k=>n0+k
def Ic(n0:Nat)(s:S):List Nat :=
 vU n0 s.mem s.mem.length (sB n0 [] (s.env.flatMap p9++(fK n0).flatMap fun i=>Eb s.mem i))
def kD(n0:Nat)(ids:List Nat)(s:S):S :=
 ⟨s.env.map (ren2 (rC n0 ids)),(s.mem.take n0).map (kx (rC n0 ids))++ids.map fun i=>renD (rC n0 ids) ((s.mem[i]?).getD .dead)⟩
def T3(n0:Nat)(s:S):S:=kD (min n0 s.mem.length) (Ic (min n0 s.mem.length) s) s
def ren3(ρ:Nat->Option Nat):V->V
 |.tup vs=>.tup (vs.map (ren2 ρ))
 |v=>ren2 ρ v
def dZ:List O->Nat
 |o::l=>cond (gN o) 0 (dZ l+1)
 | []=>0
def jS(args:List V)(mem:List O):List Nat:=vU (dZ mem) mem mem.length (sB (dZ mem) [] (args.flatMap p9))
def iQ(args:List V)(mem:List O):S:=kD (dZ mem) (jS args mem) ⟨args,mem⟩
def TE(rd:aO->Bool)(o:O):Bool :=
 match o with
 |.box _ _ _ |.map _=>aC
 |.row t _ _=>rd t
 |_=>aD
def PX(c:List O)(i:Nat):Bool :=
 match c[i]? with
 |some .dead=>aD
 |some _=>aC
 |none=>aD
def oQ(rd:aO->Bool)(c m1:List O)(i:Nat):Bool:=PX c i && (match m1[i]? with|some o=>TE rd o|none=>aD)
def wY(rd:aO->Bool)(n0:Nat)(c m1:List O)(v:V):List Nat :=
 (vU n0 m1 m1.length (sB n0 [] ((fK c.length).filter (oQ rd c m1)++p9 v))).filter fun i=>!oQ rd c m1 i
def Cm(rd:aO->Bool)(n0 N:Nat)(ids news:List Nat)(c m1:List O)(i:Nat):Option Nat :=
 if i < n0 then aF else cond (oQ rd c m1 i) (ids[i - n0]?) ((lB i news).map fun k=>N+k)
def wX(m1:List O)(k:Nat):O :=
 match m1[k]? with
 |some o=>cond (gN o) .dead o
 |none=>.dead
def uO(rd:aO->Bool)(n0:Nat)(ids:List Nat)(σ:Nat->Option Nat)(c m1:List O)(k:Nat)(o:O):O :=
 if k < n0 then wX m1 k else
 match lB k ids with
 |some q=>cond (oQ rd c m1 (n0+q)) (renD σ ((m1[n0+q]?).getD .dead)) .dead
 |none=>o
def pT(g:Nat->O->O):Nat->List O->List O
 |_,[]=>[]
 |i,o::l=>g i o::pT g (i+1) l
def uN(rd:aO->Bool)(n0:Nat)(ids:List Nat)(c mem:List O)(v:V)(m1:List O):V × List O :=
 let news:=wY rd n0 c m1 v
 let σ:=Cm rd n0 mem.length ids news c m1
 (ren3 σ v,pT (uO rd n0 ids σ c m1) 0 mem++news.map fun i=>renD σ ((m1[i]?).getD .dead))
def ni(rd:aO->Bool)(args:List V)(mem:List O)(v:V)(m1:List O):V × List O :=
 uN rd (dZ mem) (jS args mem) (iQ args mem).mem mem v m1
def rP(m:List O)(v:V):V :=
 match v8 m v with
 |some r=>(match m[r.1]? with|some (.row _ _ _)=>.win r.1 r.2.1 r.2.2|_=>v)
 |none=>v
def A9(m:List O)(v:V):V :=
 match v with
 |.own _ |.win _ _ _ |.tail _ _ |.nilS=>(match f9 m v with|some x=>x|none=>v)
 |v=>v
def KG(m:List O):V->V
 |.tup vs=>.tup (vs.map (A9 m))
 |v=>A9 m v
def v6:V->List Nat
 |.tup vs=>vs.flatMap jb
 |v=>jb v
def rH(b:Bool)(r:V × List O):V × List O:=cond b (KG r.2 r.1,freezeAll (v6 r.1) r.2) r
def C5(l:List aO)(m:List O):List Nat:=(fK m.length).filter fun i=>match m[i]? with
 |some (.box t _ _)=>l.contains (t+1000000)
 |_=>aD
def s7(l:List aO)(r:V × List O):V × List O:=cond (l.any fun t=>Nat.ble 1000000 t) (r.1,freezeAll (C5 l r.2) r.2) r
def iP(rd:CM)(c:List O)(v:V)(m1:List O):V × List O :=
 uN rd.row (dZ c) (List.range' (dZ c) (c.length - dZ c)) c c (s7 rd.mv (rH rd.sv (cond rd.wv (rP m1 v) v,m1))).1 (s7 rd.mv (rH rd.sv (cond rd.wv (rP m1 v) v,m1))).2
def sI(call:de)(rd:CM)(f:bL)(args:List V)(mem:List O):Option (V × List O) :=
 (call.ic f (iQ args mem).env (iQ args mem).mem).map fun r=>ni rd.row args mem (iP rd (iQ args mem).mem r.1 r.2).1 (iP rd (iQ args mem).mem r.1 r.2).2
noncomputable section
def AM(ro:Bool)(mem:List O)(r:Option (V × List O)):Option (V × List O):=r.bind fun x=>if !ro ||sW (x.2.take mem.length) mem then aA x else aF
theorem Ej{ro:Bool}{mem:List O}{r:Option (V × List O)}{x:V × List O}(h:AM ro mem r=aA x):r=aA x/\(ro=aC->x.2.take mem.length=mem):=by
 unfold AM at h;cases r with
 |none=>cases h
 |some y =>
  rw[bk]at h;split at h
  ·rename_i hc;cases h;exact⟨rfl,fun e=>by subst e;exact HF hc⟩
  ·cases h
theorem Jy{ro:Bool}{mem:List O}{r:Option (V × List O)}{x:V × List O}(h:r=aA x)(hr:ro=aC->x.2.take mem.length=mem):AM ro mem r=aA x:=by
 unfold AM;rw[h,bk,aU];cases ro
 ·rfl
 ·rw[hr rfl,Od];rfl
def jR (cfg:bS) (call:de) (dr:Bool) (f:bL) (args:List V) (mem:List O):Option (V × List O) :=
 if !lX cfg.P f then aF else
 if cfg.pure f then
  (cC (k9 mem) args).bind fun as0=>(call.pc f as0).bind fun r =>
   let ids:=args.flatMap (kR mem)
   if xB r then
    if dr && !ids.isEmpty then aF else aA (qj (cfg.adopt f && !dr) (freezeAll ids mem) r)
   else aA (qj (cfg.adopt f && !dr) mem r)
 else if dr then aF else
  match cfg.can f with
  |none=>call.ic f args mem
  |some rd=>AM (cfg.ro f) mem (sI call rd f args mem)
def qU:Op->Bool
 |.alloc ..=>aC
 |_=>aD
def xv:Op->Bool
 |.load ..=>aC
 |_=>aD
def gl:Op->Bool
 |.call c=>match c.callee with
  |.value _=>aC
  |_=>aD
 |_=>aD
def pL:Op->Bool
 |.buildSlice ..=>aC
 |_=>aD
def z6(cfg:bS)(o:bj):Bool :=
 o.bx && !o.sq && (match o.op with
  |.call c=>match c.callee with
   |.value (.func f)=>!cfg.pure f
   |_=>aD
  |_=>aD)
def tj(S:List Nat):Nat->List O->List O
 |_,[]=>[]
 |i,o::l=>cond (S.contains i) o .dead::tj S (i+1) l
def keepOnly(S:List Nat)(mem:List O):List O:=tj S 0 mem
def qJ(S:List Nat):Nat->List O->List O->List O
 |_,[],m=>m
 |_,_::_,[]=>[]
 |i,o::l,p::m=>cond (S.contains i) p o::qJ S (i+1) l m
def tP(S:List Nat)(mem m:List O):List O:=qJ S 0 mem m
def HW(S:List Nat)(mem:List O):Bool:=S.all fun i=>match mem[i]? with|some o=>gN o|none=>aC
def pG(call:de)(f:bL)(args:List V)(mem:List O):Option (V × List O) :=
 if !HW (args.flatMap lG) mem then aF else
 (call.ic f args (keepOnly (args.flatMap lG) mem)).bind fun r=>if mem.length<=r.2.length then aA (r.1,tP (args.flatMap lG) mem r.2) else aF
def fk(dr:Bool)(o:bj):Bool:=dr && !(gl o.op && (o.sq ||o.bx))
def rF(o:Op):Bool :=
 match o with
 |.load .. |.indexAddr .. |.slice ..=>aC
 |.call c=>match c.callee with
  |.builtin .len=>aC
  |_=>aD
 |_=>aD
def mB(mem:List O):V->Bool
 |.ref _ _=>aC
 |.ptr id _ _=>match mem[id]? with|some (.box _ _ _)=>aC|_=>aD
 |_=>aD
def nF:V->Bool
 |.hp _ _ _=>aC
 |_=>aD
def KO:V->Bool
 |.ref _ _ |.ptr _ _ _ |.hp _ _ _=>aC
 |_=>aD
def pR:V->Bool
 |.str _ |.sl _ |.nilS |.lit _ _ |.ref _ _ |.ptr _ _ _=>aC
 |_=>aD
def abh:V->Bool
 |.lit _ _=>aC
 |_=>aD
def pn:Builtin->List V->Bool
 |.len,x::_=>pR x
 |.append,[s,x]=>abh s && pR x
 |_,_=>aD
def tB:Builtin->List V->Bool
 |.len,.hm _ _::_=>aD
 |.len,_=>aC
 |_,_=>aD
def tD(env:List V):List V:=env.map (ren2 fun _=>aF)
def t7(P:bu)(mem:List O)(t:aO)(p v:V):Option (List O) :=
 if nF p && !(iF mem v).isEmpty then (iy mem v).bind fun v'=>nO P (freezeAll (iF mem v) mem) t p v' else nO P mem t p v
def c8(cfg:bS)(call:de)(dr:Bool)(o:bj)(env:List V)(mem:List O):Option (V × List O) :=
 let P:=cfg.P
 let ρ:=bv env
 match o.op with
 |.move x=>(ρ x).bind fun v=>if o.bx && !dr then (f9 mem v).map fun w=>(w,freezeAll (jb v) mem) else aA (v,mem)
 |.assign x=>(ρ x).bind fun v=>if o.bx && !dr then (f9 mem v).map fun w=>(w,freezeAll (jb v) mem) else
   match v with
   |.nilS=>if dr then aA (v,mem) else
    match gj P o.type with
    |some e=>if fC P e 0 then aA (newRow mem e [] 0) else aA (v,mem)
    |none=>aA (v,mem)
   |v=>aA (v,mem)
 |.pick c a b=>(ρ c).bind fun c=>(ρ a).bind fun a=>(ρ b).bind fun b=>match c with |.bool t=>aA (if t then a else b,mem)|_=>aF
 |.alloc t=>(jq P t).bind fun z=>if z.cells.length=P.cellsOf t/\z.cells.all V.one then (if o.bx then aA (.junk,mem) else if dr && (kj t 0 mem).isSome then aF else tJ P mem t z) else aF
 |.box t x=>(ρ x).bind fun v=>if o.bx && P.cellsOf t==0 then aF else if v.cells.length=P.cellsOf t/\v.cells.all V.one then (if dr && (kj t 0 mem).isSome then aF else tJ P mem t v) else aF
 |.build t parts=>(cC (pW env) parts.toList).bind fun ps=>(Cj P t ps).map fun v=>(v,mem)
 |.buildSlice t len parts=>(cC (pW env) parts.toList).bind fun ps =>
   (gj P t).bind fun e=>(tA 0 ps).bind fun els =>
    if els.length=len/\fC P e len/\len * P.cellsOf e<=16777216/\els.all (fun y=>y.cells.length==P.cellsOf e && y.cells.all V.one) then (if o.bx then aA (.lit e els,mem) else aA (newRow mem e els 0)) else aF
 |.load t a=>(ρ a).bind fun p=>if o.bx && cond o.sq (nF p) (!mB mem p) then aF else (gE P mem t p).map fun v=>(v,mem)
 |.nilCheck x=>(ρ x).bind fun v=>if KO v then aA (v,mem) else aF
 |.store t a x=>(ρ a).bind fun p=>(ρ x).bind fun v=>if o.bx && nF p then aF else (t7 P mem t p v).map fun m=>(.tup [],m)
 |.binOp op t x y _=>(ρ x).bind fun a=>(ρ y).bind fun b=>(n6 P op t a b).map fun v=>(v,mem)
 |.unOp op _ x=>(ρ x).bind fun a=>(Fi op a).map fun v=>(v,mem)
 |.convert s d x=>(ρ x).bind fun a=>(py P (if dr then [] else mem) s d a).map fun v=>(v,mem)
 |.makeFunc (.func f) first caps=>if first.isEmpty then (if f < iS then (cC ρ caps.toList).map fun cs=>(.fn f cs,mem) else aF) else if caps.isEmpty then (cC ρ first.toList).map fun cs=>(.fn (iS+f) cs,mem) else aF
 |.slice t x lo hi mx=>(ρ x).bind fun a=>if o.bx && !o.sq && !pR a then aF else (lK P mem t a (lo.map ρ) (hi.map ρ) (mx.map ρ)).map fun v=>(v,mem)
 |.fieldAddr s x f=>(ρ x).bind fun a=>(CZ P s a f).map fun v=>(v,mem)
 |.field s x f=>(ρ x).bind fun a=>match a with |.agg cs=>(xj P s f).bind fun (off,t)=>(rl P t cs off).map fun v=>(v,mem)|_=>aF
 |.indexAddr t x i=>(ρ x).bind fun a=>(ρ i).bind fun b=>if o.bx && !o.sq && !pR a then aF else (kp P mem t a b).map fun v=>(v,mem)
 |.index t x i=>(ρ x).bind fun a=>(ρ i).bind fun b=>(qT P t a b).map fun v=>(v,mem)
 |.extract t i=>(ρ t).bind fun a=>match a with |.tup vs=>(vs[i]?).map fun v=>(v,mem)|_=>aF
 |.makeSlice t n c=>(ρ n).bind fun a=>(ρ c).bind fun b=>qX P mem t a b
 |.makeInterface t x=>(ρ x).bind fun v=>(Iz P t v).map fun u=>(u,mem)
 |.typeAssert x _ t ok=>(ρ x).bind fun v=>(yQ P t ok v).map fun u=>(u,mem)
 |.makeMap t aF=>if (xF P t).isSome then (if dr && (ny t 0 mem).isSome then aF else aA (DJ mem t)) else aF
 |.lookup t m k ok=>(ρ m).bind fun m=>(ρ k).bind fun k =>
   (gL mem m).bind fun es=>if oF P t k then
      (xF P t).bind fun e=>(jq P e).bind fun z=>(gM es k).map fun r =>
       (if ok then .tup [r.getD z,.bool r.isSome] else r.getD z,mem)
     else aF
 |.mapUpdate t m k x=>(ρ m).bind fun m=>(ρ k).bind fun k=>(ρ x).bind fun x =>
   (gL mem m).bind fun es=>if oF P t k/\x.inMap then (mO es k x).map fun es=>(.tup [],tC mem m es) else aF
 |.call c =>
  match c.callee with
  |.builtin b=>(cC ρ c.args.toList).bind fun args=>if o.bx && !cond o.sq (tB b args) (pn b args) then aF else i6 P b mem c.argTypes.toList args
  |.value f=>(ρ f).bind fun fv=>(cC ρ c.args.toList).bind fun args =>
    match fv with
    |.fn f caps=>if iS<=f then (if dr ||o.bx ||o.sq then aF else jR cfg call dr (f - iS) (caps++args) mem) else if o.bx && !o.sq && !cfg.pure f then (if z6 cfg o && lX P f then pG call f (args++caps) mem else aF) else jR cfg call dr f (args++caps) mem
    |_=>aF
  |_=>aF
 |_=>aF
def eB(cfg:bS)(call:de)(dr:Bool)(o:bj)(env:List V)(mem:List O):Option (V × List O) :=
 if o.rx then (c8 cfg call aC o (tD env) []).bind fun r=>match r.2 with | []=>aA (r.1,mem)|_=>(iy r.2 r.1).map fun v=>(v,mem)
 else c8 cfg call dr o env mem
def fI(env:List V):Option (Nat × Bool)->Option Bool
 |none=>aA aC
 |some (t,want) =>
  match env[t]? with
  |some (.bool b)=>aA (b==want)
  |some (.tup [])=>aA aD
  |_=>aF
def fH(env:List V):Option Nat->V->List V
 |none,_=>env
 |some d,v=>env.set d v
def gW(cfg:bS)(call:de)(dr:Bool):List bj->S->Option S
 | [],s=>aA s
 |o::rest,s =>
  (fI s.env o.guard).bind fun w =>
   if w then (eB cfg call (fk dr o) o s.env s.mem).bind fun (v,m)=>gW cfg call dr rest ⟨fH s.env o.dst v,m⟩
   else gW cfg call dr rest ⟨fH s.env o.dst (.tup []),s.mem⟩
def gJ(env:List V):List Nat->List V
 | []=>env
 |t::ts=>gJ (env.set t .junk) ts
def dO(n0:Nat)(f:List Nat)(s:S):S:=T3 n0 ⟨gJ s.env f,s.mem⟩
def eX(step:S->Option (Ex × S)):Nat->S->Option (Ex × S)
 |0,_=>aF
 |n+1,s=>(step s).bind fun r =>
  match r with
  |(.norm,s')=>eX step n s'
  |(.exit i,s')=>aA (.exit i,s')
  |(.ret,s')=>aA (.ret,s')
def v5:List V->List Nat->List V->List V
 |env,p::ps,v::vs=>v5 (env.set p v) ps vs
 |env,_,_=>env
def v9(cfg:bS)(g:Nat)(s:S):Option S :=
 match s.env[g]? with
 |some (.fn f caps)=>if iS<=f then aF else (cfg.seqp f).bind fun th=>(cC (v7 (cfg.sqj f) s.mem) caps).bind fun as0=>(th.2 as0).map fun l =>
   ⟨s.env.set g (.rest th.1 (l.map .tup)),freezeAll (caps.flatMap (pI (cfg.sqj f) s.mem)) s.mem⟩
 |_=>aF
def jE(o:bj):List Nat :=
 (o.op.operands.toList.filterMap fun |.tmp t=>aA t|_=>aF)++(match o.guard with|some (t,_)=>[t]|none=>[])
def kg(o:bj):Bool:=!o.rx && o.bx && !o.sq && xv o.op
def ij(o:bj):Bool:=!o.rx && gl o.op && o.bx && o.sq
def jX(o:bj):Bool:=!o.rx && o.bx && o.sq && rF o.op
def xw:Op->Bool
 |.store ..=>aC
 |_=>aD
def kO(cfg:bS)(o:bj):Bool:=!o.rx && (z6 cfg o ||(o.bx && xw o.op))
def E6(cfg:bS):List bj->Bool
 | []=>aC
 |o::rest=>(!(kg o ||kO cfg o) ||(jE o).all fun t=>o.dst != aA t && rest.all fun q=>q.dst != aA t) && E6 cfg rest
def nD(env:List V)(x:fi):List Nat:=match bv env x with|some v=>lG v|none=>[]
def vV(env:List V)(o:bj):List Nat :=
 match o.op with
 |.load _ a=>nD env a
 |_=>[]
def nA(env:List V)(o:bj):List Nat :=
 match o.op with
 |.call c=>c.args.toList.flatMap (nD env)
 |.store _ a _=>nD env a
 |_=>[]
def s6(cfg:bS)(l:List bj)(env:List V):Bool :=
 (l.all fun o=>!(o.bx && qU o.op) ||jt (o.dst.getD env.length) env.length) &&
 (!(l.any (kO cfg)) ||(E6 cfg l && l.all fun c=>!kO cfg c ||l.all fun o=>!kg o ||(vV env o).all fun i=>!(nA env c).contains i))
def nj(o:bj)(env:List V)(mem:List O):List Nat :=
 match o.op with
 |.call c=>match cC (bv env) c.args.toList with
  |some as0=>jS as0 mem
  |none=>[]
 |_=>[]
def Cr(cfg:bS)(o:bj):Bool :=
 match o.op with
 |.call c=>match c.callee with
  |.value (.func f)=>!cfg.pure f && (cfg.can f).isSome
  |_=>aD
 |_=>aD
def nk(cfg:bS)(o:bj):Bool :=
 match o.op with
 |.call c=>match c.callee with
  |.value (.func f)=>cfg.ro f
  |_=>aD
 |_=>aD
def lD(env:List V)(x:fi):List Nat:=match bv env x with|some v=>iw v|none=>[]
def kY(env:List V)(o:bj):List Nat :=
 match o.op with
 |.load _ a=>lD env a
 |.indexAddr _ x _=>lD env x
 |.slice _ x _ _ _=>lD env x
 |.call c=>c.args.toList.flatMap (lD env)
 |_=>[]
def E7:List bj->Bool
 | []=>aC
 |o::rest=>(!jX o ||(jE o).all fun t=>o.dst != aA t && rest.all fun q=>q.dst != aA t) && E7 rest
def Cs(cfg:bS)(l:List bj)(env:List V)(fs:List Nat):Bool :=
 E7 l && (l.all fun o=>!ij o ||Cr cfg o) && l.all fun o=>!jX o ||(kY env o).all fun i=>!fs.contains i
def jl(cfg:bS)(call:de):List bj->S->List Nat->Option (S × List Nat)
 | [],s,fs=>aA (s,fs)
 |o::rest,s,fs =>
  (fI s.env o.guard).bind fun w =>
   if w then (eB cfg call (fk aC o) o s.env s.mem).bind fun (v,m)=>jl cfg call rest ⟨fH s.env o.dst v,m⟩ (if ij o && !nk cfg o then nj o s.env s.mem++fs else fs)
   else jl cfg call rest ⟨fH s.env o.dst (.tup []),s.mem⟩ fs
def mc(cfg:bS)(call:de)(dr:Bool)(l:List bj)(s:S):Option S :=
 if dr && l.any ij then (jl cfg call l s []).bind fun r=>if Cs cfg l r.1.env r.2 then aA r.1 else aF else gW cfg call dr l s
def exec(cfg:bS)(call:de)(n n0:Nat):C->S->Option (Ex × S)
 |.skip,s=>aA (.norm,s)
 |.ops dr l,s=>(mc cfg call dr l s).bind fun s=>if !dr ||s6 cfg l s.env then aA (.norm,s) else aF
 |.seq a b,s=>(exec cfg call n n0 a s).bind fun r =>
   match r with
   |(.norm,s')=>exec cfg call n n0 b s'
   |(.exit i,s')=>aA (.exit i,s')
   |(.ret,s')=>aA (.ret,s')
 |.cond c a b,s=>(bv s.env c).bind fun v =>
   match v with
   |.bool t=>if t then exec cfg call n n0 a s else exec cfg call n n0 b s
   |_=>aF
 |.block id c,s=>(exec cfg call n n0 c s).map fun r =>
   match r with
   |(.norm,s')=>(.norm,s')
   |(.exit i,s')=>if i=id then (.norm,s') else (.exit i,s')
   |(.ret,s')=>(.ret,s')
 |.loop f c,s=>(eX (fun s=>exec cfg call n n0 c (dO n0 f s)) n s).map fun r=>(r.1,dO n0 f r.2)
 |.exit i,s=>aA (.exit i,s)
 |.ret,s=>aA (.ret,s)
 |.start g,s=>(v9 cfg g s).map fun s=>(.norm,s)
 |.uncons g ps ws a b,s =>
  match s.env[g]? with
  |some (.rest _ [])=>exec cfg call n n0 b s
  |some (.rest ts (.tup vs::l)) =>
   if vs.length=ps.length then (exec cfg call n n0 a ⟨v5 (s.env.set g .junk) ps vs,s.mem⟩).map fun r=>(r.1,⟨(gJ r.2.env ws).set g (.rest ts l),r.2.mem⟩) else aF
  |_=>aF
 |.cseq f a b,s=>(exec cfg call n n0 a s).bind fun r =>
   match r with
   |(.norm,s')=>exec cfg call n n0 b (dO n0 f s')
   |(.exit i,s')=>aA (.exit i,s')
   |(.ret,s')=>aA (.ret,s')
def oM(P:bu)(s:S):RV->Option V
 |.tmp t=>s.env[t]?
 |.cell t ty=>(s.env[t]?).bind fun p=>gE P s.mem ty p
def rE(cfg:bS)(call:de)(n:Nat)(fa:FA)(args:List V)(mem:List O):Option (List V × List O) :=
 if args.length=fa.np/\fa.np<=fa.nt then
  (exec cfg call n mem.length fa.body ⟨args++dh (fa.nt - fa.np) (.tup []),mem⟩).bind fun r =>
   match r with
   |(.exit _,_)=>aF
   |(_,s)=>(cC (oM cfg.P s) fa.results).map fun vs=>(vs,s.mem)
 else aF
def kH:List dF->List (List Nat)->List (List Nat)
 | [],acc=>acc
 |o::rest,acc=>kH rest (acc++[(o.after.toList.flatMap fun e=>if Region.binds .any e then e.on::acc.getD e.on [] else []).eraseDups])
def rv:Op->Bool
 |.load .. |.indexAddr .. |.slice .. |.lookup ..=>aC
 |.call c=>match c.callee with
  |.builtin .min |.builtin .max=>aD
  |_=>aC
 |_=>aD
def po:Op->Bool
 |.indexAddr .. |.slice ..=>aC
 |.call c=>match c.callee with
  |.builtin .len |.builtin .append=>aC
  |_=>aD
 |_=>aD
def vj:Op->Bool
 |.call c=>match c.callee with
  |.builtin .append=>aC
  |_=>aD
 |_=>aD
def lc:Op->Bool
 |.store .. |.alloc _ |.box .. |.buildSlice .. |.makeSlice .. |.makeMap .. |.mapUpdate ..=>aC
 |.call c=>match c.callee with
  |.builtin .len |.builtin .min |.builtin .max=>aD
  |.builtin _=>aC
  |_=>aD
 |_=>aD
def Rb:Op->Bool
 |.alloc _ |.box .. |.buildSlice .. |.makeSlice ..=>aC
 |.call c=>match c.callee with
  |.builtin .append=>aC
  |_=>aD
 |_=>aD
def dP(o:bj):Bool:=!o.rx && ((lc o.op && !(o.bx && (pL o.op ||vj o.op ||qU o.op))) ||(gl o.op && (o.sq ||o.bx)))
def p8(o:bj):Bool:=!o.rx && rv o.op && !(o.bx && !o.sq && po o.op)
def pY(o:bj):Bool:=!o.rx && (Rb o.op ||(gl o.op && o.bx && !o.sq) ||(xw o.op && o.bx))
def lV(a b:bj):Bool :=
 (match a.dst with|some d=>(jE b).contains d ||b.dst==aA d|none=>aD) ||
 (match b.dst with|some d=>(jE a).contains d|none=>aD)
def pN(a b:bj):Bool:=(dP a && (p8 b ||dP b)) ||(p8 a && dP b)
def kz(a b:bj):Bool:=(pY a && kg b) ||(kg a && pY b) ||(ij a && jX b) ||(jX a && ij b)
def jT(a b:bj):Bool:=lV a b ||(pN a b && !kz a b)
def writers(l:List bj)(d:Nat):List Nat:=(fK l.length).filter fun i=>(l[i]?).bind (·.dst)==aA d
def Af(l:List bj):Bool :=
 (fK l.length).all fun m =>
  match l[m]? with
  |some ⟨dst,.box T _,_,g,aC,_,rx⟩ =>
   match dst with
   |some d=>g.isNone && !rx &&
    match writers l d with
    | [k,m']=>m'==m && (match l[k]? with
     |some ⟨_,.alloc T',_,g',bx',_,rx'⟩=>T'==T && g'.isNone && bx' && !rx'
     |_=>aD)
    |_=>aD
   |none=>aD
  |_=>aC
def zP(ops:Array dF)(l:List bj):Bool :=
 let b:=kH ops.toList []
 Af l &&
 (ops.toList.zipIdx.all fun x=>x.1.after.toList.all fun e=>!Region.binds .any e ||decide (e.on < x.2)) &&
 (fK l.length).all fun j=>(fK j).all fun i =>
  match l[i]?,l[j]? with
  |some oi,aA oj=>!jT oi oj ||(b.getD j []).contains i
  |_,_=>aC
def C4(ops:Array dF)(l:List bj):Bool :=
 let b:=kH ops.toList []
 (l.all fun o=>o.guard.isNone && !o.rx && match o.op with |.assign _=>!o.bx |.makeSlice ..=>aC|_=>aD) &&
 (ops.toList.zipIdx.all fun x=>x.1.after.toList.all fun e=>!Region.binds .any e ||decide (e.on < x.2)) &&
 (fK l.length).all fun j=>(fK j).all fun i =>
  match l[i]?,l[j]? with
  |some oi,aA oj=>!lV oi oj ||(b.getD j []).contains i
  |_,_=>aC
def w7(ops:Array dF)(l:List bj):Bool:=zP ops l ||C4 ops l
def AD(ops:Array dF)(o:dF):Option bj :=
 match o.guard with
 |none=>aA ⟨o.dst,o.op,o.type,aF,aD,aD,aD⟩
 |some (j,want)=>((ops[j]?).bind (·.dst)).map fun d=>⟨o.dst,o.op,o.type,aA (d,want),aD,aD,aD⟩
def ou:List bj->List (Bool × Bool × Bool)->List bj
 |q::qs,x::xs=>⟨q.dst,q.op,q.type,q.guard,x.1 ||q.bx,x.2.1,x.2.2⟩::ou qs xs
 |qs,_=>qs
def Dq(l:List bj)(d T:Nat):Bool :=
 (match l.filter fun o=>o.dst==aA d with
  | [a]=>a.guard.isNone && (match a.op with |.alloc T'=>T'==T|_=>aD)
  |_=>aD) &&
 (match l.filter fun o=>(jE o).contains d with
  | [s]=>s.guard.isNone && s.dst.isNone && (match s.op with |.store T' (.tmp d') y=>T'==T && d'==d && (match y with |.tmp e=>e != d|_=>aC)|_=>aD)
  |_=>aD)
def PG(l:List bj)(o:bj):bj :=
 match o.op with
 |.alloc T=>match o.dst with
  |some d=>cond (Dq l d T) ⟨aA d,.alloc T,o.type,o.guard,aC,o.sq,o.rx⟩ o
  |none=>o
 |.store T (.tmp d) y=>cond (Dq l d T && o.guard.isNone && o.dst.isNone) ⟨aA d,.box T y,o.type,aF,aC,o.sq,o.rx⟩ o
 |_=>o
def Ae(l:List bj):List bj:=l.map (PG l)
def Qd(o:bj):Bool:=!(o.bx && qU o.op) && (rv o.op ||lc o.op)
def K3(o:bj):Bool:=!(o.bx && qU o.op) && lc o.op
def sK(b:List (List Nat))(x y:Nat):Bool:=x==y ||(b.getD y []).contains x ||(b.getD x []).contains y
def HQ(m:Nat)(l:List bj)(b:List (List Nat)):List (Bool × Bool × Bool) :=
 l.zipIdx.map fun x =>
  let rx:=(m==2 ||m==5) && rF x.1.op && l.zipIdx.any fun y=>(gl y.1.op ||K3 y.1) && !sK b x.2 y.2
  let sq:=gl x.1.op && l.zipIdx.all fun y=>!Qd y.1 ||((m==1 ||m==4 ||m==5) && pL y.1.op) ||(m==4 && po y.1.op) ||sK b x.2 y.2 ||((m==2 ||m==5) && rF y.1.op)
  let st:=(m==1 ||m==3 ||m==4) && xw x.1.op && l.zipIdx.any fun y=>xv y.1.op && !sK b x.2 y.2
  if m==6 then
   let cl:=gl x.1.op && l.zipIdx.any fun y=>rF y.1.op && !sK b x.2 y.2
   let ls:=rF x.1.op && l.zipIdx.any fun y=>gl y.1.op && !sK b x.2 y.2
   (cl ||ls,cl ||ls ||(gl x.1.op && l.zipIdx.all fun y=>!Qd y.1 ||sK b x.2 y.2),aD)
  else if m==4 then
   let inc:=l.zipIdx.any fun y=>(gl y.1.op ||K3 y.1) && !sK b x.2 y.2
   (xv x.1.op ||pL x.1.op ||(po x.1.op && inc) ||st ||(gl x.1.op && !sq),sq,aD)
  else if m==3 then
   let inc:=l.zipIdx.any fun y=>(gl y.1.op ||K3 y.1) && !sK b x.2 y.2
   (xv x.1.op ||pL x.1.op ||(po x.1.op && inc) ||st,aD,gl x.1.op && inc)
  else (st ||m==1 && (xv x.1.op ||pL x.1.op ||(gl x.1.op && !sq)) ||m==5 && pL x.1.op,sq,rx)
def ql(a b:List Nat):List Nat:=a.foldr (fun t acc=>if acc.contains t then acc else t::acc) b
def abW(o:bj)(out:List Nat):List Nat :=
 let rs:=(o.op.operands.toList.filterMap fun |.tmp t=>aA t|_=>aF)++(match o.guard with|some (t,_)=>[t]|none=>[])
 ql rs (match o.dst with|some d=>out.filter (fun t=>!(t==d))|none=>out)
def PY(i:Nat):List (Nat × List Nat)->List Nat
 | []=>[]
 |(j,l)::r=>if i=j then l else PY i r
def live(res:List Nat):List (Nat × List Nat)->C->List Nat->List Nat
 |_,.skip,out=>out
 |_,.ops _ l,out=>l.foldr abW out
 |env,.seq a b,out=>live res env a (live res env b out)
 |env,.cond c a b,out=>ql (match c with |.tmp t=>[t]|_=>[]) (ql (live res env a out) (live res env b out))
 |env,.block i c,out=>live res ((i,out)::env) c out
 |env,.loop _ c,_=>live res env c []
 |env,.exit i,_=>PY i env
 |_,.ret,_=>res
 |_,.start g,out=>ql [g] out
 |env,.uncons g ps _ a b,out=>ql [g] (ql ((live res env a out).filter fun t=>!ps.contains t) (live res env b out))
 |env,.cseq _ a b,out=>live res env a (live res env b out)
def iG:C->Bool
 |.start _=>aC
 |_=>aD
def headD:C->Option Nat
 |.ops _ l=>l.findSome? (·.dst)
 |.seq a _=>headD a
 |_=>aF
def Gn(pr:Nat->Bool)(b:C):Bool :=
 match headD b with
 |some d=>pr (2000000+d)
 |none=>aD
def jm(pr:Nat->Bool)(nt:Nat)(res:List Nat):List (Nat × List Nat)->C->List Nat->C
 |env,.seq a b,out=>cond (Gn pr b && !iG a)
   (.cseq ((fK nt).filter fun t=>!(ql (live res env b out) (ql res (env.flatMap (·.2)))).contains t) (jm pr nt res env a (live res env b out)) (jm pr nt res env b out))
   (.seq (jm pr nt res env a (live res env b out)) (jm pr nt res env b out))
 |env,.cond c a b,out=>.cond c (jm pr nt res env a out) (jm pr nt res env b out)
 |env,.block i c,out=>.block i (jm pr nt res ((i,out)::env) c out)
 |env,.loop _ c,_ =>
  let h:=live res env c []
  let keep:=ql h (ql res (env.flatMap (·.2)))
  .loop ((fK nt).filter fun t=>!keep.contains t) (jm pr nt res env c h)
 |_,.skip,_=>.skip
 |_,.ops d l,_=>.ops d l
 |_,.exit i,_=>.exit i
 |_,.ret,_=>.ret
 |_,.start g,_=>.start g
 |_,.uncons g ps ws a b,_=>.uncons g ps ws a b
 |env,.cseq f a b,out=>.cseq f (jm pr nt res env a (live res env b out)) (jm pr nt res env b out)
def cL:C->C
 |.seq a b=>.seq (cL a) (cL b)
 |.cond c a b=>.cond c (cL a) (cL b)
 |.block i c=>.block i (cL c)
 |.loop _ c=>.loop [] (cL c)
 |.skip=>.skip
 |.ops d l=>.ops d l
 |.exit i=>.exit i
 |.ret=>.ret
 |.start g=>.start g
 |.uncons g ps ws a b=>.uncons g ps ws a b
 |.cseq _ a b=>.seq (cond (iG a) (.uncons 0 [] [] (.start 0) .skip) (cL a)) (cL b)
def dD:C->List Nat
 |.ops _ l=>l.filterMap (·.dst)
 |.seq a b=>dD a++dD b
 |.cond _ a b=>dD a++dD b
 |.block _ c=>dD c
 |.loop _ c=>dD c
 |.uncons _ _ _ a b=>dD a++dD b
 |.cseq _ a b=>dD a++dD b
 |_=>[]
def fd:C->List Nat
 |.seq a b=>fd a++fd b
 |.cond _ a b=>fd a++fd b
 |.block _ c=>fd c
 |.loop _ c=>fd c
 |.uncons _ _ _ a b=>fd a++fd b
 |.cseq _ a b=>fd a++fd b
 |.exit i=>[i]
 |_=>[]
def yK:C->Bool
 |.skip=>aC
 |.ops _ _=>aC
 |.seq a b=>yK a && yK b
 |_=>aD
def im:C->Bool
 |.start _=>aC
 |.seq a b=>im a ||im b
 |.cond _ a b=>im a ||im b
 |.block _ c=>im c
 |.loop _ c=>im c
 |.uncons _ _ _ a b=>im a ||im b
 |.cseq _ a b=>im a ||im b
 |_=>aD
def ry(g:Nat):Nat:=1000000+g
def Ea(g:Nat)(ps:List Nat)(pa pc:C):Option C :=
 if yK pa && !im pa && !im pc && !(fd (.seq pa pc)).contains (ry g) then
  aA (.seq (.start g) (.block (ry g) (.loop [] (.uncons g ps (ps++(dD pa++dD pc)) (.seq pa pc) (.exit (ry g))))))
 else aF
def Bh(ops:Array dF)(l:List bj):List (Nat × Bool)->Option (List bj)
 | []=>aF
 |(m,lz)::r =>
  let l0:=if lz then Ae l else l
  let l1:=ou l0 (HQ m l0 (kH ops.toList []))
  if w7 ops l1 then aA l1 else Bh ops l r
def Ch(pr:Nat->Bool)(o:bj):bj :=
 match o.op,o.dst with
 |.box _ _,aA d=>cond (pr (5000000+d)) ⟨o.dst,o.op,o.type,o.guard,o.bx,o.sq,aC⟩ o
 |.assign _,aA d |.move _,aA d |.buildSlice ..,aA d=>cond (pr (7000000+d)) ⟨o.dst,o.op,o.type,o.guard,aC,o.sq,o.rx⟩ o
 |_,_=>o
def dN(pr:Nat->Bool):Code->Option C
 |.skip=>aA .skip
 |.region _ ops draw=>(cC (AD ops) ops.toList).bind fun l =>
   if draw then (Bh ops l ((if pr (((ops[0]?).bind (·.dst)).getD 0) then [(2,aD)] else if pr (4000000+((ops[0]?).bind (·.dst)).getD 0) then [(1,aD)] else if pr (6000000+((ops[0]?).bind (·.dst)).getD 0) then [(5,aD)] else if pr (8000000+((ops[0]?).bind (·.dst)).getD 0) then [(6,aD)] else [])++[(0,aD),(1,aD),(0,aC),(1,aC),(4,aD),(4,aC),(2,aD),(3,aD),(2,aC),(3,aC)])).map (.ops aC)
   else aA (.ops aD (l.map (Ch pr)))
 |.seq a b=>(dN pr a).bind fun a=>(dN pr b).map fun b=>.seq a b
 |.cond c a b=>(dN pr a).bind fun a=>(dN pr b).map fun b=>.cond c a b
 |.block id c=>(dN pr c).map (.block id)
 |.loop c=>(dN pr c).map fun c=>.loop [] c
 |.exit i=>aA (.exit i)
 |.ret=>aA .ret
 |.rangeFunc (.tmp g) ps a c=>(dN pr a).bind fun pa=>(dN pr c).bind fun pc=>Ea g ps.toList pa pc
 |_=>aF
def mK(l:Nat):Nat:=3000000+2 * l
def od(l:Nat):Nat:=3000001+2 * l
def Do:Code->Option Nat
 |.label l=>aA l
 |_=>aF
def gy:Code->List Nat
 |.seq a b=>gy a++gy b
 |.label l=>[l]
 |_=>[]
def en:C->List Nat
 |.seq a b=>en a++en b
 |.cond _ a b=>en a++en b
 |.block id c=>(en c).filter fun i=>!(i==id)
 |.loop _ c=>en c
 |.uncons _ _ _ a b=>en a++en b
 |.cseq _ a b=>en a++en b
 |.exit i=>[i]
 |_=>[]
def eG(pr:Nat->Bool):Code->Option C
 |.seq a b =>
  match Do a with
  |some l=>(eG pr b).map fun cb=>.block (od l) (.loop [] (.block (mK l) (.seq cb (.exit (od l)))))
  |none=>if (gy a).isEmpty then (eG pr a).bind fun ca=>(eG pr b).map fun cb=>.seq ca cb else aF
 |.cond c a b=>if (gy a).isEmpty && (gy b).isEmpty then (eG pr a).bind fun ca=>(eG pr b).map fun cb=>.cond c ca cb else aF
 |.goto l=>aA (.exit (mK l))
 |.block id c=>if (gy c).isEmpty && jt id 3000000 then (eG pr c).map (.block id) else aF
 |c=>(dN pr c).bind fun cc=>if (fd cc).all fun i=>jt i 3000000 then aA cc else aF
def Tj(c:Code)(cc:C):Bool:=decide (gy c).Nodup && (en cc).all fun i=>jt i 3000000
def Kz:Code->Option (Code × Code)
 |.seq r (.scope c)=>aA (r,c)
 |_=>aF
def yg(pr:Nat->Bool)(c:Code):Option C :=
 match Kz c with
 |some (r,c)=>(dN pr r).bind fun cr=>(eG pr c).bind fun cs=>if Tj c cs then aA (.seq cr cs) else aF
 |none=>dN pr c
def wi:ResultVar->RV
 |.tmp t=>.tmp t
 |.cell t ty=>.cell t ty
def il(P:bu)(pr:Nat->Bool)(f:bL):Option FA :=
 match P.funcs[f]? with
 |some fn =>
  if fn.name=="runtime.NumGoroutine" then aF else
  match fn.body with
  |some c=>(yg pr c).map fun b=>⟨fn.params.size+fn.nfree,fn.ntmps,fn.results.toList.map wi,fn.resultTypes.toList,jm pr fn.ntmps (fn.results.toList.map fun r=>match r with |.tmp t=>t |.cell t _=>t) [] b []⟩
  |none=>aF
 |none=>aF
def zE(P:bu)(t:aO):O :=
 match P.underlying t with
 |some (.map _ _)=>.marena t []
 |_=>.arena t []
def qI(cfg:bS)(f:bL):List O:=(cfg.ars f).map (zE cfg.P)
def yb:List Nat->Bool
 | []=>aC
 |x::l=>!l.contains x && yb l
def Cd(cfg:bS)(f:bL)(as0:List V):Bool:=(cfg.ars f).isEmpty ||(yb (cfg.ars f) && oL as0)
def C9(cfg:bS)(f:bL)(mem:List O)(ts:List aO)(vs:List V):Option V :=
 match cfg.ars f with
 | []=>ox cfg.P mem ts vs
 |_=>match vs with | [v]=>if v.flat1 then aA v else aF|_=>aF
def oK(cfg:bS)(call:de)(n:Nat)(f:bL)(as0:List V):Option V :=
 match cfg.pprim f with
 |some g=>g as0
 |none=>if Cd cfg f as0 then (il cfg.P (cfg.rxf f) f).bind fun fa=>(rE cfg call n fa as0 (qI cfg f)).bind fun r=>C9 cfg f r.2 fa.rtypes r.1 else aF
def oC(cfg:bS)(call:de)(n:Nat)(f:bL)(as0:List V)(mem:List O):Option (V × List O) :=
 match cfg.iprim f with
 |some g=>g as0 mem
 |none=>(il cfg.P (cfg.rxf f) f).bind fun fa=>(rE cfg call n fa as0 mem).map fun r=>(rN r.1,r.2)
def eW(cfg:bS):Nat->de
 |0=>⟨fun _ _=>aF,fun _ _ _=>aF⟩
 |n+1=>⟨oK cfg (eW cfg n) n,oC cfg (eW cfg n) n⟩
end
end Go.Lite
namespace Go.Lite
open Go
structure cE where
 u:aR
 sz:Nat
abbrev J:=Nat->Option cE
structure Zs where
 z:Nat->Nat->Prop
 a:aO->Nat->Option Nat
 i:aO->Option Nat
instance:CoeFun Zs (fun _=>Nat->Nat->Prop):=⟨Zs.z⟩
def j0:J:=fun _=>aF
def cE.start:cE->Option (Nat × Nat)
 |⟨.slice (aA ⟨g,b,aF⟩) _ _,_⟩=>aA (g,b)
 |⟨.pointer (aA ⟨g,b,aF⟩),_⟩=>aA (g,b)
 |_=>aF
def cE.blk:cE->Option Nat
 |⟨.slice (aA a) _ _,_⟩=>aA a.block
 |⟨.pointer (aA a),_⟩=>aA a.block
 |⟨.map (aA r),_⟩=>aA r
 |_=>aF
def dj(j:J)(id:Nat):Option Nat:=(j id).bind cE.blk
def jg(w:be)(g:Nat):Option (Nat × aO × Nat × Nat) :=
 match w.heap[g]? with
 |some (.cells us t fr)=>aA (us.size,t,fr)
 |_=>aF
theorem abA{w w':be}{g:Nat}(h:w'.heap[g]? = w.heap[g]?):jg w' g=jg w g:=by simp only[jg,h]
theorem j7{w w':be}{g:Nat}(h:w'.heap[g]? = w.heap[g]?)(o:Nat):w'.cell? ⟨g,o,aF⟩=w.cell? ⟨g,o,aF⟩/\jg w' g=jg w g :=
 ⟨World.cell?_of_block (a:=⟨g,o,aF⟩) h,abA h⟩
def pE(f:bL)(us:List aR):aR:=if f < iS then .func (.func f) #[] us.toArray else .func (.func (f - iS)) us.toArray #[]
theorem C2{f:bL}{us:List aR}(h:f < iS):pE f us = .func (.func f) #[] us.toArray:=aU h
theorem aae{f:bL}{us:List aR}(h:iS<=f):pE f us = .func (.func (f - iS)) us.toArray #[]:=aY (Nat.not_lt.2 h)
theorem aad{f:bL}{us:List aR}:pE (iS+f) us = .func (.func f) us.toArray #[]:=by
 unfold pE;generalize iS=B;rw[aY (by simp),Nat.add_sub_cancel_left]
inductive VR(Z:Zs)(w:be):J->V->aR->Prop
 |junk {j:J} {u:aR}:VR Z w j .junk u
 |bool {j:J} {b:Bool}:VR Z w j (.bool b) (.bool b)
 |int {j:J} {k:IntKind} {n:Int}:VR Z w j (.int k n) (.int k n)
 |str {j:J} {s:ByteArray}:VR Z w j (.str s.data.toList) (.string s)
 |agg {j:J} {cs:List V} {us:List aR} (hl:cs.length=us.length) (h:∀(i:Nat) (c:V) (u:aR),cs[i]? = aA c->us[i]? = aA u->VR Z w j c u):VR Z w j (.agg cs) (.agg us.toArray)
 |tup {j:J} {cs:List V} {us:List aR} (hl:cs.length=us.length) (h:∀(i:Nat) (c:V) (u:aR),cs[i]? = aA c->us[i]? = aA u->VR Z w j c u):VR Z w j (.tup cs) (.tuple us.toArray)
 |nilS {j:J}:VR Z w j .nilS (.slice aF 0 0)
 |sl0 {j:J} {A:Option Addr} {c:Nat}:VR Z w j (.sl []) (.slice A 0 c)
 |sl {j:J} {l:List V} {g b c sz:Nat} (f:Nat->Nat->aR) (hlc:l.length<=c) (hsz:0 < sz) (hl:∀(k:Nat) (x:V),l[k]? = aA x->x.cells.length=sz)
   (hc:∀(k:Nat) (x:V) (i:Nat) (y:V),l[k]? = aA x->x.cells[i]? = aA y->y.one=aC/\Z g (b+(k * sz+i))/\w.cell? ⟨g,b+(k * sz+i),aF⟩=aA (f k i))
   (hv:∀(k:Nat) (x:V) (i:Nat) (y:V),l[k]? = aA x->x.cells[i]? = aA y->VR Z w j0 y (f k i)):VR Z w j (.sl l) (.slice (aA ⟨g,b,aF⟩) l.length c)
 |own {j:J} {id:Nat} {A:Option Addr} {n c sz:Nat} (hj:j id=aA ⟨.slice A n c,sz⟩) (h0:∀a,A=aA a->a.off=0):VR Z w j (.own id) (.slice A n c)
 |win {j:J} {id off len n c sz c':Nat} {A A':Option Addr} (hj:j id=aA ⟨.slice A n c,sz⟩) (hn:off+len<=n) (hlc:len<=c') (hcc:off+c'=c)
   (ha:(A=aF/\A'=aF)∨∃g b o,A=aA ⟨g,b,aF⟩/\A'=aA ⟨g,b+o,aF⟩/\o<=off * sz/\(0 < c'->o=off * sz)):VR Z w j (.win id off len) (.slice A' len c')
 |ptr {j:J} {id k off g b:Nat} {h:cE} (hj:j id=aA h) (hs:h.start=aA (g,b)):VR Z w j (.ptr id k off) (.pointer (aA ⟨g,b+(k * h.sz+off),aF⟩))
 |ref {j:J} {x:V} {off g b:Nat} (f:Nat->aR)
   (hc:∀(i:Nat) (y:V),x.cells[i]? = aA y->y.one=aC/\Z g (b+i)/\w.cell? ⟨g,b+i,aF⟩=aA (f i))
   (hv:∀(i:Nat) (y:V),x.cells[i]? = aA y->VR Z w j0 y (f i)):VR Z w j (.ref x off) (.pointer (aA ⟨g,b+off,aF⟩))
 |fn {j:J} {f:bL} {cs:List V} {us:List aR} (hl:cs.length=us.length) (h:∀(i:Nat) (c:V) (u:aR),cs[i]? = aA c->us[i]? = aA u->VR Z w j c u):VR Z w j (.fn f cs) (pE f us)
 |mp {j:J} {id r sz:Nat} (hj:j id=aA ⟨.map (aA r),sz⟩):VR Z w j (.mp id) (.map (aA r))
 |nilP {j:J}:VR Z w j .nilP (.pointer aF)
 |nilF {j:J}:VR Z w j .nilF .nilFunc
 |nilM {j:J}:VR Z w j .nilM (.map aF)
 |nilI {j:J}:VR Z w j .nilI .nilIface
 |unk {j:J} {u:aR} (h:u.oneCell'=aC):VR Z w j .unk u
 |ifc {j:J} {t:aO} {x:V} {u:aR} (h:VR Z w j0 x u):VR Z w j (.ifc t x) (.iface t u)
 |hp {j:J} {t:aO} {k off g:Nat} (h:Z.a t k=aA g):VR Z w j (.hp t k off) (.pointer (aA ⟨g,off,aF⟩))
 |hm {j:J} {t:aO} {k g:Nat} (h:Z.a t k=aA g):VR Z w j (.hm t k) (.map (aA g))
 |rest {j:J} {ts:List aO} {l:List V} {u:aR}:VR Z w j (.rest ts l) u
 |tail {j:J} {id off n c sz:Nat} {A:Option Addr} {u:aR} (hj:j id=aA ⟨.slice A n c,sz⟩) (hn:off<=n) (h:VR Z w j (.win id off (n - off)) u):VR Z w j (.tail id off) u
 |lit {j:J} {t:aO} {l:List V} {g n:Nat} (h:VR Z w j (.sl l) (.slice (aA ⟨g,0,aF⟩) l.length l.length)) (hk:0 < l.length->jg w g=aA (n,t,0,0)) (hz:0 < l.length->Z g 0):VR Z w j (.lit t l) (.slice (aA ⟨g,0,aF⟩) l.length l.length)
section
variable {P:bu}{Z Z':Zs}{w w':be}{j j':J}
def bE(j j':J):Prop:=∀id h,j id=aA h->j' id=aA h
theorem bE.refl(j:J):bE j j:=fun _ _ h=>h
theorem bE.trans{j1:J}(h:bE j j1)(h':bE j1 j'):bE j j':=fun id x e=>h' id x (h id x e)
theorem bE.zero(j:J):bE j0 j:=fun _ _ h=>by cases h
structure bO(Z:Zs)(w:be)(Z':Zs)(w':be):Prop where
 z:∀g o,Z g o->Z' g o/\w'.cell? ⟨g,o,aF⟩=w.cell? ⟨g,o,aF⟩/\jg w' g=jg w g
 a:∀t k g,Z.a t k=aA g->Z'.a t k=aA g
 i:Z'.i=Z.i
instance:CoeFun (bO Z w Z' w') (fun _=>∀g o,Z g o->Z' g o/\w'.cell? ⟨g,o,aF⟩=w.cell? ⟨g,o,aF⟩/\jg w' g=jg w g):=⟨bO.z⟩
theorem bO.of(h:∀g o,Z g o->Z' g o/\w'.cell? ⟨g,o,aF⟩=w.cell? ⟨g,o,aF⟩/\jg w' g=jg w g)(ha:Z'.a=Z.a:=by rfl)(hi:Z'.i=Z.i:=by rfl):bO Z w Z' w' :=
 ⟨h,fun t k g e=>by grind,hi⟩
theorem bO.refl(Z:Zs)(w:be):bO Z w Z w:=.of fun _ _ h=>⟨h,rfl,rfl⟩
theorem bO.trans{Z1:Zs}{w1:be}(h:bO Z w Z1 w1)(h':bO Z1 w1 Z' w'):bO Z w Z' w':=⟨fun g o z =>
 ⟨(h' g o (h g o z).1).1,((h' g o (h g o z).1).2.1).trans (h g o z).2.1,((h' g o (h g o z).1).2.2).trans (h g o z).2.2⟩,fun t k g e=>h'.a t k g (h.a t k g e),h'.i.trans h.i⟩
theorem VR.mono{v:V}{u:aR}(h:VR Z w j v u)(hz:bO Z w Z' w'):∀{j':J},bE j j'->VR Z' w' j' v u:=by
 induction h with
 |junk=>intro j' _;exact .junk
 |bool=>intro j' _;exact .bool
 |int=>intro j' _;exact .int
 |str=>intro j' _;exact .str
 |agg hl _ ih=>intro j' hj;exact .agg hl fun i c u h1 h2=>ih i c u h1 h2 hj
 |tup hl _ ih=>intro j' hj;exact .tup hl fun i c u h1 h2=>ih i c u h1 h2 hj
 |nilS=>intro j' _;exact .nilS
 |sl0=>intro j' _;exact .sl0
 |sl f hlc hsz hl hc _ ih =>
  intro j' _;refine .sl f hlc hsz hl (fun k x i y h1 h2=>?_) (fun k x i y h1 h2=>ih k x i y h1 h2 (bE.refl _));obtain⟨a,b,c⟩:=hc k x i y h1 h2;exact⟨a,(hz _ _ b).1,(hz _ _ b).2.1.trans c⟩
 |own hj h0=>intro j' h';exact .own (h' _ _ hj) h0
 |win hj hn hlc hcc ha=>intro j' h';exact .win (h' _ _ hj) hn hlc hcc ha
 |ptr hj hs=>intro j' h';exact .ptr (h' _ _ hj) hs
 |ref f hc _ ih =>
  intro j' _;refine .ref f (fun i y h1=>?_) (fun i y h1=>ih i y h1 (bE.refl _));obtain⟨a,b,c⟩:=hc i y h1;exact⟨a,(hz _ _ b).1,(hz _ _ b).2.1.trans c⟩
 |fn hl _ ih=>intro j' hj;exact .fn hl fun i c u h1 h2=>ih i c u h1 h2 hj
 |mp hj=>intro j' h';exact .mp (h' _ _ hj)
 |nilP=>intro j' _;exact .nilP
 |nilF=>intro j' _;exact .nilF
 |nilM=>intro j' _;exact .nilM
 |nilI=>intro j' _;exact .nilI
 |unk h=>intro j' _;exact .unk h
 |ifc _ ih=>intro j' _;exact .ifc (ih (bE.refl _))
 |hp h=>intro j' _;exact .hp (hz.a _ _ _ h)
 |hm h=>intro j' _;exact .hm (hz.a _ _ _ h)
 |rest=>intro j' _;exact .rest
 |tail hj hn _ ih=>intro j' h';exact .tail (h' _ _ hj) hn (ih h')
 |lit h hk hzz ih=>intro j' hj;exact .lit (ih hj) (fun h0=>(hz _ _ (hzz h0)).2.2.trans (hk h0)) (fun h0=>(hz _ _ (hzz h0)).1)
theorem VR.up{v:V}{u:aR}(h:VR Z w j0 v u)(j:J):VR Z w j v u:=h.mono (bO.refl Z w) (bE.zero j)
theorem VR.oneCell{v:V}{u:aR}(h:VR Z w j v u)(ho:v.one=aC):u.oneCell'=true:=by
 cases h<;>first|rfl|(simp[V.one]at ho;done)|assumption|(unfold pE;split<;>rfl)|skip;rename_i h;cases h;rfl
theorem lS{v:V}(h:v.one=aC):v.cells=[v]:=by cases v<;>first|rfl|(simp[V.one]at h)
theorem agQ{u:aR}(h:u.oneCell'=aC):u.cells=#[u]:=by cases u<;>first|rfl|(simp[Value.oneCell']at h)
theorem VR.cellsOf{v:V}{u:aR}(h:VR Z w j v u)(ho:∀y∈v.cells,y.one=aC) :
  u.cells.size=v.cells.length/\∀(i:Nat) (y:V),v.cells[i]? = aA y->∃c,u.cells[i]? = aA c/\VR Z w j y c:=by
 have key:v.one=aC->u.cells.size=v.cells.length/\∀(i:Nat) (y:V),v.cells[i]? = aA y->∃c,u.cells[i]? = aA c/\VR Z w j y c:=by
  intro h1;rw[lS h1,agQ (h.oneCell h1)];grind
 by_cases h1:v.one=aC
 ·grind
 ·cases h with
  |agg hl hh =>
   refine⟨by simp[V.cells,Value.cells,hl],fun i y hy=>?_⟩;simp only[V.cells]at hy;have hi:i < _:=(bX.1 hy).1;rename_i cs us;have:us[i]? = aA (us[i]'(by omega)):=cj (by omega);exact⟨us[i]'(by omega),by simp[Value.cells,this],hh i y _ hy this⟩
  |junk=>have:=ho .junk (by simp[V.cells]);grind
  |rest=>have:=ho _ (jO.2 rfl);grind
  |tup hl hh=>have:=ho _ (jO.2 rfl);grind
  |_=>simp[V.one]at h1
def ge(Z:Zs)(w:be)(j:J)(g b:Nat)(cs:List V):Prop :=
 ∀(i:Nat) (y:V),cs[i]? = aA y->y.one=aC/\∃u,w.cell? ⟨g,b+i,aF⟩=aA u/\VR Z w j y u
theorem ge.mono{g b:Nat}{cs:List V}(h:ge Z w j g b cs)(hz:bO Z w Z' w')(hj:bE j j')(hb:w'.heap[g]? = w.heap[g]?):ge Z' w' j' g b cs:=by
 intro i y hy;obtain⟨a,u,hu,hv⟩:=h i y hy;exact⟨a,u,(World.cell?_of_block (a:=⟨g,b+i,aF⟩) hb).trans hu,hv.mono hz hj⟩
theorem VR.slInv{l:List V}{u:aR}(h:VR Z w j (.sl l) u):(∃A c,l=[]/\u = .slice A 0 c) ∨
  ∃g b c sz,u = .slice (aA ⟨g,b,aF⟩) l.length c/\l.length<=c/\0 < sz/\∀(k:Nat) (x:V),l[k]? = aA x->x.cells.length=sz/\(∀i,i < sz->Z g (b+(k * sz+i)))/\ge Z w j0 g (b+k * sz) x.cells:=by
 cases h with
 |sl0=>grind
 |sl f hlc hsz hl hc hv =>
  refine .inr ⟨_,_,_,_,rfl,hlc,hsz,fun k x hk=>⟨hl k x hk,fun i hi=>?_,fun i y hy=>?_⟩⟩
  all_goals grind
theorem VR.slMk{l:List V}{g b c sz:Nat}(hlc:l.length<=c)(hsz:0 < sz)(h:∀(k:Nat) (x:V),l[k]? = aA x->x.cells.length=sz/\(∀i,i < sz->Z g (b+(k * sz+i)))/\ge Z w j0 g (b+k * sz) x.cells) :
  VR Z w j (.sl l) (.slice (aA ⟨g,b,aF⟩) l.length c):=by
 refine .sl (fun k i=>(w.cell? ⟨g,b+(k * sz+i),aF⟩).getD undef) hlc hsz (fun k x hk=>(h k x hk).1) (fun k x i y hk hy=>?_) (fun k x i y hk hy=>?_)
 ·obtain⟨h1,h2,h3⟩:=h k x hk;obtain⟨a,u,hu,_⟩:=h3 i y hy;grind
 ·obtain⟨h1,h2,h3⟩:=h k x hk;obtain⟨a,u,hu,hv⟩:=h3 i y hy;grind
theorem VR.refInv{x:V}{off:Nat}{u:aR}(h:VR Z w j (.ref x off) u) :
  ∃g b,u = .pointer (aA ⟨g,b+off,aF⟩)/\(∀i,i < x.cells.length->Z g (b+i))/\ge Z w j0 g b x.cells:=by
 cases h with
 |ref f hc hv =>
  refine⟨_,_,rfl,fun i hi=>(hc i _ (cj hi)).2.1,fun i y hy=>?_⟩;grind
theorem VR.refMk{x:V}{off g b:Nat}(hz:∀i,i < x.cells.length->Z g (b+i))(h:ge Z w j0 g b x.cells):VR Z w j (.ref x off) (.pointer (aA ⟨g,b+off,aF⟩)):=by
 refine .ref (fun i=>(w.cell? ⟨g,b+i,aF⟩).getD undef) (fun i y hy=>?_) (fun i y hy=>?_)
 ·obtain⟨a,u,hu,_⟩:=h i y hy;grind
 ·obtain⟨a,u,hu,hv⟩:=h i y hy;grind
def O.live:O->Bool
 |.dead=>aD
 |_=>aC
def lQ(P:bu)(Z:Zs)(w:be)(h:cE)(t:aO)(els:List V)(fz:Nat):Prop :=
 h.sz=P.cellsOf t/\0 < h.sz/\fz<=els.length/\(∀x∈els,x.cells.length=h.sz) /\
 ((h.u = .slice aF 0 0/\els=[]) ∨
  ∃g b c us,h.u = .slice (aA ⟨g,b,aF⟩) els.length c/\els.length<=c/\c<=f8/\w.heap[g]? = aA (.cells us t (0,0))/\b+c * h.sz<=us.size /\
   (∀k x,els[k]? = aA x->ge Z w j0 g (b+k * h.sz) x.cells)/\(∀o,Z g o->0 < fz/\o < b+fz * h.sz)/\(∀o,o < fz * h.sz->Z g (b+o)))
structure qo(Z:Zs)(id:Nat)(t:aO)(n:Nat):Prop where
 i:Z.i t=aA id
 get:∀k,k < n->∃g,Z.a t k=aA g
 none:∀k,n<=k->Z.a t k=aF
 inj:∀k k' g,Z.a t k=aA g->Z.a t k'=aA g->k=k'
def Bm(P:bu)(Z:Zs)(w:be)(t:aO)(g:Nat)(x:V):Prop :=
 ∃us,w.heap[g]? = aA (.cells us t (0,0))/\x.cells.length=P.cellsOf t/\us.size=P.cellsOf t/\0 < P.cellsOf t/\ge Z w j0 g 0 x.cells/\∀o,¬Z g o
def wD(Z:Zs)(w:be)(g:Nat)(es:List (V × V)):Prop :=
 ∃es' clock,w.heap[g]? = aA (.map es' clock)/\es.length=es'.size /\
   (∀(i:Nat) (a x:V),es[i]? = aA (a,x)->∃e:MapEntry,es'[i]? = aA e/\a.flat1=aC/\x.inMap=aC/\VR Z w j0 a e.key/\VR Z w j0 x e.val)/\(∀o,¬Z g o)/\MapKept.Stamped es' clock
def OR(P:bu)(Z:Zs)(w:be)(j:J)(id:Nat):O->Prop
 |.row t els fz=>∃h,j id=aA h/\lQ P Z w h t els fz
 |.box t v fz=>∃g us,j id=aA ⟨.pointer (aA ⟨g,0,aF⟩),P.cellsOf t⟩/\w.heap[g]? = aA (.cells us t (0,0))/\v.cells.length=P.cellsOf t/\us.size=P.cellsOf t /\
   ge Z w j g 0 v.cells/\(∀o,Z g o->fz=aC)/\(fz=aC->∀o,o < us.size->Z g o)
 |.map es=>∃r es' clock,j id=aA ⟨.map (aA r),0⟩/\w.heap[r]? = aA (.map es' clock)/\es.length=es'.size /\
   (∀(i:Nat) (a x:V),es[i]? = aA (a,x)->∃e:MapEntry,es'[i]? = aA e/\a.flat1=aC/\x.inMap=aC/\VR Z w j0 a e.key/\VR Z w j0 x e.val)/\(∀o,¬Z r o)/\MapKept.Stamped es' clock
 |.arena t els=>qo Z id t els.length/\∀(k:Nat) (x:V) (g:Nat),els[k]? = aA x->Z.a t k=aA g->Bm P Z w t g x
 |.marena t ms=>qo Z id t ms.length/\∀(k:Nat) (es:List (V × V)) (g:Nat),ms[k]? = aA es->Z.a t k=aA g->wD Z w g es
 |.dead=>True
def bQ(Z:Zs)(j:J)(id:Nat)(o:O)(g:Nat):Prop :=
 match o.ar with
 |some r=>∃k,k < r.2/\Z.a r.1 k=aA g
 |none=>dj j id=aA g
structure SR(P:bu)(Z:Zs)(w:be)(j:J)(mem:List O):Prop where
 obj:∀id o,mem[id]? = aA o->OR P Z w j id o
 inj:∀id id' o o' g,mem[id]? = aA o->mem[id']? = aA o'->o.live=aC->o'.live=aC->bQ Z j id o g->bQ Z j id' o' g->id=id'
 out:∀id,mem.length<=id->j id=aF
 zin:∀g o,Z g o->g < w.heap.size
def bM(Z:Zs)(j:J)(mem:List O)(g:Nat):Prop:=∃id o,mem[id]? = aA o/\o.live=aC/\bQ Z j id o g
def fV(t:aO)(mem:List O):Prop:=∀(id:Nat) (o:O) (n:Nat),mem[id]? = aA o->o.ar≠aA (t,n)
structure bh(Z:Zs)(w:be)(j:J)(mem:List O)(Z':Zs)(w':be)(j':J)(mem':List O):Prop where
 os:w'.os=w.os
 tape:w'.tape=w.tape
 output:w'.output=w.output
 size:w.heap.size<=w'.heap.size
 keep:∀g,g < w.heap.size->¬bM Z j mem g->w'.heap[g]? = w.heap[g]?/\∀o,Z' g o↔Z g o
 owned:∀g,g < w.heap.size->bM Z' j' mem' g->bM Z j mem g
 z:bO Z w Z' w'
 ar:∀t,fV t mem->fV t mem'/\Z'.a t=Z.a t
theorem bh.refl(Z:Zs)(w:be)(j:J)(mem:List O):bh Z w j mem Z w j mem :=
 ⟨rfl,rfl,rfl,c7 _,fun _ _ _=>⟨rfl,fun _=>Iff.rfl⟩,fun _ _ h=>h,bO.refl Z w,fun _ h=>⟨h,rfl⟩⟩
theorem bh.trans{Z1:Zs}{w1:be}{j1:J}{mem mem1 mem':List O}(h:bh Z w j mem Z1 w1 j1 mem1)(h':bh Z1 w1 j1 mem1 Z' w' j' mem'):bh Z w j mem Z' w' j' mem' :=
 ⟨h'.os.trans h.os,h'.tape.trans h.tape,h'.output.trans h.output,sh h.size h'.size,fun g hg hn=>by
  obtain⟨a,b⟩:=h.keep g hg hn;obtain⟨c,d⟩:=h'.keep g (si hg h.size) (fun ho=>hn (h.owned g hg ho));grind,fun g hg ho=>h.owned g hg (h'.owned g (si hg h.size) ho),h.z.trans h'.z,
  fun t hn=>⟨(h'.ar t (h.ar t hn).1).1,(h'.ar t (h.ar t hn).1).2.trans (h.ar t hn).2⟩⟩
theorem fV.set{id:Nat}{o o':O}{mem:List O}{t:aO}(hm:mem[id]? = aA o)(ho:∀n,o'.ar=aA (t,n)->∃m,o.ar=aA (t,m))(h:fV t mem):fV t (mem.set id o'):=by
 intro k x n hx hn;have bd:id < mem.length:=(bX.1 hm).1
 by_cases e:id=k
 ·subst e;rw[gR bd]at hx;cases hx;obtain⟨m,hm'⟩:=ho n hn;exact h id o m hm hm'
 ·rw[ia e]at hx;exact h k x n hx hn
theorem fV.add{o:O}{mem:List O}{t:aO}(ho:o.ar=aF)(h:fV t mem):fV t (mem++[o]):=by
 intro k x n hx hn
 by_cases e:k < mem.length
 ·rw[eK e]at hx;exact h k x n hx hn
 grind
theorem qo.same{id n:Nat}{t:aO}(h:qo Z id t n)(ha:Z'.a t=Z.a t)(hi:Z'.i=Z.i):qo Z' id t n :=
 ⟨by rw[hi];exact h.i,by rw[ha];exact h.get,by rw[ha];exact h.none,by rw[ha];exact h.inj⟩
theorem Bm.mono{t:aO}{g:Nat}{x:V}(h:Bm P Z w t g x)(hz:bO Z w Z' w')(hb:w'.heap[g]? = w.heap[g]?/\∀o,Z' g o↔Z g o):Bm P Z' w' t g x:=by
 obtain⟨us,h1,h2,h3,h4,h5,h6⟩:=h;exact⟨us,hb.1.trans h1,h2,h3,h4,h5.mono hz (bE.refl _) hb.1,fun o ho=>h6 o ((hb.2 o).1 ho)⟩
theorem wD.mono{g:Nat}{es:List (V × V)}(h:wD Z w g es)(hz:bO Z w Z' w')(hb:w'.heap[g]? = w.heap[g]?/\∀o,Z' g o↔Z g o):wD Z' w' g es:=by
 obtain⟨es',clock,h1,h2,h3,h4⟩:=h;refine⟨es',clock,hb.1.trans h1,h2,fun i a x hi=>?_,⟨fun o ho=>h4.1 o ((hb.2 o).1 ho),h4.2⟩⟩;obtain⟨e,he,ha,hx,hva,hvx⟩:=h3 i a x hi;exact⟨e,he,ha,hx,hva.mono hz (bE.refl _),hvx.mono hz (bE.refl _)⟩
theorem lQ.mono{h:cE}{t:aO}{els:List V}{fz:Nat}(r:lQ P Z w h t els fz)(hz:bO Z w Z' w')
  (hb:∀g,h.blk=aA g->w'.heap[g]? = w.heap[g]?/\∀o,Z' g o↔Z g o):lQ P Z' w' h t els fz:=by
 obtain⟨h1,h2,h3,h4,h5⟩:=r;refine⟨h1,h2,h3,h4,?_⟩;rcases h5 with h5|⟨g,b,c,us,hu,hc,hm,hg,hs,hcells,hz1,hz2⟩
 ·grind
 ·have hbb:=hb g (by cases h;simp at hu;simp[cE.blk,hu]);exact .inr ⟨g,b,c,us,hu,hc,hm,hbb.1.trans hg,hs,fun k x hk=>(hcells k x hk).mono hz (bE.refl _) hbb.1,fun o ho=>hz1 o ((hbb.2 o).1 ho),fun o ho=>(hbb.2 _).2 (hz2 o ho)⟩
theorem OR.mono{id:Nat}{o:O}(r:OR P Z w j id o)(hz:bO Z w Z' w')(hj:bE j j')
  (hb:∀g,bQ Z j id o g->w'.heap[g]? = w.heap[g]?/\∀o,Z' g o↔Z g o) (ha:∀t n,o.ar=aA (t,n)->Z'.a t=Z.a t):OR P Z' w' j' id o:=by
 cases o with
 |dead=>exact True.intro
 |arena t els =>
  obtain⟨h1,h2⟩:=r;have e:=ha t els.length rfl;refine⟨h1.same e hz.i,fun k x g hk hg=>?_⟩;rw[e]at hg;exact(h2 k x g hk hg).mono hz (hb g ⟨k,(bX.1 hk).1,hg⟩)
 |marena t ms =>
  obtain⟨h1,h2⟩:=r;have e:=ha t ms.length rfl;refine⟨h1.same e hz.i,fun k x g hk hg=>?_⟩;rw[e]at hg;exact(h2 k x g hk hg).mono hz (hb g ⟨k,(bX.1 hk).1,hg⟩)
 |row t els fz =>
  obtain⟨h,hh,hr⟩:=r;exact⟨h,hj _ _ hh,hr.mono hz fun g hg=>hb g (by simp[bQ,O.ar,dj,hh,hg])⟩
 |box t v fz =>
  obtain⟨g,us,h1,h2,h3,h4,h5,h6,h7⟩:=r;have hbb:=hb g (by simp[bQ,O.ar,dj,h1,cE.blk]);exact⟨g,us,hj _ _ h1,hbb.1.trans h2,h3,h4,h5.mono hz hj hbb.1,fun o ho=>h6 o ((hbb.2 o).1 ho),fun hf o ho=>(hbb.2 o).2 (h7 hf o ho)⟩
 |map es =>
  obtain⟨r,es',clock,h1,h2,h3,h4,h5⟩:=r;have hbb:=hb r (by simp[bQ,O.ar,dj,h1,cE.blk]);refine⟨r,es',clock,hj _ _ h1,hbb.1.trans h2,h3,fun i a x hi=>?_,⟨fun o ho=>h5.1 o ((hbb.2 o).1 ho),h5.2⟩⟩;obtain⟨e,he,ha,hx,hva,hvx⟩:=h4 i a x hi;exact⟨e,he,ha,hx,hva.mono hz (bE.refl _),hvx.mono hz (bE.refl _)⟩
end
set_option linter.unusedVariables false
section
variable {P:bu}{Z Z':Zs}{w w':be}{j j':J}{mem:List O}
def fp(j:J)(i:Nat)(h:cE):J:=fun id=>if id=i then aA h else j id
theorem gZ(j:J)(i:Nat)(h:cE):fp j i h i=aA h:=by simp[fp]
theorem ug(j:J){i k:Nat}(h:cE)(hne:k≠i):fp j i h k=j k:=by simp[fp,hne]
theorem SR.ext(s:SR P Z w j mem)(h:cE):bE j (fp j mem.length h):=by
 intro id x hx
 by_cases e:id=mem.length
 ·rw[e,s.out _ (c7 _)]at hx;grind
 ·rw[ug j h e];grind
theorem bQ.eqA{id g:Nat}{o:O}(ha:Z'.a=Z.a):bQ Z' j id o g↔bQ Z j id o g:=by unfold bQ;rw[ha]
theorem bQ.plain{id g:Nat}{o:O}(ho:o.ar=aF):bQ Z j id o g↔dj j id=aA g:=by unfold bQ;rw[ho]
theorem bQ.jeq{id g:Nat}{o:O}(h:j' id=j id):bQ Z j' id o g↔bQ Z j id o g:=by
 unfold bQ dj;rw[h]
theorem bM.eqA{g:Nat}(ha:Z'.a=Z.a):bM Z' j mem g↔bM Z j mem g :=
 ⟨fun⟨id,o,h1,h2,h3⟩=>⟨id,o,h1,h2,(bQ.eqA ha).1 h3⟩,fun⟨id,o,h1,h2,h3⟩=>⟨id,o,h1,h2,(bQ.eqA ha).2 h3⟩⟩
theorem SR.world(s:SR P Z w j mem)(hz:bO Z w Z' w')(hb:∀g,bM Z j mem g->w'.heap[g]? = w.heap[g]?/\∀o,Z' g o↔Z g o)
  (hin:∀g o,Z' g o->g < w'.heap.size) (ha:Z'.a=Z.a:=by rfl):SR P Z' w' j mem where
 obj:=fun id o ho=>by
  by_cases hl:o.live=aC
  ·exact(s.obj id o ho).mono hz (bE.refl _) (fun g hg=>hb g ⟨id,o,ho,hl,hg⟩) (fun t n _=>by rw[ha])
  ·cases o<;>first|exact True.intro|(simp[O.live]at hl)
 inj:=fun id id' o o' g h1 h2 h3 h4 h5 h6=>s.inj id id' o o' g h1 h2 h3 h4 ((bQ.eqA ha).1 h5) ((bQ.eqA ha).1 h6)
 out:=s.out
 zin:=hin
theorem SR.add(s:SR P Z w j mem){h:cE}{o:O}(hn:∀g,h.blk=aA g->¬bM Z j mem g)(ho:OR P Z w (fp j mem.length h) mem.length o)(har:o.ar=none:=by rfl) :
  SR P Z w (fp j mem.length h) (mem++[o]) where
 obj:=fun id x hx=>by
  by_cases e:id < mem.length
  ·rw[eK e]at hx;exact(s.obj id x hx).mono (bO.refl _ _) (s.ext h) (fun _ _=>⟨rfl,fun _=>Iff.rfl⟩) (fun _ _ _=>rfl)
  grind
 inj:=fun id id' x x' g hx hx' hl hl' hg hg'=>by
  have side:∀id x,(mem++[o])[id]? = aA x->id < mem.length/\mem[id]? = aA x∨id=mem.length/\x=o:=by
   grind
  have up:∀id x,id < mem.length->bQ Z (fp j mem.length h) id x g->bQ Z j id x g:=fun id x e hg=>(bQ.jeq (ug j h (by omega))).1 hg
  have old:∀id x,id < mem.length->mem[id]? = aA x->x.live=aC->bQ Z (fp j mem.length h) id x g->bM Z j mem g:=fun id x e hx hl hg=>⟨id,x,hx,hl,up id x e hg⟩
  have new:∀id x,id=mem.length->x=o->bQ Z (fp j mem.length h) id x g->h.blk=aA g:=by
   intro id x e ex hg;subst ex;have hg:=(bQ.plain har).1 hg;unfold dj at hg;rw[e,gZ]at hg;grind
  rcases side id x hx with⟨e,hx⟩|⟨e,ex⟩<;>rcases side id' x' hx' with⟨e',hx'⟩|⟨e',ex'⟩
  ·exact s.inj id id' x x' g hx hx' hl hl' (up id x e hg) (up id' x' e' hg')
  all_goals grind
 out:=fun id hid=>by
  simp at hid;rw[ug j h (by omega)];exact s.out id (by omega)
 zin:=s.zin
theorem SR.set(s:SR P Z w j mem){id:Nat}{o o':O}(hm:mem[id]? = aA o)(hl:o'.live=aC->o.live=aC)(hz:bO Z w Z' w')
  (hb:∀g,dj j id≠aA g->w'.heap[g]? = w.heap[g]?/\∀o,Z' g o↔Z g o) (hin:∀g o,Z' g o->g < w'.heap.size)
  (hd:o.live=aD->∀g,w'.heap[g]? = w.heap[g]?/\∀o,Z' g o↔Z g o)
  (ho:OR P Z' w' j id o') (har:o.ar=none:=by rfl) (har':o'.ar=none:=by rfl) (ha:Z'.a=Z.a:=by rfl):SR P Z' w' j (mem.set id o') where
 obj:=fun k x hx=>by
  have bd:id < mem.length:=(bX.1 hm).1
  by_cases e:id=k
  ·grind
  ·rw[ia e]at hx
   by_cases hlx:x.live=aC
   ·refine(s.obj k x hx).mono hz (bE.refl _) (fun g hg=>?_) (fun _ _ _=>by rw[ha])
    by_cases hlo:o.live=aC
    ·exact hb g fun hg'=>e (s.inj id k o x g hm hx hlo hlx ((bQ.plain har).2 hg') hg)
    grind
   ·cases x<;>first|exact True.intro|(simp[O.live]at hlx)
 inj:=fun a b x y g hx hy hlx hly hg hg'=>by
  have bd:id < mem.length:=(bX.1 hm).1
  have side:∀(k:Nat) (x:O),(mem.set id o')[k]? = aA x->x.live=aC->bQ Z' j k x g->∃x':O,mem[k]? = aA x'/\x'.live=aC/\bQ Z j k x' g:=by
   intro k x hx hlx hg;have hg:=(bQ.eqA ha).1 hg
   by_cases e:id=k
   ·subst e;rw[gR bd]at hx;cases hx;exact⟨o,hm,hl hlx,(bQ.plain har).2 ((bQ.plain har').1 hg)⟩
   grind
  obtain⟨x',hx',hlx',hgx⟩:=side a x hx hlx hg;obtain⟨y',hy',hly',hgy⟩:=side b y hy hly hg';exact s.inj a b x' y' g hx' hy' hlx' hly' hgx hgy
 out:=fun k hk=>s.out k (by grind)
 zin:=hin
theorem SR.kill(s:SR P Z w j mem){id:Nat}{o:O}(hm:mem[id]? = aA o)(har:o.ar=none:=by rfl):SR P Z w j (mem.set id .dead) :=
 s.set hm (by intro h;cases h) (bO.refl _ _) (fun _ _=>⟨rfl,fun _=>Iff.rfl⟩) s.zin (fun _ _=>⟨rfl,fun _=>Iff.rfl⟩) True.intro har
theorem bM.set{id:Nat}{o o':O}{g:Nat}(hm:mem[id]? = aA o)(hl:o'.live=aC->o.live=aC)(h:bM Z j (mem.set id o') g)(har:o.ar=none:=by rfl)(har':o'.ar=none:=by rfl):bM Z j mem g:=by
 obtain⟨k,x,hx,hlx,hg⟩:=h;have bd:id < mem.length:=(bX.1 hm).1
 by_cases e:id=k
 ·subst e;rw[gR bd]at hx;cases hx;exact⟨id,o,hm,hl hlx,(bQ.plain har).2 ((bQ.plain har').1 hg)⟩
 ·rw[ia e]at hx;exact⟨k,x,hx,hlx,hg⟩
theorem bM.add{h:cE}{o:O}{g:Nat}(hg:bM Z (fp j mem.length h) (mem++[o]) g)(har:o.ar=none:=by rfl):bM Z j mem g∨h.blk=aA g:=by
 obtain⟨k,x,hx,hlx,hb⟩:=hg
 by_cases e:k < mem.length
 ·rw[eK e]at hx;exact .inl ⟨k,x,hx,hlx,(bQ.jeq (ug j h (by omega))).1 hb⟩
 ·right;have:=(bX.1 hx).1;simp at this;have e:k=mem.length:=by omega
  rw[e]at hx;simp at hx;subst hx;have hb:=(bQ.plain har).1 hb;unfold dj at hb;rw[e,gZ]at hb;grind
def iC(Z:Zs)(g n:Nat):Zs:={ Z with z:=fun b o=>Z b o∨(b=g/\o < n) }
theorem bO.heap{w1:be}{ob:Obj}(hh:w1.heap=w.heap.push ob)(hin:∀g o,Z g o->g < w.heap.size)(n:Nat):bO Z w (iC Z w.heap.size n) w1:=by
 refine .of fun g o h=>?_
 refine⟨.inl h,j7 ?_ o⟩;grind
theorem mM{w1:be}{ob:Obj}(hh:w1.heap=w.heap.push ob){g:Nat}(hg:g < w.heap.size):w1.heap[g]? = w.heap[g]?:=by
 grind
theorem H5{w1:be}{ob:Obj}(hh:w1.heap=w.heap.push ob){g:Nat}(hg:g < w.heap.size):w1.heap[g]? = w.heap[g]?:=mM hh hg
theorem bM.lt(s:SR P Z w j mem){g:Nat}(h:bM Z j mem g):g < w.heap.size:=by
 obtain⟨id,o,ho,hl,hg⟩:=h;have hO:=s.obj id o ho;cases o with
 |arena t els =>
  obtain⟨k,hk,hg⟩:=hg;obtain⟨us,h1,_⟩:=hO.2 k _ g (cj hk) hg;grind
 |marena t ms =>
  obtain⟨k,hk,hg⟩:=hg;obtain⟨es',clock,h1,_⟩:=hO.2 k _ g (cj hk) hg;grind
 |dead=>simp[O.live]at hl
 |row t els fz =>
  obtain⟨h,hh,hr⟩:=hO;rcases hr.2.2.2.2 with⟨hu,_⟩|⟨g',b,c,us,hu,_,_,hgg,_⟩
  ·cases h;simp at hu;simp[bQ,O.ar,dj,hh,cE.blk,hu]at hg
  ·cases h;simp at hu;simp[bQ,O.ar,dj,hh,cE.blk,hu]at hg;grind
 |box t v fz =>
  obtain⟨g',us,h1,h2,_⟩:=hO;simp[bQ,O.ar,dj,h1,cE.blk]at hg;grind
 |map es =>
  obtain⟨r,es',clock,h1,h2,_⟩:=hO;simp[bQ,O.ar,dj,h1,cE.blk]at hg;grind
theorem SR.push(s:SR P Z w j mem){w1:be}{ob:Obj}(hh:w1.heap=w.heap.push ob)(hos:w1.os=w.os)(htape:w1.tape=w.tape)(hout:w1.output=w.output)
  (n:Nat) {h:cE} (hb:∀g,h.blk=aA g->g=w.heap.size) {o:O} (ho:OR P (iC Z w.heap.size n) w1 (fp j mem.length h) mem.length o) (har:o.ar=none:=by rfl) :
  SR P (iC Z w.heap.size n) w1 (fp j mem.length h) (mem++[o])/\bh Z w j mem (iC Z w.heap.size n) w1 (fp j mem.length h) (mem++[o])/\bE j (fp j mem.length h):=by
 have hz:=bO.heap (Z:=Z) hh s.zin n;have iff:∀g,g < w.heap.size->∀o,iC Z w.heap.size n g o↔Z g o:=fun g hg o=>⟨fun h=>h.resolve_right fun h=>by omega,.inl⟩
 have hsz:w1.heap.size=w.heap.size+1:=by grind
 have s1:SR P (iC Z w.heap.size n) w1 j mem:=s.world hz (fun g hg=>⟨mM hh (bM.lt s hg),iff g (bM.lt s hg)⟩) (fun g o h=>by
  rcases h with h|h
  ·have:=s.zin g o h;omega
  grind)
 refine⟨s1.add (fun g hg ho=>?_) ho har,⟨hos,htape,hout,by omega,fun g hg _=>⟨mM hh hg,iff g hg⟩,fun g hg ho=>?_,hz,fun t hn=>⟨hn.add har,rfl⟩⟩,s.ext h⟩
 ·have:=hb g hg;have:=bM.lt s ho;omega
 ·rcases bM.add ho har with ho|ho
  ·exact ho
  grind
theorem SR.pushV(s:SR P Z w j mem){h:cE}(hb:h.blk=aF){o:O}(ho:OR P Z w (fp j mem.length h) mem.length o)(har:o.ar=none:=by rfl) :
  SR P Z w (fp j mem.length h) (mem++[o])/\bh Z w j mem Z w (fp j mem.length h) (mem++[o])/\bE j (fp j mem.length h):=by
 refine⟨s.add (fun _ hg=>by grind) ho har,⟨rfl,rfl,rfl,c7 _,fun _ _ _=>⟨rfl,fun _=>Iff.rfl⟩,fun _ _ ho=>?_,bO.refl _ _,fun t hn=>⟨hn.add har,rfl⟩⟩,s.ext h⟩;rcases bM.add ho har with ho|ho
 all_goals grind
theorem bh.set{id:Nat}{o o':O}(hm:mem[id]? = aA o)(hl:o'.live=aC->o.live=aC)(hlo:o.live=aC)(hz:bO Z w Z' w')
  (hb:∀g,dj j id≠aA g->w'.heap[g]? = w.heap[g]?/\∀o,Z' g o↔Z g o)
  (hos:w'.os=w.os) (htape:w'.tape=w.tape) (hout:w'.output=w.output) (hsz:w.heap.size<=w'.heap.size) (har:o.ar=none:=by rfl) (har':o'.ar=none:=by rfl) (ha:Z'.a=Z.a:=by rfl):bh Z w j mem Z' w' j (mem.set id o') :=
 ⟨hos,htape,hout,hsz,fun g _ hn=>hb g fun hg=>hn ⟨id,o,hm,hlo,(bQ.plain har).2 hg⟩,fun g _ ho=>((bM.eqA ha).1 ho).set hm hl har har',hz,fun t hn=>⟨hn.set hm fun n e=>(by grind),by rw[ha]⟩⟩
theorem u6{t:aO}:∀(mem:List O) (i id:Nat) (els:List V),kj t i mem=aA (id,els)->i<=id/\mem[id - i]? = aA (.arena t els)
 | [],_,_,_,h=>by simp[kj]at h
 |.arena t' els'::l,i,id,els,h=>by
  simp only[kj]at h
  by_cases e:(t'==t)=aC
  ·grind
  ·simp only[e,aP]at h;obtain⟨a,b⟩:=u6 l (i+1) id els h;grind
 |.row ..::l,i,id,els,h=>by
  obtain⟨a,b⟩:=u6 l (i+1) id els h;grind
 |.box ..::l,i,id,els,h=>by
  obtain⟨a,b⟩:=u6 l (i+1) id els h;grind
 |.map ..::l,i,id,els,h=>by
  obtain⟨a,b⟩:=u6 l (i+1) id els h;grind
 |.marena ..::l,i,id,els,h=>by
  obtain⟨a,b⟩:=u6 l (i+1) id els h;grind
 |.dead::l,i,id,els,h=>by
  obtain⟨a,b⟩:=u6 l (i+1) id els h;grind
theorem u7{t:aO}:∀(mem:List O) (i id:Nat) (ms:List (List (V × V))),ny t i mem=aA (id,ms)->i<=id/\mem[id - i]? = aA (.marena t ms)
 | [],_,_,_,h=>by simp[ny]at h
 |.marena t' els'::l,i,id,els,h=>by
  simp only[ny]at h
  by_cases e:(t'==t)=aC
  ·grind
  ·simp only[e,aP]at h;obtain⟨a,b⟩:=u7 l (i+1) id els h;grind
 |.row ..::l,i,id,els,h=>by
  obtain⟨a,b⟩:=u7 l (i+1) id els h;grind
 |.box ..::l,i,id,els,h=>by
  obtain⟨a,b⟩:=u7 l (i+1) id els h;grind
 |.map ..::l,i,id,els,h=>by
  obtain⟨a,b⟩:=u7 l (i+1) id els h;grind
 |.arena ..::l,i,id,els,h=>by
  obtain⟨a,b⟩:=u7 l (i+1) id els h;grind
 |.dead::l,i,id,els,h=>by
  obtain⟨a,b⟩:=u7 l (i+1) id els h;grind
theorem HL{t:aO}{id:Nat}{els:List V}(h:kj t 0 mem=aA (id,els)):mem[id]? = aA (.arena t els):=by simpa using(u6 mem 0 id els h).2
theorem HN{t:aO}{id:Nat}{ms:List (List (V × V))}(h:ny t 0 mem=aA (id,ms)):mem[id]? = aA (.marena t ms):=by simpa using(u7 mem 0 id ms h).2
theorem OR.arena{id n:Nat}{o:O}{t:aO}(h:OR P Z w j id o)(ho:o.ar=aA (t,n)):qo Z id t n:=by
 cases o<;>simp[O.ar]at ho<;>(obtain⟨rfl,rfl⟩:=ho;exact h.1)
theorem pm{o:O}{r:aO × Nat}(h:o.ar=aA r):o.live=true:=by
 cases o<;>simp[O.ar]at h<;>rfl
theorem SR.setA(s:SR P Z w j mem){id n:Nat}{o o':O}{t:aO}(hm:mem[id]? = aA o)(hn:o.ar=aA (t,n))(hn':o'.ar=aA (t,n))(hz:bO Z w Z' w')
  (hb:∀g,¬bQ Z j id o g->w'.heap[g]? = w.heap[g]?/\∀o,Z' g o↔Z g o) (hin:∀g o,Z' g o->g < w'.heap.size)
  (hos:w'.os=w.os) (htape:w'.tape=w.tape) (hout:w'.output=w.output) (hsz:w.heap.size<=w'.heap.size)
  (ho:OR P Z' w' j id o') (ha:Z'.a=Z.a:=by rfl):SR P Z' w' j (mem.set id o')/\bh Z w j mem Z' w' j (mem.set id o'):=by
 have bd:id < mem.length:=(bX.1 hm).1;have same:∀g,bQ Z j id o' g↔bQ Z j id o g:=fun g=>by unfold bQ;grind
 have side:∀(g k:Nat) (x:O),(mem.set id o')[k]? = aA x->x.live=aC->bQ Z' j k x g->∃x':O,mem[k]? = aA x'/\x'.live=aC/\bQ Z j k x' g:=by
  intro g k x hx hlx hg;have hg:=(bQ.eqA ha).1 hg
  by_cases e:id=k
  ·subst e;rw[gR bd]at hx;cases hx;exact⟨o,hm,pm hn,(same g).1 hg⟩
  grind
 refine⟨⟨fun k x hx=>?_,fun a b x y g hx hy hlx hly hg hg'=>?_,fun k hk=>s.out k (by grind),hin⟩,
  ⟨hos,htape,hout,hsz,fun g _ hno=>hb g fun hg=>hno ⟨id,o,hm,pm hn,hg⟩,fun g _ ho=>?_,hz,fun t' h=>⟨h.set hm fun m e=>?_,by rw[ha]⟩⟩⟩
 ·by_cases e:id=k
  ·grind
  ·rw[ia e]at hx
   by_cases hlx:x.live=aC
   ·exact(s.obj k x hx).mono hz (bE.refl _) (fun g hg=>hb g fun hg'=>e (s.inj id k o x g hm hx (pm hn) hlx hg' hg)) (fun _ _ _=>by rw[ha])
   ·cases x<;>first|exact True.intro|(simp[O.live]at hlx)
 ·obtain⟨x',hx',hlx',hgx⟩:=side g a x hx hlx hg;obtain⟨y',hy',hly',hgy⟩:=side g b y hy hly hg';exact s.inj a b x' y' g hx' hy' hlx' hly' hgx hgy
 ·obtain⟨k,x,hx,hlx,hg⟩:=ho;obtain⟨x',hx',hlx',hgx⟩:=side g k x hx hlx hg;exact⟨k,x',hx',hlx',hgx⟩
 grind
def mw(Z:Zs)(t:aO)(k g:Nat):Zs:={ Z with a:=fun t' k'=>if t'=t/\k'=k then aA g else Z.a t' k' }
theorem sA(t:aO)(k g:Nat):(mw Z t k g).a t k=aA g:=by simp[mw]
theorem my{t t':aO}{k k' g:Nat}(h:¬(t'=t/\k'=k)):(mw Z t k g).a t' k'=Z.a t' k':=by simp only[mw,aY h]
theorem SR.growA(s:SR P Z w j mem){id n:Nat}{o o':O}{t:aO}(hm:mem[id]? = aA o)(hn:o.ar=aA (t,n))(hn':o'.ar=aA (t,n+1)){w1:be}{ob:Obj}
  (hh:w1.heap=w.heap.push ob) (hos:w1.os=w.os) (htape:w1.tape=w.tape) (hout:w1.output=w.output)
  (ho:bO Z w (mw Z t n w.heap.size) w1->qo (mw Z t n w.heap.size) id t (n+1)->OR P (mw Z t n w.heap.size) w1 j id o') :
  SR P (mw Z t n w.heap.size) w1 j (mem.set id o')/\bh Z w j mem (mw Z t n w.heap.size) w1 j (mem.set id o'):=by
 have bd:id < mem.length:=(bX.1 hm).1;have hA:=(s.obj id o hm).arena hn
 have hz:bO Z w (mw Z t n w.heap.size) w1:=by
  refine⟨fun g x h=>⟨h,j7 (H5 hh (s.zin g x h)) x⟩,fun t' k' g h=>?_,rfl⟩
  by_cases e:t'=t/\k'=n
  ·obtain⟨rfl,rfl⟩:=e;rw[hA.none _ (c7 _)]at h;cases h
  ·rw[my e];exact h
 have lt:∀k g,Z.a t k=aA g->g < w.heap.size:=fun k g hg=>bM.lt s ⟨id,o,hm,pm hn,by
  unfold bQ;rw[hn];refine⟨k,?_,hg⟩;rcases mY k n with h|h
  ·exact h
  ·rw[hA.none k h]at hg;grind⟩
 have hA':qo (mw Z t n w.heap.size) id t (n+1):=by
  refine⟨hA.i,fun k hk=>?_,fun k hk=>?_,fun k k' g h h'=>?_⟩
  ·by_cases e:k=n
   ·subst e;exact⟨_,sA _ _ _⟩
   ·rw[my (by omega)];exact hA.get k (by omega)
  ·rw[my (by omega)];exact hA.none k (by omega)
  ·by_cases e:k=n
   ·subst e;rw[sA]at h;cases h
    by_cases e':k'=k
    ·grind
    ·rw[my (by omega)]at h';grind
   ·rw[my (by omega)]at h
    by_cases e':k'=n
    ·subst e';rw[sA]at h';grind
    ·rw[my (by omega)]at h';exact hA.inj _ _ _ h h'
 have back:∀(g k:Nat) (x:O),g < w.heap.size->(mem.set id o')[k]? = aA x->x.live=aC->bQ (mw Z t n w.heap.size) j k x g->∃x':O,mem[k]? = aA x'/\x'.live=aC/\bQ Z j k x' g:=by
  intro g k x hlg hx hlx hg
  by_cases e:id=k
  ·subst e;rw[gR bd]at hx;cases hx;refine⟨o,hm,pm hn,?_⟩;unfold bQ at hg |-
   rw[hn']at hg;rw[hn];obtain⟨m,hmm,hg⟩:=hg
   by_cases em:m=n
   ·subst em;rw[sA]at hg;grind
   ·simp only at hmm hg;rw[my (by omega)]at hg;grind
  ·rw[ia e]at hx;refine⟨x,hx,hlx,?_⟩;unfold bQ at hg |-
   cases hr:x.ar with
   |none=>grind
   |some r =>
    obtain⟨t',m⟩:=r;rw[hr]at hg;have hne:t'≠t:=fun e'=>e (by subst e';have h1:=((s.obj k x hx).arena hr).i;rw[hA.i]at h1;grind)
    obtain⟨m',hm',hg⟩:=hg;simp only at hg;rw[my (fun h=>hne h.1)]at hg;grind
 have new:∀(g k:Nat) (x:O),¬g < w.heap.size->(mem.set id o')[k]? = aA x->x.live=aC->bQ (mw Z t n w.heap.size) j k x g->k=id:=by
  intro g k x hlg hx hlx hg;apply Classical.byContradiction;intro e;have e:¬id=k:=fun h=>e h.symm
  rw[ia e]at hx;refine hlg (bM.lt s ⟨k,x,hx,hlx,?_⟩);unfold bQ at hg |-
  cases hr:x.ar with
  |none=>grind
  |some r =>
   obtain⟨t',m⟩:=r;rw[hr]at hg;have hne:t'≠t:=fun e'=>e (by subst e';have h1:=((s.obj k x hx).arena hr).i;rw[hA.i]at h1;grind)
   obtain⟨m',hm',hg⟩:=hg;simp only at hg;rw[my (fun h=>hne h.1)]at hg;grind
 have hsz:w1.heap.size=w.heap.size+1:=by grind
 refine⟨⟨fun k x hx=>?_,fun a b x y g hx hy hlx hly hg hg'=>?_,fun k hk=>s.out k (by grind),fun g x h=>by have:=s.zin g x h;omega⟩,
  ⟨hos,htape,hout,by omega,fun g hg _=>⟨H5 hh hg,fun _=>Iff.rfl⟩,fun g hg ho=>?_,hz,fun t' h=>⟨h.set hm fun m e=>?_,?_⟩⟩⟩
 ·by_cases e:id=k
  ·grind
  ·rw[ia e]at hx
   by_cases hlx:x.live=aC
   ·refine(s.obj k x hx).mono hz (bE.refl _) (fun g hg=>⟨H5 hh (bM.lt s ⟨k,x,hx,hlx,hg⟩),fun _=>Iff.rfl⟩) (fun t' m hr=>?_);have hne:t'≠t:=fun e'=>e (by subst e';have h1:=((s.obj k x hx).arena hr).i;rw[hA.i]at h1;grind)
    funext k';exact my fun h=>hne h.1
   ·cases x<;>first|exact True.intro|(simp[O.live]at hlx)
 ·by_cases hlg:g < w.heap.size
  ·obtain⟨x',hx',hlx',hgx⟩:=back g a x hlg hx hlx hg;obtain⟨y',hy',hly',hgy⟩:=back g b y hlg hy hly hg';exact s.inj a b x' y' g hx' hy' hlx' hly' hgx hgy
  grind
 ·obtain⟨k,x,hx,hlx,hb⟩:=ho;obtain⟨x',hx',hlx',hgx⟩:=back g k x hg hx hlx hb;exact⟨k,x',hx',hlx',hgx⟩
 ·grind
 ·have hne:t'≠t:=fun e=>h id o n hm (by grind)
  funext k';exact my fun h=>hne h.1
theorem P3(s:SR P Z w j mem){p x:V}{off:Nat}{u:aR}(h:f7 mem p=aA (x,off))(hv:VR Z w j p u) :
  ∃g b,u = .pointer (aA ⟨g,b+off,aF⟩)/\ge Z w j g b x.cells:=by
 cases p with
 |ref y o =>
  simp[f7]at h;obtain⟨rfl,rfl⟩:=h;obtain⟨g,b,hu,_,hc⟩:=hv.refInv;exact⟨g,b,hu,hc.mono (bO.refl _ _) (bE.zero _) rfl⟩
 |ptr id k o =>
  cases hv with
  |ptr hj hs =>
   rename_i g b hn;simp only[f7]at h;cases hm:mem[id]? with
   |none=>grind
   |some ob =>
    have hO:=s.obj id ob hm;cases ob with
    |dead=>grind
    |map es=>grind
    |arena t els=>grind
    |marena t els=>grind
    |row t els fz =>
     simp only[hm]at h;obtain⟨hn',hh,hr⟩:=hO;rw[hj]at hh;cases hh;cases hk:els[k]? with
     |none=>grind
     |some y =>
      simp[hk]at h;obtain⟨rfl,rfl⟩:=h;rcases hr.2.2.2.2 with⟨_,he⟩|⟨g',b',c,us,hu,_,_,_,_,hcells,_⟩
      ·grind
      ·have e:(g',b')=(g,b):=by
        cases hn;simp at hu;subst hu;simpa[cE.start]using hs
       cases e;exact⟨g,b+k * hn.sz,by grind,(hcells k y hk).mono (bO.refl _ _) (bE.zero _) rfl⟩
    |box t v fz =>
     simp only[hm]at h
     by_cases hk:k=0
     ·simp[hk]at h;obtain⟨rfl,rfl⟩:=h;obtain⟨g',us,h1,h2,h3,h4,h5,_⟩:=hO;rw[hj]at h1;cases h1;simp[cE.start]at hs;grind
     grind
 |hp t k o =>
  cases hv with
  |hp hg =>
   rename_i g;simp only[f7,obi,omi]at h;obtain⟨⟨id,els⟩,hf,y,hk,e⟩:=h;cases e;obtain⟨us,_,_,_,_,hc,_⟩:=(s.obj id _ (HL hf)).2 k _ g hk hg;exact⟨g,0,by simp,hc.mono (bO.refl _ _) (bE.zero _) rfl⟩
 |_=>simp[f7]at h
theorem Dw(s:SR P Z w j mem){m:V}{es:List (V × V)}{u:aR}(h:gL mem m=aA es)(hv:VR Z w j m u):∃r,u = .map (aA r)/\wD Z w r es:=by
 cases m with
 |mp id =>
  simp only[gL]at h;cases hm:mem[id]? with
  |none=>grind
  |some o =>
   cases o<;>simp only[hm]at h<;>first|(cases h;done)|skip;cases h;obtain⟨r,es',clock,h1,h2,h3,h4,h5⟩:=s.obj id _ hm;cases hv with
   |mp hj=>rw[hj]at h1;cases h1;exact⟨_,rfl,es',clock,h2,h3,h4,h5⟩
 |hm t k =>
  simp only[gL,obi]at h;obtain⟨⟨id,ms⟩,hf,hk⟩:=h;cases hv with
  |hm hg=>exact⟨_,rfl,(s.obj id _ (HN hf)).2 k es _ hk hg⟩
 |_=>simp[gL]at h
theorem Ik{t:aO}{d:TypeDesc}(h:P.underlying t=aA d):∃i,P.info? t=aA i/\P.cellsOf t=i.size/\P.bytesOf t=i.bytes:=by
 unfold Program.underlying at h;cases hi:P.info? t with
 |none=>grind
 |some i=>exact⟨i,rfl,by simp[Program.cellsOf,hi],by simp[Program.bytesOf,hi]⟩
theorem ge.drop{g b:Nat}{cs:List V}(h:ge Z w j g b cs)(off n:Nat):ge Z w j g (b+off) ((cs.drop off).take n):=by
 intro i y hy;rw[lj]at hy;split at hy
 ·rw[js]at hy;obtain⟨a,u,hu,hv⟩:=h (off+i) y hy;grind
 grind
theorem Sn{g b:Nat}{cs:List V}(h:ge Z w j g b cs) :
  ∃us:List aR,us.length=cs.length/\(loadCells ⟨g,b,aF⟩ cs.length).run P w = .ok us.toArray w/\(∀(i:Nat) (c:V) (u:aR),cs[i]? = aA c->us[i]? = aA u->VR Z w j c u) /\
   ∀(i:Nat) (u:aR),us[i]? = aA u->w.cell? ⟨g,b+i,aF⟩=aA u/\u.oneCell'=true:=by
 have add:∀i,(⟨g,b,aF⟩:Addr).add i=⟨g,b+i,aF⟩:=by intro i;unfold Addr.add;all_goals grind
 refine⟨(fK cs.length).map fun i=>(w.cell? ⟨g,b+i,aF⟩).getD undef,by simp,run_loadCells w _ _ _ (fun i hi=>?_),fun i c u hc hu=>?_,fun i u hu=>?_⟩
 ·obtain⟨_,u,hu,_⟩:=h i _ (cj hi);grind
 ·obtain⟨_,u',hu',hv⟩:=h i c hc;grind
 ·have hi:i < cs.length:=by grind
  obtain⟨ho,u',hu',hv⟩:=h i _ (cj hi);simp[hi,hu']at hu;subst hu;exact⟨hu',hv.oneCell ho⟩
theorem acW{t:aO}{g b:Nat}{cs:List V}{v:V}(hl:cs.length=P.cellsOf t)(h:pP P t cs=aA v)(hc:ge Z w j g b cs) :
  ∃u,(loadVar t ⟨g,b,aF⟩).run P w = .ok u w/\VR Z w j v u:=by
 unfold pP at h;cases hu:P.underlying t with
 |none=>grind
 |some d =>
  obtain⟨i,hi,hsz,_⟩:=Ik hu
  have agg:(d matches .struct _ |.array _ _)=aC->v = .agg cs->∃u,(loadVar t ⟨g,b,aF⟩).run P w = .ok u w/\VR Z w j v u:=by
   intro hd hv;subst hv;obtain⟨us,hul,hrun,hvr,_⟩:=Sn (P:=P) hc;refine⟨.agg us.toArray,?_,.agg hul.symm hvr⟩;rw[hl,hsz]at hrun;cases d<;>first|(simp at hd;done)|simp[loadVar,isAgg,dS hu,sizeOf,gY,hi,hrun]
  have one:(d matches .struct _ |.array _ _)=aD->tZ cs=aA v->∃u,(loadVar t ⟨g,b,aF⟩).run P w = .ok u w/\VR Z w j v u:=by
   intro hd hv;unfold tZ at hv;split at hv
   ·cases hv;obtain⟨_,u,hu',hvr⟩:=hc 0 _ rfl;refine⟨u,?_,hvr⟩;simp only[fL]at hu';cases d<;>first|(simp at hd;done)|simp[loadVar,isAgg,dS hu,hu']
   grind
  cases d<;>simp only[hu]at h<;>first|grind|grind
theorem P0(s:SR P Z w j mem){t:aO}{p v:V}{u:aR}(h:gE P mem t p=aA v)(hv:VR Z w j p u) :
  ∃u',(Instr.loadAt t u).run P w = .ok u' w/\VR Z w j v u':=by
 unfold gE at h;cases hl:f7 mem p with
 |none=>grind
 |some r =>
  obtain⟨x,off⟩:=r;simp only[hl,bk]at h;split at h
  ·rename_i hlen;obtain⟨g,b,hu,hc⟩:=P3 s hl hv;subst hu;obtain⟨u',h1,h2⟩:=acW (P:=P) hlen h (hc.drop off _);exact⟨u',by simpa[Instr.loadAt,Instr.sureAddr]using h1,h2⟩
  grind
end
section
variable {P:bu}{Z Z':Zs}{w w':be}{j j':J}{mem mem':List O}
def m4(P:bu)(Post:aR->be->Prop):Result Next->Prop
 |.ok (.value u) w'=>Post u w'
 |.ok .skip w'=>Post undef w'
 |.ok (.enter f args) w'=>Calls P f args w' fun e w''=>∃u,e = .returned u/\Post u w''
 |_=>False
def dz(P:bu)(Z:Zs)(w:be)(j:J)(mem:List O)(v:V)(mem':List O)(u:aR)(w':be):Prop :=
 ∃Z' j',VR Z' w' j' v u/\SR P Z' w' j' mem'/\bh Z w j mem Z' w' j' mem'/\bE j j'
theorem fG(s:SR P Z w j mem){v:V}{u:aR}(hv:VR Z w j v u):dz P Z w j mem v mem u w :=
 ⟨Z,j,hv,s,bh.refl _ _ _ _,bE.refl _⟩
theorem Gg{c:aR}{v:V}(h:px c=aA v):VR Z w j v c:=by
 unfold px at h;split at h<;>first|(cases h;constructor;done)|skip
 ·rename_i vs;split at h
  ·rename_i he;cases h;have e:vs=([]:List aR).toArray:=by grind
   rw[e];exact .tup rfl fun i c u hc=>by grind
  grind
 grind
theorem U0{op:BinOp}{k:IntKind}{a b:Int}{v:V}(X Y:fi)(t:aO)(hs:op≠.shl)(hs':op≠.shr)(h:sD op k a b=aA v) :
  ∃u,(do eqGuard op t X Y (.int k a) (.int k b);binOp op t (.int k a) (.int k b):Sem aR).run P w = .ok u w/\VR Z w j v u:=by
 cases op<;>simp[sD]at h hs hs' <;>
  first
  |(subst h;refine⟨_,?_,.int⟩;simp[eqGuard,binOp,Op.intArith,Op.intBits];done)
  |(subst h;refine⟨_,?_,.bool⟩;simp[eqGuard,binOp,Op.intCmp];done)
  |(obtain⟨hb,rfl⟩:=h;refine⟨_,?_,.int⟩;simp[eqGuard,binOp,Op.intDiv,hb];done)
theorem wh(s:ByteArray):s.toList=s.data.toList:=Go.ByteArray.toList_eq s
theorem agq{op:BinOp}{a b:ByteArray}{v:V}(X Y:fi)(t:aO)(h:E9 op a.data.toList b.data.toList=aA v) :
  ∃u,(do eqGuard op t X Y (.string a) (.string b);binOp op t (.string a) (.string b):Sem aR).run P w = .ok u w/\VR Z w j v u:=by
 cases op<;>simp[E9]at h <;>
  first
  |(subst h;refine⟨_,?_,.bool⟩;simp[eqGuard,binOp,Op.stringOp,wh];done)
  |skip
 obtain⟨hb,rfl⟩:=h;refine⟨.string (a++b),?_,?_⟩
 ·have:¬(((a.size+b.size:Nat):Int) > IntKind.i64.max):=by
   have e:IntKind.i64.max=9223372036854775807:=by decide
   grind
  simp only[eqGuard,binOp,Op.stringOp,Sem.run_bind,Sem.run_pure,aY this];simp_all
 ·have e:a.data.toList++b.data.toList=(a++b).data.toList:=by simp
  rw[e];exact .str
theorem ZI{t:aO}{a b:V}{u v:aR}{r:Bool}(d:Nat)(h:sX (P.underlying t) a b=aA r)(ha:VR Z w j a u)(hb:VR Z w j b v) :
  (Op.equalIn (d+1) t u v).run P w = .ok r w:=by
 cases hu:P.underlying t with
 |none=>simp[hu,sX]at h
 |some dd =>
  rw[hu]at h;cases ha<;>cases hb<;>cases dd<;>simp[sX]at h
  ·subst h;exact run_equalIn_bool' w d t _ _ hu
  ·obtain⟨rfl,rfl⟩:=h;exact run_equalIn_int w d t _ _ _ _ hu
  ·rw[run_equalIn_string w d t _ _ hu,wh,wh,<-h];simp
def xu:TypeDesc->Bool
 |.struct _ |.array _ _=>aC
 |_=>aD
theorem ZH{t:aO}{a b:V}{r:Bool}(h:sX (P.underlying t) a b=aA r):∃d,P.underlying t=aA d/\xu d=false:=by
 cases hu:P.underlying t with
 |none=>simp[hu,sX]at h
 |some d =>
  refine⟨d,rfl,?_⟩;rw[hu]at h;cases d<;>first|rfl|(simp[sX]at h)
theorem JE{t:aO}{d:TypeDesc}{cs:Array aR}{off:Nat}{u:aR}(hu:P.underlying t=aA d)(hd:xu d=aD)(hc:cs[off]? = aA u) :
  (part t cs off).run P w = .ok u w:=by
 cases d<;>first|(simp[xu]at hd;done)|simp[part,isAgg,dS hu,hc]
theorem ZE(d:Nat){xs ys:List aR}:∀(fs:List Field) (i:Nat) (cs ds:List V) (r:Bool),
  (fs.zipIdx i).all (fun x=>x.1.name != "_" && x.1.offset==x.2)=aC->ol P (fs.map (·.type)) cs ds=aA r ->
  (∀k c,cs[k]? = aA c->∃u,xs[i+k]? = aA u/\VR Z w j c u)->(∀k c,ds[k]? = aA c->∃u,ys[i+k]? = aA u/\VR Z w j c u) ->
  (Op.eqFields (d+1) xs.toArray ys.toArray fs).run P w = .ok r w:=by
 intro fs
 induction fs with
 |nil =>
  intro i cs ds r _ h _ _;cases cs<;>cases ds<;>simp[ol]at h;subst h;simp[Op.eqFields]
 |cons f fs ih =>
  intro i cs ds r hall h hx hy;cases cs with
  |nil=>simp[ol]at h
  |cons a cs =>
   cases ds with
   |nil=>simp[ol]at h
   |cons b ds =>
    simp only[List.zipIdx_cons,oY,co,bne_iff_ne,iN]at hall;obtain⟨⟨hn,ho⟩,hall⟩:=hall;simp only[d8,ol]at h;cases h1:sX (P.underlying f.type) a b with
    |none=>grind
    |some e =>
     cases h2:ol P (fs.map (·.type)) cs ds with
     |none=>grind
     |some e2 =>
      simp[h1,h2]at h;obtain⟨u,hu,hau⟩:=hx 0 a rfl;obtain⟨v,hv,hbv⟩:=hy 0 b rfl;obtain⟨dd,hdd,hpl⟩:=ZH h1;have p1:=JE (P:=P) (w:=w) (cs:=xs.toArray) (off:=i) hdd hpl (by simpa using hu);have p2:=JE (P:=P) (w:=w) (cs:=ys.toArray) (off:=i) hdd hpl (by simpa using hv);have p3:=ZI (w:=w) d h1 hau hbv
      have ihh:=ih (i+1) cs ds e2 hall h2 (fun k c hk=>by have:=hx (k+1) c (by grind);grind)
       (fun k c hk=>by have:=hy (k+1) c (by grind);grind)
      simp only[Op.eqFields,hn,ne_eq,not_false_eq_true,cZ,Sem.run_bind,ho,p1,p2,p3,Result.andThen_ok];cases e
      all_goals simp_all
theorem agt{op:BinOp}{t:aO}{x y v:V}{cs ds:List V}{u u':aR}(X Y:fi)(hx:x = .agg cs)(hy:y = .agg ds)(h:iO P op t x y=aA v)(hu:VR Z w j x u)(hu':VR Z w j y u') :
  ∃r,(do eqGuard op t X Y u u';binOp op t u u':Sem aR).run P w = .ok r w/\VR Z w j v r:=by
 subst hx hy;cases hu with
 |agg hl hc =>
  cases hu' with
  |agg hl' hc' =>
   rename_i xs ys;simp only[iO]at h;split at h
   ·rename_i hp;unfold Q7 at hp;cases hd:P.underlying t with
    |none=>grind
    |some dd =>
     cases dd<;>simp only[hd]at hp<;>first|(cases hp;done)|skip;rename_i fs;simp only[co,kE]at hp;obtain⟨⟨hg,hst⟩,hall⟩:=hp;have hfo:P.fieldsOf t=fs:=by simp[Program.fieldsOf,hd]
     have hft:C0 P t=fs.toList.map (·.type):=by simp[C0,hd]
     rw[hft]at h
     have key:∀r,ol P (fs.toList.map (·.type)) cs ds=aA r->(Op.equalIn 10000 t (.agg xs.toArray) (.agg ys.toArray)).run P w = .ok r w:=by
      intro r hr;rw[run_equalIn_struct w 9999 t xs.toArray ys.toArray (by grind) hst,hfo];refine ZE (Z:=Z) (j:=j) 9998 fs.toList 0 cs ds r (by grind) hr (fun k c hk=>?_) (fun k c hk=>?_)
      ·have hkl:k < cs.length:=(bX.1 hk).1;exact⟨xs[k]'(by omega),by simp,hc k c _ hk (cj (by omega))⟩
      ·have hkl:k < ds.length:=(bX.1 hk).1;exact⟨ys[k]'(by omega),by simp,hc' k c _ hk (cj (by omega))⟩
     cases hr:ol P (fs.toList.map (·.type)) cs ds with
     |none=>all_goals grind
     |some r =>
      have hk:=key r hr;have hgd:=run_eqGuard_agg (P:=P) w op t X Y xs.toArray ys.toArray hg;cases op<;>simp[hr]at h
      ·subst h;exact⟨_,by rw[Sem.run_bind,hgd,Result.andThen_ok,run_eql_struct,hk,Result.andThen_ok],.bool⟩
      ·subst h;exact⟨_,by rw[Sem.run_bind,hgd,Result.andThen_ok,run_neq_struct,hk,Result.andThen_ok],.bool⟩
   grind
theorem Vb{op:BinOp}{t:aO}{x y v:V}{u u':aR}(X Y:fi)(h:iO P op t x y=aA v)(hx:VR Z w j x u)(hy:VR Z w j y u') :
  ∃r,(do eqGuard op t X Y u u';binOp op t u u':Sem aR).run P w = .ok r w/\VR Z w j v r:=by
 cases x with
 |agg cs =>
  cases y with
  |agg ds=>exact agt X Y rfl rfl h hx hy
  |_=>simp[iO]at h
 |int k a =>
  cases y with
  |int k' b =>
   cases hx;cases hy
   by_cases hs:op = .shl
   ·subst hs;simp[iO]at h;obtain⟨hb,rfl⟩:=h;have:¬b < 0:=by omega
    exact⟨_,by simp[eqGuard,binOp,Op.shift,this],.int⟩
   ·by_cases hs':op = .shr
    ·subst hs';simp[iO]at h;obtain⟨hb,rfl⟩:=h;have:¬b < 0:=by omega
     exact⟨_,by simp[eqGuard,binOp,Op.shift,this],.int⟩
    ·by_cases hk:k=k'
     ·subst hk
      have h':sD op k a b=aA v:=by
       cases op<;>first|(simpa[iO]using h)|grind|grind
      exact U0 X Y t hs hs' h'
     ·cases op<;>first|(simp[iO,hk]at h;done)|grind|grind
  |_=>simp[iO]at h
 |str a =>
  cases y with
  |str b =>
   cases hx;cases hy;exact agq X Y t (by simpa[iO]using h)
  |_=>simp[iO]at h
 |bool a =>
  cases y with
  |bool b =>
   cases hx;cases hy;cases hd:P.underlying t with
   |none=>simp[iO,hd]at h
   |some d =>
    cases d<;>simp[iO,hd]at h;have e:=run_equalIn_bool' (P:=P) w 9999 t a b hd;cases op<;>simp at h
    ·subst h;exact⟨.bool (a==b),by simp[eqGuard,binOp,Op.equal,Op.maxDepth,e],.bool⟩
    ·subst h;exact⟨.bool (!(a==b)),by simp[eqGuard,binOp,Op.equal,Op.maxDepth,e],.bool⟩
  |_=>simp[iO]at h
 |_=>simp[iO]at h
theorem Qv{t:aO}{x y:V}{u u':aR}{b:Bool}(h:tK P t x y=aA b)(hx:VR Z w j x u)(hy:VR Z w j y u'):(Op.equal t u u').run P w = .ok b w:=by
 have key:∀d:Nat,(Op.equalIn (d+1) t u u').run P w = .ok b w:=by
  intro d;unfold tK at h;split at h
  ·rename_i hu;cases h;cases hx;cases hy;simp[Op.equalIn,dS hu]
  ·rename_i hu;cases h;cases hx;cases hy;simp[Op.equalIn,dS hu]
  ·rename_i hu;cases h;cases hx;cases hy;simp[Op.equalIn,dS hu]
  ·rename_i hu;cases h;cases hx;cases hy;simp[Op.equalIn,dS hu]
  ·rename_i hu;cases h;cases hx;cases hy;simp[Op.equalIn,dS hu]
  ·rename_i hu;cases h;cases hx;cases hy;unfold pE;split<;>simp[Op.equalIn,dS hu]
  ·cases h
 exact key 9999
theorem Ve{op:BinOp}{t:aO}{x y v:V}{u u':aR}(X Y:fi)(h:n6 P op t x y=aA v)(hx:VR Z w j x u)(hy:VR Z w j y u') :
  ∃r,(do eqGuard op t X Y u u';binOp op t u u':Sem aR).run P w = .ok r w/\VR Z w j v r:=by
 unfold n6 at h;split at h;rotate_left
 ·exact Vb X Y h hx hy
 rename_i hn
 have hy':(∃p,u' = .pointer p)∨u' = .nilFunc:=by
  cases y<;>simp[vI]at hn<;>cases hy
  ·exact .inl ⟨_,rfl⟩
  ·exact .inr rfl
 have hu:∀b,tK P t x y=aA b->(∃p,u = .pointer p)∨u = .nilFunc∨∃f a c,u = .func f a c:=by
  intro b hb;unfold tK at hb;split at hb<;>first|(cases hb;done)|skip
  all_goals cases hx
  ·exact .inl ⟨_,rfl⟩
  ·exact .inl ⟨_,rfl⟩
  ·exact .inl ⟨_,rfl⟩
  ·exact .inl ⟨_,rfl⟩
  ·exact .inr (.inl rfl)
  ·refine .inr (.inr ?_);unfold pE;split<;>exact⟨_,_,_,rfl⟩
 cases op<;>simp only at h<;>first|(cases h;done)|skip
 ·cases hb:tK P t x y with
  |none=>simp[hb]at h
  |some b =>
   simp[hb]at h;subst h;have he:=Qv hb hx hy;refine⟨.bool b,?_,.bool⟩;rcases hy' with⟨p,rfl⟩|rfl<;>rcases hu b hb with⟨q,rfl⟩|rfl|⟨f,a,c,rfl⟩<;>simp only[eqGuard,binOp,Sem.run_bind,Sem.run_pure,Result.andThen_ok,he,bK,dw,dI]
 ·cases hb:tK P t x y with
  |none=>simp[hb]at h
  |some b =>
   simp[hb]at h;subst h;have he:=Qv hb hx hy;refine⟨.bool (!b),?_,.bool⟩;rcases hy' with⟨p,rfl⟩|rfl<;>rcases hu b hb with⟨q,rfl⟩|rfl|⟨f,a,c,rfl⟩<;>simp only[eqGuard,binOp,Sem.run_bind,Sem.run_pure,Result.andThen_ok,he,bK,dw,dI]
theorem agR{op:UnOp}{x v:V}{u:aR}(h:Fi op x=aA v)(hx:VR Z w j x u):∃r,(Op.unary op u).run P w = .ok r w/\VR Z w j v r:=by
 cases op<;>cases x<;>simp[Fi]at h<;>first|(subst h;cases hx)|cases hx
 ·exact⟨.int _ _,by simp only[Op.unary,Op.intArith,Int.zero_sub];rfl,.int⟩
 ·simp only[sD,Option.some.injEq]at h;subst h;exact⟨_,by simp[Op.unary,Op.intBits],.int⟩
 ·exact⟨.bool _,by simp only[Op.unary];rfl,.bool⟩
theorem IK:∀{l:List V} {xs:List Int},iv l=aA xs->xs.length=l.length/\∀(i:Nat) (n:Int),xs[i]? = aA n->l[i]? = aA (.int .u8 n):=by
 intro l
 induction l with
 |nil=>intro xs h;cases h;grind
 |cons x l ih =>
  intro xs h;unfold iv at h;split at h
  ·grind
  ·rename_i n l' e;cases e;simp only[omi]at h;grind
  grind
theorem T1{s d e:aO}{l:List V}{v:V}{A:Option Addr}{c:Nat}(hs:P.underlying s=aA (.slice e))(hd:P.underlying d=aA .string)(h:we P e l=aA v)
  (hel:l=[]∨∃g b sz,A=aA ⟨g,b,aF⟩/\0 < sz/\∀(k:Nat) (y:V),l[k]? = aA y->y.cells.length=sz/\ge Z w j0 g (b+k * sz) y.cells) :
  ∃r,(convert s d (.slice A l.length c)).run P w = .ok r w/\VR Z w j v r:=by
 unfold we at h;split at h
 ·rename_i he;simp only[omi]at h;obtain⟨xs,h1,rfl⟩:=h;obtain⟨q1,q2⟩:=IK h1
  have key:(∀a,A=aA a->(loadCells a l.length).run P w = .ok (xs.map (Value.int .u8)).toArray w)->(A=aF->l=[])->∃r,(convert s d (.slice A l.length c)).run P w = .ok r w/\VR Z w j (.str (xs.map fun n=>UInt8.ofNat n.toNat)) r:=by
   intro hl hn;cases A with
   |none =>
    have e0:l=[]:=hn rfl;have:xs=[]:=wx (by grind);subst this;exact⟨_,run_convert_bytes_nil w s e hs he _ _ d hd,VR.str (s:=ByteArray.empty)⟩
   |some a =>
    refine⟨_,by rw[run_convert_bytes_string w s d e _ _ c hs he hd];exact run_bytesToString w a _ c xs (hl a rfl),?_⟩;rw[foldl_push_bytes];have:=VR.str (Z:=Z) (w:=w) (j:=j) (s:=(⟨ByteArray.empty.data++(xs.map fun n=>UInt8.ofNat n.toNat).toArray⟩:ByteArray));simp_all
  rcases hel with rfl|⟨g,b,sz,rfl,hsz,hh⟩
  ·have:xs=[]:=wx q1;subst this;exact key (fun a _=>run_loadCells_list (P:=P) w a [] (fun j v hj=>by grind)) (fun _=>rfl)
  ·refine key (fun a ha=>?_) (fun h=>by cases h);cases ha
   have:=run_loadCells_list (P:=P) w ⟨g,b,aF⟩ (xs.map (Value.int .u8)) (fun i u hi=>by
    rw[fW]at hi;cases hx:xs[i]? with
    |none=>grind
    |some n =>
     simp[hx]at hi;subst hi;obtain⟨p1,p3⟩:=hh i _ (q2 i n hx);have e1:sz=1:=by rw[<-p1];rfl
     subst e1;obtain⟨_,u,hu,hv⟩:=p3 0 _ rfl;cases hv;rw[<-hu];have e2:(⟨g,b,aF⟩:Addr).add i=⟨g,b+i,aF⟩:=by unfold Addr.add;all_goals grind
     grind)
   grind
 grind
end
section
variable {P:bu}{Z Z':Zs}{w w':be}{j j':J}{mem mem':List O}
theorem sC(g b n:Nat):(⟨g,b,aF⟩:Addr).add n=⟨g,b+n,aF⟩:=by unfold Addr.add;all_goals grind
theorem yN(s:SR P Z w j mem){id off fz:Nat}{t:aO}{els:List V}{u:aR}(hm:mem[id]? = aA (.row t els fz))(hv:VR Z w j (.tail id off) u) :
  off<=els.length/\VR Z w j (.win id off (els.length - off)) u:=by
 cases hv with
 |tail hj hn h =>
  obtain⟨hn',hh,h1,h2,h3,h4,h5⟩:=s.obj id _ hm;grind
theorem TS{id off fz:Nat}{t:aO}{els:List V}(hm:mem[id]? = aA (.row t els fz))(hn:off<=els.length):dy mem (.win id off (els.length - off))=aA (els.drop off):=by
 simp only[dy,hm];rw[aU (by omega),sd (by simp)]
theorem N5(s:SR P Z w j mem){x:V}{xs:List V}{u:aR}(h:dy mem x=aA xs)(hv:VR Z w j x u)(ht:∀id off,x≠.tail id off) :
  ∃A c,u = .slice A xs.length c/\(xs=[]∨∃g b sz,A=aA ⟨g,b,aF⟩/\0 < sz/\∀(k:Nat) (y:V),xs[k]? = aA y->y.cells.length=sz/\ge Z w j0 g (b+k * sz) y.cells):=by
 cases x with
 |nilS=>simp[dy]at h;subst h;cases hv;simp_all
 |sl l =>
  simp[dy]at h;subst h;rcases hv.slInv with⟨A,c,rfl,rfl⟩|⟨g,b,c,sz,rfl,_,hsz,hh⟩
  ·grind
  ·exact⟨_,_,rfl,.inr ⟨g,b,sz,rfl,hsz,fun k y hk=>⟨(hh k y hk).1,(hh k y hk).2.2⟩⟩⟩
 |lit t l =>
  simp[dy]at h;subst h;cases hv with
  |lit hv =>
   rcases hv.slInv with⟨A,c,rfl,he⟩|⟨g,b,c,sz,he,_,hsz,hh⟩
   ·grind
   ·rw[he];exact⟨_,_,rfl,.inr ⟨g,b,sz,rfl,hsz,fun k y hk=>⟨(hh k y hk).1,(hh k y hk).2.2⟩⟩⟩
 |own id =>
  simp only[dy]at h;cases hm:mem[id]? with
  |none=>grind
  |some o =>
   cases o<;>simp[hm]at h;subst h;rename_i t els fz;obtain⟨hn,hh,h1,h2,h3,h4,h5⟩:=s.obj id _ hm;cases hv with
   |own hj =>
    rw[hj]at hh;cases hh;rcases h5 with⟨hu,he⟩|⟨g,b,c,us,hu,_,_,_,_,hcells,_⟩
    ·grind
    ·cases hu;refine⟨_,_,rfl,.inr ⟨g,b,_,rfl,h2,fun k y hk=>⟨h4 y (dx hk),hcells k y hk⟩⟩⟩
 |win id off len =>
  simp only[dy]at h;cases hm:mem[id]? with
  |none=>grind
  |some o =>
   cases o<;>simp[hm]at h;obtain⟨hle,rfl⟩:=h;rename_i t els fz;obtain⟨hn,hh,h1,h2,h3,h4,h5⟩:=s.obj id _ hm;cases hv with
   |win hj hn hlc _ ha =>
    rw[hj]at hh;cases hh;have hlen:((els.drop off).take len).length=len:=by grind
    rw[hlen];refine⟨_,_,rfl,?_⟩
    by_cases h0:len=0
    ·grind
    ·right;rcases h5 with⟨hu,he⟩|⟨g',b',c',us,hu,_,_,_,_,hcells,_⟩
     ·grind
     ·cases hu;obtain⟨g,b,o,hA,hA',_,ho⟩:=ha.resolve_left (fun h=>by grind);have ho:=ho (by omega);subst ho;cases hA;refine⟨_,_,_,hA',h2,fun k y hk=>?_⟩;grind
 |tail id off=>grind
 |_=>simp[dy]at h
theorem Vh{k:IntKind}{n:Int}{y d l:Nat}{code:BoundsCode}(h:gC (aA (aA (.int k n))) d=aA l)(hl:l<=y) :
  (Instr.sliceBound (.int k n) y code).run P w = .ok l w:=by
 simp only[gC]at h;split at h
 ·rename_i h0;cases h;have:n<=(y:Int):=by omega
  simp[Instr.sliceBound,asIntOf,h0,this]
 grind
def qv(Z:Zs)(w:be)(j:J):Option (Option V)->Option aR->Prop
 |none,aF=>True
 |some (aA v),aA u=>VR Z w j v u
 |some aF,aA _=>True
 |_,_=>False
theorem agA(s:SR P Z w j mem){id off:Nat}{xs:List V}{u:aR}(h:dy mem (.tail id off)=aA xs)(hv:VR Z w j (.tail id off) u) :
  ∃len,dy mem (.win id off len)=aA xs/\VR Z w j (.win id off len) u:=by
 simp only[dy]at h;cases hm:mem[id]? with
 |none=>grind
 |some o =>
  cases o<;>simp[hm]at h;subst h;obtain⟨h1,h2⟩:=yN s hm hv;exact⟨_,TS hm h1,h2⟩
theorem uU(s:SR P Z w j mem){x:V}{xs:List V}{u:aR}(h:dy mem x=aA xs)(hv:VR Z w j x u) :
  ∃A c,u = .slice A xs.length c/\(xs=[]∨∃g b sz,A=aA ⟨g,b,aF⟩/\0 < sz/\∀(k:Nat) (y:V),xs[k]? = aA y->y.cells.length=sz/\ge Z w j0 g (b+k * sz) y.cells):=by
 by_cases ht:∃id off,x = .tail id off
 ·obtain⟨id,off,rfl⟩:=ht;obtain⟨len,h1,h2⟩:=agA s h hv;exact N5 s h1 h2 (by grind)
 ·exact N5 s h hv (fun id off e=>ht ⟨id,off,e⟩)
theorem Ma{isSlice:Bool}{len cap l h m:Nat}{lo hi mx:Option (Option V)}{lo' hi' mx':Option aR}(hlo:qv Z w j lo lo')(hhi:qv Z w j hi hi')(hmx:qv Z w j mx mx')
  (h1:gC lo 0=aA l) (h2:gC hi len=aA h) (h3:gC mx len=aA m) (hlh:l<=h) (hhm:h<=m) (hml:m<=len) (hlc:len<=cap) (hh:mx.isSome=aC->hi.isSome=aC) :
  ∃m',(Instr.sliceBounds isSlice len cap lo' hi' mx').run P w = .ok (l,h,m') w/\m'<=cap/\h<=m'/\(mx=aF->m'=cap):=by
 have val:∀(o:Option (Option V)) (o':Option aR) (d r:Nat),qv Z w j o o'->gC o d=aA r->(o=aF/\o'=aF/\r=d)∨∃k n,o=aA (aA (.int k n))/\o'=aA (.int k n):=by
  intro o o' d r hr hb;cases o with
  |none=>cases o' with
   |none=>simp[gC]at hb;grind
   |some u=>exact hr.elim
  |some v=>cases o' with
   |none=>cases v<;>exact hr.elim
   |some u=>cases v with
    |none=>simp[gC]at hb
    |some v =>
     cases v<;>simp[gC]at hb;simp only[qv]at hr;cases hr;grind
 have eb:∀(o:Option (Option V)) (k:IntKind) (n:Int) (d r:Nat),o=aA (aA (.int k n))->gC o d=aA r->∀(y:Nat) (code:BoundsCode),r<=y->(Instr.sliceBound (.int k n) y code).run P w = .ok r w:=by
  intro o k n d r ho hb y code hy;subst ho;exact Vh hb hy
 unfold Instr.sliceBounds;rcases val mx mx' len m hmx h3 with⟨rfl,rfl,rfl⟩|⟨km,nm,rfl,rfl⟩
 ·rcases val hi hi' m h hhi h2 with⟨rfl,rfl,rfl⟩|⟨kh,nh,rfl,rfl⟩
  ·rcases val lo lo' 0 l hlo h1 with⟨rfl,rfl,rfl⟩|⟨kl,nl,rfl,rfl⟩
   ·simp_all
   ·have e:=eb _ kl nl 0 l rfl h1;simp_all
  ·have e2:=eb _ kh nh m h rfl h2;rcases val lo lo' 0 l hlo h1 with⟨rfl,rfl,rfl⟩|⟨kl,nl,rfl,rfl⟩
   ·exact⟨cap,by cases isSlice<;>simp[e2 cap _ (by omega)],by omega,by omega,fun _=>rfl⟩
   ·have e:=eb _ kl nl 0 l rfl h1;exact⟨cap,by cases isSlice<;>simp[e h _ hlh,e2 cap _ (by omega)],by omega,by omega,fun _=>rfl⟩
 ·have e3:=eb _ km nm len m rfl h3;rcases val hi hi' len h hhi h2 with⟨rfl,rfl,rfl⟩|⟨kh,nh,rfl,rfl⟩
  ·grind
  ·have e2:=eb _ kh nh len h rfl h2;rcases val lo lo' 0 l hlo h1 with⟨rfl,rfl,rfl⟩|⟨kl,nl,rfl,rfl⟩
   ·exact⟨m,by simp[e2 m _ hhm,e3 cap _ (by omega)],by omega,by omega,fun h=>by cases h⟩
   ·have e:=eb _ kl nl 0 l rfl h1;exact⟨m,by simp[e h _ hlh,e2 m _ hhm,e3 cap _ (by omega)],by omega,by omega,fun h=>by cases h⟩
theorem ZL(s:ByteArray)(l h:Nat):(s.extract l h).data.toList=(s.data.toList.take h).drop l:=by
 simp[ByteArray.data_extract,List.extract_eq_take_drop,List.drop_take]
theorem KJ(s:SR P Z w j mem){x:V}{xs:List V}{A:Option Addr}{n c:Nat}(h:dy mem x=aA xs)(hv:VR Z w j x (.slice A n c)):n<=c:=by
 cases x with
 |nilS=>cases hv;omega
 |sl l =>
  rcases hv.slInv with⟨A,c,_,he⟩|⟨g,b,c,sz,he,hlc,_⟩
  all_goals grind
 |lit t l =>
  cases hv with
  |lit hv =>
   grind
 |own id =>
  simp only[dy]at h;cases hm:mem[id]? with
  |none=>grind
  |some o =>
   cases o<;>simp[hm]at h;obtain⟨hn,hh,h1,h2,h3,h4,h5⟩:=s.obj id _ hm;cases hv with
   |own hj =>
    grind
 |win id off len=>cases hv with
  |win _ _ hlc _ _=>grind
 |tail id off=>cases hv with
  |tail _ _ h2=>cases h2 with
   |win _ _ hlc _ _=>grind
 |_=>simp[dy]at h
theorem af1(s:SR P Z w j mem){t:aO}{x v:V}{u:aR}{lo hi mx:Option (Option V)}{lo' hi' mx':Option aR}(h:lK P mem t x lo hi mx=aA v)(hv:VR Z w j x u)
  (hlo:qv Z w j lo lo') (hhi:qv Z w j hi hi') (hmx:qv Z w j mx mx'):∃r,(Instr.sliceAt t u lo' hi' mx').run P w = .ok r w/\VR Z w j v r:=by
 unfold lK at h;cases hu:P.underlying t with
 |none=>grind
 |some d =>
  rw[hu]at h;cases d<;>first|(simp at h;done)|skip
  case string =>
   cases x<;>simp only at h<;>first|(cases h;done)|skip;cases hv;rename_i sb;split at h
   ·cases h
   ·rename_i hm0;cases hl:gC lo 0 with
    |none=>grind
    |some l =>
     cases hh:gC hi sb.data.toList.length with
     |none=>grind
     |some hh' =>
      simp only[hl,hh,bk]at h;split at h
      ·rename_i hc;cases h;cases mx with
       |some y=>grind
       |none =>
        cases mx' with
        |some y=>exact hmx.elim
        |none =>
         obtain⟨m',hr,hm1,hm2,_⟩:=Ma (P:=P) (isSlice:=aD) (len:=sb.size) (cap:=sb.size) (mx:=aF) (mx':=aF) hlo hhi True.intro hl hh (by rfl:gC aF sb.size=aA sb.size) hc.1 hc.2 (c7 _) (c7 _) (by simp);refine⟨.string (sb.extract l hh'),?_,?_⟩
         ·simp[Instr.sliceAt,Instr.slice,dS hu,hr]
         ·rw[<-ZL];exact .str
      grind
  case slice e =>
   cases hx:dy mem x with
   |none=>grind
   |some xs =>
    simp only[hx,bk]at h;cases hl:gC lo 0 with
    |none=>grind
    |some l =>
     cases hh:gC hi xs.length with
     |none=>grind
     |some hh' =>
      cases hm:gC mx xs.length with
      |none=>grind
      |some m =>
       simp only[hl,hh,hm,bk]at h;split at h
       ·rename_i hc;obtain⟨hpos,hlh,hhm,hml,hmh,hall⟩:=hc
        have hinfo:∃i,P.info? e=aA i/\i.size=P.cellsOf e:=by
         cases hi:P.info? e with
         |none=>simp[Program.cellsOf,hi]at hpos
         |some i=>exact⟨i,rfl,by simp[Program.cellsOf,hi]⟩
        obtain⟨i,hinf,hisz⟩:=hinfo;obtain⟨A,c,rfl,hel⟩:=uU s hx hv;have hle:xs.length<=c:=KJ s hx hv;obtain⟨m',hr,hm1,hm2,hm3⟩:=Ma (P:=P) (isSlice:=aC) hlo hhi hmx hl hh hm hlh hhm hml hle hmh
        have hrun:(Instr.sliceAt t (.slice A xs.length c) lo' hi' mx').run P w = .ok (.slice (if m'=l then A else A.map (·.add (l * P.cellsOf e))) (hh' - l) (m' - l)) w:=by
         simp[Instr.sliceAt,Instr.slice,dS hu,hr,sizeOf,gY,hinf,hisz]
        have hA:0 < hh' - l->∃g b,A=aA ⟨g,b,aF⟩/\(if m'=l then A else A.map (·.add (l * P.cellsOf e)))=aA ⟨g,b+l * P.cellsOf e,aF⟩/\∀(k:Nat) (y:V),xs[k]? = aA y->y.cells.length=P.cellsOf e/\ge Z w j0 g (b+k * P.cellsOf e) y.cells:=by
         intro h0;rcases hel with rfl|⟨g,b,sz,rfl,hsz,hcl⟩
         ·grind
         ·have h1:xs[l]? = aA (xs[l]'(by omega)):=cj (by omega)
          have h2:sz=P.cellsOf e:=by
           grind
          subst h2;refine⟨g,b,rfl,?_,hcl⟩;rw[aY (by omega)];simp[sC]
        refine⟨_,hrun,?_⟩;cases x<;>simp only at h<;>first|(cases h;done)|skip
        case nilS =>
         cases h;simp[dy]at hx;subst hx;cases hv;simp at hml hm1;have e1:hh'=0:=by omega
         have e2:l=0:=by omega
         have e3:m'=0:=by omega
         subst e1 e2 e3;simpa using VR.nilS
        case sl l0 =>
         simp[dy]at hx;subst hx;cases h
         by_cases h0:0 < hh' - l
         ·obtain⟨g,b,hA1,hA2,hcl⟩:=hA h0;rw[hA2];rcases hv.slInv with⟨_,_,rfl,_⟩|⟨g',b',c',sz,he,_,hsz,hz⟩
          ·grind
          ·rw[hA1]at he;simp at he;obtain⟨⟨rfl,rfl⟩,rfl⟩:=he;have e4:hh' - l=((l0.take hh').drop l).length:=by grind
           rw[e4];have h1:l0[l]? = aA (l0[l]'(by omega)):=cj (by omega);have h2:sz=P.cellsOf e:=by grind
           subst h2;refine VR.slMk (by grind) hsz fun k y hk=>?_
           grind
         ·have e4:(l0.take hh').drop l=[]:=by grind
          rw[e4,show hh' - l=0 by omega];exact .sl0
        case own id =>
         split at h
         ·rename_i e' els fz hmem;cases mx<;>simp at h;obtain⟨rfl,h⟩:=h;have hm':=hm3 rfl;obtain⟨hn,hh2,h1,h2,h3,h4,h5⟩:=s.obj id _ hmem;cases hv with
          |own hj =>
           rw[hj]at hh2;cases hh2;simp only at h1
           have hw:VR Z w j (.win id l (hh' - l)) (.slice (if m'=l then A else A.map (·.add (l * P.cellsOf e'))) (hh' - l) (m' - l)):=by
            refine .win hj (by omega) (by omega) (by omega) ?_;rcases h5 with⟨h5,_⟩|⟨g,b,c',us,h5,_⟩
            ·grind
            ·simp only[Value.slice.injEq]at h5;obtain⟨rfl,_⟩:=h5;refine .inr ⟨g,b,if m'=l then 0 else l * P.cellsOf e',rfl,?_,?_,?_⟩
             ·split<;>simp[sC]
             all_goals grind
           cases hi0:hi with
           |some y=>grind
           |none =>
            rw[hi0]at h hh;simp at h;subst h;simp only[gC,Option.some.injEq]at hh;subst hh;exact .tail hj (by omega) hw
         grind
        case win id off len =>
         split at h
         ·rename_i e' els fz hmem;cases mx<;>simp at h;obtain⟨rfl,rfl⟩:=h;have hm':=hm3 rfl;obtain⟨hn',hh2,h1,h2,h3,h4,h5⟩:=s.obj id _ hmem;cases hv with
          |win hj hn hlc hcc ha =>
           rw[hj]at hh2;cases hh2;simp only at h1;refine .win hj (by omega) (by omega) (by omega) ?_;rcases ha with⟨hA1,rfl⟩|⟨g,b,o,hA1,rfl,ho1,ho2⟩
           ·grind
           ·refine .inr ⟨g,b,o+if m'=l then 0 else l * P.cellsOf e',hA1,?_,?_,?_⟩
            ·split<;>simp[sC,jP]
            all_goals grind
         grind
        case tail id off =>
         split at h
         ·rename_i e' els fz hmem;cases mx<;>simp at h;obtain⟨rfl,h⟩:=h;have hm':=hm3 rfl;obtain⟨hn',hh2,h1,h2,h3,h4,h5⟩:=s.obj id _ hmem;have hxs:xs=els.drop off:=by simp only[dy,hmem,Option.some.injEq]at hx;grind
          obtain⟨ho0,hwv⟩:=yN s hmem hv
          obtain⟨At,nt,ct,szt,hjt,hnt⟩:∃A0 n0 c0 sz0,j id=aA ⟨.slice A0 n0 c0,sz0⟩/\off<=n0:=by
           cases hv with
           |tail hj hn _=>grind
          rw[hjt]at hh2;cases hh2
          have hnt2:nt=els.length:=by
           grind
          have hxl:xs.length=els.length - off:=by grind
          have hw:VR Z w j (.win id (off+l) (hh' - l)) (.slice (if m'=l then A else A.map (·.add (l * P.cellsOf e'))) (hh' - l) (m' - l)):=by
           rw[<-hxl]at hwv;cases hwv with
           |win hj hn hlc hcc ha =>
            rw[hjt]at hj;cases hj;simp only at h1;refine .win hjt (by omega) (by omega) (by omega) ?_;rcases ha with⟨hA1,rfl⟩|⟨g,b,o,hA1,rfl,ho1,ho2⟩
            ·grind
            ·refine .inr ⟨g,b,o+if m'=l then 0 else l * P.cellsOf e',hA1,?_,?_,?_⟩
             ·split<;>simp[sC,jP]
             all_goals grind
          cases hi0:hi with
          |some y=>grind
          |none =>
           rw[hi0]at h hh;simp at h;subst h;simp only[gC,Option.some.injEq]at hh;refine .tail hjt (by omega) ?_;grind
         grind
       grind
theorem ZO{st:aO}{x v:V}{u:aR}{f:Nat}(h:CZ P st x f=aA v)(hv:VR Z w j x u):∃r,(Instr.fieldAt st u f).run P w = .ok r w/\VR Z w j v r:=by
 unfold CZ xj at h;cases hu:P.underlying st with
 |none=>grind
 |some d =>
  cases d<;>simp only[hu]at h<;>first|(simp at h;done)|skip;rename_i fs;cases hf:fs[f]? with
  |none=>grind
  |some fl =>
  simp only[hf,du,bk]at h;split at h
  ·cases h
  rename_i h0
  have hinfo:∃i,P.info? fl.type=aA i/\i.size≠0:=by
   cases hi:P.info? fl.type with
   |none=>simp[Program.cellsOf,hi]at h0
   |some i=>exact⟨i,rfl,by simpa[Program.cellsOf,hi]using h0⟩
  obtain⟨i,hi,hi0⟩:=hinfo
  have run:∀g b,(Instr.fieldAt st (.pointer (aA ⟨g,b,aF⟩)) f).run P w = .ok (.pointer (aA ⟨g,b+fl.offset,aF⟩)) w:=by
   intro g b;simp[Instr.fieldAt,dS hu,hf,Instr.sureAddr,fieldPlace,sizeOf,gY,hi,hi0,sC]
  cases x<;>simp at h<;>subst h
  ·cases hv with
   |ref f' hc hvv =>
    refine⟨_,run _ _,?_⟩;rw[jP];exact .ref f' hc hvv
  ·cases hv with
   |ptr hj hs =>
    refine⟨_,run _ _,?_⟩;rw[jP,jP];exact .ptr hj hs
  ·cases hv with
   |hp hg=>exact⟨_,run _ _,.hp hg⟩
theorem JA{h:cE}{t:aO}{els:List V}{fz:Nat}(r:lQ P Z w h t els fz){A:Option Addr}{n c:Nat}(hu:h.u = .slice A n c)(h0:0 < els.length) :
  n=els.length/\n<=c/\∃g b,A=aA ⟨g,b,aF⟩/\h.start=aA (g,b):=by
 rcases r.2.2.2.2 with⟨_,he⟩|⟨g,b,c',us,hu',hlc,_⟩
 ·grind
 ·rw[hu]at hu';cases hu';refine⟨rfl,hlc,g,b,rfl,?_⟩;cases h;simp at hu;subst hu;rfl
theorem aa6(s:SR P Z w j mem){t:aO}{x i v:V}{u ui:aR}(h:kp P mem t x i=aA v)(hv:VR Z w j x u)(hi:VR Z w j i ui) :
  ∃r,(Instr.indexAt t u ui).run P w = .ok r w/\VR Z w j v r:=by
 unfold kp at h;cases hu:P.underlying t with
 |none=>grind
 |some d =>
  cases i<;>(try (simp[hu]at h;done))<;>(try (cases d<;>simp[hu]at h;done));rename_i k n;cases hi;cases d<;>simp only[hu]at h<;>first|(cases h;done)|skip
  case slice e =>
   split at h
   ·rename_i hn0
    have run:∀g b len c,n.toNat < len->0 < P.cellsOf e->(Instr.indexAt t (.slice (aA ⟨g,b,aF⟩) len c) (.int k n)).run P w = .ok (.pointer (aA ⟨g,b+n.toNat * P.cellsOf e,aF⟩)) w:=by
     intro g b len c bd hpos
     have hinfo:∃i,P.info? e=aA i/\i.size=P.cellsOf e:=by
      cases hi:P.info? e with
      |none=>simp[Program.cellsOf,hi]at hpos
      |some i=>exact⟨i,rfl,by simp[Program.cellsOf,hi]⟩
     obtain⟨i,hi,hisz⟩:=hinfo;have h1:n < (len:Int):=by omega
     simp[Instr.indexAt,asIntOf,dS hu,hn0,h1,sizeOf,gY,hi,hisz,sC]
    cases x<;>simp only at h<;>first|(cases h;done)|skip
    case sl l =>
     cases hl:l[n.toNat]? with
     |none=>grind
     |some y =>
      simp[hl]at h;obtain⟨hy,rfl⟩:=h;have bd:n.toNat < l.length:=(bX.1 hl).1;rcases hv.slInv with⟨_,_,rfl,_⟩|⟨g,b,c,sz,rfl,hlc,hsz,hh⟩
      ·grind
      ·obtain⟨h1,h2,h3⟩:=hh _ y hl;have e1:sz=P.cellsOf e:=by omega
       subst e1;refine⟨_,run g b _ c bd hsz,?_⟩;have:=VR.refMk (Z:=Z) (w:=w) (j:=j) (x:=y) (off:=0) (g:=g) (b:=b+n.toNat * P.cellsOf e) (fun i hi=>by grind) h3;grind
    case own id =>
     cases hm:mem[id]? with
     |none=>grind
     |some o =>
      cases o<;>simp[hm]at h;rename_i t' els fz;obtain⟨⟨rfl,bd⟩,rfl⟩:=h;obtain⟨hn,hh,hr⟩:=s.obj id _ hm;cases hv with
      |own hj =>
       rw[hj]at hh;cases hh;obtain⟨e1,e2,g,b,rfl,hst⟩:=JA hr rfl (by omega);subst e1;have h1:=hr.1;simp only at h1;refine⟨_,run g b _ _ bd (by have:=hr.2.1;grind),?_⟩;have:=VR.ptr (Z:=Z) (w:=w) (k:=n.toNat) (off:=0) hj hst;grind
    case win id off len =>
     cases hm:mem[id]? with
     |none=>grind
     |some o =>
      cases o<;>simp[hm]at h;rename_i t' els fz;obtain⟨⟨rfl,bd,hle⟩,rfl⟩:=h;obtain⟨hn,hh,hr⟩:=s.obj id _ hm;cases hv with
      |win hj hnn hlc _ ha =>
       rw[hj]at hh;cases hh;obtain⟨e1,e2,g,b,rfl,hst⟩:=JA hr rfl (by omega);obtain⟨g',b',o,hA,hA',_,ho⟩:=ha.resolve_left (fun h=>by grind);have ho:=ho (by omega);subst ho;cases hA;subst hA';have h1:=hr.1;simp only at h1;refine⟨_,run g _ _ _ bd (by have:=hr.2.1;grind),?_⟩;have:=VR.ptr (Z:=Z) (w:=w) (k:=off+n.toNat) (off:=0) hj hst;grind
    case tail id off =>
     cases hm:mem[id]? with
     |none=>grind
     |some o =>
      cases o<;>simp only[hm]at h<;>first|(cases h;done)|skip;rename_i t' els fz;split at h
      ·rename_i hc;obtain⟨rfl,bd⟩:=hc;cases h;obtain⟨ho0,hwv⟩:=yN s hm hv;rw[fD]at bd;obtain⟨hn,hh,hr⟩:=s.obj id _ hm;cases hwv with
       |win hj hnn hlc _ ha =>
        rw[hj]at hh;cases hh;obtain⟨e1,e2,g,b,rfl,hst⟩:=JA hr rfl (by omega);obtain⟨g',b',o,hA,hA',_,ho⟩:=ha.resolve_left (fun h=>by grind);have ho:=ho (by omega);subst ho;cases hA;subst hA';have h1:=hr.1;simp only at h1;refine⟨_,run g _ _ _ bd (by have:=hr.2.1;grind),?_⟩;have:=VR.ptr (Z:=Z) (w:=w) (k:=off+n.toNat) (off:=0) hj hst;grind
      grind
   grind
  case array len e =>
   split at h
   ·rename_i hc
    have run:∀g b,0 < P.cellsOf e->(Instr.indexAt t (.pointer (aA ⟨g,b,aF⟩)) (.int k n)).run P w = .ok (.pointer (aA ⟨g,b+n.toNat * P.cellsOf e,aF⟩)) w:=by
     intro g b hpos
     have hinfo:∃i,P.info? e=aA i/\i.size=P.cellsOf e:=by
      cases hi:P.info? e with
      |none=>simp[Program.cellsOf,hi]at hpos
      |some i=>exact⟨i,rfl,by simp[Program.cellsOf,hi]⟩
     obtain⟨i,hi,hisz⟩:=hinfo;have h1:n < (len:Int):=by omega
     simp[Instr.indexAt,asIntOf,dS hu,Instr.sureAddr,hc.1,h1,sizeOf,gY,hi,hisz,sC]
    cases x<;>simp only at h<;>first|(cases h;done)|skip
    ·cases h;cases hv with
     |ref f' hcc hvv =>
      refine⟨_,run _ _ hc.2.2,?_⟩;rw[jP];exact .ref f' hcc hvv
    ·cases h;cases hv with
     |ptr hj hs =>
      refine⟨_,run _ _ hc.2.2,?_⟩;rw[jP,jP];exact .ptr hj hs
   grind
end
section
variable {P:bu}{Z Z':Zs}{w w':be}{j j':J}{mem mem':List O}
def LR(Z:Zs)(w:be)(j:J)(cs:List V)(us:Array aR):Prop :=
 us.size=cs.length/\∀(i:Nat) (c:V),cs[i]? = aA c->∃u,us[i]? = aA u/\VR Z w j c u
theorem LR.of{cs:List V}{us:List aR}(hl:cs.length=us.length)(h:∀(i:Nat) (c:V) (u:aR),cs[i]? = aA c->us[i]? = aA u->VR Z w j c u):LR Z w j cs us.toArray:=by
 refine⟨by grind,fun i c hc=>?_⟩;have hi:i < cs.length:=(bX.1 hc).1;exact⟨us[i]'(by omega),by simp,h i c _ hc (cj (by omega))⟩
theorem LR.aggMk{cs:List V}{us:Array aR}(h:LR Z w j cs us):VR Z w j (.agg cs) (.agg us):=by
 have e:us=us.toList.toArray:=by simp
 rw[e];refine .agg (by simpa using h.1.symm) fun i c u hc hu=>?_
 obtain⟨u',hu',hv⟩:=h.2 i c hc;grind
theorem VR.aggInv{cs:List V}{u:aR}(h:VR Z w j (.agg cs) u):∃us,u = .agg us/\LR Z w j cs us:=by
 cases h with
 |agg hl hh=>exact⟨_,rfl,LR.of hl hh⟩
theorem VR.tupInv{cs:List V}{u:aR}(h:VR Z w j (.tup cs) u):∃us,u = .tuple us/\LR Z w j cs us:=by
 cases h with
 |tup hl hh=>exact⟨_,rfl,LR.of hl hh⟩
theorem LR.extract{cs:List V}{us:Array aR}(h:LR Z w j cs us){off n:Nat}(hl:((cs.drop off).take n).length=n):LR Z w j ((cs.drop off).take n) (us.extract off (off+n)):=by
 have h1:=h.1;simp at hl;refine⟨by grind,fun i c hc=>?_⟩;rw[lj]at hc;split at hc
 ·rw[js]at hc;obtain⟨u,hu,hv⟩:=h.2 _ c hc;grind
 grind
theorem Q0{t:aO}{cs:List V}{us:Array aR}{off:Nat}{v:V}(h:rl P t cs off=aA v)(hr:LR Z w j cs us):∃r,(part t us off).run P w = .ok r w/\VR Z w j v r:=by
 unfold rl at h;simp only at h;split at h
 ·rename_i hlen;unfold pP at h;cases hu:P.underlying t with
  |none=>grind
  |some d =>
   obtain⟨i,hi,hsz,_⟩:=Ik hu;have ex:=hr.extract hlen
   have agg:xu d=aC->v = .agg ((cs.drop off).take (P.cellsOf t))->∃r,(part t us off).run P w = .ok r w/\VR Z w j v r:=by
    intro hd hv;subst hv;refine⟨.agg (us.extract off (off+P.cellsOf t)),?_,ex.aggMk⟩;cases d<;>first|(simp[xu]at hd;done)|simp[part,isAgg,dS hu,sizeOf,gY,hi,hsz]
   have one:xu d=aD->tZ ((cs.drop off).take (P.cellsOf t))=aA v->∃r,(part t us off).run P w = .ok r w/\VR Z w j v r:=by
    intro hd hv;unfold tZ at hv;split at hv
    ·cases hv;rename_i c he
     have h0:cs[off]? = aA v:=by
      have h9:((cs.drop off).take (P.cellsOf t))[0]? = aA v:=by grind
      grind
     obtain⟨u,hu',hvv⟩:=hr.2 off v h0;exact⟨u,JE hu hd hu',hvv⟩
    grind
   cases d<;>simp only[hu]at h<;>first|(cases h;exact agg rfl rfl)|exact one rfl h
 grind
theorem ZP{st:aO}{cs:List V}{u:aR}{f off:Nat}{t:aO}{v:V}(hf:xj P st f=aA (off,t))(h:rl P t cs off=aA v)(hv:VR Z w j (.agg cs) u) :
  ∃r,(Instr.field st u f).run P w = .ok r w/\VR Z w j v r:=by
 obtain⟨us,rfl,hr⟩:=hv.aggInv;unfold xj at hf;cases hu:P.underlying st with
 |none=>grind
 |some d =>
  cases d<;>simp[hu]at hf;obtain⟨fl,hf,rfl,rfl⟩:=hf;obtain⟨r,h1,h2⟩:=Q0 h hr;exact⟨r,by simp[Instr.field,dS hu,hf,asAgg,h1],h2⟩
theorem aa9{t:aO}{x i v:V}{u ui:aR}(h:qT P t x i=aA v)(hv:VR Z w j x u)(hi:VR Z w j i ui):∃r,(Instr.index t u ui).run P w = .ok r w/\VR Z w j v r:=by
 unfold qT at h;split at h
 ·rename_i s k n hu;cases hv;cases hi;rename_i sb;split at h
  ·rename_i h0;cases hb:sb.data.toList[n.toNat]? with
   |none=>grind
   |some b =>
    simp[hb]at h;subst h;have bd:n.toNat < sb.size:=by have:=(bX.1 hb).1;simp_all
    have hg:sb[n.toNat]? = aA b:=by
     rw[getElem?_pos sb n.toNat bd];congr 1;simp at hb;rw[gH (by grind)]at hb;have hb':=Option.some.inj hb;exact hb'
    exact⟨.int .u8 (b.toNat:Int),by simp[Instr.index,asIntOf,dS hu,h0,hg],.int⟩
  grind
 ·rename_i len e cs k n hu;cases hi;split at h
  ·rename_i hc;obtain⟨us,rfl,hr⟩:=hv.aggInv;have hc1:n < (len:Int):=by omega
   have hpos:∃i,P.info? e=aA i/\i.size=P.cellsOf e:=by
    unfold rl pP at h;simp only at h;split at h
    ·cases hu':P.underlying e with
     |none=>grind
     |some d=>obtain⟨i,hi,hs,_⟩:=Ik hu';grind
    grind
   obtain⟨i,hi,hisz⟩:=hpos;obtain⟨r,h1,h2⟩:=Q0 h hr;exact⟨r,by simp[Instr.index,asIntOf,dS hu,hc.1,hc1,sizeOf,gY,hi,hisz,h1],h2⟩
  grind
 grind
theorem abQ(s:SR P Z w j mem){t ty:aO}{x v:V}{u:aR}{ts:Array aO}{us:Array aR}(ht:ts[0]? = aA t)(hu0:us[0]? = aA u)(h:nH P mem t x=aA v)(hv:VR Z w j x u) :
  ∃r,(Builtin.len_ ts ty us).run P w = .ok r w/\VR Z w j v r:=by
 unfold nH at h;split at h
 ·rename_i hu;cases h;cases hv;rename_i sb;exact⟨goInt (sb.size:Int),by simp[Builtin.len_,ht,hu0,dS hu],.int⟩
 ·rename_i n e hu;cases h;exact⟨goInt n,by cases u<;>simp[Builtin.len_,ht,hu0,dS hu],.int⟩
 ·rename_i y _ _ e hu;cases hx:dy mem y with
  |none=>grind
  |some xs =>
   simp only[hx,du]at h;cases h;obtain⟨A,c,rfl,_⟩:=uU s hx hv;exact⟨goInt xs.length,by simp[Builtin.len_,ht,hu0,dS hu],.int⟩
 ·rename_i x _ _ k e hu;cases hm:gL mem x with
  |none=>grind
  |some es =>
   simp only[hm,du]at h;cases h;obtain⟨r,rfl,es',clock,h2,h3,_⟩:=Dw s hm hv;refine⟨goInt es'.size,?_,by rw[h3];exact .int⟩;simp[Builtin.len_,ht,hu0,dS hu,getObj,Sem.run,h2]
 grind
theorem acj{a b v:V}{u u':aR}(h:min2 a b=aA v)(ha:VR Z w j a u)(hb:VR Z w j b u'):∃r,(Builtin.min2 u u').run P w = .ok r w/\VR Z w j v r:=by
 cases a<;>cases b<;>simp[min2]at h
 ·obtain⟨rfl,rfl⟩:=h;cases ha;cases hb;exact⟨_,rfl,.int⟩
 ·subst h;cases ha;cases hb;rename_i s t;refine⟨.string (if Op.bytesLess s.data.toList t.data.toList ||s.data.toList==t.data.toList then s else t),by simp[Builtin.min2,Op.stringOp,asBool,wh],?_⟩;cases h:(Op.bytesLess s.data.toList t.data.toList ||s.data.toList==t.data.toList)<;>simp at h<;>simp[h]<;>exact .str
theorem acg{a b v:V}{u u':aR}(h:max2 a b=aA v)(ha:VR Z w j a u)(hb:VR Z w j b u'):∃r,(Builtin.max2 u u').run P w = .ok r w/\VR Z w j v r:=by
 cases a<;>cases b<;>simp[max2]at h
 ·obtain⟨rfl,rfl⟩:=h;cases ha;cases hb;exact⟨_,rfl,.int⟩
 ·subst h;cases ha;cases hb;rename_i s t;refine⟨.string (if !(Op.bytesLess s.data.toList t.data.toList) then s else t),by simp[Builtin.max2,Op.stringOp,asBool,wh],?_⟩;cases Op.bytesLess s.data.toList t.data.toList<;>exact .str
theorem ON{f:V->V->Option V}{g:aR->aR->Sem aR}(hf:∀(a b v:V) (u u':aR),f a b=aA v->VR Z w j a u->VR Z w j b u'->∃r,(g u u').run P w = .ok r w/\VR Z w j v r) :
  ∀(xs:List V) (us:List aR) (x v:V) (u:aR),vd f x xs=aA v->VR Z w j x u->us.length=xs.length->(∀(i:Nat) (c:V) (u:aR),xs[i]? = aA c->us[i]? = aA u->VR Z w j c u) ->
   ∃r,(us.foldlM g u).run P w = .ok r w/\VR Z w j v r:=by
 intro xs
 induction xs with
 |nil =>
  intro us x v u h hx hl _;simp[vd]at h;simp_all
 |cons y ys ih =>
  intro us x v u h hx hl hh;cases us with
  |nil=>grind
  |cons u1 us =>
   simp only[vd]at h;cases h1:f x y with
   |none=>grind
   |some z =>
    simp[h1]at h;obtain⟨r,hr,hv⟩:=hf x y z u u1 h1 hx (hh 0 y u1 rfl rfl);obtain⟨r2,hr2,hv2⟩:=ih us z v r h hv (by grind) (fun i c u hc hu=>hh (i+1) c u (by grind) (by grind));simp_all
theorem aaf{cs:Array aR}{off:Nat}(vs:List aR):∀(k:Nat) (acc:Array aR),acc.size=cs.size->(∀i,acc[i]? = if off<=i/\i < off+k then vs[i - off]? else cs[i]?) ->
  k<=vs.length->off+vs.length<=cs.size ->
  (((vs.drop k).zipIdx k).foldl (fun a (x:aR × Nat)=>a.setIfInBounds (off+x.2) x.1) acc).size=cs.size /\
  ∀i,(((vs.drop k).zipIdx k).foldl (fun a (x:aR × Nat)=>a.setIfInBounds (off+x.2) x.1) acc)[i]? = if off<=i/\i < off+vs.length then vs[i - off]? else cs[i]?:=by
 intro k;generalize hn:vs.length - k=n
 induction n generalizing k with
 |zero =>
  intro acc hsz hacc hk hle;have e:vs.drop k=[]:=FI (by omega);rw[e];refine⟨hsz,fun i=>?_⟩;simp only[List.zipIdx_nil,List.foldl_nil];grind
 |succ n ih =>
  intro acc hsz hacc hk hle;have hk':k < vs.length:=by omega
  rw[qy hk'];simp only[List.zipIdx_cons,List.foldl_cons];refine ih (k+1) (by omega) _ (by grind) (fun i=>?_) (by omega) hle;rw[Fx]
  by_cases hi:off+k=i
  ·subst hi;rw[aU rfl,aU (by omega),aU (by omega)];simp_all
  ·rw[aY hi,hacc i]
   by_cases h1:off<=i/\i < off+k
   ·grind
   ·rw[aY h1,aY (by omega)]
def PR(Z:Zs)(w:be)(j:J):List (Nat × V)->List (Nat × aR)->Prop
 | [],[]=>True
 |(i,v)::ps,(k,u)::qs=>i=k/\VR Z w j v u/\PR Z w j ps qs
 |_,_=>False
theorem Q2{env:List V}{ρ:fi->aR}(hρ:∀x v,bv env x=aA v->VR Z w j v (ρ x)):∀(l:List (Nat × fi)) (ps:List (Nat × V)),cC (pW env) l=aA ps->PR Z w j ps (l.map fun p=>(p.1,ρ p.2)):=by
 intro l
 induction l with
 |nil=>intro ps h;simp[cC]at h;subst h;trivial
 |cons p l ih =>
  intro ps h;simp only[cC,pW]at h;cases h1:bv env p.2 with
  |none=>grind
  |some v =>
   cases h2:cC (pW env) l with
   |none=>grind
   |some qs =>
    simp[h1,h2]at h;subst h;exact⟨rfl,hρ _ _ h1,ih _ h2⟩
theorem pU{v:V}(h:v.cells.all V.one=aC):∀y∈v.cells,y.one=true:=eJ.1 h
theorem Ol{place:Nat->Option (Nat × Nat)}:∀(ps:List (Nat × V)) (qs:List (Nat × aR)) (cs out:List V) (us:Array aR),sZ place cs ps=aA out->PR Z w j ps qs->LR Z w j cs us ->
  ∃us',Instr.fill place us qs=aA us'/\LR Z w j out us':=by
 intro ps
 induction ps with
 |nil =>
  intro qs cs out us h hp hr;cases qs with
  |nil=>simp[sZ]at h;subst h;exact⟨us,rfl,hr⟩
  |cons _ _=>exact hp.elim
 |cons p ps ih =>
  intro qs cs out us h hp hr;obtain⟨i,v⟩:=p;cases qs with
  |nil=>exact hp.elim
  |cons q qs =>
   obtain⟨k,u⟩:=q;obtain⟨rfl,hv,hp⟩:=hp;simp only[sZ]at h;cases hpl:place i with
   |none=>grind
   |some os =>
    obtain⟨off,size⟩:=os;simp only[hpl,bk]at h;split at h
    ·rename_i hc;obtain⟨h1,h2,h3⟩:=hc;obtain⟨hsz,hcl⟩:=hv.cellsOf (pU h3);have hus:=hr.1;have hle:off+u.cells.toList.length<=us.size:=by grind
     have fs:=aaf (cs:=us) (off:=off) u.cells.toList 0 us rfl (fun i=>by grind) (by omega) hle;simp only[rW]at fs
     have hr':LR Z w j (cs.take off++v.cells++cs.drop (off+size)) ((u.cells.toList.zipIdx 0).foldl (fun a (x:aR × Nat)=>a.setIfInBounds (off+x.2) x.1) us):=by
      refine⟨by grind,fun i c hc=>?_⟩;rw[fs.2 i];have hto:(cs.take off).length=off:=by grind
      by_cases hi:i < off
      ·rw[aY (by omega)];rw[cO,eK (by omega),lj,aU hi]at hc;exact hr.2 i c hc
      ·rw[cO,eO (by omega),hto]at hc
       by_cases hi2:i - off < v.cells.length
       ·grind
       ·rw[eO (by omega),js]at hc;rw[aY (by grind)];have e:off+size+(i - off - v.cells.length)=i:=by omega
        rw[e]at hc;exact hr.2 i c hc
     obtain⟨us',h4,h5⟩:=ih qs _ out _ h hp hr';refine⟨us',?_,h5⟩;have g1:¬(u.cells.size≠size):=by omega
     have g2:¬(off+u.cells.size > us.size):=by grind
     simp only[Instr.fill,hpl];rw[aY (by grind)];rw[<-h4];congr 1;rw[<-Array.foldl_toList,Array.toList_zipIdx]
    grind
theorem uo{t:aO}{z:V}(h:jq P t=aA z):∃i zv,P.info? t=aA i/\i.zero=aA zv/\VR Z w j z zv/\P.cellsOf t=i.size:=by
 unfold jq at h;cases hi:P.info? t with
 |none=>grind
 |some i =>
  simp only[hi,bk]at h;have sz:P.cellsOf t=i.size:=by simp[Program.cellsOf,hi]
  cases hz:i.zero with
  |none=>grind
  |some zv =>
   refine⟨i,zv,rfl,hz,?_,sz⟩;simp only[hz]at h;split at h
   ·rename_i cs he;cases he;cases hm:cC px cs.toList with
    |none=>grind
    |some vs =>
     simp[hm]at h;subst h
     have key:∀(l:List aR) (vs:List V),cC px l=aA vs->vs.length=l.length/\∀(i:Nat) (c:V) (u:aR),vs[i]? = aA c->l[i]? = aA u->VR Z w j c u:=by
      intro l
      induction l with
      |nil=>intro vs h;simp[cC]at h;grind
      |cons x l ih =>
       intro vs h;simp only[cC]at h;cases h1:px x with
       |none=>grind
       |some y =>
        cases h2:cC px l with
        |none=>grind
        |some ys =>
         simp[h1,h2]at h;subst h;obtain⟨a,b⟩:=ih ys h2;refine⟨by grind,fun i c u hc hu=>?_⟩;cases i with
         |zero=>simp at hc hu;subst hc hu;exact Gg h1
         |succ i=>grind
     obtain⟨a,b⟩:=key _ _ hm;have e:cs=cs.toList.toArray:=by simp
     rw[e];exact .agg a b
   ·cases ‹aA _=aA _›;exact Gg h
   grind
end
section
variable {P:bu}{Z Z':Zs}{w w':be}{j j':J}{mem mem':List O}
theorem gI{g b:Nat}{us:Array aR}{t:aO}{fr:Nat × Nat}(h:w.heap[g]? = aA (.cells us t fr)):w.cell? ⟨g,b,aF⟩=us[b]?:=cell_of_row w g b us t fr h
theorem TU(s:SR P Z w j mem){v:V}{u:aR}(hv:VR Z w j v u):VR Z w j (oS mem v) u:=by
 cases v<;>simp only[oS]<;>first|exact hv|skip;rename_i id;cases hm:mem[id]? with
 |none=>grind
 |some o =>
  cases o<;>simp only<;>first|exact hv|skip;rename_i t els fz;obtain⟨hn,hh,h1,h2,h3,h4,h5⟩:=s.obj id _ hm;cases hv with
  |own hj h0 =>
   rw[hj]at hh;cases hh;rcases h5 with⟨hu,he⟩|⟨g,b,c,us,hu,hlc,_⟩
   ·simp only[Value.slice.injEq]at hu;obtain⟨rfl,rfl,rfl⟩:=hu;exact .tail hj (jQ _) (.win hj (by simp) (by simp) (by simp) (.inl ⟨rfl,rfl⟩))
   ·simp only[Value.slice.injEq]at hu;obtain⟨rfl,rfl,rfl⟩:=hu;exact .tail hj (jQ _) (.win hj (by simp) hlc (by simp) (.inr ⟨g,b,0,rfl,by simp,by simp,by simp⟩))
theorem TT{v:V}:(oS mem v).one=v.one:=by
 cases v<;>simp only[oS];split<;>rfl
theorem Ci:∀(ts:List aO) (vs:List V) (us:List aR) (mem:List O) (j:J),SR P Z w j mem->vs.length=us.length->(∀(i:Nat) (v:V) (u:aR),vs[i]? = aA v->us[i]? = aA u->VR Z w j v u) ->
  ∃j',SR P Z w j' (boxed P ts vs mem).2/\bh Z w j mem Z w j' (boxed P ts vs mem).2/\bE j j'/\(boxed P ts vs mem).1.length=vs.length /\
   (∀(i:Nat) (v:V) (u:aR),(boxed P ts vs mem).1[i]? = aA v->us[i]? = aA u->VR Z w j' v u)/\((∀v∈vs,v.one=aC)->∀v∈(boxed P ts vs mem).1,v.one=aC):=by
 intro ts
 induction ts with
 |nil =>
  intro vs us mem j s hl hv;have e:boxed P [] vs mem=(vs,mem):=by cases vs<;>rfl
  rw[e];exact⟨j,s,bh.refl _ _ _ _,bE.refl _,rfl,hv,fun h=>h⟩
 |cons t ts ih =>
  intro vs us mem j s hl hv;cases vs with
  |nil=>exact⟨j,s,bh.refl _ _ _ _,bE.refl _,rfl,hv,fun h=>h⟩
  |cons v vs =>
   cases us with
   |nil=>grind
   |cons u us =>
    have hv0:=hv 0 v u rfl rfl;have hvs:∀(i:Nat) (v:V) (u:aR),vs[i]? = aA v->us[i]? = aA u->VR Z w j v u:=fun i v u h1 h2=>hv (i+1) v u (by grind) (by grind)
    have hl':vs.length=us.length:=by grind
    have same:∀(x:V),VR Z w j x u->x.one=v.one->boxed P (t::ts) (v::vs) mem=(x::(boxed P ts vs mem).1,(boxed P ts vs mem).2)->_:=fun x hx h1 e=>(by
     rw[e];obtain⟨j',a1,a2,a3,a4,a5,a6⟩:=ih vs us mem j s hl' hvs;refine⟨j',a1,a2,a3,by grind,fun i y z hy hz=>?_,fun h y hy=>?_⟩
     ·cases i with
      |zero=>simp at hy hz;subst hy hz;exact hx.mono (bO.refl _ _) a3
      |succ i=>grind
     grind:∃j',SR P Z w j' (boxed P (t::ts) (v::vs) mem).2/\bh Z w j mem Z w j' (boxed P (t::ts) (v::vs) mem).2/\bE j j'/\(boxed P (t::ts) (v::vs) mem).1.length=(v::vs).length /\
   (∀(i:Nat) (x:V) (z:aR),(boxed P (t::ts) (v::vs) mem).1[i]? = aA x->(u::us)[i]? = aA z->VR Z w j' x z)/\((∀x∈v::vs,x.one=aC)->∀x∈(boxed P (t::ts) (v::vs) mem).1,x.one=aC))
    by_cases hn:v = .nilS
    ·subst hn;cases he:gj P t with
     |none=>exact same .nilS hv0 rfl (by simp only[boxed,he])
     |some e =>
      by_cases hr:fC P e 0=aC
      ·have e1:boxed P (t::ts) (.nilS::vs) mem=(.tail mem.length 0::(boxed P ts vs (mem++[.row e [] 0])).1,(boxed P ts vs (mem++[.row e [] 0])).2):=by simp only[boxed,he,hr,cZ]
       rw[e1]
       have hpos:0 < P.cellsOf e:=by
        simp only[fC,qe,co,iR]at hr;grind
       obtain⟨s1,st,je⟩:=s.pushV (h:=⟨.slice aF 0 0,P.cellsOf e⟩) rfl (o:=.row e [] 0) ⟨_,gZ _ _ _,rfl,hpos,c7 _,by simp,.inl ⟨rfl,rfl⟩⟩;obtain⟨j',a1,a2,a3,a4,a5,a6⟩:=ih vs us _ _ s1 hl' (fun i v u h1 h2=>(hvs i v u h1 h2).mono (bO.refl _ _) je);refine⟨j',a1,st.trans a2,je.trans a3,by grind,fun i y z hy hz=>?_,fun h y hy=>?_⟩
       ·cases i with
        |zero =>
         simp at hy hz;subst hy hz;cases hv0;have hj:=a3 mem.length _ (gZ j mem.length ⟨.slice aF 0 0,P.cellsOf e⟩);exact .tail hj (c7 _) (.win hj (by simp) (by simp) (by simp) (.inl ⟨rfl,rfl⟩))
        |succ i=>grind
       ·rcases dE.1 hy with rfl|hy
        ·rfl
        grind
      ·exact same .nilS hv0 rfl (by simp only[boxed,he];grind)
    ·exact same (oS mem v) (TU s hv0) TT (by cases v<;>first|exact(hn rfl).elim|rfl)
theorem Vk(s:SR P Z w j mem){t:aO}{v:V}{u:aR}(hl:v.cells.length=P.cellsOf t)(ho:v.cells.all V.one=aC)(hv:VR Z w j v u) :
  ∃r w1,(Instr.box t u).run P w = .ok r w1/\dz P Z w j mem (.ptr mem.length 0 0) (mem++[.box t v aD]) r w1:=by
 obtain⟨hsz,hcl⟩:=hv.cellsOf (pU ho);refine⟨.pointer (aA ⟨w.heap.size,0,aF⟩),w.alloc (.cells u.cells t),by simp[Instr.box,newVar,Go.newRow,newObj,Sem.run],?_⟩;have hz:=bO.heap (Z:=Z) (w1:=w.alloc (.cells u.cells t)) (ob:=.cells u.cells t) rfl s.zin 0
 obtain⟨s1,st,je⟩:=s.push (w1:=w.alloc (.cells u.cells t)) (ob:=.cells u.cells t) rfl rfl rfl rfl 0 (h:=⟨.pointer (aA ⟨w.heap.size,0,aF⟩),P.cellsOf t⟩) (by simp[cE.blk]) (o:=.box t v aD)
  (by
   refine⟨w.heap.size,u.cells,gZ _ _ _,heap_alloc_new w _,hl,by omega,fun i y hy=>?_,fun o ho=>?_,fun h=>by cases h⟩
   ·obtain⟨c,hc,hvr⟩:=hcl i y hy;refine⟨pU ho y (dx hy),c,?_,hvr.mono hz (s.ext _)⟩;simp_all
   ·rcases ho with ho|ho
    ·have:=s.zin _ _ ho;omega
    grind)
 refine⟨_,_,?_,s1,st,je⟩;have:=VR.ptr (Z:=iC Z w.heap.size 0) (w:=w.alloc (.cells u.cells t)) (j:=fp j mem.length ⟨.pointer (aA ⟨w.heap.size,0,aF⟩),P.cellsOf t⟩) (id:=mem.length) (k:=0) (off:=0) (g:=w.heap.size) (b:=0) (gZ _ _ _) rfl;grind
theorem Vj(s:SR P Z w j mem){t:aO}{v:V}{u:aR}(hl:v.cells.length=P.cellsOf t)(ho:v.cells.all V.one=aC)(hv:VR Z w j v u) :
  ∃r w1,(Instr.box t u).run P w = .ok r w1/\dz P Z w j mem (newBox P mem t v).1 (newBox P mem t v).2 r w1:=by
 have fin:∀(v':V) (m':List O) (j':J),qL P mem t v=(v',m')->SR P Z w j' m'->bh Z w j mem Z w j' m'->bE j j'->v'.cells.length=P.cellsOf t->v'.cells.all V.one=aC->VR Z w j' v' u ->
   ∃r w1,(Instr.box t u).run P w = .ok r w1/\dz P Z w j mem (newBox P mem t v).1 (newBox P mem t v).2 r w1:=by
  intro v' m' j' e s' st je hl' ho' hv';obtain⟨r,w1,h1,Z2,j2,h2,h3,h4,h5⟩:=Vk s' hl' ho' hv';refine⟨r,w1,h1,?_⟩;unfold newBox;rw[e];exact⟨Z2,j2,h2,h3,st.trans h4,je.trans h5⟩
 have tZ:(∀cs,v≠.agg cs)->∃r w1,(Instr.box t u).run P w = .ok r w1/\dz P Z w j mem (newBox P mem t v).1 (newBox P mem t v).2 r w1:=by
  intro hna
  obtain⟨j',a1,a2,a3,a4,a5,a6⟩:=Ci (P:=P) (pq P t) [v] [u] mem j s rfl (fun i x z hx hz=>by
   grind)
  have hc1:v.cells=[v]:=by cases v<;>first|rfl|grind
  have h1:v.one=true:=by grind
  match hb:boxed P (pq P t) [v] mem,a1,a2,a4,a5,a6 with
  |([x],m),a1,a2,a4,a5,a6 =>
   have hx1:x.one=true:=a6 (fun y hy=>by grind) x (by simp);have hxc:=lS hx1;refine fin x m j' ?_ a1 a2 a3 (by grind) (by grind) (a5 0 x u rfl rfl);unfold qL
   all_goals grind
  |([],m),a1,a2,a4,a5,a6=>grind
  |(_::_::_,m),a1,a2,a4,a5,a6=>grind
 cases v with
 |agg cs =>
  cases hv with
  |agg hl2 hh =>
   rename_i us;obtain⟨j',a1,a2,a3,a4,a5,a6⟩:=Ci (P:=P) (pq P t) cs us mem j s hl2 hh;refine fin _ _ j' rfl a1 a2 a3 ?_ ?_ (.agg (by grind) a5)
   ·simp only[V.cells]at hl |-
    grind
   ·simp only[V.cells,eJ]at ho |-
    grind
 |_=>simp_all
def mo(P:bu)(Z:Zs)(w:be)(j:J)(mem:List O)(id:Nat)(mem':List O)(u:aR)(w':be):Prop :=
 ∃Z' j' sz,j' id=aA ⟨u,sz⟩/\SR P Z' w' j' mem'/\bh Z w j mem Z' w' j' mem'/\bE j j'
theorem mo.own{id:Nat}{mem':List O}{A:Option Addr}{n c:Nat}{w':be}(h:mo P Z w j mem id mem' (.slice A n c) w')(h0:∀a,A=aA a->a.off=0):dz P Z w j mem (.own id) mem' (.slice A n c) w' :=
 let ⟨Z',j',_,h1,h2,h3,h4⟩:=h
 ⟨Z',j',.own h1 h0,h2,h3,h4⟩
theorem mo.tail{id:Nat}{mem':List O}{u:aR}{w':be}{t:aO}{els:List V}{fz:Nat}(h:mo P Z w j mem id mem' u w')(hm:mem'[id]? = aA (.row t els fz)):dz P Z w j mem (.tail id 0) mem' u w':=by
 obtain⟨Z',j',sz,h1,h2,h3,h4⟩:=h;obtain⟨hn,hh,q1,q2,q3,q4,q5⟩:=h2.obj id _ hm;rw[h1]at hh;cases hh;rcases q5 with⟨hv,he⟩|⟨g,b,c,us,hv,hlc,_⟩
 ·simp only at hv;subst hv he;exact⟨Z',j',.tail h1 (jQ _) (.win h1 (by simp) (by simp) (by simp) (.inl ⟨rfl,rfl⟩)),h2,h3,h4⟩
 ·simp only at hv;subst hv;exact⟨Z',j',.tail h1 (jQ _) (.win h1 (by simp) hlc (by simp) (.inr ⟨g,b,0,rfl,by simp,by simp,by simp⟩)),h2,h3,h4⟩
theorem R7(hzin:∀g o,Z g o->g < w.heap.size)(id:Nat){w1:be}{t:aO}{us:Array aR}{els:List V}{fz c:Nat}(hh:w1.heap=w.heap.push (.cells us t))
  (hpos:0 < P.cellsOf t) (hels:∀x∈els,x.cells.length=P.cellsOf t) (hfz:fz<=els.length) (hlc:els.length<=c) (hc:c<=f8) (hus:us.size=c * P.cellsOf t)
  (hcl:∀(k:Nat) (x:V) (i:Nat) (y:V),els[k]? = aA x->x.cells[i]? = aA y->y.one=aC/\∃u,us[k * P.cellsOf t+i]? = aA u/\VR Z w j0 y u) :
  OR P (iC Z w.heap.size (fz * P.cellsOf t)) w1 (fp j id ⟨.slice (aA ⟨w.heap.size,0,aF⟩) els.length c,P.cellsOf t⟩) id (.row t els fz):=by
 have hz:=bO.heap (Z:=Z) hh hzin (fz * P.cellsOf t);have hg:w1.heap[w.heap.size]? = aA (.cells us t (0,0)):=by rw[hh];simp
 refine⟨_,gZ _ _ _,rfl,hpos,hfz,hels,.inr ⟨w.heap.size,0,c,us,rfl,hlc,hc,hg,by simpa using Nat.le_of_eq hus.symm,fun k x hk i y hy=>?_,fun o ho=>?_,fun o ho=>.inr ⟨rfl,by simpa using ho⟩⟩⟩
 ·obtain⟨h1,u,hu,hv⟩:=hcl k x i y hk hy;refine⟨h1,u,?_,hv.mono hz (bE.refl _)⟩;rw[gI hg,<-hu];simp
 ·rcases ho with ho|ho
  ·have:=hzin _ _ ho;omega
  ·have ho:=ho.2;exact⟨Nat.pos_of_ne_zero fun e=>by subst e;simp at ho,by simpa using ho⟩
theorem R9(s:SR P Z w j mem){w1:be}{t:aO}{us:Array aR}{els:List V}{fz c:Nat}(hh:w1.heap=w.heap.push (.cells us t))(hos:w1.os=w.os)(htape:w1.tape=w.tape)(hout:w1.output=w.output)
  (hpos:0 < P.cellsOf t) (hels:∀x∈els,x.cells.length=P.cellsOf t) (hfz:fz<=els.length) (hlc:els.length<=c) (hc:c<=f8) (hus:us.size=c * P.cellsOf t)
  (hcl:∀(k:Nat) (x:V) (i:Nat) (y:V),els[k]? = aA x->x.cells[i]? = aA y->y.one=aC/\∃u,us[k * P.cellsOf t+i]? = aA u/\VR Z w j0 y u) :
  mo P Z w j mem mem.length (newRow mem t els fz).2 (.slice (aA ⟨w.heap.size,0,aF⟩) els.length c) w1:=by
 obtain⟨s1,st,je⟩:=s.push hh hos htape hout (fz * P.cellsOf t) (h:=⟨.slice (aA ⟨w.heap.size,0,aF⟩) els.length c,P.cellsOf t⟩) (by simp[cE.blk]) (o:=.row t els fz) (R7 s.zin _ hh hpos hels hfz hlc hc hus hcl);exact⟨_,_,_,gZ _ _ _,s1,st,je⟩
theorem AP(s:SR P Z w j mem){w1:be}{t:aO}{us:Array aR}{els:List V}{fz c:Nat}(hh:w1.heap=w.heap.push (.cells us t))(hos:w1.os=w.os)(htape:w1.tape=w.tape)(hout:w1.output=w.output)
  (hpos:0 < P.cellsOf t) (hels:∀x∈els,x.cells.length=P.cellsOf t) (hfz:fz<=els.length) (hlc:els.length<=c) (hc:c<=f8) (hus:us.size=c * P.cellsOf t)
  (hcl:∀(k:Nat) (x:V) (i:Nat) (y:V),els[k]? = aA x->x.cells[i]? = aA y->y.one=aC/\∃u,us[k * P.cellsOf t+i]? = aA u/\VR Z w j0 y u) :
  dz P Z w j mem (newRow mem t els fz).1 (newRow mem t els fz).2 (.slice (aA ⟨w.heap.size,0,aF⟩) els.length c) w1 :=
 (R9 s hh hos htape hout hpos hels hfz hlc hc hus hcl).own (fun a ha=>by grind)
theorem R4(s:SR P Z w j mem){w1:be}{t:aO}{us:Array aR}{els:List V}{c:Nat}(hh:w1.heap=w.heap.push (.cells us t))(hos:w1.os=w.os)(htape:w1.tape=w.tape)(hout:w1.output=w.output)
  (hpos:0 < P.cellsOf t) (hels:∀x∈els,x.cells.length=P.cellsOf t) (hlc:els.length<=c)
  (hcl:∀(k:Nat) (x:V) (i:Nat) (y:V),els[k]? = aA x->x.cells[i]? = aA y->y.one=aC/\∃u,us[k * P.cellsOf t+i]? = aA u/\VR Z w j0 y u) :
  dz P Z w j mem (.sl els) mem (.slice (aA ⟨w.heap.size,0,aF⟩) els.length c) w1/\(c=els.length->dz P Z w j mem (.lit t els) mem (.slice (aA ⟨w.heap.size,0,aF⟩) els.length c) w1):=by
 have hz:=bO.heap (Z:=Z) hh s.zin (els.length * P.cellsOf t);have iff:∀g,g < w.heap.size->∀o,iC Z w.heap.size (els.length * P.cellsOf t) g o↔Z g o:=fun g hg o=>⟨fun h=>h.resolve_right fun h=>by omega,.inl⟩
 have hsz:w1.heap.size=w.heap.size+1:=by grind
 have hg:w1.heap[w.heap.size]? = aA (.cells us t (0,0)):=by grind
 have hv:VR (iC Z w.heap.size (els.length * P.cellsOf t)) w1 j (.sl els) (.slice (aA ⟨w.heap.size,0,aF⟩) els.length c):=by
  refine VR.slMk (b:=0) hlc hpos fun k x hk=>?_
  have hx:=hels x (dx hk);have hkl:k < els.length:=(bX.1 hk).1;refine⟨hx,fun i hi=>.inr ⟨rfl,?_⟩,fun i y hy=>?_⟩
  ·have:(k+1) * P.cellsOf t<=els.length * P.cellsOf t:=dQ _ hkl;grind
  ·obtain⟨h1,u,hu,hv⟩:=hcl k x i y hk hy;refine⟨h1,u,?_,hv.mono hz (bE.refl _)⟩;rw[gI hg,<-hu];simp
 have s1:SR P (iC Z w.heap.size (els.length * P.cellsOf t)) w1 j mem:=s.world hz (fun g hg=>⟨mM hh (bM.lt s hg),iff g (bM.lt s hg)⟩) (fun g o h=>by
  rcases h with h|⟨h,_⟩
  ·have:=s.zin g o h;omega
  grind)
 have st:bh Z w j mem (iC Z w.heap.size (els.length * P.cellsOf t)) w1 j mem:=⟨hos,htape,hout,by omega,fun g hg _=>⟨mM hh hg,iff g hg⟩,fun _ _ ho=>ho,hz,fun _ h=>⟨h,rfl⟩⟩
 refine⟨⟨_,j,hv,s1,st,bE.refl _⟩,fun hc=>⟨_,j,by subst hc;exact .lit (n:=us.size) hv (fun _=>by simp only[jg,hg]) (fun h0=>.inr ⟨rfl,Nat.mul_pos h0 hpos⟩),s1,st,bE.refl _⟩⟩
theorem aeV(s:SR P Z w j mem){w1:be}{t:aO}{us:Array aR}{fr:Nat × Nat}{els:List V}{c:Nat}(hsz:w1.heap.size=w.heap.size+1)(hold:∀g,g < w.heap.size->w1.heap[g]? = w.heap[g]?)(hg:w1.heap[w.heap.size]? = aA (.cells us t fr))
  (hos:w1.os=w.os) (htape:w1.tape=w.tape) (hout:w1.output=w.output) {sz:Nat} (hpos:0 < sz) (hels:∀x∈els,x.cells.length=sz) (hlc:els.length<=c)
  (hcl:∀(k:Nat) (x:V) (i:Nat) (y:V),els[k]? = aA x->x.cells[i]? = aA y->y.one=aC/\∃u,us[k * sz+i]? = aA u/\VR Z w j0 y u) :
  dz P Z w j mem (.sl els) mem (.slice (aA ⟨w.heap.size,0,aF⟩) els.length c) w1:=by
 have hz:bO Z w (iC Z w.heap.size (els.length * sz)) w1:=.of fun g o h=>⟨.inl h,j7 (hold g (s.zin g o h)) o⟩
 have iff:∀g,g < w.heap.size->∀o,iC Z w.heap.size (els.length * sz) g o↔Z g o:=fun g hg o=>⟨fun h=>h.resolve_right fun h=>by omega,.inl⟩
 have hv:VR (iC Z w.heap.size (els.length * sz)) w1 j (.sl els) (.slice (aA ⟨w.heap.size,0,aF⟩) els.length c):=by
  refine VR.slMk (b:=0) hlc hpos fun k x hk=>?_
  have hx:=hels x (dx hk);have hkl:k < els.length:=(bX.1 hk).1;refine⟨hx,fun i hi=>.inr ⟨rfl,?_⟩,fun i y hy=>?_⟩
  ·have:(k+1) * sz<=els.length * sz:=dQ _ hkl;grind
  ·obtain⟨h1,u,hu,hv⟩:=hcl k x i y hk hy;refine⟨h1,u,?_,hv.mono hz (bE.refl _)⟩;rw[gI hg,<-hu];simp
 have s1:SR P (iC Z w.heap.size (els.length * sz)) w1 j mem:=s.world hz (fun g hg=>⟨hold g (bM.lt s hg),iff g (bM.lt s hg)⟩) (fun g o h=>by
  rcases h with h|⟨h,_⟩
  ·have:=s.zin g o h;omega
  grind)
 exact⟨_,j,hv,s1,⟨hos,htape,hout,by omega,fun g hg _=>⟨hold g hg,iff g hg⟩,fun _ _ ho=>ho,hz,fun _ h=>⟨h,rfl⟩⟩,bE.refl _⟩
theorem Zu{x:V}{xs:List V}(h:dy [] x=aA xs):dy mem x=aA xs:=by
 cases x<;>simp[dy]at h |-<;>exact h
theorem Ck{s:List UInt8}{k:Nat}{x:V}(h:(fA s)[k]? = aA x):∃b,s[k]? = aA b/\x = .int .u8 (b.toNat:Int):=by
 unfold fA at h;grind
theorem VZ(s:SR P Z w j mem){m:List O}(hm:m=mem∨m=[]){st d:aO}{x v:V}{u:aR}(h:py P m st d x=aA v)(hx:VR Z w j x u):∃r w1,(convert st d u).run P w = .ok r w1/\dz P Z w j mem v mem r w1:=by
 unfold py at h;split at h
 ·cases h;cases hx;exact⟨_,w,by simp[convert,dS, *,Conv.intToInt],fG s .int⟩
 ·cases h;cases hx;rename_i ss h1 h2 s';refine⟨_,w,?_,fG s .str⟩;simp[convert,dS h1,dS h2]
 ·rename_i h1 h2 _;simp only[obi]at h;obtain⟨xs,h3,h4⟩:=h;have h3:=(hm.elim (fun e=>by rw[<-e];exact h3) (fun e=>by rw[e]at h3;exact Zu h3):dy mem _=aA xs)
  obtain⟨A,c,rfl,hel⟩:=uU s h3 hx;obtain⟨r,q1,q2⟩:=T1 (j:=j) (c:=c) h1 h2 h4 hel;exact⟨r,w,q1,fG s q2⟩
 ·rename_i e bs h1 h2;split at h
  ·rename_i he;cases h;cases hx;rename_i b;refine⟨_,_,Lib.run_convert_string_bytes w st d e b h1 h2 he,?_⟩;have hl:(fA b.data.toList).length=b.size:=by simp[fA]
   have:=aeV (els:=fA b.data.toList) (c:=gv w b.size 0 e) (sz:=1) s (Lib.bytesWorld_size w e b) (Lib.bytesWorld_at_old w e b) (Lib.bytesWorld_at_new w e b) rfl rfl rfl Nat.one_pos (fun x hx=>by
     obtain⟨k,hk,rfl⟩:=mi hx;obtain⟨c,_,e⟩:=Ck (cj hk);rw[e];rfl) (by rw[hl];have:=grownCap_ge w b.size 0 e;omega) (fun k x i y hk hy=>by
     obtain⟨c,hc,rfl⟩:=Ck hk;cases i with
     |succ i=>simp[V.cells]at hy
     |zero =>
      simp[V.cells]at hy;subst hy;refine⟨rfl,_,?_,.int⟩;have bd:k < b.data.size:=by grind
      rw[mZ,fL];unfold Lib.bytesCells;grind)
   grind
  grind
 grind
theorem aeU(s:SR P Z w j mem){t:aO}(hpos:0 < P.cellsOf t):dz P Z w j mem (newRow mem t [] 0).1 (newRow mem t [] 0).2 (.slice aF 0 0) w:=by
 obtain⟨s1,st,je⟩:=s.pushV (h:=⟨.slice aF 0 0,P.cellsOf t⟩) rfl (o:=.row t [] 0) ⟨_,gZ _ _ _,rfl,hpos,c7 _,by simp,.inl ⟨rfl,rfl⟩⟩;exact⟨_,_,.own (gZ _ _ _) (fun a ha=>by grind),s1,st,je⟩
theorem mo.stp{id:Nat}{u:aR}{w1:be}{mem1 mem2:List O}(h:mo P Z w j mem1 id mem2 u w1)(hs:bh Z w j mem Z w j mem1):mo P Z w j mem id mem2 u w1:=by
 obtain⟨Z',j',sz,h1,h2,h3,h4⟩:=h;exact⟨Z',j',sz,h1,h2,hs.trans h3,h4⟩
theorem dz.stp{v:V}{u:aR}{w1:be}{mem1 mem2:List O}(h:dz P Z w j mem1 v mem2 u w1)(hs:bh Z w j mem Z w j mem1):dz P Z w j mem v mem2 u w1:=by
 obtain⟨Z',j',a,b,c,d⟩:=h;exact⟨Z',j',a,b,hs.trans c,d⟩
theorem bh.kill{id:Nat}{o:O}(hm:mem[id]? = aA o)(har:o.ar=none:=by rfl):bh Z w j mem Z w j (mem.set id .dead) :=
 ⟨rfl,rfl,rfl,c7 _,fun _ _ _=>⟨rfl,fun _=>Iff.rfl⟩,fun _ _ ho=>ho.set hm (by intro h;cases h) har,bO.refl _ _,fun _ h=>⟨h.set hm (fun n e=>by cases e),rfl⟩⟩
theorem OL{els:List V}{sz:Nat}(h:∀x∈els,x.cells.length=sz):∀(k:Nat) (x:V) (i:Nat),els[k]? = aA x->i < sz->(els.flatMap V.cells)[k * sz+i]? = x.cells[i]?:=by
 induction els with
 |nil=>grind
 |cons e els ih =>
  intro k x i hk hi;have he:=h e (by simp);simp only[nZ];cases k with
  |zero =>
   grind
  |succ k =>
   rw[eO (by grind)];rw[show(k+1) * sz+i - e.cells.length=k * sz+i by grind];grind
theorem HT{els:List V}{sz:Nat}(h:∀x∈els,x.cells.length=sz):(els.flatMap V.cells).length=els.length * sz:=by
 induction els with
 |nil=>simp
 |cons e els ih =>
  grind
theorem xk{els:List V}{sz g b:Nat}(hsz:0 < sz)(h:∀x∈els,x.cells.length=sz)(hc:∀(k:Nat) (x:V),els[k]? = aA x->ge Z w j0 g (b+k * sz) x.cells) :
  ∃us:List aR,us.length=els.length * sz/\(∀(i:Nat) (u:aR),us[i]? = aA u->w.cell? ((⟨g,b,aF⟩:Addr).add i)=aA u/\u.oneCell'=aC) /\
   (∀(k:Nat) (x:V) (i:Nat) (y:V),els[k]? = aA x->x.cells[i]? = aA y->y.one=aC/\∃u,us[k * sz+i]? = aA u/\VR Z w j0 y u):=by
 have hcell:ge Z w j0 g b (els.flatMap V.cells):=by
  intro i y hy;have bd:i < els.length * sz:=by rw[<-HT h];grind
  have hk:i / sz < els.length:=Nat.div_lt_of_lt_mul (by grind);have e1:els[i / sz]? = aA (els[i / sz]):=cj hk;have e2:=OL h (i / sz) _ (i % sz) e1 (Nat.mod_lt _ hsz);have e3:i / sz * sz+i % sz=i:=by rw[BG];exact Nat.div_add_mod i sz
  rw[e3,hy]at e2;obtain⟨a,u,hu,hv⟩:=hc _ _ e1 _ _ e2.symm;grind
 obtain⟨us,h1,_,h3,h4⟩:=Sn (P:=default) hcell;rw[HT h]at h1;refine⟨us,h1,fun i u hu=>?_,fun k x i y hk hy=>?_⟩
 ·rw[sC];grind
 ·have hx:=h x (dx hk);have hi:i < sz:=by grind
  have e:=OL h k x i hk hi;rw[hy]at e
  have bd:k * sz+i < us.length:=by
   rw[h1,<-HT h];grind
  refine⟨(hcell _ _ e).1,us[k * sz+i],cj bd,h3 _ _ _ e (cj bd)⟩
theorem lI{t:aO}{n:Nat}(h:fC P t n=aC):n<=16777216/\P.bytesOf t<=4096/\0 < P.cellsOf t /\
  ∃i z,P.info? t=aA i/\i.size=P.cellsOf t/\i.bytes=P.bytesOf t/\i.zero=aA z/\z.cells.size=P.cellsOf t:=by
 simp only[fC,qe,co,iR]at h;obtain⟨h1,⟨h2,h3⟩,h4⟩:=h;refine⟨h1,h2,h3,?_⟩;cases hi:P.info? t with
 |none=>grind
 |some i =>
  simp only[hi,bk]at h4;cases hz:i.zero with
  |none=>grind
  |some z =>
   simp only[hz,iN]at h4;exact⟨i,z,rfl,by simp[Program.cellsOf,hi],by simp[Program.bytesOf,hi],hz,h4⟩
theorem vg{t:aO}(h:0 < P.cellsOf t):∃i,P.info? t=aA i/\i.size=P.cellsOf t/\i.bytes=P.bytesOf t:=by
 cases hi:P.info? t with
 |none=>simp[Program.cellsOf,hi]at h
 |some i=>exact⟨i,rfl,by simp[Program.cellsOf,hi],by simp[Program.bytesOf,hi]⟩
structure jK(P:bu)(w:be)(tx:aO)(ux:aR)(sz m:Nat)(news:List aR):Prop where
 ty:P.underlying tx=aA .string∨∃e,P.underlying tx=aA (.slice e)
 len:∀w2:be,(Builtin.lenOf ux).run P w2 = .ok m w2
 size:news.length=m * sz
 cells:∀(n:Nat) (w2:be),n<=m->w2.heap=w.heap->(Builtin.firstCells sz n ux).run P w2 = .ok (news.take (n * sz)).toArray w2
 one:∀u∈news,u.oneCell'=aC
theorem jK.all{tx:aO}{ux:aR}{sz m:Nat}{news:List aR}(h:jK P w tx ux sz m news)(w2:be)(hw:w2.heap=w.heap):(Builtin.firstCells sz m ux).run P w2 = .ok news.toArray w2:=by
 rw[h.cells m w2 (c7 _) hw,<-h.size,iM]
theorem Sk(w:be){t tx ty e:aO}{i:TypeInfo}(ht:P.underlying t=aA (.slice e))(hi:P.info? e=aA i){m:Nat}{ux:aR}{news:List aR}(ha:jK P w tx ux i.size m news){B:Option Addr}{sLen sCap:Nat}(hroom:sLen+m<=sCap) :
  (Builtin.append_ #[t,tx] ty #[.slice B sLen sCap,ux]).run P w=(match B with|some a=>(storeCells (a.add (sLen * i.size)) news).run P w|none=>.ok () w).andThen fun _ w1=>.ok (.slice B (sLen+m) sCap) w1:=by
 have h1:=ha.len w;have h2:=ha.all w rfl;rcases ha.ty with hd|⟨e',hd⟩<;>cases B<;>simp[Builtin.append_,dS ht,dS hd,sizeOf,gY,hi,h1,hroom,h2]
theorem JD(w:be){t tx ty e:aO}{i:TypeInfo}{z:aR}(ht:P.underlying t=aA (.slice e))(hi:P.info? e=aA i)(hz:i.zero=aA z){m:Nat}{ux:aR}{news:List aR}(ha:jK P w tx ux i.size m news){B:Option Addr}{sLen sCap:Nat}{olds:List aR}
  (hfo:(Builtin.firstCells i.size sLen (.slice B sLen sCap)).run P w.drew = .ok olds.toArray w.drew) (hg:sCap < sLen+m) (h63:((sLen+m:Nat):Int)<=9223372036854775807) (hfit:Builtin.nextslicecap (sLen+m) sCap * i.bytes<=281474976710656) :
  (Builtin.append_ #[t,tx] ty #[.slice B sLen sCap,ux]).run P w = .ok (.slice (aA ⟨w.heap.size,0,aF⟩) (sLen+m) (gv w (sLen+m) sCap e))
    (w.drew.alloc (.cells (olds.toArray++news.toArray++Builtin.zeroCells z.cells (gv w (sLen+m) sCap e - (sLen+m))) e)):=by
 have h1:=ha.len w;have h2:=ha.all w.drew rfl;have hn:¬(sLen+m<=sCap):=by omega
 have h63':¬(9223372036854775807 < ((sLen:Int)+(m:Int))):=by omega
 have h48':¬(281474976710656 < Builtin.nextslicecap (sLen+m) sCap * i.bytes):=by omega
 rcases ha.ty with hd|⟨e',hd⟩ <;>
  (simp[Builtin.append_,dS ht,dS hd,sizeOf,gY,zeroValue,hi,hz,h1,hn,h63',h48',Question.forced,h2,hfo,Go.newRow,gv];grind)
theorem AR{t tx ty e:aO}(ht:P.underlying t=aA (.slice e))(hp:0 < P.cellsOf e){B:Option Addr}{n cap:Nat}{ux:aR}(ha:jK P w tx ux (P.cellsOf e) 0 [])(hn:n<=cap) :
  (Builtin.append_ #[t,tx] ty #[.slice B n cap,ux]).run P w = .ok (.slice B n cap) w:=by
 obtain⟨i,hi,his,_⟩:=vg hp;rw[<-his]at ha;rw[Sk w ht hi ha (by omega)];cases B<;>simp[storeCells]
theorem R5{mem1:List O}{t:aO}{u:aR}{els:List V}{fz:Nat}(s1:SR P Z w j mem1)(st1:bh Z w j mem Z w j mem1)(hr:lQ P Z w ⟨u,P.cellsOf t⟩ t els fz)
  (hblk:∀g,cE.blk ⟨u,P.cellsOf t⟩=aA g->¬bM Z j mem1 g/\bM Z j mem g):mo P Z w j mem mem1.length (newRow mem1 t els fz).2 u w:=by
 have s2:=s1.add (h:=⟨u,P.cellsOf t⟩) (o:=.row t els fz) (fun g hg=>(hblk g hg).1) ⟨_,gZ _ _ _,hr⟩;refine⟨Z,_,_,gZ _ _ _,s2,⟨rfl,rfl,rfl,c7 _,fun _ _ _=>⟨rfl,fun _=>Iff.rfl⟩,fun g hg ho=>?_,bO.refl _ _,fun _ h=>⟨(st1.ar _ h).1.add rfl,rfl⟩⟩,s1.ext _⟩
 ·rcases bM.add ho with ho|ho
  ·exact st1.owned g hg ho
  grind
theorem afh(w:be){t tx ty e:aO}{i:TypeInfo}(ht:P.underlying t=aA (.slice e))(hi:P.info? e=aA i)
  (g b sLen sCap:Nat) (cur:Array aR) (hg:w.heap[g]? = aA (.cells cur e (0,0)))
  {ux:aR} {m:Nat} {news:List aR} (ha:jK P w tx ux i.size m news)
  (hroom:sLen+m<=sCap) (hfit:b+sLen * i.size+news.length<=cur.size) :
  (Builtin.append_ #[t,tx] ty #[.slice (aA ⟨g,b,aF⟩) sLen sCap,ux]).run P w =
   .ok (.slice (aA ⟨g,b,aF⟩) (sLen+m) sCap) (w.setRow g (cur.toList.take (b+sLen * i.size)++news++cur.toList.drop (b+sLen * i.size+news.length)).toArray):=by
 have hst:=yu P g (b+sLen * i.size) e news 0 cur w hg (by grind) ha.one;simp only[fL]at hst;rw[Sk w ht hi ha hroom];simp[Addr.add_lit,hst]
theorem jK.of{tx e:aO}{A:Option Addr}{xs:List V}{c:Nat}(ht:P.underlying tx=aA (.slice e))(hpos:0 < P.cellsOf e)(hxs:∀y∈xs,y.cells.length=P.cellsOf e)
  (hel:xs=[]∨∃g b sz,A=aA ⟨g,b,aF⟩/\0 < sz/\∀(k:Nat) (y:V),xs[k]? = aA y->y.cells.length=sz/\ge Z w j0 g (b+k * sz) y.cells) :
  ∃news,jK P w tx (.slice A xs.length c) (P.cellsOf e) xs.length news/\∀(k:Nat) (x:V) (i:Nat) (y:V),xs[k]? = aA x->x.cells[i]? = aA y->y.one=aC/\∃u,news[k * P.cellsOf e+i]? = aA u/\VR Z w j0 y u:=by
 by_cases hx0:xs=[]
 ·subst hx0;refine⟨[],⟨.inr ⟨_,ht⟩,fun w2=>by simp[Builtin.lenOf],by simp,fun n w2 hn _=>?_,by simp⟩,fun k x i y hk=>by grind⟩;have:n=0:=by grind
  subst this;cases A<;>simp[Builtin.firstCells,loadCells,loadCellsFrom]
 ·obtain⟨ga,ba,sz,hA,hsz,hcl⟩:=hel.resolve_left hx0;have hxl:0 < xs.length:=uy.2 hx0
  have hsz':sz=P.cellsOf e:=by
   have e0:xs[0]? = aA xs[0]:=cj hxl;grind
  subst hsz';subst hA;obtain⟨news,hnl,hnc',hnr⟩:=xk hpos hxs (fun k x hk=>(hcl k x hk).2);refine⟨news,⟨.inr ⟨_,ht⟩,fun w2=>by simp[Builtin.lenOf],hnl,fun n w2 hn hw=>?_,fun u hu=>?_⟩,hnr⟩
  ·refine AS (P:=P) w2 _ n _ _ c _ (by simp_all) (fun k u hk=>?_)
   have hk':news[k]? = aA u:=by
    grind
   have:=(hnc' k u hk').1;simpa[World.cell?,hw]using this
  ·obtain⟨k,hk,rfl⟩:=mi hu;exact(hnc' k _ (cj hk)).2
theorem afj{t ty e:aO}(ht:P.underlying t=aA (.slice e))(hp:0 < P.cellsOf e){B A:Option Addr}{n cap c:Nat}(hn:n<=cap) :
  (Builtin.append_ #[t,t] ty #[.slice B n cap,.slice A 0 c]).run P w = .ok (.slice B n cap) w:=by
 obtain⟨news,ha,_⟩:=jK.of (Z:=⟨fun _ _=>False,fun _ _=>aF,fun _=>aF⟩) (w:=w) (xs:=[]) (A:=A) (c:=c) ht hp (by simp) (.inl rfl);have:news=[]:=by have:=ha.size;simp_all
 subst this;exact AR ht hp ha hn
theorem jK.str{tx:aO}{bs:ByteArray}(ht:P.underlying tx=aA .string) :
  ∃news,jK P w tx (.string bs) 1 (fA bs.data.toList).length news/\∀(k:Nat) (x:V) (i:Nat) (y:V),(fA bs.data.toList)[k]? = aA x->x.cells[i]? = aA y->y.one=aC/\∃u,news[k * 1+i]? = aA u/\VR Z w j0 y u:=by
 have hl:(fA bs.data.toList).length=bs.size:=by simp[fA]
 refine⟨bs.data.toList.map fun b=>Value.int .u8 b.toNat,⟨.inl ht,fun w2=>by simp[Builtin.lenOf,hl],by simp_all,fun n w2 hn _=>?_,fun u hu=>?_⟩,fun k x i y hk hy=>?_⟩
 ·simp only[Builtin.firstCells,Sem.run_pure,mZ];congr 1;apply qp;simp
 ·obtain⟨x,_,rfl⟩:=ib.1 hu;rfl
 ·obtain⟨b,hb,rfl⟩:=Ck hk;cases i with
  |succ i=>simp[V.cells]at hy
  |zero =>
   simp[V.cells]at hy;subst hy;refine⟨rfl,_,?_,.int⟩;grind
theorem Cc{t tx ty e:aO}{u ux:aR}{els xs:List V}{news:List aR}{fz:Nat}{mem1:List O}{B:Option Addr}{n cap:Nat}(ht:P.underlying t=aA (.slice e))(s1:SR P Z w j mem1)(st1:bh Z w j mem Z w j mem1)
  (hu:u = .slice B n cap) (hr:lQ P Z w ⟨u,P.cellsOf e⟩ e els fz) (hroom:fC P e (els.length+xs.length)=aC) (hxs:∀y∈xs,y.cells.length=P.cellsOf e)
  (ha:jK P w tx ux (P.cellsOf e) xs.length news) (hnr:∀(k:Nat) (x:V) (i:Nat) (y:V),xs[k]? = aA x->x.cells[i]? = aA y->y.one=aC/\∃u,news[k * P.cellsOf e+i]? = aA u/\VR Z w j0 y u)
  (hblk:∀g,cE.blk ⟨u,P.cellsOf e⟩=aA g->¬bM Z j mem1 g/\bM Z j mem g) :
  ∃A' n' c' w1,(Builtin.append_ #[t,tx] ty #[u,ux]).run P w = .ok (.slice A' n' c') w1/\mo P Z w j mem mem1.length (newRow mem1 e (els++xs) fz).2 (.slice A' n' c') w1/\((∀a,B=aA a->a.off=0)->∀a,A'=aA a->a.off=0):=by
 obtain⟨hn,hby,hpos,i,z,hi,his,hib,hz,hzs⟩:=lI hroom;obtain⟨h1,h2,h3,h4,h5⟩:=hr;simp only at h2 h4 h5
 have hnc:n=els.length/\n<=cap:=by
  grind
 have hnl:=ha.size;have ha':=ha;rw[<-his]at ha'
 by_cases hx0:xs=[]
 ·subst hx0;have:news=[]:=by simp_all
  subst this;refine⟨B,n,cap,w,?_,?_,fun h=>h⟩
  ·rw[hu];exact AR ht hpos ha hnc.2
  ·rw[fh,<-hu];exact R5 s1 st1 ⟨rfl,h2,h3,h4,h5⟩ hblk
 ·have hxl:0 < xs.length:=uy.2 hx0
  have hbytes:(els.length+xs.length) * i.bytes<=140737488355328:=by
   rw[hib];exact sh (BH hn hby) (by decide)
  have fresh:∀(cells:Array aR) (cp:Nat) (olds:List aR),cells=(olds.toArray++news.toArray++Builtin.zeroCells z.cells (cp - (els.length+xs.length)))->olds.length=els.length * P.cellsOf e->els.length+xs.length<=cp->cp<=f8 ->
    (∀(k:Nat) (x:V) (i:Nat) (y:V),els[k]? = aA x->x.cells[i]? = aA y->y.one=aC/\∃u,olds[k * P.cellsOf e+i]? = aA u/\VR Z w j0 y u) ->
    mo P Z w j mem mem1.length (newRow mem1 e (els++xs) fz).2 (.slice (aA ⟨w.heap.size,0,aF⟩) (els.length+xs.length) cp) (w.drew.alloc (.cells cells e)):=by
   intro cells cp olds hcells hol hcp hcm hold;have hall:∀x∈els++xs,x.cells.length=P.cellsOf e:=fun x hx=>(cz.1 hx).elim (h4 x) (hxs x)
   have hp:=R9 (fz:=fz) (els:=els++xs) (us:=cells) (c:=cp) (w1:=w.drew.alloc (.cells cells e)) s1 rfl rfl rfl rfl hpos hall (by grind) (by grind) hcm
    (by rw[hcells];simp only[Bl,wB,size_zeroCells,hol,hnl,hzs,<-kf];grind)
    (fun k x i y hk hy=>by
     have hi:i < P.cellsOf e:=by grind
     by_cases hk':k < els.length
     ·grind
     ·rw[eO (by omega)]at hk;obtain⟨a,u',hu',hv⟩:=hnr _ x i y hk hy;refine⟨a,u',?_,hv⟩;have bd:=(bX.1 hu').1
      have e1:k * P.cellsOf e+i - olds.length=(k - els.length) * P.cellsOf e+i:=by
       rw[hol,qB];have:els.length * P.cellsOf e<=k * P.cellsOf e:=dQ _ (by omega);omega
      have hle:olds.length<=k * P.cellsOf e+i:=by
       rw[hol];have:els.length * P.cellsOf e<=k * P.cellsOf e:=dQ _ (by omega);omega
      grind)
   rw[eV]at hp;exact hp.stp st1
  rcases h5 with⟨hv,he⟩|⟨g,b,c',us,hv,hlc,hcm,hg,hus,hcells,hz1,hz2⟩
  ·subst he;rw[hu]at hv;cases hv;have hn':xs.length<=16777216:=by grind
   have hrun:=JD (ty:=ty) w ht hi hz ha' (B:=aF) (sLen:=0) (sCap:=0) (olds:=[]) (run_firstCells_none w.drew i.size 0 0 0) (by omega) (by omega) (growslice_fits (by omega) (by grind));refine⟨_,_,_,_,by rw[hu];exact hrun,?_,fun _ a ha=>by grind⟩;exact fresh _ (gv w (0+xs.length) 0 e) [] (by simp) (by simp) (by simpa using grownCap_ge w (0+xs.length) 0 e) (grownCap_le_maxLen w _ 0 e (by simp only[f8];omega)) (fun k x i y hk=>by grind)
  ·rw[hu]at hv;cases hv;have hcut:∀k x,els[k]? = aA x->ge Z w j0 g (b+k * P.cellsOf e) x.cells:=hcells
   by_cases hfit:els.length+xs.length<=cap
   ·have hul:b+els.length * P.cellsOf e+news.length<=us.size:=by
     have:(els.length+xs.length) * P.cellsOf e<=cap * P.cellsOf e:=dQ _ hfit;grind
    have hrun:=afh (ty:=ty) w ht hi g b els.length cap us hg ha' hfit (by grind);rw[his]at hrun;refine⟨_,_,_,_,by rw[hu];exact hrun,?_,fun h a ha=>h a ha⟩;have hblk':=hblk g (by simp[cE.blk,hu]);have bd:g < w.heap.size:=(hJ.1 hg).1;obtain⟨cells,hcdef⟩:∃cells:Array aR,cells=(us.toList.take (b+els.length * P.cellsOf e)++news++us.toList.drop (b+els.length * P.cellsOf e+news.length)).toArray:=⟨_,rfl⟩
    rw[<-hcdef];have hg':=setRow_heap w g us cells e (0,0) hg;have hot:∀k,k≠g->(w.setRow g cells).heap[k]? = w.heap[k]?:=fun k hk=>oP w g k cells hk
    have hfrom:∀o,o < b+els.length * P.cellsOf e->cells[o]? = us[o]?:=by
     intro o ho;rw[hcdef];simp only[Bt,cO];rw[eK (by simp;omega),lj,aU ho];simp
    have hz':bO Z w Z (w.setRow g cells):=by
     refine .of fun g' o ho=>?_
     refine⟨ho,?_⟩
     by_cases hgg:g'=g
     ·subst hgg;have h7:=(hz1 o ho).2;have h8:fz * P.cellsOf e<=els.length * P.cellsOf e:=dQ _ h3;refine⟨by rw[gI hg',gI hg,hfrom o (by omega)],?_⟩;simp only[jg,hg',hg];rw[show cells.size=us.size by rw[hcdef];simp;omega]
     ·exact j7 (hot g' hgg) o
    have s2:SR P Z (w.setRow g cells) j mem1:=s1.world hz' (fun g' hg'=>⟨hot g' (fun e=>hblk'.1 (e ▸ hg')),fun _=>Iff.rfl⟩) (fun g' o ho=>by simpa using s1.zin g' o ho);have hall:∀x∈els++xs,x.cells.length=P.cellsOf e:=fun x hx=>(cz.1 hx).elim (h4 x) (hxs x)
    have s3:=s2.add (h:=⟨.slice (aA ⟨g,b,aF⟩) (els.length+xs.length) cap,P.cellsOf e⟩) (o:=.row e (els++xs) fz) (fun g' hg'=>by
      simp[cE.blk]at hg';grind)
     ⟨_,gZ _ _ _,rfl,hpos,by grind,hall,.inr ⟨g,b,cap,cells,by simp,by grind,hcm,hg',by
       rw[hcdef];simp only[wB,eV,eC,fD,Fy];omega,fun k x hk i y hy=>by
       have hi:i < P.cellsOf e:=by grind
       by_cases hk':k < els.length
       ·rw[eK hk']at hk;obtain⟨a,u',hu',hv⟩:=hcut k x hk i y hy;refine⟨a,u',?_,hv.mono hz' (bE.refl _)⟩;rw[gI hg]at hu';rw[gI hg',hfrom _ ?_]
        ·grind
        ·have h9:(k+1) * P.cellsOf e<=els.length * P.cellsOf e:=dQ _ hk';grind
       ·rw[eO (by omega)]at hk;obtain⟨a,u',hu',hv⟩:=hnr _ x i y hk hy;refine⟨a,u',?_,hv.mono hz' (bE.refl _)⟩;rw[gI hg',hcdef];have hle2:els.length * P.cellsOf e<=k * P.cellsOf e:=dQ _ (by omega);have hsub:(k - els.length) * P.cellsOf e=k * P.cellsOf e - els.length * P.cellsOf e:=qB _ _ _;have hlt':=(bX.1 hu').1;have hto:(us.toList.take (b+els.length * P.cellsOf e)).length=b+els.length * P.cellsOf e:=by simp;omega
        simp only[Bt,cO];rw[eO (by omega),hto,eK (by omega)];rw[<-hu'];congr 1;omega,fun o ho=>by grind,fun o ho=>by grind⟩⟩
    refine⟨Z,_,_,gZ _ _ _,s3,⟨rfl,rfl,rfl,by simp,fun g' hg' hno=>⟨hot g' (fun e=>hno (e ▸ hblk'.2)),fun _=>Iff.rfl⟩,fun g' hg' ho=>?_,hz',fun _ h=>⟨(st1.ar _ h).1.add rfl,rfl⟩⟩,s1.ext _⟩;rcases bM.add ho with ho|ho
    ·exact st1.owned g' hg' ho
    ·simp[cE.blk]at ho;grind
   ·obtain⟨olds,hol,hoc,hor⟩:=xk hpos h4 hcut;have hrun:=JD (ty:=ty) w ht hi hz ha' (AS (P:=P) w.drew i.size els.length ⟨g,b,aF⟩ els.length cap olds (by grind) (fun k u hk=>by simp_all)) (by omega) (by omega) (growslice_fits (by omega) hbytes);refine⟨_,_,_,_,by rw[hu];exact hrun,?_,fun _ a ha=>by grind⟩;exact fresh _ (gv w (els.length+xs.length) cap e) olds rfl hol (grownCap_ge w _ cap e) (grownCap_le_maxLen w _ cap e (by simp only[f8];omega)) hor
end
section
variable {P:bu}{Z Z':Zs}{w w':be}{j j':J}{mem mem':List O}
theorem VR.down{l:List V}{u:aR}(h:VR Z w j (.sl l) u)(j':J):VR Z w j' (.sl l) u:=by
 cases h with
 |sl0=>exact .sl0
 |sl f a b c d e=>exact .sl f a b c d e
theorem VR.litSl{t:aO}{l:List V}{u:aR}(h:VR Z w j (.lit t l) u):VR Z w j (.sl l) u:=by
 cases h with
 |lit h=>exact h
theorem UW{t tx ty e t':aO}{l xs:List V}{u ux:aR}{news:List aR}(ht:P.underlying t=aA (.slice e))(s:SR P Z w j mem)(hv:VR Z w j (.lit t' l) u)
  (hroom:fC P e (l.length+xs.length)=aC) (h4:∀y∈l,y.cells.length=P.cellsOf e) (hxs:∀y∈xs,y.cells.length=P.cellsOf e)
  (ha:jK P w tx ux (P.cellsOf e) xs.length news) (hnr:∀(k:Nat) (x:V) (i:Nat) (y:V),xs[k]? = aA x->x.cells[i]? = aA y->y.one=aC/\∃u,news[k * P.cellsOf e+i]? = aA u/\VR Z w j0 y u) :
  ∃r w1,(Builtin.append_ #[t,tx] ty #[u,ux]).run P w = .ok r w1/\dz P Z w j mem (.sl (l++xs)) mem r w1:=by
 obtain⟨hn,hby,hpos,i,z,hi,his,hib,hz,hzs⟩:=lI hroom;cases hv with
 |lit hv hk hzz =>
 rename_i g n;have hnl:=ha.size;have ha':=ha;rw[<-his]at ha'
 by_cases hx0:xs=[]
 ·subst hx0;have:news=[]:=by simp_all
  subst this;refine⟨_,w,AR ht hpos ha (c7 _),?_⟩;rw[fh];exact fG s hv
 ·have hxl:0 < xs.length:=uy.2 hx0
  have hbytes:(l.length+xs.length) * i.bytes<=140737488355328:=by
   rw[hib];exact sh (BH hn hby) (by decide)
  have hcut:∀k x,l[k]? = aA x->ge Z w j0 g (0+k * P.cellsOf e) x.cells:=by
   rcases hv.slInv with⟨_,_,rfl,_⟩|⟨g',b',c',sz,he,_,hsz,hh⟩
   all_goals grind
  obtain⟨olds,hol,hoc,hor⟩:=xk hpos h4 hcut;have hrun:=JD (ty:=ty) w ht hi hz ha' (AS (P:=P) w.drew i.size l.length ⟨g,0,aF⟩ l.length l.length olds (by grind) (fun k u hk=>by simp_all)) (by omega) (by omega) (growslice_fits (by omega) hbytes);refine⟨_,_,hrun,?_⟩;have hall:∀x∈l++xs,x.cells.length=P.cellsOf e:=fun x hx=>(cz.1 hx).elim (h4 x) (hxs x)
  have hcp:=grownCap_ge w (l.length+xs.length) l.length e
  have hp:=(R4 (els:=l++xs) (us:=olds.toArray++news.toArray++Builtin.zeroCells z.cells (gv w (l.length+xs.length) l.length e - (l.length+xs.length))) (c:=gv w (l.length+xs.length) l.length e) (t:=e)
    (w1:=w.drew.alloc (.cells (olds.toArray++news.toArray++Builtin.zeroCells z.cells (gv w (l.length+xs.length) l.length e - (l.length+xs.length))) e)) s rfl rfl rfl rfl hpos hall (by grind)
    (fun k x i y hk hy=>by
     have hi:i < P.cellsOf e:=by grind
     by_cases hk':k < l.length
     ·grind
     ·rw[eO (by omega)]at hk;obtain⟨a,u',hu',hv⟩:=hnr _ x i y hk hy;refine⟨a,u',?_,hv⟩;have bd:=(bX.1 hu').1
      have e1:k * P.cellsOf e+i - olds.length=(k - l.length) * P.cellsOf e+i:=by
       rw[hol,qB];have:l.length * P.cellsOf e<=k * P.cellsOf e:=dQ _ (by omega);omega
      have hle:olds.length<=k * P.cellsOf e+i:=by
       rw[hol];have:l.length * P.cellsOf e<=k * P.cellsOf e:=dQ _ (by omega);omega
      grind)).1
  grind
theorem F2(s:SR P Z w j mem){t tx e:aO}{x:V}{xs:List V}{ux:aR}(hty:nc P t tx x=aC)(ht:P.underlying t=aA (.slice e))(hpos:0 < P.cellsOf e)(hxs:og mem x=aA xs)(hall:∀y∈xs,y.cells.length=P.cellsOf e)(hx:VR Z w j x ux) :
  ∃news,jK P w tx ux (P.cellsOf e) xs.length news/\∀(k:Nat) (x:V) (i:Nat) (y:V),xs[k]? = aA x->x.cells[i]? = aA y->y.one=aC/\∃u,news[k * P.cellsOf e+i]? = aA u/\VR Z w j0 y u:=by
 have sl:(∀b,x≠.str b)->∃news,jK P w tx ux (P.cellsOf e) xs.length news/\∀(k:Nat) (x:V) (i:Nat) (y:V),xs[k]? = aA x->x.cells[i]? = aA y->y.one=aC/\∃u,news[k * P.cellsOf e+i]? = aA u/\VR Z w j0 y u:=by
  intro hns;have h1:dy mem x=aA xs:=by cases x<;>first|exact hxs|grind
  have h2:t=tx:=by cases x<;>first|simpa[nc]using hty|grind
  subst h2;obtain⟨A,c,rfl,hel⟩:=uU s h1 hx;exact jK.of ht hpos hall hel
 by_cases hs:∃b,x = .str b
 rotate_left
 ·grind
 obtain⟨bs,rfl⟩:=hs;cases hx;rename_i b;simp only[og,Option.some.injEq]at hxs;subst hxs
 have ht2:P.underlying tx=aA .string:=by
  simp only[nc]at hty;grind
 by_cases h0:b.data.toList=[]
 ·have hb0:b.size=0:=by
   have:b.data.toList.length=0:=by grind
   simpa using this
  have hbv:fA b.data.toList=[]:=by rw[h0];rfl
  rw[hbv];refine⟨[],⟨.inl ht2,fun w2=>by simp[Builtin.lenOf,hb0],by simp,fun n w2 hn _=>?_,by simp⟩,fun k x i y hk=>by grind⟩;have:n=0:=by grind
  subst this;simp[Builtin.firstCells]
 ·have h1:P.cellsOf e=1:=by
   cases hd:b.data.toList with
   |nil=>grind
   |cons y l =>
    rw[hd]at hall;have:=hall (.int .u8 (y.toNat:Int)) (by simp[fA]);rw[<-this];rfl
  rw[h1];exact jK.str ht2
theorem F0(s:SR P Z w j mem){t tx ty:aO}{sv x v:V}{u ux:aR}(hty:nc P t tx x=aC)(h:kJ P mem t sv x=aA (v,mem'))(hv:VR Z w j sv u)(hx:VR Z w j x ux) :
  ∃r w1,(Builtin.append_ #[t,tx] ty #[u,ux]).run P w = .ok r w1/\dz P Z w j mem v mem' r w1:=by
 unfold kJ at h;cases he:gj P t with
 |none=>grind
 |some e =>
  have ht:P.underlying t=aA (.slice e):=by
   unfold gj at he;grind
  cases hxs:og mem x with
  |none=>grind
  |some xs =>
   simp only[he,hxs,bk]at h;split at h
   ·rename_i hall;have hall':∀y∈xs,y.cells.length=P.cellsOf e:=fun y hy=>by grind
    have arg:=fun hpos=>F2 s hty ht hpos hxs hall' hx
    cases sv<;>simp only at h<;>first|(cases h;done)|skip
    case nilS =>
     split at h
     ·rename_i hroom;cases h;cases hv;have hp:=(lI hroom).2.2.1;obtain⟨news,ha,hnr⟩:=arg hp;obtain⟨A',n',c',w1,q1,q2,q3⟩:=Cc (ty:=ty) (els:=[]) (fz:=0) ht s (bh.refl _ _ _ _) rfl ⟨rfl,hp,c7 _,by simp,.inl ⟨rfl,rfl⟩⟩ (by grind) hall' ha hnr (fun g hg=>by simp[cE.blk]at hg);exact⟨_,w1,q1,q2.own (q3 fun a ha=>by grind)⟩
     grind
    case own id =>
     cases hm:mem[id]? with
     |none=>grind
     |some o =>
      cases o<;>simp only[hm]at h<;>first|(cases h;done)|skip;rename_i e' els fz;split at h
      ·rename_i hc;obtain⟨rfl,hroom⟩:=hc;cases h;obtain⟨hn,hh,hr⟩:=s.obj id _ hm;cases hv with
       |own hj h00 =>
        rw[hj]at hh;cases hh;have h1:=hr.1;simp only at h1;subst h1;obtain⟨news,ha,hnr⟩:=arg (lI hroom).2.2.1
        suffices hsf:∀g,cE.blk ⟨_,P.cellsOf e'⟩=aA g->¬bM Z j (mem.set id .dead) g from(let ⟨A',n',c',w1,q1,q2,q3⟩:=Cc (ty:=ty) (els:=els) (fz:=fz) ht (s.kill hm) (bh.kill hm) rfl hr hroom hall' ha hnr (fun g hg=>⟨hsf g hg,⟨id,_,hm,rfl,by simp[bQ,O.ar,dj,hj,hg]⟩⟩);⟨_,w1,q1,q2.own (q3 h00)⟩)
        intro g hg;rintro⟨k,x,hx,hl,hb⟩;have bd:id < mem.length:=(bX.1 hm).1
        by_cases e:id=k
        ·subst e;rw[gR bd]at hx;cases hx;cases hl
        ·rw[ia e]at hx;exact e (s.inj id k _ x g hm hx rfl hl (by simp[bQ,O.ar,dj,hj,hg]) hb)
      grind
    case lit t' l =>
     split at h
     ·rename_i hc;obtain⟨rfl,hroom,hla⟩:=hc;cases h;obtain⟨news,ha,hnr⟩:=arg (lI hroom).2.2.1;exact UW ht s hv hroom (fun y hy=>by grind) hall' ha hnr
     grind
    case win id off len =>
     cases hm:mem[id]? with
     |none=>grind
     |some o =>
      cases o<;>simp only[hm]at h<;>first|(cases h;done)|skip;rename_i e' els fz;split at h
      ·rename_i hc;obtain⟨rfl,rfl,hend,hroom⟩:=hc;cases h;obtain⟨hn,hh,hr⟩:=s.obj id _ hm;cases hv with
       |win hj hnn hlc hcc ha =>
        rename_i n c' sz c'' A A';rw[hj]at hh;cases hh;obtain⟨h1,h2,h3,h4,h5⟩:=hr;simp only at h1 h2 h4 h5;subst h1;have hlen:((els.drop off).take len).length=len:=by grind
        have hr':lQ P Z w ⟨.slice A' len c'',P.cellsOf e'⟩ e' ((els.drop off).take len) 0:=by
         refine⟨rfl,h2,jQ _,fun x hx=>h4 x (qA (o4 hx)),?_⟩;rcases ha with⟨rfl,rfl⟩|⟨g,b,o,rfl,rfl,ho1,ho2⟩
         ·grind
         ·right;rcases h5 with⟨h5,he⟩|⟨g',b',c,us,h5,hlc',hcm,hg,hus,hcells,hz1,hz2⟩
          ·grind
          ·simp only[Value.slice.injEq,Option.some.injEq,Addr.mk.injEq,and_true]at h5;obtain⟨⟨rfl,rfl⟩,rfl,rfl⟩:=h5;refine⟨g,b+o,c'',us,by grind,by grind,by omega,hg,?_,fun k x hk=>?_,fun x hx=>?_,fun x hx=>?_⟩
           ·have:(off+c'') * P.cellsOf e'=off * P.cellsOf e'+c'' * P.cellsOf e':=kf _ _ _;grind
           all_goals grind
        have hbk:∀g,cE.blk ⟨.slice A' len c'',P.cellsOf e'⟩=aA g->dj j id=aA g:=by
         intro g hg;rcases ha with⟨rfl,rfl⟩|⟨g',b,o,rfl,rfl,_⟩
         ·simp[cE.blk]at hg
         ·simp[cE.blk]at hg;simp[dj,hj,cE.blk,hg]
        have hlm:(mem.set id O.dead).length=mem.length:=by simp
        obtain⟨news,harg,hnr⟩:=arg (lI hroom).2.2.1
        suffices hsf:∀g,cE.blk ⟨.slice A' len c'',P.cellsOf e'⟩=aA g->¬bM Z j (mem.set id .dead) g from(let ⟨A',n',c',w1,q1,q2,q3⟩:=Cc (ty:=ty) (els:=(els.drop off).take len) (fz:=0) ht (s.kill hm) (bh.kill hm) rfl hr' (by grind) hall' harg hnr (fun g hg=>⟨hsf g hg,⟨id,_,hm,rfl,hbk g hg⟩⟩);⟨_,w1,q1,hlm ▸ q2.tail (fz:=0) (t:=e') (els:=(els.drop off).take len++xs) (by simp[newRow])⟩)
        intro g hg;rintro⟨k,x,hx,hl,hb⟩;have bd:id < mem.length:=(bX.1 hm).1
        by_cases e:id=k
        ·subst e;rw[gR bd]at hx;cases hx;cases hl
        ·rw[ia e]at hx;exact e (s.inj id k _ x g hm hx rfl hl (hbk g hg) hb)
      grind
    case tail id off =>
     cases hm:mem[id]? with
     |none=>grind
     |some o =>
      cases o<;>simp only[hm]at h<;>first|(cases h;done)|skip;rename_i e' els fz;split at h
      ·rename_i hc;obtain⟨rfl,hfz,hroom⟩:=hc
       have efz:cond (ll fz 0) 0 (fz - off)=fz - off:=by
        cases fz<;>simp[ll]
       rw[efz]at h;cases h;obtain⟨hend,hv⟩:=yN s hm hv;obtain⟨len,hlen0⟩:∃len,len=els.length - off:=⟨_,rfl⟩
       rw[<-hlen0]at hv;obtain⟨hn,hh,hr⟩:=s.obj id _ hm;cases hv with
       |win hj hnn hlc hcc ha =>
        rename_i n c' sz c'' A A';rw[hj]at hh;cases hh;obtain⟨h1,h2,h3,h4,h5⟩:=hr;simp only at h1 h2 h4 h5;subst h1;have hlen:(els.drop off).length=len:=by grind
        have hr':lQ P Z w ⟨.slice A' len c'',P.cellsOf e'⟩ e' (els.drop off) (fz - off):=by
         refine⟨rfl,h2,by grind,fun x hx=>h4 x (qA hx),?_⟩;rcases ha with⟨rfl,rfl⟩|⟨g,b,o,rfl,rfl,ho1,ho2⟩
         ·grind
         ·right;rcases h5 with⟨h5,he⟩|⟨g',b',c,us,h5,hlc',hcm,hg,hus,hcells,hz1,hz2⟩
          ·grind
          ·simp only[Value.slice.injEq,Option.some.injEq,Addr.mk.injEq,and_true]at h5;obtain⟨⟨rfl,rfl⟩,rfl,rfl⟩:=h5;refine⟨g,b+o,c'',us,by grind,by grind,by omega,hg,?_,fun k x hk=>?_,fun x hx=>?_,fun x hx=>?_⟩
           ·have:(off+c'') * P.cellsOf e'=off * P.cellsOf e'+c'' * P.cellsOf e':=kf _ _ _;grind
           ·have hkl:k < (els.drop off).length:=(bX.1 hk).1;rw[js]at hk;grind
           ·obtain⟨q1,q2⟩:=hz1 x hx;have q2:x < b+fz * P.cellsOf e':=q2;have q3:off < fz:=by omega
            refine⟨by omega,?_⟩;show x < b+o+(fz - off) * P.cellsOf e';rw[ho2 (by omega),qB];grind
           ·have hx:x < (fz - off) * P.cellsOf e':=hx
            have q3:off < fz:=by
             grind
            rw[qB]at hx;grind
        have hbk:∀g,cE.blk ⟨.slice A' len c'',P.cellsOf e'⟩=aA g->dj j id=aA g:=by
         intro g hg;rcases ha with⟨rfl,rfl⟩|⟨g',b,o,rfl,rfl,_⟩
         ·simp[cE.blk]at hg
         ·simp[cE.blk]at hg;simp[dj,hj,cE.blk,hg]
        have hlm:(mem.set id O.dead).length=mem.length:=by simp
        obtain⟨news,harg,hnr⟩:=arg (lI hroom).2.2.1
        suffices hsf:∀g,cE.blk ⟨.slice A' len c'',P.cellsOf e'⟩=aA g->¬bM Z j (mem.set id .dead) g from(let ⟨A',n',c',w1,q1,q2,q3⟩:=Cc (ty:=ty) (els:=els.drop off) (fz:=fz - off) ht (s.kill hm) (bh.kill hm) rfl hr' hroom hall' harg hnr (fun g hg=>⟨hsf g hg,⟨id,_,hm,rfl,hbk g hg⟩⟩);⟨_,w1,q1,hlm ▸ q2.tail (fz:=fz - off) (t:=e') (els:=els.drop off++xs) (by simp[newRow])⟩)
        intro g hg;rintro⟨k,x,hx,hl,hb⟩;have bd:id < mem.length:=(bX.1 hm).1
        by_cases e:id=k
        ·subst e;rw[gR bd]at hx;cases hx;cases hl
        ·rw[ia e]at hx;exact e (s.inj id k _ x g hm hx rfl hl (hbk g hg) hb)
      grind
   grind
theorem VR.flat{v:V}{u:aR}(h:VR Z w j v u)(hf:v.flat1=aC)(j':J):VR Z w j' v u:=by
 cases h<;>first|(simp[V.flat1]at hf;done)|constructor
theorem oE{y y':V}{u:aR}(h:kU y=aA y')(hv:VR Z w j y u):VR Z w j0 y' u/\y'.one=aC/\y.one=true:=by
 cases y<;>simp[kU]at h<;>subst h
 ·cases hv;exact⟨.bool,rfl,rfl⟩
 ·cases hv;exact⟨.int,rfl,rfl⟩
 ·cases hv;exact⟨.str,rfl,rfl⟩
 ·cases hv;exact⟨.sl0,rfl,rfl⟩
 ·exact⟨hv.down j0,rfl,rfl⟩
 ·cases hv;exact⟨.nilP,rfl,rfl⟩
 ·exact⟨hv.litSl.down j0,rfl,rfl⟩
 ·cases hv;rename_i hg;exact⟨.hp hg,rfl,rfl⟩
 ·cases hv;rename_i hg;exact⟨.hm hg,rfl,rfl⟩
 ·cases hv;exact⟨.nilM,rfl,rfl⟩
 ·cases hv;exact⟨.nilI,rfl,rfl⟩
 ·cases hv;rename_i hx;exact⟨.ifc hx,rfl,rfl⟩
theorem kZ{α β:Type}{f:α->Option β}:∀{l:List α} {r:List β},cC f l=aA r->r.length=l.length/\∀(i:Nat) (y:β),r[i]? = aA y->∃x,l[i]? = aA x/\f x=aA y:=by
 intro l
 induction l with
 |nil=>intro r h;simp[cC]at h;grind
 |cons a l ih =>
  intro r h;simp only[cC]at h;cases h1:f a with
  |none=>grind
  |some b =>
   cases h2:cC f l with
   |none=>grind
   |some bs =>
    grind
theorem I9{x y:V}{off:Nat}{vs:List V}(h:rq x off vs=aA y)(h1:∀v∈vs,v.one=aC):y.cells=x.cells.take off++vs++x.cells.drop (off+vs.length)/\off+vs.length<=x.cells.length:=by
 unfold rq at h;split at h
 ·split at h
  ·rename_i hle;cases h;exact⟨rfl,hle⟩
  grind
 ·split at h
  ·rename_i v;split at h
   ·rename_i hc;cases h;obtain⟨rfl,hx⟩:=hc;rw[lS hx,lS (h1 _ (by simp))];simp
   grind
  grind
theorem Bd{g p:Nat}{us:Array aR}{t:aO}{vals:List aR}(hg:w.heap[g]? = aA (.cells us t (0,0)))(hp:p+vals.length<=us.size) :
  (w.setRow g (us.toList.take p++vals++us.toList.drop (p+vals.length)).toArray).heap[g]? = aA (.cells (us.toList.take p++vals++us.toList.drop (p+vals.length)).toArray t (0,0)) /\
  (us.toList.take p++vals++us.toList.drop (p+vals.length)).toArray.size=us.size /\
  ∀o,(w.setRow g (us.toList.take p++vals++us.toList.drop (p+vals.length)).toArray).cell? ⟨g,o,aF⟩=if p<=o/\o < p+vals.length then vals[o - p]? else us[o]?:=by
 have hg':=setRow_heap w g us (us.toList.take p++vals++us.toList.drop (p+vals.length)).toArray t (0,0) hg;refine⟨hg',by grind,fun o=>?_⟩;rw[gI hg'];grind
theorem JG{g p:Nat}{us:Array aR}{t t':aO}{u:aR}(hg:w.heap[g]? = aA (.cells us t' (0,0)))(hu:u.cells.size=P.cellsOf t)(h0:0 < P.cellsOf t)(h1:∀v∈u.cells.toList,v.oneCell'=aC)
  (hp:p+u.cells.toList.length<=us.size) :
  (Instr.storeAt t (.pointer (aA ⟨g,p,aF⟩)) u).run P w = .ok () (w.setRow g (us.toList.take p++u.cells.toList++us.toList.drop (p+u.cells.toList.length)).toArray):=by
 obtain⟨i,hi,his,_⟩:=vg h0;have hst:=yu P g p t' u.cells.toList 0 us w hg (by grind) h1;simp only[fL]at hst;have:¬(u.cells.size≠i.size):=by omega
 simp only[Instr.storeAt,Instr.sureAddr,storeVar,sizeOf,gY,Sem.run_bind,Sem.run_pure,Result.andThen_ok,run_program,hi];grind
theorem TF(s:SR P Z w j mem){t:aO}{p v:V}{u up:aR}(h:nO P mem t p v=aA mem')(hp:VR Z w j p up)(hv:VR Z w j v u) :
  ∃w1,(Instr.storeAt t up u).run P w = .ok () w1/\dz P Z w j mem (.tup []) mem' undef w1:=by
 unfold nO at h;split at h
 ·rename_i hc;obtain⟨hvl,hvp,hv1⟩:=hc;have hpos:0 < v.cells.length:=by omega
  obtain⟨hus,hucl⟩:=hv.cellsOf (pU hv1)
  have hu1:∀c∈u.cells.toList,c.oneCell'=true:=by
   intro c hcm;obtain⟨i,hi,rfl⟩:=mi hcm;have hi':i < v.cells.length:=by grind
   have e:=cj hi';obtain⟨c',hc',hvr⟩:=hucl i _ e
   have:u.cells.toList[i]=c':=by
    grind
   rw[this];exact hvr.oneCell (pU hv1 _ (dx e))
  have hul:u.cells.toList.length=v.cells.length:=by grind
  have gen:∀(id k off g b:Nat) (hn:cE) (o o':O) (us:Array aR) (t':aO),mem[id]? = aA o->o.ar=aF->o'.ar=aF->o.live=aC->o'.live=aC->j id=aA hn->hn.blk=aA g->w.heap[g]? = aA (.cells us t' (0,0))->0 < v.cells.length ->
    b+v.cells.length<=us.size->(∀x,Z g x->x < b∨b+v.cells.length<=x)->up = .pointer (aA ⟨g,b,aF⟩) ->
    (∀w1,w1.heap[g]? = aA (.cells (us.toList.take b++u.cells.toList++us.toList.drop (b+u.cells.toList.length)).toArray t' (0,0)) ->
     (us.toList.take b++u.cells.toList++us.toList.drop (b+u.cells.toList.length)).toArray.size=us.size->bO Z w Z w1 ->
     (∀x,w1.cell? ⟨g,x,aF⟩=if b<=x/\x < b+u.cells.toList.length then u.cells.toList[x - b]? else us[x]?)->OR P Z w1 j id o') ->
    mem'=mem.set id o'->∃w1,(Instr.storeAt t up u).run P w = .ok () w1/\dz P Z w j mem (.tup []) mem' undef w1:=by
   intro id k off g b hn o o' us t' hm har har' hl hl' hj hb hg hpos hle hzz hup hor hmem;subst hup hmem;obtain⟨h1,h2,h3⟩:=Bd (w:=w) (p:=b) (vals:=u.cells.toList) hg (by omega);refine⟨_,JG hg (by omega) (by omega) hu1 (by omega),?_⟩;have hot:∀k,k≠g->(w.setRow g (us.toList.take b++u.cells.toList++us.toList.drop (b+u.cells.toList.length)).toArray).heap[k]? = w.heap[k]?:=fun k hk=>oP w g k _ hk
   have hz':bO Z w Z (w.setRow g (us.toList.take b++u.cells.toList++us.toList.drop (b+u.cells.toList.length)).toArray):=by
    refine .of fun g' x hx=>⟨hx,?_⟩
    by_cases e:g'=g
    ·subst e;have:=hzz x hx;refine⟨by rw[h3 x,aY (by omega),gI hg],?_⟩;simp only[jg,h1,hg,h2]
    ·exact j7 (hot g' e) x
   have hne:∀g',dj j id≠aA g'->g'≠g:=by
    intro g' h e;subst e;exact h (by simp[dj,hj,hb])
   refine⟨Z,j,.tup (us:=[]) rfl (fun i c u hc=>by grind),s.set hm (fun _=>hl) hz' (fun g' hg'=>⟨hot g' (hne g' hg'),fun _=>Iff.rfl⟩) (fun g' x hx=>by simpa using s.zin g' x hx) (fun h=>by grind) (hor _ h1 h2 hz' h3) har har',?_,bE.refl _⟩;exact bh.set hm (fun _=>hl) hl hz' (fun g' hg'=>⟨hot g' (hne g' hg'),fun _=>Iff.rfl⟩) rfl rfl rfl (by simp) har har'
  cases p<;>simp only at h<;>first|(cases h;done)|skip
  case hp t' k off =>
   simp only[obi,omi]at h;obtain⟨⟨id,els⟩,hf,x,hk,vs,hvs,y,hpc,rfl⟩:=h;simp only at hk;have hm:=HL hf;have hO:=s.obj id _ hm;obtain⟨hvsl,hvsg⟩:=kZ hvs
   have hvs1:∀z∈vs,z.one=true:=by
    intro z hz;obtain⟨i,hi,rfl⟩:=mi hz;obtain⟨y0,hy0,hy1⟩:=hvsg i _ (cj hi);obtain⟨c,hc,hcv⟩:=hucl i y0 hy0;exact(oE hy1 hcv).2.1
   obtain⟨hyc,hle⟩:=I9 hpc hvs1;have hkl:k < els.length:=(bX.1 hk).1;cases hp with
   |hp hga =>
    rename_i g;obtain⟨us,hg,hxl,husl,hpos',hcells,hnz⟩:=hO.2 k x g hk hga;obtain⟨h1,h2,h3⟩:=Bd (w:=w) (p:=off) (vals:=u.cells.toList) hg (by omega);refine⟨_,JG hg (by omega) (by omega) hu1 (by omega),?_⟩;have hot:∀k,k≠g->(w.setRow g (us.toList.take off++u.cells.toList++us.toList.drop (off+u.cells.toList.length)).toArray).heap[k]? = w.heap[k]?:=fun k hk=>oP w g k _ hk
    have hz':bO Z w Z (w.setRow g (us.toList.take off++u.cells.toList++us.toList.drop (off+u.cells.toList.length)).toArray):=by
     refine .of fun g' x hx=>⟨hx,?_⟩
     by_cases e:g'=g
     ·grind
     ·exact j7 (hot g' e) x
    obtain⟨q1,q2⟩:=s.setA (o':=.arena t' (els.set k y)) hm (n:=els.length) (t:=t') rfl (by simp[O.ar]) hz' (fun g' hg'=>⟨hot g' fun e=>hg' ⟨k,hkl,by grind⟩,fun _=>Iff.rfl⟩) (fun g' x hx=>by simpa using s.zin g' x hx) rfl rfl rfl (by simp) (by
     refine⟨by rw[gS];exact hO.1,fun k' x' g' hk' hg'=>?_⟩
     by_cases e:k=k'
     ·subst e;rw[hga]at hg';cases hg';rw[gR hkl]at hk';cases hk';refine⟨_,h1,by grind,by omega,hpos',fun i y' hy'=>?_,hnz⟩;rw[h3];rw[hyc]at hy';have hto:(x.cells.take off).length=off:=by grind
      by_cases hi1:i < off
      ·rw[cO,eK (by omega),lj,aU hi1]at hy';rw[aY (by omega)];obtain⟨a,u',hu'',hvv⟩:=hcells i y' hy';rw[gI hg]at hu'';exact⟨a,u',hu'',hvv.mono hz' (bE.refl _)⟩
      ·rw[cO,eO (by omega),hto]at hy'
       by_cases hi2:i - off < vs.length
       ·rw[eK hi2]at hy';rw[aU (by omega)];obtain⟨y0,hy0,hy1⟩:=hvsg _ _ hy';obtain⟨c,hc,hcv⟩:=hucl _ y0 hy0;obtain⟨q1,q2,_⟩:=oE hy1 hcv;refine⟨q2,c,?_,q1.mono hz' (bE.refl _)⟩;grind
       ·rw[eO (by omega),js]at hy';rw[aY (by omega)];rw[show off+vs.length+(i - off - vs.length)=i by omega]at hy';obtain⟨a,u',hu'',hvv⟩:=hcells i y' hy';rw[gI hg]at hu'';exact⟨a,u',hu'',hvv.mono hz' (bE.refl _)⟩
     ·rw[ia e]at hk';exact(hO.2 k' x' g' hk' hg').mono hz' ⟨hot g' fun e'=>e (hO.1.inj k k' g hga (by grind)),fun _=>Iff.rfl⟩)
    exact⟨Z,j,.tup (us:=[]) rfl (fun i c u hc=>by grind),q1,q2,bE.refl _⟩
  rename_i id k off;cases hp with
  |ptr hj hs =>
   rename_i g b0 hn;cases hm:mem[id]? with
   |none=>grind
   |some o =>
    have hO:=s.obj id o hm;cases o<;>simp only[hm]at h<;>first|(cases h;done)|skip
    case row t' els fz =>
     split at h
     ·rename_i hfk;cases hk:els[k]? with
      |none=>grind
      |some x =>
       cases hvs:cC kU v.cells with
       |none=>grind
       |some vs =>
        cases hpc:rq x off vs with
        |none=>grind
        |some y =>
         simp[hk,hvs,hpc]at h;obtain⟨hvsl,hvsg⟩:=kZ hvs
         have hvs1:∀z∈vs,z.one=true:=by
          intro z hz;obtain⟨i,hi,rfl⟩:=mi hz;obtain⟨y0,hy0,hy1⟩:=hvsg i _ (cj hi);obtain⟨c,hc,hcv⟩:=hucl i y0 hy0;exact(oE hy1 hcv).2.1
         obtain⟨hyc,hle⟩:=I9 hpc hvs1;obtain⟨hn',hh,h1,h2,h3,h4,h5⟩:=hO;rw[hj]at hh;cases hh;have hxl:=h4 x (dx hk);have hkl:k < els.length:=(bX.1 hk).1;rcases h5 with⟨_,he⟩|⟨g',b',c',us,hu',hlc,hcm,hg,hsz,hcells,hz1,hz2⟩
         ·grind
         ·have e:(g',b')=(g,b0):=by cases hn;simp at hu';subst hu';simpa[cE.start]using hs
          cases e;have hkk:(k+1) * hn.sz<=els.length * hn.sz:=dQ _ hkl;have hcc:els.length * hn.sz<=c' * hn.sz:=dQ _ hlc;rw[ml]at hkk;refine gen id k off g (b0+(k * hn.sz+off)) hn _ (.row t' (els.set k y) fz) us t' hm rfl rfl rfl rfl hj (by cases hn;simp at hu';subst hu';rfl) hg hpos (by omega) (fun x' hx'=>.inl ?_) rfl (fun w1 hw1 hsz1 hz' hcell=>?_) h.symm
          ·have:=(hz1 x' hx').2;have:fz * hn.sz<=k * hn.sz:=dQ _ hfk;omega
          ·refine⟨hn,hj,h1,h2,by grind,fun z hz=>?_,.inr ⟨g,b0,c',_,by grind,by grind,hcm,hw1,by omega,fun k' x' hk' i y' hy'=>?_,hz1,hz2⟩⟩
           ·grind
           ·rw[hcell]
            by_cases ek:k=k'
            ·subst ek;rw[gR hkl]at hk';cases hk';rw[hyc]at hy';have hto:(x.cells.take off).length=off:=by grind
             by_cases hi1:i < off
             ·rw[cO,eK (by omega),lj,aU hi1]at hy';rw[aY (by omega)];obtain⟨a,u',hu'',hvv⟩:=hcells k x hk i y' hy';rw[gI hg]at hu'';exact⟨a,u',hu'',hvv.mono hz' (bE.refl _)⟩
             ·rw[cO,eO (by omega),hto]at hy'
              by_cases hi2:i - off < vs.length
              ·rw[eK hi2]at hy';rw[aU (by omega)];obtain⟨y0,hy0,hy1⟩:=hvsg _ _ hy';obtain⟨c,hc,hcv⟩:=hucl _ y0 hy0;obtain⟨q1,q2,_⟩:=oE hy1 hcv;refine⟨q2,c,?_,q1.mono hz' (bE.refl _)⟩;rw[<-hc,show b0+k * hn.sz+i - (b0+(k * hn.sz+off))=i - off by omega];simp
              ·rw[eO (by omega),js]at hy';rw[aY (by omega)];rw[show off+vs.length+(i - off - vs.length)=i by omega]at hy';obtain⟨a,u',hu'',hvv⟩:=hcells k x hk i y' hy';rw[gI hg]at hu'';exact⟨a,u',hu'',hvv.mono hz' (bE.refl _)⟩
            ·rw[ia ek]at hk';have hx'l:=h4 x' (dx hk');have hil:i < hn.sz:=by grind
             have hout:¬(b0+(k * hn.sz+off)<=b0+k' * hn.sz+i/\b0+k' * hn.sz+i < b0+(k * hn.sz+off)+u.cells.toList.length):=by
              rintro⟨q1,q2⟩;rcases Nat.lt_or_gt_of_ne ek with bd|hgt
              ·have:(k+1) * hn.sz<=k' * hn.sz:=dQ _ bd;grind
              ·have:(k'+1) * hn.sz<=k * hn.sz:=dQ _ hgt;grind
             rw[aY hout];obtain⟨a,u',hu'',hvv⟩:=hcells k' x' hk' i y' hy';rw[gI hg]at hu'';exact⟨a,u',hu'',hvv.mono hz' (bE.refl _)⟩
     grind
    case box t' x fz =>
     split at h
     ·rename_i hc;obtain⟨rfl,rfl⟩:=hc;have htl:(v.cells.map (oS mem)).length=v.cells.length:=by simp
      have ht1:∀y∈v.cells.map (oS mem),y.one=true:=by
       intro y hy;obtain⟨z,hz,rfl⟩:=ib.1 hy;rw[TT];grind
      have hut:∀(i:Nat) (y:V),(v.cells.map (oS mem))[i]? = aA y->∃c,u.cells[i]? = aA c/\VR Z w j y c:=by
       intro i y hy;rw[fW]at hy;cases hz:v.cells[i]? with
       |none=>grind
       |some z =>
        simp[hz]at hy;subst hy;obtain⟨c,hc,hcv⟩:=hucl i z hz;exact⟨c,hc,TU s hcv⟩
      obtain⟨vt,hvt⟩:∃vt,vt=v.cells.map (oS mem):=⟨_,rfl⟩
      rw[<-hvt]at htl ht1 hut h;cases hpc:rq x off vt with
      |none=>grind
      |some y =>
       simp[hpc]at h;obtain⟨hyc,hle⟩:=I9 hpc ht1;obtain⟨g',us,hj',hg,hxl,husl,hcells,hz1,hz2⟩:=hO;rw[hj]at hj';cases hj';have e:(g',0)=(g,b0):=by simpa[cE.start]using hs
       cases e;refine gen id 0 off g (0+(0 * P.cellsOf t'+off)) _ _ (.box t' y aD) us t' hm rfl rfl rfl rfl hj rfl hg hpos (by omega) (fun x' hx'=>by grind) rfl (fun w1 hw1 hsz1 hz' hcell=>?_) h.symm;refine⟨g,_,hj,hw1,by grind,by omega,fun i y' hy'=>?_,hz1,fun h=>by grind⟩;rw[hcell];rw[hyc]at hy';have hto:(x.cells.take off).length=off:=by grind
       by_cases hi1:i < off
       ·rw[cO,eK (by omega),lj,aU hi1]at hy';rw[aY (by omega)];obtain⟨a,u',hu'',hvv⟩:=hcells i y' hy';rw[gI hg]at hu'';exact⟨a,u',hu'',hvv.mono hz' (bE.refl _)⟩
       ·rw[cO,eO (by omega),hto]at hy'
        by_cases hi2:i - off < vt.length
        ·rw[eK hi2]at hy';rw[aU (by omega)];obtain⟨c,hc,hcv⟩:=hut _ y' hy';refine⟨ht1 _ (dx hy'),c,?_,hcv.mono hz' (bE.refl _)⟩;grind
        ·rw[eO (by omega),js]at hy';rw[aY (by omega)];rw[show off+vt.length+(i - off - vt.length)=i by omega]at hy';obtain⟨a,u',hu'',hvv⟩:=hcells i y' hy';rw[gI hg]at hu'';exact⟨a,u',hu'',hvv.mono hz' (bE.refl _)⟩
     grind
 grind
end
end Go.Lite
