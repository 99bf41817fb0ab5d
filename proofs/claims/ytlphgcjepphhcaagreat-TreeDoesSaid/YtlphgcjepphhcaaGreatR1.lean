/-
  Texts that the last one stands on.
-/
import Derived.WalkKit
import Derived.MapKept
import Derived.Laws.BytesArg
import Derived.Lib.ConvBytes
set_option linter.all false
noncomputable section
open Option renaming some->aA,none->aF,bind_some->bu,map_some->dy
open Go renaming FuncId->cf,TypeId->aP,Operand->fD,Program->bv,Value->aR,Oper->dU,World->bg,maxLen->f9,run_underlying->dP,typeInfo->ij,Calls->fQ,grownCap->gq,run_storeCells_at->yG,run_firstCells_some->Br,setRow_other->oL
open Bool renaming true->aD,false->aE,and_eq_true->cT,false_eq_true->d5,not_eq_true'->mU,not_true->cN
open Go.Program renaming underlying->bO,cellsOf->aK
open Nat renaming blt->jq,beq->m4,le_refl->cZ,le_trans->qw,lt_of_lt_of_le->qx,lt_or_ge->nQ,add_zero->gn,add_assoc->ky,zero_le->kz,mul_le_mul_right->dO,mul_one->nR,mul_comm->Ci,mul_le_mul->Cj,add_mul->jX,sub_mul->qy,succ_mul->my
open Go.IntKind renaming u8->bK,i64->aB
open List renaming replicate->cA,range->eQ,getElem?_eq_some_iff->cE,getElem?_eq_getElem->cI,mem_singleton->iN,getElem?_set_self->jn,getElem?_set_ne->iM,getElem?_append_left->eP,getElem?_take->kx,getElem?_drop->i6,all_cons->B4,map_cons->fJ,eq_nil_of_length_eq_zero->wL,getElem?_map->gy,take_of_length_le->zq,mem_of_getElem?->dH,length_drop->lh,drop_eq_nil_of_le->B6,drop_eq_getElem_cons->sd,all_eq_true->e9,drop_zero->wK,append_assoc->c8,getElem?_append_right->eC,mem_cons->dC,getElem_of_mem->mq,flatMap_cons->lc,take_length->jI,length_pos_iff->lT,mem_map->fi,append_nil->fR,mem_append->cG,size_toArray->wO,length_append->gJ,getElem?_toArray->B9,length_take->jW,mem_of_mem_drop->uE,mem_of_mem_take->uF,length_set->sg
open Array renaming getElem?_eq_getElem->gG,getElem?_setIfInBounds->Mp,size_append->BV,getElem?_eq_some_iff->gS,length_toList->Gg
namespace Go.Lite
set_option linter.defProp false
def aZ:=@decide_eq_true
def bF:=@decide_eq_false
def bn:=@cond_true
def be:=@cond_false
def bc:=@if_pos
def bh:=@if_neg
def gb:=@of_decide_eq_true
def gg:=@beq_self_eq_true
def di:=@congrArg
def dv:=@if_true
def ej:=@if_false
def mI:=@decide_eq_true_eq
def pq:=@decide_eq_decide
def iQ:=@beq_iff_eq
def fY:=@absurd
def obi.{u,v}{α:Type u}{β:Type v}{o:Option α}{f:α->Option β}{b:β}:o.bind f=aA b↔∃a,o=aA a/\f a=aA b:=Option.bind_eq_some_iff
def omi.{u,v}{α:Type u}{β:Type v}{o:Option α}{f:α->β}{b:β}:o.map f=aA b↔∃a,o=aA a/\f a=b:=Option.map_eq_some_iff
inductive V where
 |junk
 |bool (b:Bool)
 |int (k:IntKind) (n:Int)
 |str (s:List UInt8)
 |agg (cs:List V)
 |tup (vs:List V)
 |nilS
 |sl (l:List V)
 |own (id:Nat)
 |win (id off len:Nat)
 |ref (x:V) (off:Nat)
 |ptr (id k off:Nat)
 |fn (f:cf) (caps:List V)
 |mp (id:Nat)
 |nilP
 |nilF
 |fr (t:aP) (els:List V)
 |lit (t:aP) (els:List V)
 |tail (id off:Nat)
 |rest (ts:List aP) (l:List V)
 |hp (t:aP) (k off:Nat)
 |hm (t:aP) (k:Nat)
 |nilM
 |nilI
 |unk
 |ifc (t:aP) (x:V)
instance:Inhabited V:=⟨.junk⟩
inductive O where
 |row (t:aP) (els:List V) (fz:Nat)
 |box (t:aP) (v:V) (fz:Bool)
 |map (es:List (V × V))
 |arena (t:aP) (els:List V)
 |marena (t:aP) (ms:List (List (V × V)))
 |dead
instance:Inhabited O:=⟨.dead⟩
mutual
def px:V->V->Bool
 |.junk,.junk=>aD
 |.nilS,.nilS=>aD
 |.nilP,.nilP=>aD
 |.nilF,.nilF=>aD
 |.nilM,.nilM=>aD
 |.nilI,.nilI=>aD
 |.unk,.unk=>aD
 |.bool a,.bool b=>a==b
 |.int j a,.int k b=>decide (j=k) && a==b
 |.str a,.str b=>a==b
 |.agg a,.agg b=>l8 a b
 |.tup a,.tup b=>l8 a b
 |.sl a,.sl b=>l8 a b
 |.own a,.own b=>a==b
 |.mp a,.mp b=>a==b
 |.win a b c,.win x y z=>a==x && b==y && c==z
 |.ptr a b c,.ptr x y z=>a==x && b==y && c==z
 |.hp a b c,.hp x y z=>a==x && b==y && c==z
 |.tail a b,.tail x y=>a==x && b==y
 |.hm a b,.hm x y=>a==x && b==y
 |.ref a b,.ref x y=>px a x && b==y
 |.ifc a b,.ifc x y=>a==x && px b y
 |.fn a b,.fn x y=>a==x && l8 b y
 |.fr a b,.fr x y=>a==x && l8 b y
 |.lit a b,.lit x y=>a==x && l8 b y
 |.rest a b,.rest x y=>a==x && l8 b y
 |_,_=>aE
def l8:List V->List V->Bool
 | [],[]=>aD
 |a::l,b::m=>px a b && l8 l m
 |_,_=>aE
end
mutual
def xA:∀(a b:V),px a b=aD->a=b:=by
 intro a b h;cases a<;>cases b<;>simp only[px,cT,iQ,mI,d5]at h<;>first|rfl|(cases h;done)|(subst h;rfl)|(obtain⟨rfl,rfl⟩:=h;rfl)|(obtain⟨⟨rfl,rfl⟩,rfl⟩:=h;rfl)|(rw[As _ _ h])|(rw[xA _ _ h.1,h.2])|(rw[h.1,xA _ _ h.2])|(rw[h.1,As _ _ h.2])
def As:∀(a b:List V),l8 a b=aD->a=b:=by
 intro a b h;cases a<;>cases b<;>simp only[l8,cT,d5]at h
 ·rfl
 ·rw[xA _ _ h.1,As _ _ h.2]
end
mutual
def DN:∀a:V,px a a=true:=by
 intro a;cases a<;>simp[px,DN,Iq]
def Iq:∀a:List V,l8 a a=true:=by
 intro a;cases a<;>simp[l8,DN,Iq]
end
def u5:List (V × V)->List (V × V)->Bool
 | [],[]=>aD
 |a::l,b::m=>px a.1 b.1 && px a.2 b.2 && u5 l m
 |_,_=>aE
def Io:∀(a b:List (V × V)),u5 a b=aD->a=b
 | [],[],_=>rfl
 | [],_::_,h=>nomatch h
 |_::_,[],h=>nomatch h
 |(a,x)::l,(b,y)::m,h=>by
  simp only[u5,cT]at h;rw[xA _ _ h.1.1,xA _ _ h.1.2,Io _ _ h.2]
def Ip:∀a:List (V × V),u5 a a=aD
 | []=>rfl
 |a::l=>by simp[u5,DN,Ip l]
def xz:List (List (V × V))->List (List (V × V))->Bool
 | [],[]=>aD
 |a::l,b::m=>u5 a b && xz l m
 |_,_=>aE
def PP:∀(a b:List (List (V × V))),xz a b=aD->a=b
 | [],[],_=>rfl
 | [],_::_,h=>nomatch h
 |_::_,[],h=>nomatch h
 |a::l,b::m,h=>by
  simp only[xz,cT]at h;rw[Io _ _ h.1,PP _ _ h.2]
def PQ:∀a:List (List (V × V)),xz a a=aD
 | []=>rfl
 |a::l=>by simp[xz,Ip,PQ l]
def Ar:O->O->Bool
 |.row t e f,.row t' e' f'=>t==t' && l8 e e' && f==f'
 |.box t e f,.box t' e' f'=>t==t' && px e e' && f==f'
 |.map e,.map e'=>u5 e e'
 |.arena t e,.arena t' e'=>t==t' && l8 e e'
 |.marena t e,.marena t' e'=>t==t' && xz e e'
 |.dead,.dead=>aD
 |_,_=>aE
def abi(a b:O)(h:Ar a b=aD):a=b:=by
 cases a<;>cases b<;>simp only[Ar,cT,iQ,d5]at h
 ·rw[h.1.1,As _ _ h.1.2,h.2]
 ·rw[h.1.1,xA _ _ h.1.2,h.2]
 ·rw[Io _ _ h]
 ·rw[h.1,As _ _ h.2]
 ·rw[h.1,PP _ _ h.2]
 ·rfl
def abj(a:O):Ar a a=true:=by cases a<;>simp[Ar,Iq,DN,Ip,PQ]
def xy:List O->List O->Bool
 | [],[]=>aD
 |a::l,b::m=>Ar a b && xy l m
 |_,_=>aE
def PN:∀{a b:List O},xy a b=aD->a=b
 | [],[],_=>rfl
 | [],_::_,h=>nomatch h
 |_::_,[],h=>nomatch h
 |a::l,b::m,h=>by
  simp only[xy,cT]at h;rw[abi _ _ h.1,PN h.2]
def PO:∀a:List O,xy a a=aD
 | []=>rfl
 |a::l=>by simp[xy,abj,PO l]
def cD{α β:Type}(f:α->Option β):List α->Option (List β)
 | []=>aA []
 |x::xs=>(f x).bind λy=>(cD f xs).map λys=>y::ys
def V.cells:V->List V
 |.agg cs=>cs
 |v=>[v]
def V.one:V->Bool
 |.junk |.agg _ |.tup _ |.fr _ _ |.rest _ _=>aE
 |_=>aD
def V.flat1:V->Bool
 |.bool _ |.int _ _ |.str _=>aD
 |_=>aE
def V.inMap:V->Bool
 |.bool _ |.int _ _ |.str _ |.hp _ _ _ |.hm _ _=>aD
 |_=>aE
mutual
def V.plain:V->Bool
 |.agg cs=>oF cs
 |.tup vs=>oF vs
 |.sl l=>oF l
 |.ref x _=>x.plain
 |.ifc _ x=>x.plain
 |.fn _ caps=>oF caps
 |.fr _ els=>oF els
 |.lit _ els=>oF els
 |.rest _ _=>aE
 |.hp _ _ _=>aE
 |.hm _ _=>aE
 |_=>aD
def oF:List V->Bool
 | []=>aD
 |v::vs=>v.plain && oF vs
end
structure bz where
 dst:Option Nat
 op:Op
 type:aP
 guard:Option (Nat × Bool)
 bx:Bool
 sq:Bool
 rx:Bool
inductive C where
 |skip
 |ops (draw:Bool) (l:List bz)
 |seq (a b:C)
 |cond (c:fD) (thn els:C)
 |block (id:Nat) (body:C)
 |loop (gL:List Nat) (body:C)
 |exit (id:Nat)
 |ret
 |start (g:Nat)
 |uncons (g:Nat) (ps ws:List Nat) (a b:C)
 |cseq (gL:List Nat) (a b:C)
inductive Ex where
 |norm
 |exit (id:Nat)
 |ret
structure S where
 env:List V
 mem:List O
inductive RV where
 |tmp (t:Nat)
 |cell (t:Nat) (ty:aP)
structure FA where
 np:Nat
 nt:Nat
 results:List RV
 rtypes:List aP
 body:C
def ug:List V->Option V
 | [c]=>aA c
 |_=>aF
def pP(P:bv)(t:aP)(cs:List V):Option V :=
 match (bO P) t with
 |some (.struct _)=>aA (.agg cs)
 |some (.array _ _)=>aA (.agg cs)
 |some _=>ug cs
 |none=>aF
def xB(P:bv)(s:aP)(f:Nat):Option (Nat × aP) :=
 match (bO P) s with
 |some (.struct fs)=>(fs[f]?).map λx=>(x.offset,x.type)
 |_=>aF
def gh(P:bv)(t:aP):Option aP :=
 match (bO P) t with
 |some (.slice e)=>aA e
 |_=>aF
def pn:aR->Option V
 |.bool b=>aA (.bool b)
 |.int k n=>aA (.int k n)
 |.string s=>aA (.str s.data.toList)
 |.slice aF 0 0=>aA .nilS
 |.pointer aF=>aA .nilP
 |.nilFunc=>aA .nilF
 |.map aF=>aA .nilM
 |.nilIface=>aA .nilI
 |.tuple vs=>if vs.isEmpty then aA (.tup []) else aF
 |_=>aF
def jm(P:bv)(t:aP):Option V :=
 match (P.info? t).bind (·.zero)with
 |some (.agg cs)=>(cD pn cs.toList).map .agg
 |some v=>pn v
 |none=>aF
def iU:Nat:=2048
def bB(env:List V):fD->Option V
 |.tmp t=>env[t]?
 |.const v=>pn v
 |.func f=>cond (jq f iU) (aA (.fn f [])) aF
 |.global _=>aF
def pU(env:List V)(p:Nat × fD):Option (Nat × V):=(bB env p.2).map λv=>(p.1,v)
def j6(t:aP):Nat->List O->Option (Nat × List V)
 |_,[]=>aF
 |i,.arena t' els::l=>cond (t'==t) (aA (i,els)) (j6 t (i+1) l)
 |i,_::l=>j6 t (i+1) l
def O.ar:O->Option (aP × Nat)
 |.arena t els=>aA (t,els.length)
 |.marena t ms=>aA (t,ms.length)
 |_=>aF
def gP(o:O):Bool:=o.ar.isNone
def nB(t:aP):Nat->List O->Option (Nat × List (List (V × V)))
 |_,[]=>aF
 |i,.marena t' ms::l=>cond (t'==t) (aA (i,ms)) (nB t (i+1) l)
 |i,_::l=>nB t (i+1) l
def gO(mem:List O):V->Option (List (V × V))
 |.mp id =>
  match mem[id]? with
  |some (.map es)=>aA es
  |_=>aF
 |.hm t k=>(nB t 0 mem).bind λr=>r.2[k]?
 |_=>aF
def tA(mem:List O)(m:V)(es:List (V × V)):List O :=
 match m with
 |.mp id=>mem.set id (.map es)
 |.hm t k =>
  match nB t 0 mem with
  |some r=>mem.set r.1 (.marena t (r.2.set k es))
  |none=>mem
 |_=>mem
def f0(mem:List O):V->Option (V × Nat)
 |.ref x off=>aA (x,off)
 |.hp t k off=>(j6 t 0 mem).bind λr=>(r.2[k]?).map λx=>(x,off)
 |.ptr id k off =>
  match mem[id]? with
  |some (.row _ els _)=>(els[k]?).map λx=>(x,off)
  |some (.box _ v _)=>if k=0 then aA (v,off) else aF
  |_=>aF
 |_=>aF
def gD(P:bv)(mem:List O)(t:aP)(p:V):Option V :=
 (f0 mem p).bind λr =>
  if ((r.1.cells.drop r.2).take ((aK P) t)).length=(aK P) t then pP P t ((r.1.cells.drop r.2).take ((aK P) t)) else aF
def kV:V->Option V
 |.bool b=>aA (.bool b)
 |.int k n=>aA (.int k n)
 |.str s=>aA (.str s)
 |.nilS=>aA (.sl [])
 |.sl l=>aA (.sl l)
 |.lit _ l=>aA (.sl l)
 |.hp t k o=>aA (.hp t k o)
 |.hm t k=>aA (.hm t k)
 |.nilP=>aA .nilP
 |.nilM=>aA .nilM
 |.nilI=>aA .nilI
 |.ifc t x=>aA (.ifc t x)
 |_=>aF
def j7:V->Option V
 |.agg cs=>(cD kV cs).map .agg
 |v=>kV v
def putCells(x:V)(off:Nat)(vs:List V):Option V :=
 match x with
 |.agg cs=>if off+vs.length<=cs.length then aA (.agg (cs.take off++vs++cs.drop (off+vs.length))) else aF
 |_=>match vs with
  | [v]=>if off=0/\x.one then aA v else aF
  |_=>aF
def oO(mem:List O):V->V
 |.own id =>
  match mem[id]? with
  |some (.row _ _ _)=>.tail id 0
  |_=>.own id
 |v=>v
def nN(P:bv)(mem:List O)(t:aP)(p v:V):Option (List O) :=
 if v.cells.length=(aK P) t/\0 < (aK P) t/\v.cells.all V.one then
  match p with
  |.ptr id k off =>
   match mem[id]? with
   |some (.row t' els fz) =>
    if fz<=k then
     (els[k]?).bind λx=>(cD kV v.cells).bind λvs=>(putCells x off vs).map λy=>mem.set id (.row t' (els.set k y) fz)
    else aF
   |some (.box t' x fz)=>if k=0/\fz=aE then (putCells x off (v.cells.map (oO mem))).map λy=>mem.set id (.box t' y fz) else aF
   |_=>aF
  |.hp t' k off=>(j6 t' 0 mem).bind λr=>(r.2[k]?).bind λx=>(cD kV v.cells).bind λvs=>(putCells x off vs).map λy=>mem.set r.1 (.arena t' (r.2.set k y))
  |_=>aF
 else aF
def dA(mem:List O):V->Option (List V)
 |.nilS=>aA []
 |.sl l=>aA l
 |.lit _ l=>aA l
 |.own id =>
  match mem[id]? with
  |some (.row _ els _)=>aA els
  |_=>aF
 |.win id off len =>
  match mem[id]? with
  |some (.row _ els _)=>if off+len<=els.length then aA ((els.drop off).take len) else aF
  |_=>aF
 |.tail id off =>
  match mem[id]? with
  |some (.row _ els _)=>aA (els.drop off)
  |_=>aF
 |_=>aF
def fj(s:List UInt8):List V:=s.map λb=>.int bK (b.toNat:Int)
def n7(mem:List O):V->Option (List V)
 |.str s=>aA (fj s)
 |x=>dA mem x
def qd(P:bv)(t:aP):Bool:=decide (P.bytesOf t<=4096) && decide (0 < (aK P) t) && (match (P.info? t).bind (·.zero)with|some z=>z.cells.size==(aK P) t|none=>aE)
def fC(P:bv)(t:aP)(n:Nat):Bool:=decide (n<=16777216) && qd P t
def newRow(mem:List O)(t:aP)(els:List V)(fz:Nat):V × List O:=(.own mem.length,mem++[.row t els fz])
def boxed(P:bv):List aP->List V->List O->List V × List O
 |t::ts,.nilS::vs,mem =>
  match gh P t with
  |some e=>if fC P e 0 then
    let r:=boxed P ts vs (mem++[.row e [] 0])
    (.tail mem.length 0::r.1,r.2)
   else
    let r:=boxed P ts vs mem
    (.nilS::r.1,r.2)
  |none =>
    let r:=boxed P ts vs mem
    (.nilS::r.1,r.2)
 |_::ts,v::vs,mem =>
  let r:=boxed P ts vs mem
  (oO mem v::r.1,r.2)
 |_,vs,mem=>(vs,mem)
def pi(P:bv)(t:aP):List aP :=
 match (bO P) t with
 |some (.struct fs)=>fs.toList.flatMap λf=>if (aK P) f.type=1 then [f.type] else cA ((aK P) f.type) 0
 |some (.array _ _)=>[]
 |_=>[t]
def qH(P:bv)(mem:List O)(t:aP)(v:V):V × List O :=
 match v with
 |.agg cs=>let r:=boxed P (pi P t) cs mem;(.agg r.1,r.2)
 |v =>
  match boxed P (pi P t) [v] mem with
  |([x],m)=>(x,m)
  |(_,_)=>(v,mem)
def newBox(P:bv)(mem:List O)(t:aP)(v:V):V × List O :=
 let r:=qH P mem t v
 (.ptr r.2.length 0 0,r.2++[.box t r.1 aE])
def tN(P:bv)(mem:List O)(t:aP)(v:V):Option (V × List O) :=
 match j6 t 0 mem with
 |some r=>if 0 < (aK P) t then (j7 v).map λy=>(.hp t r.2.length 0,mem.set r.1 (.arena t (r.2++[y]))) else aF
 |none=>aA (newBox P mem t v)
def EG(mem:List O)(t:aP):V × List O :=
 match nB t 0 mem with
 |some r=>(.hm t r.2.length,mem.set r.1 (.marena t (r.2++[[]])))
 |none=>(.mp mem.length,mem++[.map []])
def kE(P:bv)(mem:List O)(t:aP)(s x:V):Option (V × List O) :=
 (gh P t).bind λe=>(n7 mem x).bind λxs =>
  if xs.all (λy=>y.cells.length==(aK P) e) then
   match s with
   |.nilS=>if fC P e xs.length then aA (newRow mem e xs 0) else aF
   |.own id =>
    match mem[id]? with
    |some (.row e' els fz)=>if e'=e/\fC P e (els.length+xs.length) then aA (newRow (mem.set id .dead) e (els++xs) fz) else aF
    |_=>aF
   |.tail id off =>
    match mem[id]? with
    |some (.row e' els fz)=>if e'=e/\(fz=0∨off < fz)/\fC P e ((els.drop off).length+xs.length) then aA (.tail mem.length 0,(newRow (mem.set id .dead) e (els.drop off++xs) (cond (m4 fz 0) 0 (fz - off))).2) else aF
    |_=>aF
   |.win id off len =>
    match mem[id]? with
    |some (.row e' els fz)=>if e'=e/\fz=0/\off+len<=els.length/\fC P e (len+xs.length) then aA (.tail mem.length 0,(newRow (mem.set id .dead) e ((els.drop off).take len++xs) 0).2) else aF
    |_=>aF
   |.lit t' l=>if t'=e/\fC P e (l.length+xs.length)/\l.all (λy=>y.cells.length==(aK P) e) then aA (.sl (l++xs),mem) else aF
   |_=>aF
  else aF
def nc(P:bv)(t t':aP)(x:V):Bool :=
 match x with
 |.str _=>(match (bO P) t',(gh P t).bind (bO P)with|some .string,aA (.int bK)=>aD|_,_=>aE)
 |_=>t==t'
def wx(mem:List O):V->Option (Nat × Nat × Nat)
 |.own id =>
  match mem[id]? with
  |some (.row _ els _)=>aA (id,0,els.length)
  |_=>aF
 |.tail id off =>
  match mem[id]? with
  |some (.row _ els _)=>aA (id,off,els.length - off)
  |_=>aF
 |.win id off len=>aA (id,off,len)
 |_=>aF
def Ae(P:bv)(mem:List O)(t:aP)(s x:V):Option (V × List O) :=
 (gh P t).bind λe=>(n7 mem x).bind λxs=>(wx mem s).bind λr =>
  match mem[r.1]? with
  |some (.row e' els fz) =>
   if e'=e/\xs.all (λy=>y.cells.length==(aK P) e)/\fz<=r.2.1/\r.2.1+r.2.2<=els.length then
    aA (.int aB (min xs.length r.2.2:Nat),mem.set r.1 (.row e' (els.take r.2.1++xs.take (min xs.length r.2.2)++els.drop (r.2.1+min xs.length r.2.2)) fz))
   else aF
  |_=>aF
def Aa(P:bv)(mem:List O)(t:aP)(s:V):Option (V × List O) :=
 (gh P t).bind λe=>(wx mem s).bind λr =>
  match mem[r.1]? with
  |some (.row e' els fz) =>
   if e'=e/\fC P e 0/\fz<=r.2.1/\r.2.1+r.2.2<=els.length then
    (jm P e).bind λz=>(j7 z).map λz=>(.tup [],mem.set r.1 (.row e' (els.take r.2.1++cA r.2.2 z++els.drop (r.2.1+r.2.2)) fz))
   else aF
  |_=>aF
def qY(P:bv)(mem:List O)(t:aP)(a b:V):Option (V × List O) :=
 (gh P t).bind λe =>
  match a,b with
  |.int _ n,.int _ c=>if 0<=n/\n<=c/\fC P e c.toNat then (jm P e).bind λz=>(j7 z).map λz=>newRow mem e (cA n.toNat z) 0 else aF
  |_,_=>aF
def Jm(P:bv)(t:aP)(v:V):Option V :=
 match (bO P) t with
 |some (.interface _)=>aF
 |some _=>(j7 v).map (.ifc t)
 |none=>aF
def wG(P:bv)(t:aP):Option V:=(jm P t).map λz=>.tup [z,.bool aE]
def CZ(P:bv)(t:aP)(ok:Bool):V->Option V
 |.nilI=>if ok then wG P t else aF
 |.ifc t' x=>if t'=t then aA (if ok then .tup [x,.bool aD] else x) else if ok then wG P t else aF
 |_=>aF
def y7(P:bv)(t:aP)(ok:Bool)(v:V):Option V :=
 match (bO P) t with
 |some (.interface _)=>aF
 |some _=>CZ P t ok v
 |none=>aF
def ge(mem:List O):V->Option V
 |.bool b=>aA (.bool b)
 |.int k n=>aA (.int k n)
 |.str s=>aA (.str s)
 |.nilP=>aA .nilP
 |.nilF=>aA .nilF
 |.nilS=>aA (.sl [])
 |.sl l=>aA (.sl l)
 |.lit _ l=>aA (.sl l)
 |.own id=>(dA mem (.own id)).map .sl
 |.win id off len=>(dA mem (.win id off len)).map .sl
 |.tail id off=>(dA mem (.tail id off)).map .sl
 |.ref x off=>aA (.ref x off)
 |.hp t k o=>aA (.hp t k o)
 |.hm t k=>aA (.hm t k)
 |.nilM=>aA .nilM
 |.nilI=>aA .nilI
 |.ifc t x=>aA (.ifc t x)
 |.fn f caps=>if caps.isEmpty then aA (.fn f []) else aF
 |_=>aF
def iy(mem:List O):V->Option V
 |.agg cs=>(cD (ge mem) cs).map .agg
 |.ptr id k off=>(f0 mem (.ptr id k off)).bind λ(x,off) =>
   match x with
   |.agg cs=>(cD (ge mem) cs).map λds=>.ref (.agg ds) off
   |x=>(ge mem x).map λy=>.ref y off
 |v=>ge mem v
def ku(mem:List O):V->Option V
 |.fn f caps=>(cD (iy mem) caps).map (.fn f)
 |v=>iy mem v
def jb:V->List Nat
 |.own id |.win id _ _ |.tail id _=>[id]
 |_=>[]
def iG(mem:List O):V->List Nat
 |.agg cs=>cs.flatMap jb
 |.ptr id _ _=>id::(match mem[id]? with
  |some (.box _ v _)=>v.cells.flatMap jb
  |_=>[])
 |v=>jb v
def oQ(v:V):V:=cond v.flat1 v .unk
def VM(r:V × Nat):V:=.ref (match r.1 with |.agg cs=>.agg (cs.map oQ)|x=>oQ x) r.2
def qm(mem:List O)(v:V):V :=
 match v with
 |.ptr id k off=>(match f0 mem (.ptr id k off)with|some r=>VM r|none=>.unk)
 |v=>oQ v
def JY:V->List Nat
 |.ptr id _ _=>[id]
 |_=>[]
def ww(q:Bool)(mem:List O)(v:V):Option V :=
 cond q (match v with
  |.ptr id k off=>(match mem[id]? with
   |some (.box _ _ _)=>(f0 mem (.ptr id k off)).map λr=>.ref (match r.1 with |.agg cs=>.agg (cs.map (qm mem))|x=>qm mem x) r.2
   |_=>aF)
  |v=>if v.flat1 then aA v else aF) (iy mem v)
def pH(q:Bool)(mem:List O)(v:V):List Nat :=
 cond q (match v with
  |.ptr id _ _=>id::(match mem[id]? with
   |some (.box _ v _)=>v.cells.flatMap JY
   |_=>[])
  |_=>[]) (iG mem v)
def kU(mem:List O):V->List Nat
 |.fn _ caps=>caps.flatMap (iG mem)
 |v=>iG mem v
def freeze(mem:List O)(id:Nat):List O :=
 match mem[id]? with
 |some (.row t els _)=>mem.set id (.row t els els.length)
 |some (.box t v _)=>mem.set id (.box t v aD)
 |_=>mem
def vv:V->Bool
 |.bool _ |.int _ _ |.str _ |.nilP |.nilF |.fr _ _ |.nilS=>aE
 |_=>aD
def vx:V->Bool
 |.agg cs=>cs.any vv
 |v=>vv v
def vw:V->Bool
 |.tup vs=>vs.any vx
 |v=>vx v
def pD(mem:List O)(v:V):Option V :=
 match v with
 |.ptr _ _ _=>aF
 |v=>ku mem v
def IA(P:bv)(e:aP):Bool :=
 match jm P e with
 |some z=>z.cells.all V.flat1
 |none=>aE
def s9(P:bv)(mem:List O)(t:aP)(v:V):Option V :=
 match v with
 |.own id =>
  match mem[id]? with
  |some (.row e els fz)=>if IA P e then (if fz=0 then (if els.all (λx=>x.cells.all V.flat1) then aA (.fr e els) else aF) else aA (.sl els)) else aA (.sl els)
  |_=>aF
 |.nilS=>(gh P t).bind λe=>if 0 < (aK P) e then (if IA P e then aA (.fr e []) else aA (.sl [])) else aF
 |v=>pD mem v
def rO:List V->V
 | [v]=>v
 |vs=>.tup vs
def oh(P:bv)(mem:List O)(ts:List aP)(vs:List V):Option V :=
 match ts,vs with
 | [t],[v]=>s9 P mem t v
 |_,[_]=>aF
 |_,vs=>(cD (pD mem) vs).map .tup
def y6(adopt:Bool)(mem:List O):V->V × List O
 |.fr t els=>if adopt then newRow mem t els 0 else (.sl els,mem)
 |v=>(v,mem)
def oP(adopt:Bool)(mem:List O):V->V × List O
 |.tup vs=>(.tup (vs.map λv=>(y6 aE mem v).1),mem)
 |v=>y6 adopt mem v
def sG(op:BinOp)(k:IntKind)(a b:Int):Option V :=
 match op with
 |.add=>aA (.int k (k.wrap (a+b)))
 |.sub=>aA (.int k (k.wrap (a - b)))
 |.mul=>aA (.int k (k.wrap (a * b)))
 |.quo=>if b=0 then aF else aA (.int k (k.wrap (a.tdiv b)))
 |.rem=>if b=0 then aF else aA (.int k (a.tmod b))
 |.and=>aA (.int k (k.wrap ((BitVec.ofInt k.bits a &&& BitVec.ofInt k.bits b).toNat:Int)))
 |.or=>aA (.int k (k.wrap ((BitVec.ofInt k.bits a |||BitVec.ofInt k.bits b).toNat:Int)))
 |.xor=>aA (.int k (k.wrap ((BitVec.ofInt k.bits a ^^^ BitVec.ofInt k.bits b).toNat:Int)))
 |.andNot=>aA (.int k (k.wrap ((BitVec.ofInt k.bits a &&& ~~~(BitVec.ofInt k.bits b)).toNat:Int)))
 |.eql=>aA (.bool (a==b))
 |.neq=>aA (.bool (a != b))
 |.lss=>aA (.bool (decide (a < b)))
 |.leq=>aA (.bool (decide (a<=b)))
 |.gtr=>aA (.bool (decide (a > b)))
 |.geq=>aA (.bool (decide (a ≥ b)))
 |_=>aF
def F3(op:BinOp)(a b:List UInt8):Option V :=
 match op with
 |.add=>if a.length+b.length<=4611686018427387904 then aA (.str (a++b)) else aF
 |.eql=>aA (.bool (a==b))
 |.neq=>aA (.bool (!(a==b)))
 |.lss=>aA (.bool (Op.bytesLess a b))
 |.leq=>aA (.bool (Op.bytesLess a b ||a==b))
 |.gtr=>aA (.bool (!(Op.bytesLess a b ||a==b)))
 |.geq=>aA (.bool (!Op.bytesLess a b))
 |_=>aF
def fE:V->V->Option Bool
 |.bool a,.bool b=>aA (a==b)
 |.int j a,.int k b=>if j=k then aA (a==b) else aF
 |.str a,.str b=>aA (a==b)
 |_,_=>aF
def sX:Option TypeDesc->V->V->Option Bool
 |some .bool,.bool a,.bool b=>aA (a==b)
 |some (.int _),.int j a,.int k b=>if j=k then aA (a==b) else aF
 |some .string,.str a,.str b=>aA (a==b)
 |_,_,_=>aF
def n9(P:bv):List aP->List V->List V->Option Bool
 | [],[],[]=>aA aD
 |t::ts,a::as0,b::bs=>(sX ((bO P) t) a b).bind λx=>(n9 P ts as0 bs).map λy=>x && y
 |_,_,_=>aF
def DV(P:bv)(t:aP):List aP :=
 match (bO P) t with
 |some (.struct fs)=>fs.toList.map (·.type)
 |_=>[]
def SK(P:bv)(t:aP):Bool :=
 match (bO P) t with
 |some (.struct fs)=>!P.eqGuardType P.depth t && !P.stoodInHeld t && fs.toList.zipIdx.all λx=>x.1.name != "_" && x.1.offset==x.2
 |_=>aE
def iR(P:bv)(op:BinOp)(t:aP)(x y:V):Option V :=
 match x,y with
 |.int k a,.int k' b =>
  match op with
  |.shl=>if b < 0 then aF else aA (.int k (k.wrap (a * 2 ^ (min b.toNat k.bits))))
  |.shr=>if b < 0 then aF else aA (.int k (a.fdiv (2 ^ (min b.toNat k.bits))))
  |op=>if k=k' then sG op k a b else aF
 |.str a,.str b=>F3 op a b
 |.bool a,.bool b =>
  if (match (bO P) t with|some .bool=>aD|_=>aE) then
   match op with
   |.eql=>aA (.bool (a==b))
   |.neq=>aA (.bool (!(a==b)))
   |_=>aF
  else aF
 |.agg cs,.agg ds =>
  if SK P t then
   match op with
   |.eql=>(n9 P (DV P t) cs ds).map .bool
   |.neq=>(n9 P (DV P t) cs ds).map λb=>.bool (!b)
   |_=>aF
  else aF
 |_,_=>aF
def vQ:V->Bool
 |.nilP |.nilF=>aD
 |_=>aE
def tO(P:bv)(t:aP)(x y:V):Option Bool :=
 match (bO P) t,x,y with
 |some (.pointer _),.nilP,.nilP=>aA aD
 |some (.pointer _),.ptr _ _ _,.nilP=>aA aE
 |some (.pointer _),.ref _ _,.nilP=>aA aE
 |some (.pointer _),.hp _ _ _,.nilP=>aA aE
 |some (.func _ _ _),.nilF,.nilF=>aA aD
 |some (.func _ _ _),.fn _ _,.nilF=>aA aE
 |_,_,_=>aF
def nX(P:bv)(op:BinOp)(t:aP)(x y:V):Option V :=
 if vQ y then
  match op with
  |.eql=>(tO P t x y).map .bool
  |.neq=>(tO P t x y).map λb=>.bool (!b)
  |_=>aF
 else iR P op t x y
def F7(op:UnOp)(x:V):Option V :=
 match op,x with
 |.not,.bool b=>aA (.bool (!b))
 |.neg,.int k n=>aA (.int k (k.wrap (0 - n)))
 |.xor,.int k n=>sG .xor k (if k.signed then -1 else k.max) n
 |_,_=>aF
def iv:List V->Option (List Int)
 | []=>aA []
 |.int bK n::l=>(iv l).map (n::·)
 |_=>aF
def wB(P:bv)(e:aP)(l:List V):Option V :=
 match (bO P) e with
 |some (.int bK)=>(iv l).map λxs=>.str (xs.map λn=>UInt8.ofNat n.toNat)
 |_=>aF
def po(P:bv)(mem:List O)(src dst:aP)(x:V):Option V :=
 match (bO P) src,(bO P) dst,x with
 |some _,aA (.int k),.int _ n=>aA (.int k (k.wrap n))
 |some _,aA .string,.str s=>aA (.str s)
 |some (.slice e),aA .string,x=>(dA mem x).bind (wB P e)
 |some .string,aA (.slice e),.str s =>
  match (bO P) e with
  |some (.int bK)=>aA (.sl (fj s))
  |_=>aF
 |_,_,_=>aF
def gA(o:Option (Option V))(d:Nat):Option Nat :=
 match o with
 |none=>aA d
 |some (aA (.int _ n))=>if 0<=n then aA n.toNat else aF
 |some _=>aF
def lL(P:bv)(mem:List O)(t:aP)(x:V)(lo hi mx:Option (Option V)):Option V :=
 match (bO P) t,x with
 |some .string,.str s =>
  if mx.isSome then aF else
  (gA lo 0).bind λl=>(gA hi s.length).bind λh=>if l<=h/\h<=s.length then aA (.str ((s.take h).drop l)) else aF
 |some (.slice e),x =>
  (dA mem x).bind λxs=>(gA lo 0).bind λl=>(gA hi xs.length).bind λh=>(gA mx xs.length).bind λm =>
   if 0 < (aK P) e/\l<=h/\h<=m/\m<=xs.length/\(mx.isSome=aD->hi.isSome=aD)/\xs.all (λy=>y.cells.length==(aK P) e) then
    match x with
    |.nilS=>aA .nilS
    |.sl xs=>aA (.sl ((xs.take h).drop l))
    |.own id =>
     match mem[id]? with
     |some (.row e' _ _)=>if mx.isSome then aF else if e'=e then aA (if hi.isNone then .tail id l else .win id l (h - l)) else aF
     |_=>aF
    |.tail id off =>
     match mem[id]? with
     |some (.row e' _ _)=>if mx.isSome then aF else if e'=e then aA (if hi.isNone then .tail id (off+l) else .win id (off+l) (h - l)) else aF
     |_=>aF
    |.win id off _ =>
     match mem[id]? with
     |some (.row e' _ _)=>if mx.isSome then aF else if e'=e then aA (.win id (off+l) (h - l)) else aF
     |_=>aF
    |_=>aF
   else aF
 |_,_=>aF
def DU(P:bv)(s:aP)(x:V)(f:Nat):Option V :=
 (xB P s f).bind λ(o,t)=>if (aK P) t=0 then aF else
  match x with
  |.ref y off=>aA (.ref y (off+o))
  |.ptr id k off=>aA (.ptr id k (off+o))
  |.hp t k off=>aA (.hp t k (off+o))
  |_=>aF
def j8(P:bv)(mem:List O)(t:aP)(x i:V):Option V :=
 match (bO P) t,i with
 |some (.slice e),.int _ n =>
  if 0<=n then
   match x with
   |.sl l=>(l[n.toNat]?).bind λy=>if y.cells.length=(aK P) e then aA (.ref y 0) else aF
   |.own id =>
    match mem[id]? with
    |some (.row e' els _)=>if e'=e/\n.toNat < els.length then aA (.ptr id n.toNat 0) else aF
    |_=>aF
   |.win id off len =>
    match mem[id]? with
    |some (.row e' els _)=>if e'=e/\n.toNat < len/\off+len<=els.length then aA (.ptr id (off+n.toNat) 0) else aF
    |_=>aF
   |.tail id off =>
    match mem[id]? with
    |some (.row e' els _)=>if e'=e/\n.toNat < (els.drop off).length then aA (.ptr id (off+n.toNat) 0) else aF
    |_=>aF
   |_=>aF
  else aF
 |some (.array len e),.int _ n =>
  if 0<=n/\n.toNat < len/\0 < (aK P) e then
   match x with
   |.ref y off=>aA (.ref y (off+n.toNat * (aK P) e))
   |.ptr id k off=>aA (.ptr id k (off+n.toNat * (aK P) e))
   |_=>aF
  else aF
 |_,_=>aF
def rp(P:bv)(t:aP)(cs:List V)(off:Nat):Option V :=
 let ds:=(cs.drop off).take ((aK P) t)
 if ds.length=(aK P) t then pP P t ds else aF
def qR(P:bv)(t:aP)(x i:V):Option V :=
 match (bO P) t,x,i with
 |some .string,.str s,.int _ n=>if 0<=n then (s[n.toNat]?).map λb=>.int bK (b.toNat:Int) else aF
 |some (.array len e),.agg cs,.int _ n=>if 0<=n/\n.toNat < len then rp P e cs (n.toNat * (aK P) e) else aF
 |_,_,_=>aF
def sZ(place:Nat->Option (Nat × Nat)):List V->List (Nat × V)->Option (List V)
 |cells,[]=>aA cells
 |cells,(i,v)::rest =>
  (place i).bind λ(off,size) =>
   if v.cells.length=size/\off+size<=cells.length/\v.cells.all V.one then sZ place (cells.take off++v.cells++cells.drop (off+size)) rest else aF
def JQ(P:bv)(t:aP):Option (List (Nat × Nat)) :=
 match (bO P) t with
 |some (.struct fs)=>if fs.toList.all (λf=>decide (0 < (aK P) f.type)) then aA (fs.toList.map λf=>(f.offset,(aK P) f.type)) else aF
 |some (.array n e)=>if 0 < (aK P) e then aA ((eQ n).map λi=>(i * (aK P) e,(aK P) e)) else aF
 |_=>aF
def C4(P:bv)(t:aP)(parts:List (Nat × V)):Option V :=
 match jm P t with
 |some (.agg zs)=>(JQ P t).bind λpl=>(sZ (λi=>pl[i]?) zs parts).map .agg
 |_=>aF
def tv:Nat->List (Nat × V)->Option (List V)
 |_,[]=>aA []
 |k,(i,v)::rest=>if i=k then (j7 v).bind λx=>(tv (k+1) rest).map (x::·) else aF
def nH(P:bv)(mem:List O)(t:aP)(x:V):Option V :=
 match (bO P) t,x with
 |some .string,.str s=>aA (.int aB (s.length:Int))
 |some (.array n _),_=>aA (.int aB (n:Int))
 |some (.slice _),x=>(dA mem x).map λl=>.int aB (l.length:Int)
 |some (.map _ _),x=>(gO mem x).map λes=>.int aB (es.length:Int)
 |_,_=>aF
def min2:V->V->Option V
 |.str a,.str b=>aA (.str (if Op.bytesLess a b ||a==b then a else b))
 |.int k a,.int k' b=>if k=k' then aA (.int k (if b < a then b else a)) else aF
 |_,_=>aF
def max2:V->V->Option V
 |.str a,.str b=>aA (.str (if Op.bytesLess a b then b else a))
 |.int k a,.int k' b=>if k=k' then aA (.int k (if a < b then b else a)) else aF
 |_,_=>aF
def vi(f:V->V->Option V):V->List V->Option V
 |x,[]=>aA x
 |x,y::ys=>(f x y).bind λz=>vi f z ys
def gj:List (V × V)->V->Option (Option V)
 | [],_=>aA aF
 |(a,x)::es,k=>(fE k a).bind λb=>if b then aA (aA x) else gj es k
def kg:List (V × V)->V->V->Option (List (V × V))
 | [],k,x=>aA [(k,x)]
 |(a,y)::es,k,x=>(fE k a).bind λb=>if b then aA ((a,x)::es) else (kg es k x).map ((a,y)::·)
def nI:List (V × V)->V->Option (List (V × V))
 | [],_=>aA []
 |(a,y)::es,k=>(fE k a).bind λb=>if b then aA es else (nI es k).map ((a,y)::·)
def xT(P:bv)(t:aP):Option aP :=
 match (bO P) t with
 |some (.map k e) =>
  match (bO P) k with
  |some (.int _)|some .string=>aA e
  |_=>aF
 |_=>aF
def ou(P:bv)(t:aP):V->Bool
 |.int k _=>match (bO P) t with|some (.map kt _)=>(match (bO P) kt with|some (.int k')=>k==k'|_=>aE)|_=>aE
 |.str _=>match (bO P) t with|some (.map kt _)=>(match (bO P) kt with|some .string=>aD|_=>aE)|_=>aE
 |_=>aE
structure CM where
 rd:Bool
 wv:Bool
 sv:Bool
 mv:List aP
def CM.row(m:CM)(t:aP):Bool:=m.rd && !m.mv.contains t
abbrev aU:CM:=⟨aD,aE,aD,[]⟩
structure cB where
 P:bv
 pure:cf->Bool
 adopt:cf->Bool
 pprim:cf->Option (List V->Option V)
 iprim:cf->Option (List V->List O->Option (V × List O))
 rxf:cf->Nat->Bool:=λ_ _=>aE
 sqj:cf->Bool:=λ_=>aE
 seqp:cf->Option (List aP × (List V->Option (List (List V)))):=λ_=>aF
 ars:cf->List aP:=λ_=>[]
 can:cf->Option CM:=λ_=>aF
 ro:cf->Bool:=λ_=>aE
structure dw where
 pc:cf->List V->Option V
 ic:cf->List V->List O->Option (V × List O)
def qX(P:bv)(mem:List O):List aP->List V->Option (V × List O)
 |t::_,x::_=>(nH P mem t x).map λv=>(v,mem)
 |_,_=>aF
def uO(P:bv)(mem:List O)(t t':aP)(s x:V):Option (V × List O) :=
 match (bO P) t',s,x with
 |some (.int _),.nilS,.int aB n=>(gh P t).bind λe=>if 0 < n/\fC P e n.toNat then (jm P e).bind λz=>(j7 z).map λz=>newRow mem e (cA n.toNat z) 0 else aF
 |_,_,_=>aF
def xe(P:bv)(mem:List O):List aP->List V->Option (V × List O)
 | [t,t'],[s,x]=>if nc P t t' x then kE P mem t s x else uO P mem t t' s x
 |_,_=>aF
def G8(P:bv)(mem:List O):List aP->List V->Option (V × List O)
 | [t,t'],[s,x]=>if nc P t t' x then Ae P mem t s x else aF
 |_,_=>aF
def G1(P:bv)(mem:List O):List aP->List V->Option (V × List O)
 | [t],[s]=>Aa P mem t s
 |_,_=>aF
def ND(P:bv)(mem:List O):List aP->List V->Option (V × List O)
 | [t],[.nilS]=>match (bO P) t with|some (.slice _)=>aA (.int aB 0,mem)|_=>aF
 |_,_=>aF
def pB(f:V->V->Option V)(mem:List O):List V->Option (V × List O)
 |x::xs=>(vi f x xs).map λv=>(v,mem)
 |_=>aF
def Hg(P:bv)(mem:List O):List aP->List V->Option (V × List O)
 |t::_,[m,k]=>(gO mem m).bind λes=>if ou P t k then (nI es k).map λes=>(.tup [],tA mem m es) else aF
 |_,_=>aF
def i9(P:bv)(b:Builtin)(mem:List O)(ts:List aP)(args:List V):Option (V × List O) :=
 match b with
 |.len=>qX P mem ts args
 |.append=>xe P mem ts args
 |.copy=>G8 P mem ts args
 |.min=>pB min2 mem args
 |.max=>pB max2 mem args
 |.delete=>Hg P mem ts args
 |.clear=>G1 P mem ts args
 |.cap=>ND P mem ts args
 |_=>aF
def freezeAll:List Nat->List O->List O
 | [],mem=>mem
 |i::is,mem=>freezeAll is (freeze mem i)
def l9(P:bv)(f:cf):Bool :=
 match P.funcs[f]? with
 |some fn=>fn.body.isSome && fn.name != "runtime.NumGoroutine"
 |none=>aE
def iw:V->List Nat
 |.own id |.win id _ _ |.tail id _ |.ptr id _ _ |.mp id=>[id]
 |_=>[]
def Bi:V->List Nat
 |.fn _ caps=>caps.flatMap iw
 |v=>iw v
def p9:V->List Nat
 |.agg cs |.tup cs=>cs.flatMap Bi
 |.fn _ caps=>caps.flatMap Bi
 |v=>Bi v
def lH(v:V):List Nat:=p9 v
def ren0(ρ:Nat->Option Nat):V->V
 |.own id=>match ρ id with|some i=>.own i|none=>.junk
 |.win id a b=>match ρ id with|some i=>.win i a b|none=>.junk
 |.tail id a=>match ρ id with|some i=>.tail i a|none=>.junk
 |.ptr id a b=>match ρ id with|some i=>.ptr i a b|none=>.junk
 |.mp id=>match ρ id with|some i=>.mp i|none=>.junk
 |.bool b=>.bool b
 |.int k n=>.int k n
 |.str s=>.str s
 |.nilS=>.nilS
 |.sl l=>.sl l
 |.lit t l=>.lit t l
 |.rest t l=>.rest t l
 |.ref x o=>.ref x o
 |.hp t k o=>.hp t k o
 |.hm t k=>.hm t k
 |.nilM=>.nilM
 |.nilI=>.nilI
 |.ifc t x=>.ifc t x
 |.nilP=>.nilP
 |.nilF=>.nilF
 |.fn f caps=>if caps.isEmpty then .fn f [] else .junk
 |.tup vs=>if vs.isEmpty then .tup [] else .junk
 |_=>.junk
def ren1(ρ:Nat->Option Nat):V->V
 |.fn f caps=>.fn f (caps.map (ren0 ρ))
 |v=>ren0 ρ v
def ren2(ρ:Nat->Option Nat):V->V
 |.agg cs=>.agg (cs.map (ren1 ρ))
 |.tup cs=>.tup (cs.map (ren1 ρ))
 |.fn f caps=>.fn f (caps.map (ren1 ρ))
 |v=>ren1 ρ v
def sE(n0:Nat):List Nat->List Nat->List Nat
 |acc,[]=>acc
 |acc,i::is=>sE n0 (if i < n0 ||acc.contains i then acc else acc++[i]) is
def E6(mem:List O)(id:Nat):List Nat :=
 match mem[id]? with
 |some (.box _ v _)=>p9 v
 |_=>[]
def v8(n0:Nat)(mem:List O):Nat->List Nat->List Nat
 |0,acc=>acc
 |k+1,acc =>
  let acc':=sE n0 acc (acc.flatMap (E6 mem))
  if acc'.length=acc.length then acc else v8 n0 mem k acc'
def ko(ρ:Nat->Option Nat):O->O
 |.box t v fz=>if (ren2 ρ v).cells.all V.one then .box t (ren2 ρ v) fz else .dead
 |o=>o
def renD(ρ:Nat->Option Nat)(o:O):O:=if gP o then ko ρ o else .dead
def lB(i:Nat):List Nat->Option Nat
 | []=>aF
 |x::xs=>if x=i then aA 0 else (lB i xs).map λk=>k+1
def rD(n0:Nat)(ids:List Nat)(i:Nat):Option Nat :=
 if i < n0 then aA i else (lB i ids).map λk=>n0+k
def I0(n0:Nat)(s:S):List Nat :=
 v8 n0 s.mem s.mem.length (sE n0 [] (s.env.flatMap p9++(eQ n0).flatMap λi=>E6 s.mem i))
def kw(n0:Nat)(ids:List Nat)(s:S):S :=
 ⟨s.env.map (ren2 (rD n0 ids)),(s.mem.take n0).map (ko (rD n0 ids))++ids.map λi=>renD (rD n0 ids) ((s.mem[i]?).getD .dead)⟩
def VD(n0:Nat)(s:S):S:=kw (min n0 s.mem.length) (I0 (min n0 s.mem.length) s) s
def ren3(ρ:Nat->Option Nat):V->V
 |.tup vs=>.tup (vs.map (ren2 ρ))
 |v=>ren2 ρ v
def dX:List O->Nat
 |o::l=>cond (gP o) 0 (dX l+1)
 | []=>0
def jK(args:List V)(mem:List O):List Nat:=v8 (dX mem) mem mem.length (sE (dX mem) [] (args.flatMap p9))
def iS(args:List V)(mem:List O):S:=kw (dX mem) (jK args mem) ⟨args,mem⟩
def Ve(rd:aP->Bool)(o:O):Bool :=
 match o with
 |.box _ _ _ |.map _=>aD
 |.row t _ _=>rd t
 |_=>aE
def Re(c:List O)(i:Nat):Bool :=
 match c[i]? with
 |some .dead=>aE
 |some _=>aD
 |none=>aE
def oM(rd:aP->Bool)(c m1:List O)(i:Nat):Bool:=Re c i && (match m1[i]? with|some o=>Ve rd o|none=>aE)
def xm(rd:aP->Bool)(n0:Nat)(c m1:List O)(v:V):List Nat :=
 (v8 n0 m1 m1.length (sE n0 [] ((eQ c.length).filter (oM rd c m1)++p9 v))).filter λi=>!oM rd c m1 i
def C7(rd:aP->Bool)(n0 N:Nat)(ids news:List Nat)(c m1:List O)(i:Nat):Option Nat :=
 if i < n0 then aF else cond (oM rd c m1 i) (ids[i - n0]?) ((lB i news).map λk=>N+k)
def xl(m1:List O)(k:Nat):O :=
 match m1[k]? with
 |some o=>cond (gP o) .dead o
 |none=>.dead
def uS(rd:aP->Bool)(n0:Nat)(ids:List Nat)(σ:Nat->Option Nat)(c m1:List O)(k:Nat)(o:O):O :=
 if k < n0 then xl m1 k else
 match lB k ids with
 |some q=>cond (oM rd c m1 (n0+q)) (renD σ ((m1[n0+q]?).getD .dead)) .dead
 |none=>o
def pS(g:Nat->O->O):Nat->List O->List O
 |_,[]=>[]
 |i,o::l=>g i o::pS g (i+1) l
def uR(rd:aP->Bool)(n0:Nat)(ids:List Nat)(c mem:List O)(v:V)(m1:List O):V × List O :=
 let news:=xm rd n0 c m1 v
 let σ:=C7 rd n0 mem.length ids news c m1
 (ren3 σ v,pS (uS rd n0 ids σ c m1) 0 mem++news.map λi=>renD σ ((m1[i]?).getD .dead))
def nr(rd:aP->Bool)(args:List V)(mem:List O)(v:V)(m1:List O):V × List O :=
 uR rd (dX mem) (jK args mem) (iS args mem).mem mem v m1
def rR(m:List O)(v:V):V :=
 match wx m v with
 |some r=>(match m[r.1]? with|some (.row _ _ _)=>.win r.1 r.2.1 r.2.2|_=>v)
 |none=>v
def BI(m:List O)(v:V):V :=
 match v with
 |.own _ |.win _ _ _ |.tail _ _ |.nilS=>(match ge m v with|some x=>x|none=>v)
 |v=>v
def LQ(m:List O):V->V
 |.tup vs=>.tup (vs.map (BI m))
 |v=>BI m v
def wu:V->List Nat
 |.tup vs=>vs.flatMap jb
 |v=>jb v
def rI(b:Bool)(r:V × List O):V × List O:=cond b (LQ r.2 r.1,freezeAll (wu r.1) r.2) r
def D4(l:List aP)(m:List O):List Nat:=(eQ m.length).filter λi=>match m[i]? with
 |some (.box t _ _)=>l.contains (t+1000000)
 |_=>aE
def s7(l:List aP)(r:V × List O):V × List O:=cond (l.any λt=>Nat.ble 1000000 t) (r.1,freezeAll (D4 l r.2) r.2) r
def jZ(rd:CM)(c:List O)(v:V)(m1:List O):V × List O :=
 uR rd.row (dX c) (List.range' (dX c) (c.length - dX c)) c c (s7 rd.mv (rI rd.sv (cond rd.wv (rR m1 v) v,m1))).1 (s7 rd.mv (rI rd.sv (cond rd.wv (rR m1 v) v,m1))).2
def sK(call:dw)(rd:CM)(f:cf)(args:List V)(mem:List O):Option (V × List O) :=
 (call.ic f (iS args mem).env (iS args mem).mem).map λr=>nr rd.row args mem (jZ rd (iS args mem).mem r.1 r.2).1 (jZ rd (iS args mem).mem r.1 r.2).2
noncomputable section
def Bm(ro:Bool)(mem:List O)(r:Option (V × List O)):Option (V × List O):=r.bind λx=>if !ro ||xy (x.2.take mem.length) mem then aA x else aF
def Fc{ro:Bool}{mem:List O}{r:Option (V × List O)}{x:V × List O}(h:Bm ro mem r=aA x):r=aA x/\(ro=aD->x.2.take mem.length=mem):=by
 unfold Bm at h;cases r with
 |none=>cases h
 |some y =>
  rw[bu]at h;split at h
  ·rename_i hc;cases h;exact⟨rfl,λe=>by subst e;exact PN hc⟩
  ·cases h
def Ko{ro:Bool}{mem:List O}{r:Option (V × List O)}{x:V × List O}(h:r=aA x)(hr:ro=aD->x.2.take mem.length=mem):Bm ro mem r=aA x:=by
 unfold Bm;rw[h,bu,bc];cases ro
 ·rfl
 ·rw[hr rfl,PO];rfl
def jw (cfg:cB) (call:dw) (dr:Bool) (f:cf) (args:List V) (mem:List O):Option (V × List O) :=
 if !l9 cfg.P f then aF else
 if cfg.pure f then
  (cD (ku mem) args).bind λas0=>(call.pc f as0).bind λr =>
   let ids:=args.flatMap (kU mem)
   if vw r then
    if dr && !ids.isEmpty then aF else aA (oP (cfg.adopt f && !dr) (freezeAll ids mem) r)
   else aA (oP (cfg.adopt f && !dr) mem r)
 else if dr then aF else
  match cfg.can f with
  |none=>call.ic f args mem
  |some rd=>Bm (cfg.ro f) mem (sK call rd f args mem)
def qT:Op->Bool
 |.alloc ..=>aD
 |_=>aE
def xK:Op->Bool
 |.load ..=>aD
 |_=>aE
def gi:Op->Bool
 |.call c=>match c.callee with
  |.value _=>aD
  |_=>aE
 |_=>aE
def pJ:Op->Bool
 |.buildSlice ..=>aD
 |_=>aE
def Ax(cfg:cB)(o:bz):Bool :=
 o.bx && !o.sq && (match o.op with
  |.call c=>match c.callee with
   |.value (.func f)=>!cfg.pure f
   |_=>aE
  |_=>aE)
def tj(S:List Nat):Nat->List O->List O
 |_,[]=>[]
 |i,o::l=>cond (S.contains i) o .dead::tj S (i+1) l
def keepOnly(S:List Nat)(mem:List O):List O:=tj S 0 mem
def qG(S:List Nat):Nat->List O->List O->List O
 |_,[],m=>m
 |_,_::_,[]=>[]
 |i,o::l,p::m=>cond (S.contains i) p o::qG S (i+1) l m
def tR(S:List Nat)(mem m:List O):List O:=qG S 0 mem m
def IE(S:List Nat)(mem:List O):Bool:=S.all λi=>match mem[i]? with|some o=>gP o|none=>aD
def pC(call:dw)(f:cf)(args:List V)(mem:List O):Option (V × List O) :=
 if !IE (args.flatMap lH) mem then aF else
 (call.ic f args (keepOnly (args.flatMap lH) mem)).bind λr=>if mem.length<=r.2.length then aA (r.1,tR (args.flatMap lH) mem r.2) else aF
def fc(dr:Bool)(o:bz):Bool:=dr && !(gi o.op && (o.sq ||o.bx))
def rG(o:Op):Bool :=
 match o with
 |.load .. |.indexAddr .. |.slice ..=>aD
 |.call c=>match c.callee with
  |.builtin .len=>aD
  |_=>aE
 |_=>aE
def mE(mem:List O):V->Bool
 |.ref _ _=>aD
 |.ptr id _ _=>match mem[id]? with|some (.box _ _ _)=>aD|_=>aE
 |_=>aE
def nG:V->Bool
 |.hp _ _ _=>aD
 |_=>aE
def LZ:V->Bool
 |.ref _ _ |.ptr _ _ _ |.hp _ _ _=>aD
 |_=>aE
def pQ:V->Bool
 |.str _ |.sl _ |.nilS |.lit _ _ |.ref _ _ |.ptr _ _ _=>aD
 |_=>aE
def acS:V->Bool
 |.lit _ _=>aD
 |_=>aE
def pd:Builtin->List V->Bool
 |.len,x::_=>pQ x
 |.append,[s,x]=>acS s && pQ x
 |_,_=>aE
def tz:Builtin->List V->Bool
 |.len,.hm _ _::_=>aE
 |.len,_=>aD
 |_,_=>aE
def tB(env:List V):List V:=env.map (ren2 λ_=>aF)
def un(P:bv)(mem:List O)(t:aP)(p v:V):Option (List O) :=
 if nG p && !(iG mem v).isEmpty then (iy mem v).bind λv'=>nN P (freezeAll (iG mem v) mem) t p v' else nN P mem t p v
def da(cfg:cB)(call:dw)(dr:Bool)(o:bz)(env:List V)(mem:List O):Option (V × List O) :=
 let P:=cfg.P
 let ρ:=bB env
 match o.op with
 |.move x=>(ρ x).bind λv=>if o.bx && !dr then (ge mem v).map λw=>(w,freezeAll (jb v) mem) else aA (v,mem)
 |.assign x=>(ρ x).bind λv=>if o.bx && !dr then (ge mem v).map λw=>(w,freezeAll (jb v) mem) else
   match v with
   |.nilS=>if dr then aA (v,mem) else
    match gh P o.type with
    |some e=>if fC P e 0 then aA (newRow mem e [] 0) else aA (v,mem)
    |none=>aA (v,mem)
   |v=>aA (v,mem)
 |.pick c a b=>(ρ c).bind λc=>(ρ a).bind λa=>(ρ b).bind λb=>match c with |.bool t=>aA (if t then a else b,mem)|_=>aF
 |.alloc t=>(jm P t).bind λz=>if z.cells.length=(aK P) t/\z.cells.all V.one then (if o.bx then aA (.junk,mem) else if dr && (j6 t 0 mem).isSome then aF else tN P mem t z) else aF
 |.box t x=>(ρ x).bind λv=>if o.bx && (aK P) t==0 then aF else if v.cells.length=(aK P) t/\v.cells.all V.one then (if dr && (j6 t 0 mem).isSome then aF else tN P mem t v) else aF
 |.build t parts=>(cD (pU env) parts.toList).bind λps=>(C4 P t ps).map λv=>(v,mem)
 |.buildSlice t len parts=>(cD (pU env) parts.toList).bind λps =>
   (gh P t).bind λe=>(tv 0 ps).bind λels =>
    if els.length=len/\fC P e len/\len * (aK P) e<=16777216/\els.all (λy=>y.cells.length==(aK P) e && y.cells.all V.one) then (if o.bx then aA (.lit e els,mem) else aA (newRow mem e els 0)) else aF
 |.load t a=>(ρ a).bind λp=>if o.bx && cond o.sq (nG p) (!mE mem p) then aF else (gD P mem t p).map λv=>(v,mem)
 |.nilCheck x=>(ρ x).bind λv=>if LZ v then aA (v,mem) else aF
 |.store t a x=>(ρ a).bind λp=>(ρ x).bind λv=>if o.bx && nG p then aF else (un P mem t p v).map λm=>(.tup [],m)
 |.binOp op t x y _=>(ρ x).bind λa=>(ρ y).bind λb=>(nX P op t a b).map λv=>(v,mem)
 |.unOp op _ x=>(ρ x).bind λa=>(F7 op a).map λv=>(v,mem)
 |.convert s d x=>(ρ x).bind λa=>(po P (if dr then [] else mem) s d a).map λv=>(v,mem)
 |.makeFunc (.func f) first caps=>if first.isEmpty then (if f < iU then (cD ρ caps.toList).map λcs=>(.fn f cs,mem) else aF) else if caps.isEmpty then (cD ρ first.toList).map λcs=>(.fn (iU+f) cs,mem) else aF
 |.slice t x lo hi mx=>(ρ x).bind λa=>if o.bx && !o.sq && !pQ a then aF else (lL P mem t a (lo.map ρ) (hi.map ρ) (mx.map ρ)).map λv=>(v,mem)
 |.fieldAddr s x f=>(ρ x).bind λa=>(DU P s a f).map λv=>(v,mem)
 |.field s x f=>(ρ x).bind λa=>match a with |.agg cs=>(xB P s f).bind λ(off,t)=>(rp P t cs off).map λv=>(v,mem)|_=>aF
 |.indexAddr t x i=>(ρ x).bind λa=>(ρ i).bind λb=>if o.bx && !o.sq && !pQ a then aF else (j8 P mem t a b).map λv=>(v,mem)
 |.index t x i=>(ρ x).bind λa=>(ρ i).bind λb=>(qR P t a b).map λv=>(v,mem)
 |.extract t i=>(ρ t).bind λa=>match a with |.tup vs=>(vs[i]?).map λv=>(v,mem)|_=>aF
 |.makeSlice t n c=>(ρ n).bind λa=>(ρ c).bind λb=>qY P mem t a b
 |.makeInterface t x=>(ρ x).bind λv=>(Jm P t v).map λu=>(u,mem)
 |.typeAssert x _ t ok=>(ρ x).bind λv=>(y7 P t ok v).map λu=>(u,mem)
 |.makeMap t aF=>if (xT P t).isSome then (if dr && (nB t 0 mem).isSome then aF else aA (EG mem t)) else aF
 |.lookup t m k ok=>(ρ m).bind λm=>(ρ k).bind λk =>
   (gO mem m).bind fun es=>if ou P t k then
      (xT P t).bind λe=>(jm P e).bind λz=>(gj es k).map λr =>
       (if ok then .tup [r.getD z,.bool r.isSome] else r.getD z,mem)
     else aF
 |.mapUpdate t m k x=>(ρ m).bind λm=>(ρ k).bind λk=>(ρ x).bind λx =>
   (gO mem m).bind λes=>if ou P t k/\x.inMap then (kg es k x).map λes=>(.tup [],tA mem m es) else aF
 |.call c =>
  match c.callee with
  |.builtin b=>(cD ρ c.args.toList).bind λargs=>if o.bx && !cond o.sq (tz b args) (pd b args) then aF else i9 P b mem c.argTypes.toList args
  |.value f=>(ρ f).bind λfv=>(cD ρ c.args.toList).bind λargs =>
    match fv with
    |.fn f caps=>if iU<=f then (if dr ||o.bx ||o.sq then aF else jw cfg call dr (f - iU) (caps++args) mem) else if o.bx && !o.sq && !cfg.pure f then (if Ax cfg o && l9 P f then pC call f (args++caps) mem else aF) else jw cfg call dr f (args++caps) mem
    |_=>aF
  |_=>aF
 |_=>aF
def eB(cfg:cB)(call:dw)(dr:Bool)(o:bz)(env:List V)(mem:List O):Option (V × List O) :=
 if o.rx then (da cfg call aD o (tB env) []).bind λr=>match r.2 with | []=>aA (r.1,mem)|_=>(iy r.2 r.1).map λv=>(v,mem)
 else da cfg call dr o env mem
def fI(env:List V):Option (Nat × Bool)->Option Bool
 |none=>aA aD
 |some (t,want) =>
  match env[t]? with
  |some (.bool b)=>aA (b==want)
  |some (.tup [])=>aA aE
  |_=>aF
def fH(env:List V):Option Nat->V->List V
 |none,_=>env
 |some d,v=>env.set d v
def ib(cfg:cB)(call:dw)(dr:Bool):List bz->S->Option S
 | [],s=>aA s
 |o::rest,s =>
  (fI s.env o.guard).bind λw =>
   if w then (eB cfg call (fc dr o) o s.env s.mem).bind λ(v,m)=>ib cfg call dr rest ⟨fH s.env o.dst v,m⟩
   else ib cfg call dr rest ⟨fH s.env o.dst (.tup []),s.mem⟩
def gL(env:List V):List Nat->List V
 | []=>env
 |t::ts=>gL (env.set t .junk) ts
def dK(n0:Nat)(f:List Nat)(s:S):S:=VD n0 ⟨gL s.env f,s.mem⟩
def eU(step:S->Option (Ex × S)):Nat->S->Option (Ex × S)
 |0,_=>aF
 |n+1,s=>(step s).bind λr =>
  match r with
  |(.norm,s')=>eU step n s'
  |(.exit i,s')=>aA (.exit i,s')
  |(.ret,s')=>aA (.ret,s')
def wq:List V->List Nat->List V->List V
 |env,p::ps,v::vs=>wq (env.set p v) ps vs
 |env,_,_=>env
def wy(cfg:cB)(g:Nat)(s:S):Option S :=
 match s.env[g]? with
 |some (.fn f caps)=>if iU<=f then aF else (cfg.seqp f).bind λth=>(cD (ww (cfg.sqj f) s.mem) caps).bind λas0=>(th.2 as0).map λl =>
   ⟨s.env.set g (.rest th.1 (l.map .tup)),freezeAll (caps.flatMap (pH (cfg.sqj f) s.mem)) s.mem⟩
 |_=>aF
def jC(o:bz):List Nat :=
 (o.op.operands.toList.filterMap λ|.tmp t=>aA t|_=>aF)++(match o.guard with|some (t,_)=>[t]|none=>[])
def jY(o:bz):Bool:=!o.rx && o.bx && !o.sq && xK o.op
def im(o:bz):Bool:=!o.rx && gi o.op && o.bx && o.sq
def jO(o:bz):Bool:=!o.rx && o.bx && o.sq && rG o.op
def xL:Op->Bool
 |.store ..=>aD
 |_=>aE
def kQ(cfg:cB)(o:bz):Bool:=!o.rx && (Ax cfg o ||(o.bx && xL o.op))
def FZ(cfg:cB):List bz->Bool
 | []=>aD
 |o::rest=>(!(jY o ||kQ cfg o) ||(jC o).all λt=>o.dst != aA t && rest.all λq=>q.dst != aA t) && FZ cfg rest
def nE(env:List V)(x:fD):List Nat:=match bB env x with|some v=>lH v|none=>[]
def wb(env:List V)(o:bz):List Nat :=
 match o.op with
 |.load _ a=>nE env a
 |_=>[]
def nC(env:List V)(o:bz):List Nat :=
 match o.op with
 |.call c=>c.args.toList.flatMap (nE env)
 |.store _ a _=>nE env a
 |_=>[]
def s6(cfg:cB)(l:List bz)(env:List V):Bool :=
 (l.all λo=>!(o.bx && qT o.op) ||jq (o.dst.getD env.length) env.length) &&
 (!(l.any (kQ cfg)) ||(FZ cfg l && l.all λc=>!kQ cfg c ||l.all λo=>!jY o ||(wb env o).all λi=>!(nC env c).contains i))
def nu(o:bz)(env:List V)(mem:List O):List Nat :=
 match o.op with
 |.call c=>match cD (bB env) c.args.toList with
  |some as0=>jK as0 mem
  |none=>[]
 |_=>[]
def Db(cfg:cB)(o:bz):Bool :=
 match o.op with
 |.call c=>match c.callee with
  |.value (.func f)=>!cfg.pure f && (cfg.can f).isSome
  |_=>aE
 |_=>aE
def nv(cfg:cB)(o:bz):Bool :=
 match o.op with
 |.call c=>match c.callee with
  |.value (.func f)=>cfg.ro f
  |_=>aE
 |_=>aE
def lE(env:List V)(x:fD):List Nat:=match bB env x with|some v=>iw v|none=>[]
def mc(env:List V)(o:bz):List Nat :=
 match o.op with
 |.load _ a=>lE env a
 |.indexAddr _ x _=>lE env x
 |.slice _ x _ _ _=>lE env x
 |.call c=>c.args.toList.flatMap (lE env)
 |_=>[]
def F0:List bz->Bool
 | []=>aD
 |o::rest=>(!jO o ||(jC o).all λt=>o.dst != aA t && rest.all λq=>q.dst != aA t) && F0 rest
def Dc(cfg:cB)(l:List bz)(env:List V)(fs:List Nat):Bool :=
 F0 l && (l.all λo=>!im o ||Db cfg o) && l.all λo=>!jO o ||(mc env o).all λi=>!fs.contains i
def jF(cfg:cB)(call:dw):List bz->S->List Nat->Option (S × List Nat)
 | [],s,fs=>aA (s,fs)
 |o::rest,s,fs =>
  (fI s.env o.guard).bind λw =>
   if w then (eB cfg call (fc aD o) o s.env s.mem).bind λ(v,m)=>jF cfg call rest ⟨fH s.env o.dst v,m⟩ (if im o && !nv cfg o then nu o s.env s.mem++fs else fs)
   else jF cfg call rest ⟨fH s.env o.dst (.tup []),s.mem⟩ fs
def mg(cfg:cB)(call:dw)(dr:Bool)(l:List bz)(s:S):Option S :=
 if dr && l.any im then (jF cfg call l s []).bind λr=>if Dc cfg l r.1.env r.2 then aA r.1 else aF else ib cfg call dr l s
def exec(cfg:cB)(call:dw)(n n0:Nat):C->S->Option (Ex × S)
 |.skip,s=>aA (.norm,s)
 |.ops dr l,s=>(mg cfg call dr l s).bind λs=>if !dr ||s6 cfg l s.env then aA (.norm,s) else aF
 |.seq a b,s=>(exec cfg call n n0 a s).bind λr =>
   match r with
   |(.norm,s')=>exec cfg call n n0 b s'
   |(.exit i,s')=>aA (.exit i,s')
   |(.ret,s')=>aA (.ret,s')
 |.cond c a b,s=>(bB s.env c).bind λv =>
   match v with
   |.bool t=>if t then exec cfg call n n0 a s else exec cfg call n n0 b s
   |_=>aF
 |.block id c,s=>(exec cfg call n n0 c s).map λr =>
   match r with
   |(.norm,s')=>(.norm,s')
   |(.exit i,s')=>if i=id then (.norm,s') else (.exit i,s')
   |(.ret,s')=>(.ret,s')
 |.loop f c,s=>(eU (λs=>exec cfg call n n0 c (dK n0 f s)) n s).map λr=>(r.1,dK n0 f r.2)
 |.exit i,s=>aA (.exit i,s)
 |.ret,s=>aA (.ret,s)
 |.start g,s=>(wy cfg g s).map λs=>(.norm,s)
 |.uncons g ps ws a b,s =>
  match s.env[g]? with
  |some (.rest _ [])=>exec cfg call n n0 b s
  |some (.rest ts (.tup vs::l)) =>
   if vs.length=ps.length then (exec cfg call n n0 a ⟨wq (s.env.set g .junk) ps vs,s.mem⟩).map λr=>(r.1,⟨(gL r.2.env ws).set g (.rest ts l),r.2.mem⟩) else aF
  |_=>aF
 |.cseq f a b,s=>(exec cfg call n n0 a s).bind λr =>
   match r with
   |(.norm,s')=>exec cfg call n n0 b (dK n0 f s')
   |(.exit i,s')=>aA (.exit i,s')
   |(.ret,s')=>aA (.ret,s')
def oH(P:bv)(s:S):RV->Option V
 |.tmp t=>s.env[t]?
 |.cell t ty=>(s.env[t]?).bind λp=>gD P s.mem ty p
def rF(cfg:cB)(call:dw)(n:Nat)(fa:FA)(args:List V)(mem:List O):Option (List V × List O) :=
 if args.length=fa.np/\fa.np<=fa.nt then
  (exec cfg call n mem.length fa.body ⟨args++cA (fa.nt - fa.np) (.tup []),mem⟩).bind λr =>
   match r with
   |(.exit _,_)=>aF
   |(_,s)=>(cD (oH cfg.P s) fa.results).map λvs=>(vs,s.mem)
 else aF
def kD:List dU->List (List Nat)->List (List Nat)
 | [],acc=>acc
 |o::rest,acc=>kD rest (acc++[(o.after.toList.flatMap λe=>if Region.binds .any e then e.on::acc.getD e.on [] else []).eraseDups])
def ry:Op->Bool
 |.load .. |.indexAddr .. |.slice .. |.lookup ..=>aD
 |.call c=>match c.callee with
  |.builtin .min |.builtin .max=>aE
  |_=>aD
 |_=>aE
def pf:Op->Bool
 |.indexAddr .. |.slice ..=>aD
 |.call c=>match c.callee with
  |.builtin .len |.builtin .append=>aD
  |_=>aE
 |_=>aE
def vp:Op->Bool
 |.call c=>match c.callee with
  |.builtin .append=>aD
  |_=>aE
 |_=>aE
def k8:Op->Bool
 |.store .. |.alloc _ |.box .. |.buildSlice .. |.makeSlice .. |.makeMap .. |.mapUpdate ..=>aD
 |.call c=>match c.callee with
  |.builtin .len |.builtin .min |.builtin .max=>aE
  |.builtin _=>aD
  |_=>aE
 |_=>aE
def SP:Op->Bool
 |.alloc _ |.box .. |.buildSlice .. |.makeSlice ..=>aD
 |.call c=>match c.callee with
  |.builtin .append=>aD
  |_=>aE
 |_=>aE
def dN(o:bz):Bool:=!o.rx && ((k8 o.op && !(o.bx && (pJ o.op ||vp o.op ||qT o.op))) ||(gi o.op && (o.sq ||o.bx)))
def p8(o:bz):Bool:=!o.rx && ry o.op && !(o.bx && !o.sq && pf o.op)
def pY(o:bz):Bool:=!o.rx && (SP o.op ||(gi o.op && o.bx && !o.sq) ||(xL o.op && o.bx))
def lZ(a b:bz):Bool :=
 (match a.dst with|some d=>(jC b).contains d ||b.dst==aA d|none=>aE) ||
 (match b.dst with|some d=>(jC a).contains d|none=>aE)
def pL(a b:bz):Bool:=(dN a && (p8 b ||dN b)) ||(p8 a && dN b)
def kv(a b:bz):Bool:=(pY a && jY b) ||(jY a && pY b) ||(im a && jO b) ||(jO a && im b)
def jL(a b:bz):Bool:=lZ a b ||(pL a b && !kv a b)
def writers(l:List bz)(d:Nat):List Nat:=(eQ l.length).filter λi=>(l[i]?).bind (·.dst)==aA d
def Er(l:List bz):Bool :=
 (eQ l.length).all λm =>
  match l[m]? with
  |some ⟨dst,.box T _,_,g,aD,_,rx⟩ =>
   match dst with
   |some d=>g.isNone && !rx &&
    match writers l d with
    | [k,m']=>m'==m && (match l[k]? with
     |some ⟨_,.alloc T',_,g',bx',_,rx'⟩=>T'==T && g'.isNone && bx' && !rx'
     |_=>aE)
    |_=>aE
   |none=>aE
  |_=>aD
def Ah(ops:Array dU)(l:List bz):Bool :=
 let b:=kD ops.toList []
 Er l &&
 (ops.toList.zipIdx.all λx=>x.1.after.toList.all λe=>!Region.binds .any e ||decide (e.on < x.2)) &&
 (eQ l.length).all λj=>(eQ j).all λi =>
  match l[i]?,l[j]? with
  |some oi,aA oj=>!jL oi oj ||(b.getD j []).contains i
  |_,_=>aD
def D3(ops:Array dU)(l:List bz):Bool :=
 let b:=kD ops.toList []
 (l.all λo=>o.guard.isNone && !o.rx && match o.op with |.assign _=>!o.bx |.makeSlice ..=>aD|_=>aE) &&
 (ops.toList.zipIdx.all λx=>x.1.after.toList.all λe=>!Region.binds .any e ||decide (e.on < x.2)) &&
 (eQ l.length).all λj=>(eQ j).all λi =>
  match l[i]?,l[j]? with
  |some oi,aA oj=>!lZ oi oj ||(b.getD j []).contains i
  |_,_=>aD
def xq(ops:Array dU)(l:List bz):Bool:=Ah ops l ||D3 ops l
def Ba(ops:Array dU)(o:dU):Option bz :=
 match o.guard with
 |none=>aA ⟨o.dst,o.op,o.type,aF,aE,aE,aE⟩
 |some (j,want)=>((ops[j]?).bind (·.dst)).map λd=>⟨o.dst,o.op,o.type,aA (d,want),aE,aE,aE⟩
def og:List bz->List (Bool × Bool × Bool)->List bz
 |q::qs,x::xs=>⟨q.dst,q.op,q.type,q.guard,x.1 ||q.bx,x.2.1,x.2.2⟩::og qs xs
 |qs,_=>qs
def Eo(l:List bz)(d T:Nat):Bool :=
 (match l.filter λo=>o.dst==aA d with
  | [a]=>a.guard.isNone && (match a.op with |.alloc T'=>T'==T|_=>aE)
  |_=>aE) &&
 (match l.filter λo=>(jC o).contains d with
  | [s]=>s.guard.isNone && s.dst.isNone && (match s.op with |.store T' (.tmp d') y=>T'==T && d'==d && (match y with |.tmp e=>e != d|_=>aD)|_=>aE)
  |_=>aE)
def QW(l:List bz)(o:bz):bz :=
 match o.op with
 |.alloc T=>match o.dst with
  |some d=>cond (Eo l d T) ⟨aA d,.alloc T,o.type,o.guard,aD,o.sq,o.rx⟩ o
  |none=>o
 |.store T (.tmp d) y=>cond (Eo l d T && o.guard.isNone && o.dst.isNone) ⟨aA d,.box T y,o.type,aF,aD,o.sq,o.rx⟩ o
 |_=>o
def AI(l:List bz):List bz:=l.map (QW l)
def Rz(o:bz):Bool:=!(o.bx && qT o.op) && (ry o.op ||k8 o.op)
def Mi(o:bz):Bool:=!(o.bx && qT o.op) && k8 o.op
def sL(b:List (List Nat))(x y:Nat):Bool:=x==y ||(b.getD y []).contains x ||(b.getD x []).contains y
def Iy(m:Nat)(l:List bz)(b:List (List Nat)):List (Bool × Bool × Bool) :=
 l.zipIdx.map λx =>
  let rx:=(m==2 ||m==5) && rG x.1.op && l.zipIdx.any λy=>(gi y.1.op ||Mi y.1) && !sL b x.2 y.2
  let sq:=gi x.1.op && l.zipIdx.all λy=>!Rz y.1 ||((m==1 ||m==4 ||m==5) && pJ y.1.op) ||(m==4 && pf y.1.op) ||sL b x.2 y.2 ||((m==2 ||m==5) && rG y.1.op)
  let st:=(m==1 ||m==3 ||m==4) && xL x.1.op && l.zipIdx.any λy=>xK y.1.op && !sL b x.2 y.2
  if m==6 then
   let cl:=gi x.1.op && l.zipIdx.any λy=>rG y.1.op && !sL b x.2 y.2
   let ls:=rG x.1.op && l.zipIdx.any λy=>gi y.1.op && !sL b x.2 y.2
   (cl ||ls,cl ||ls ||(gi x.1.op && l.zipIdx.all λy=>!Rz y.1 ||sL b x.2 y.2),aE)
  else if m==4 then
   let inc:=l.zipIdx.any λy=>(gi y.1.op ||Mi y.1) && !sL b x.2 y.2
   (xK x.1.op ||pJ x.1.op ||(pf x.1.op && inc) ||st ||(gi x.1.op && !sq),sq,aE)
  else if m==3 then
   let inc:=l.zipIdx.any λy=>(gi y.1.op ||Mi y.1) && !sL b x.2 y.2
   (xK x.1.op ||pJ x.1.op ||(pf x.1.op && inc) ||st,aE,gi x.1.op && inc)
  else (st ||m==1 && (xK x.1.op ||pJ x.1.op ||(gi x.1.op && !sq)) ||m==5 && pJ x.1.op,sq,rx)
def ql(a b:List Nat):List Nat:=a.foldr (λt acc=>if acc.contains t then acc else t::acc) b
def adx(o:bz)(out:List Nat):List Nat :=
 let rs:=(o.op.operands.toList.filterMap λ|.tmp t=>aA t|_=>aF)++(match o.guard with|some (t,_)=>[t]|none=>[])
 ql rs (match o.dst with|some d=>out.filter (λt=>!(t==d))|none=>out)
def Rf(i:Nat):List (Nat × List Nat)->List Nat
 | []=>[]
 |(j,l)::r=>if i=j then l else Rf i r
def live(res:List Nat):List (Nat × List Nat)->C->List Nat->List Nat
 |_,.skip,out=>out
 |_,.ops _ l,out=>l.foldr adx out
 |env,.seq a b,out=>live res env a (live res env b out)
 |env,.cond c a b,out=>ql (match c with |.tmp t=>[t]|_=>[]) (ql (live res env a out) (live res env b out))
 |env,.block i c,out=>live res ((i,out)::env) c out
 |env,.loop _ c,_=>live res env c []
 |env,.exit i,_=>Rf i env
 |_,.ret,_=>res
 |_,.start g,out=>ql [g] out
 |env,.uncons g ps _ a b,out=>ql [g] (ql ((live res env a out).filter λt=>!ps.contains t) (live res env b out))
 |env,.cseq _ a b,out=>live res env a (live res env b out)
def iH:C->Bool
 |.start _=>aD
 |_=>aE
def headD:C->Option Nat
 |.ops _ l=>l.findSome? (·.dst)
 |.seq a _=>headD a
 |_=>aF
def Ha(pr:Nat->Bool)(b:C):Bool :=
 match headD b with
 |some d=>pr (2000000+d)
 |none=>aE
def jk(pr:Nat->Bool)(nt:Nat)(res:List Nat):List (Nat × List Nat)->C->List Nat->C
 |env,.seq a b,out=>cond (Ha pr b && !iH a)
   (.cseq ((eQ nt).filter λt=>!(ql (live res env b out) (ql res (env.flatMap (·.2)))).contains t) (jk pr nt res env a (live res env b out)) (jk pr nt res env b out))
   (.seq (jk pr nt res env a (live res env b out)) (jk pr nt res env b out))
 |env,.cond c a b,out=>.cond c (jk pr nt res env a out) (jk pr nt res env b out)
 |env,.block i c,out=>.block i (jk pr nt res ((i,out)::env) c out)
 |env,.loop _ c,_ =>
  let h:=live res env c []
  let keep:=ql h (ql res (env.flatMap (·.2)))
  .loop ((eQ nt).filter λt=>!keep.contains t) (jk pr nt res env c h)
 |_,.skip,_=>.skip
 |_,.ops d l,_=>.ops d l
 |_,.exit i,_=>.exit i
 |_,.ret,_=>.ret
 |_,.start g,_=>.start g
 |_,.uncons g ps ws a b,_=>.uncons g ps ws a b
 |env,.cseq f a b,out=>.cseq f (jk pr nt res env a (live res env b out)) (jk pr nt res env b out)
def cV:C->C
 |.seq a b=>.seq (cV a) (cV b)
 |.cond c a b=>.cond c (cV a) (cV b)
 |.block i c=>.block i (cV c)
 |.loop _ c=>.loop [] (cV c)
 |.skip=>.skip
 |.ops d l=>.ops d l
 |.exit i=>.exit i
 |.ret=>.ret
 |.start g=>.start g
 |.uncons g ps ws a b=>.uncons g ps ws a b
 |.cseq _ a b=>.seq (cond (iH a) (.uncons 0 [] [] (.start 0) .skip) (cV a)) (cV b)
def dE:C->List Nat
 |.ops _ l=>l.filterMap (·.dst)
 |.seq a b=>dE a++dE b
 |.cond _ a b=>dE a++dE b
 |.block _ c=>dE c
 |.loop _ c=>dE c
 |.uncons _ _ _ a b=>dE a++dE b
 |.cseq _ a b=>dE a++dE b
 |_=>[]
def eX:C->List Nat
 |.seq a b=>eX a++eX b
 |.cond _ a b=>eX a++eX b
 |.block _ c=>eX c
 |.loop _ c=>eX c
 |.uncons _ _ _ a b=>eX a++eX b
 |.cseq _ a b=>eX a++eX b
 |.exit i=>[i]
 |_=>[]
def yY:C->Bool
 |.skip=>aD
 |.ops _ _=>aD
 |.seq a b=>yY a && yY b
 |_=>aE
def ir:C->Bool
 |.start _=>aD
 |.seq a b=>ir a ||ir b
 |.cond _ a b=>ir a ||ir b
 |.block _ c=>ir c
 |.loop _ c=>ir c
 |.uncons _ _ _ a b=>ir a ||ir b
 |.cseq _ a b=>ir a ||ir b
 |_=>aE
def rC(g:Nat):Nat:=1000000+g
def E5(g:Nat)(ps:List Nat)(pa pc:C):Option C :=
 if yY pa && !ir pa && !ir pc && !(eX (.seq pa pc)).contains (rC g) then
  aA (.seq (.start g) (.block (rC g) (.loop [] (.uncons g ps (ps++(dE pa++dE pc)) (.seq pa pc) (.exit (rC g))))))
 else aF
def BP(ops:Array dU)(l:List bz):List (Nat × Bool)->Option (List bz)
 | []=>aF
 |(m,lz)::r =>
  let l0:=if lz then AI l else l
  let l1:=og l0 (Iy m l0 (kD ops.toList []))
  if xq ops l1 then aA l1 else BP ops l r
def C2(pr:Nat->Bool)(o:bz):bz :=
 match o.op,o.dst with
 |.box _ _,aA d=>cond (pr (5000000+d)) ⟨o.dst,o.op,o.type,o.guard,o.bx,o.sq,aD⟩ o
 |.assign _,aA d |.move _,aA d |.buildSlice ..,aA d=>cond (pr (7000000+d)) ⟨o.dst,o.op,o.type,o.guard,aD,o.sq,o.rx⟩ o
 |_,_=>o
def dM(pr:Nat->Bool):Code->Option C
 |.skip=>aA .skip
 |.region _ ops draw=>(cD (Ba ops) ops.toList).bind λl =>
   if draw then (BP ops l ((if pr (((ops[0]?).bind (·.dst)).getD 0) then [(2,aE)] else if pr (4000000+((ops[0]?).bind (·.dst)).getD 0) then [(1,aE)] else if pr (6000000+((ops[0]?).bind (·.dst)).getD 0) then [(5,aE)] else if pr (8000000+((ops[0]?).bind (·.dst)).getD 0) then [(6,aE)] else [])++[(0,aE),(1,aE),(0,aD),(1,aD),(4,aE),(4,aD),(2,aE),(3,aE),(2,aD),(3,aD)])).map (.ops aD)
   else aA (.ops aE (l.map (C2 pr)))
 |.seq a b=>(dM pr a).bind λa=>(dM pr b).map λb=>.seq a b
 |.cond c a b=>(dM pr a).bind λa=>(dM pr b).map λb=>.cond c a b
 |.block id c=>(dM pr c).map (.block id)
 |.loop c=>(dM pr c).map λc=>.loop [] c
 |.exit i=>aA (.exit i)
 |.ret=>aA .ret
 |.rangeFunc (.tmp g) ps a c=>(dM pr a).bind λpa=>(dM pr c).bind λpc=>E5 g ps.toList pa pc
 |_=>aF
def mL(l:Nat):Nat:=3000000+2 * l
def n6(l:Nat):Nat:=3000001+2 * l
def En:Code->Option Nat
 |.label l=>aA l
 |_=>aF
def gw:Code->List Nat
 |.seq a b=>gw a++gw b
 |.label l=>[l]
 |_=>[]
def en:C->List Nat
 |.seq a b=>en a++en b
 |.cond _ a b=>en a++en b
 |.block id c=>(en c).filter λi=>!(i==id)
 |.loop _ c=>en c
 |.uncons _ _ _ a b=>en a++en b
 |.cseq _ a b=>en a++en b
 |.exit i=>[i]
 |_=>[]
def eG(pr:Nat->Bool):Code->Option C
 |.seq a b =>
  match En a with
  |some l=>(eG pr b).map λcb=>.block (n6 l) (.loop [] (.block (mL l) (.seq cb (.exit (n6 l)))))
  |none=>if (gw a).isEmpty then (eG pr a).bind λca=>(eG pr b).map λcb=>.seq ca cb else aF
 |.cond c a b=>if (gw a).isEmpty && (gw b).isEmpty then (eG pr a).bind λca=>(eG pr b).map λcb=>.cond c ca cb else aF
 |.goto l=>aA (.exit (mL l))
 |.block id c=>if (gw c).isEmpty && jq id 3000000 then (eG pr c).map (.block id) else aF
 |c=>(dM pr c).bind λcc=>if (eX cc).all λi=>jq i 3000000 then aA cc else aF
def UU(c:Code)(cc:C):Bool:=decide (gw c).Nodup && (en cc).all λi=>jq i 3000000
def LJ:Code->Option (Code × Code)
 |.seq r (.scope c)=>aA (r,c)
 |_=>aF
def yr(pr:Nat->Bool)(c:Code):Option C :=
 match LJ c with
 |some (r,c)=>(dM pr r).bind λcr=>(eG pr c).bind λcs=>if UU c cs then aA (.seq cr cs) else aF
 |none=>dM pr c
def wD:ResultVar->RV
 |.tmp t=>.tmp t
 |.cell t ty=>.cell t ty
def iq(P:bv)(pr:Nat->Bool)(f:cf):Option FA :=
 match P.funcs[f]? with
 |some fn =>
  if fn.name=="runtime.NumGoroutine" then aF else
  match fn.body with
  |some c=>(yr pr c).map λb=>⟨fn.params.size+fn.nfree,fn.ntmps,fn.results.toList.map wD,fn.resultTypes.toList,jk pr fn.ntmps (fn.results.toList.map λr=>match r with |.tmp t=>t |.cell t _=>t) [] b []⟩
  |none=>aF
 |none=>aF
def z7(P:bv)(t:aP):O :=
 match (bO P) t with
 |some (.map _ _)=>.marena t []
 |_=>.arena t []
def qF(cfg:cB)(f:cf):List O:=(cfg.ars f).map (z7 cfg.P)
def yl:List Nat->Bool
 | []=>aD
 |x::l=>!l.contains x && yl l
def CY(cfg:cB)(f:cf)(as0:List V):Bool:=(cfg.ars f).isEmpty ||(yl (cfg.ars f) && oF as0)
def D7(cfg:cB)(f:cf)(mem:List O)(ts:List aP)(vs:List V):Option V :=
 match cfg.ars f with
 | []=>oh cfg.P mem ts vs
 |_=>match vs with | [v]=>if v.flat1 then aA v else aF|_=>aF
def pW(cfg:cB)(call:dw)(n:Nat)(f:cf)(as0:List V):Option V :=
 match cfg.pprim f with
 |some g=>g as0
 |none=>if CY cfg f as0 then (iq cfg.P (cfg.rxf f) f).bind λfa=>(rF cfg call n fa as0 (qF cfg f)).bind λr=>D7 cfg f r.2 fa.rtypes r.1 else aF
def pG(cfg:cB)(call:dw)(n:Nat)(f:cf)(as0:List V)(mem:List O):Option (V × List O) :=
 match cfg.iprim f with
 |some g=>g as0 mem
 |none=>(iq cfg.P (cfg.rxf f) f).bind λfa=>(rF cfg call n fa as0 mem).map λr=>(rO r.1,r.2)
def fk(cfg:cB):Nat->dw
 |0=>⟨λ_ _=>aF,λ_ _ _=>aF⟩
 |n+1=>⟨pW cfg (fk cfg n) n,pG cfg (fk cfg n) n⟩
end
end Go.Lite
namespace Go.Lite
open Go
structure cO where
 u:aR
 sz:Nat
abbrev J:=Nat->Option cO
structure Zs where
 z:Nat->Nat->Prop
 a:aP->Nat->Option Nat
 i:aP->Option Nat
instance:CoeFun Zs (λ_=>Nat->Nat->Prop):=⟨Zs.z⟩
def j0:J:=λ_=>aF
def cO.start:cO->Option (Nat × Nat)
 |⟨.slice (aA ⟨g,b,aF⟩) _ _,_⟩=>aA (g,b)
 |⟨.pointer (aA ⟨g,b,aF⟩),_⟩=>aA (g,b)
 |_=>aF
def cO.blk:cO->Option Nat
 |⟨.slice (aA a) _ _,_⟩=>aA a.block
 |⟨.pointer (aA a),_⟩=>aA a.block
 |⟨.map (aA r),_⟩=>aA r
 |_=>aF
def dk(j:J)(id:Nat):Option Nat:=(j id).bind cO.blk
def jf(w:bg)(g:Nat):Option (Nat × aP × Nat × Nat) :=
 match w.heap[g]? with
 |some (.cells us t fr)=>aA (us.size,t,fr)
 |_=>aF
def adc{w w':bg}{g:Nat}(h:w'.heap[g]? = w.heap[g]?):jf w' g=jf w g:=by simp only[jf,h]
def ji{w w':bg}{g:Nat}(h:w'.heap[g]? = w.heap[g]?)(o:Nat):w'.cell? ⟨g,o,aF⟩=w.cell? ⟨g,o,aF⟩/\jf w' g=jf w g :=
 ⟨World.cell?_of_block (a:=⟨g,o,aF⟩) h,adc h⟩
def pA(f:cf)(us:List aR):aR:=if f < iU then .func (.func f) #[] us.toArray else .func (.func (f - iU)) us.toArray #[]
def DY{f:cf}{us:List aR}(h:f < iU):pA f us = .func (.func f) #[] us.toArray:=bc h
def abD{f:cf}{us:List aR}(h:iU<=f):pA f us = .func (.func (f - iU)) us.toArray #[]:=bh (Nat.not_lt.2 h)
def abC{f:cf}{us:List aR}:pA (iU+f) us = .func (.func f) us.toArray #[]:=by
 unfold pA;generalize iU=B;rw[bh (by simp),Nat.add_sub_cancel_left]
inductive VR(Z:Zs)(w:bg):J->V->aR->Prop
 |junk {j:J} {u:aR}:VR Z w j .junk u
 |bool {j:J} {b:Bool}:VR Z w j (.bool b) (.bool b)
 |int {j:J} {k:IntKind} {n:Int}:VR Z w j (.int k n) (.int k n)
 |str {j:J} {s:ByteArray}:VR Z w j (.str s.data.toList) (.string s)
 |agg {j:J} {cs:List V} {us:List aR} (hl:cs.length=us.length) (h:∀(i:Nat) (c:V) (u:aR),cs[i]? = aA c->us[i]? = aA u->VR Z w j c u):VR Z w j (.agg cs) (.agg us.toArray)
 |tup {j:J} {cs:List V} {us:List aR} (hl:cs.length=us.length) (h:∀(i:Nat) (c:V) (u:aR),cs[i]? = aA c->us[i]? = aA u->VR Z w j c u):VR Z w j (.tup cs) (.tuple us.toArray)
 |nilS {j:J}:VR Z w j .nilS (.slice aF 0 0)
 |sl0 {j:J} {A:Option Addr} {c:Nat}:VR Z w j (.sl []) (.slice A 0 c)
 |sl {j:J} {l:List V} {g b c sz:Nat} (f:Nat->Nat->aR) (hlc:l.length<=c) (hsz:0 < sz) (hl:∀(k:Nat) (x:V),l[k]? = aA x->x.cells.length=sz)
   (hc:∀(k:Nat) (x:V) (i:Nat) (y:V),l[k]? = aA x->x.cells[i]? = aA y->y.one=aD/\Z g (b+(k * sz+i))/\w.cell? ⟨g,b+(k * sz+i),aF⟩=aA (f k i))
   (hv:∀(k:Nat) (x:V) (i:Nat) (y:V),l[k]? = aA x->x.cells[i]? = aA y->VR Z w j0 y (f k i)):VR Z w j (.sl l) (.slice (aA ⟨g,b,aF⟩) l.length c)
 |own {j:J} {id:Nat} {A:Option Addr} {n c sz:Nat} (hj:j id=aA ⟨.slice A n c,sz⟩) (h0:∀a,A=aA a->a.off=0):VR Z w j (.own id) (.slice A n c)
 |win {j:J} {id off len n c sz c':Nat} {A A':Option Addr} (hj:j id=aA ⟨.slice A n c,sz⟩) (hn:off+len<=n) (hlc:len<=c') (hcc:off+c'=c)
   (ha:(A=aF/\A'=aF)∨∃g b o,A=aA ⟨g,b,aF⟩/\A'=aA ⟨g,b+o,aF⟩/\o<=off * sz/\(0 < c'->o=off * sz)):VR Z w j (.win id off len) (.slice A' len c')
 |ptr {j:J} {id k off g b:Nat} {h:cO} (hj:j id=aA h) (hs:h.start=aA (g,b)):VR Z w j (.ptr id k off) (.pointer (aA ⟨g,b+(k * h.sz+off),aF⟩))
 |ref {j:J} {x:V} {off g b:Nat} (f:Nat->aR)
   (hc:∀(i:Nat) (y:V),x.cells[i]? = aA y->y.one=aD/\Z g (b+i)/\w.cell? ⟨g,b+i,aF⟩=aA (f i))
   (hv:∀(i:Nat) (y:V),x.cells[i]? = aA y->VR Z w j0 y (f i)):VR Z w j (.ref x off) (.pointer (aA ⟨g,b+off,aF⟩))
 |fn {j:J} {f:cf} {cs:List V} {us:List aR} (hl:cs.length=us.length) (h:∀(i:Nat) (c:V) (u:aR),cs[i]? = aA c->us[i]? = aA u->VR Z w j c u):VR Z w j (.fn f cs) (pA f us)
 |mp {j:J} {id r sz:Nat} (hj:j id=aA ⟨.map (aA r),sz⟩):VR Z w j (.mp id) (.map (aA r))
 |nilP {j:J}:VR Z w j .nilP (.pointer aF)
 |nilF {j:J}:VR Z w j .nilF .nilFunc
 |nilM {j:J}:VR Z w j .nilM (.map aF)
 |nilI {j:J}:VR Z w j .nilI .nilIface
 |unk {j:J} {u:aR} (h:u.oneCell'=aD):VR Z w j .unk u
 |ifc {j:J} {t:aP} {x:V} {u:aR} (h:VR Z w j0 x u):VR Z w j (.ifc t x) (.iface t u)
 |hp {j:J} {t:aP} {k off g:Nat} (h:Z.a t k=aA g):VR Z w j (.hp t k off) (.pointer (aA ⟨g,off,aF⟩))
 |hm {j:J} {t:aP} {k g:Nat} (h:Z.a t k=aA g):VR Z w j (.hm t k) (.map (aA g))
 |rest {j:J} {ts:List aP} {l:List V} {u:aR}:VR Z w j (.rest ts l) u
 |tail {j:J} {id off n c sz:Nat} {A:Option Addr} {u:aR} (hj:j id=aA ⟨.slice A n c,sz⟩) (hn:off<=n) (h:VR Z w j (.win id off (n - off)) u):VR Z w j (.tail id off) u
 |lit {j:J} {t:aP} {l:List V} {g n:Nat} (h:VR Z w j (.sl l) (.slice (aA ⟨g,0,aF⟩) l.length l.length)) (hk:0 < l.length->jf w g=aA (n,t,0,0)) (hz:0 < l.length->Z g 0):VR Z w j (.lit t l) (.slice (aA ⟨g,0,aF⟩) l.length l.length)
section
variable {P:bv}{Z Z':Zs}{w w':bg}{j j':J}
def bG(j j':J):Prop:=∀id h,j id=aA h->j' id=aA h
def bG.refl(j:J):bG j j:=λ_ _ h=>h
def bG.trans{j1:J}(h:bG j j1)(h':bG j1 j'):bG j j':=λid x e=>h' id x (h id x e)
def bG.zero(j:J):bG j0 j:=λ_ _ h=>by cases h
structure bU(Z:Zs)(w:bg)(Z':Zs)(w':bg):Prop where
 z:∀g o,Z g o->Z' g o/\w'.cell? ⟨g,o,aF⟩=w.cell? ⟨g,o,aF⟩/\jf w' g=jf w g
 a:∀t k g,Z.a t k=aA g->Z'.a t k=aA g
 i:Z'.i=Z.i
instance:CoeFun (bU Z w Z' w') (λ_=>∀g o,Z g o->Z' g o/\w'.cell? ⟨g,o,aF⟩=w.cell? ⟨g,o,aF⟩/\jf w' g=jf w g):=⟨bU.z⟩
def bU.of(h:∀g o,Z g o->Z' g o/\w'.cell? ⟨g,o,aF⟩=w.cell? ⟨g,o,aF⟩/\jf w' g=jf w g)(ha:Z'.a=Z.a:=by rfl)(hi:Z'.i=Z.i:=by rfl):bU Z w Z' w' :=
 ⟨h,λt k g e=>by grind,hi⟩
def bU.refl(Z:Zs)(w:bg):bU Z w Z w:=.of λ_ _ h=>⟨h,rfl,rfl⟩
def bU.trans{Z1:Zs}{w1:bg}(h:bU Z w Z1 w1)(h':bU Z1 w1 Z' w'):bU Z w Z' w':=⟨λg o z =>
 ⟨(h' g o (h g o z).1).1,((h' g o (h g o z).1).2.1).trans (h g o z).2.1,((h' g o (h g o z).1).2.2).trans (h g o z).2.2⟩,λt k g e=>h'.a t k g (h.a t k g e),h'.i.trans h.i⟩
def VR.mono{v:V}{u:aR}(h:VR Z w j v u)(hz:bU Z w Z' w'):∀{j':J},bG j j'->VR Z' w' j' v u:=by
 induction h with
 |junk=>intro j' _;exact .junk
 |bool=>intro j' _;exact .bool
 |int=>intro j' _;exact .int
 |str=>intro j' _;exact .str
 |agg hl _ ih=>intro j' hj;exact .agg hl λi c u h1 h2=>ih i c u h1 h2 hj
 |tup hl _ ih=>intro j' hj;exact .tup hl λi c u h1 h2=>ih i c u h1 h2 hj
 |nilS=>intro j' _;exact .nilS
 |sl0=>intro j' _;exact .sl0
 |sl f hlc hsz hl hc _ ih =>
  intro j' _;refine .sl f hlc hsz hl (λk x i y h1 h2=>?_) (λk x i y h1 h2=>ih k x i y h1 h2 (bG.refl _));obtain⟨a,b,c⟩:=hc k x i y h1 h2;exact⟨a,(hz _ _ b).1,(hz _ _ b).2.1.trans c⟩
 |own hj h0=>intro j' h';exact .own (h' _ _ hj) h0
 |win hj hn hlc hcc ha=>intro j' h';exact .win (h' _ _ hj) hn hlc hcc ha
 |ptr hj hs=>intro j' h';exact .ptr (h' _ _ hj) hs
 |ref f hc _ ih =>
  intro j' _;refine .ref f (λi y h1=>?_) (λi y h1=>ih i y h1 (bG.refl _));obtain⟨a,b,c⟩:=hc i y h1;exact⟨a,(hz _ _ b).1,(hz _ _ b).2.1.trans c⟩
 |fn hl _ ih=>intro j' hj;exact .fn hl λi c u h1 h2=>ih i c u h1 h2 hj
 |mp hj=>intro j' h';exact .mp (h' _ _ hj)
 |nilP=>intro j' _;exact .nilP
 |nilF=>intro j' _;exact .nilF
 |nilM=>intro j' _;exact .nilM
 |nilI=>intro j' _;exact .nilI
 |unk h=>intro j' _;exact .unk h
 |ifc _ ih=>intro j' _;exact .ifc (ih (bG.refl _))
 |hp h=>intro j' _;exact .hp (hz.a _ _ _ h)
 |hm h=>intro j' _;exact .hm (hz.a _ _ _ h)
 |rest=>intro j' _;exact .rest
 |tail hj hn _ ih=>intro j' h';exact .tail (h' _ _ hj) hn (ih h')
 |lit h hk hzz ih=>intro j' hj;exact .lit (ih hj) (λh0=>(hz _ _ (hzz h0)).2.2.trans (hk h0)) (λh0=>(hz _ _ (hzz h0)).1)
def VR.up{v:V}{u:aR}(h:VR Z w j0 v u)(j:J):VR Z w j v u:=h.mono (bU.refl Z w) (bG.zero j)
def VR.oneCell{v:V}{u:aR}(h:VR Z w j v u)(ho:v.one=aD):u.oneCell'=true:=by
 cases h<;>first|rfl|(simp[V.one]at ho;done)|assumption|(unfold pA;split<;>rfl)|skip
 rename_i h;cases h;rfl
def lW{v:V}(h:v.one=aD):v.cells=[v]:=by cases v<;>first|rfl|(simp[V.one]at h)
def aiR{u:aR}(h:u.oneCell'=aD):u.cells=#[u]:=by cases u<;>first|rfl|(simp[Value.oneCell']at h)
def VR.cellsOf{v:V}{u:aR}(h:VR Z w j v u)(ho:∀y∈v.cells,y.one=aD) :
  u.cells.size=v.cells.length/\∀(i:Nat) (y:V),v.cells[i]? = aA y->∃c,u.cells[i]? = aA c/\VR Z w j y c:=by
 have key:v.one=aD->u.cells.size=v.cells.length/\∀(i:Nat) (y:V),v.cells[i]? = aA y->∃c,u.cells[i]? = aA c/\VR Z w j y c:=by
  intro h1;rw[lW h1,aiR (h.oneCell h1)];grind
 by_cases h1:v.one=aD
 ·grind
 ·cases h with
  |agg hl hh =>
   refine⟨by simp[V.cells,Value.cells,hl],λi y hy=>?_⟩;simp only[V.cells]at hy;have hi:i < _:=(cE.1 hy).1;rename_i cs us;have:us[i]? = aA (us[i]'(by omega)):=cI (by omega);exact⟨us[i]'(by omega),by simp[Value.cells,this],hh i y _ hy this⟩
  |junk=>have:=ho .junk (by simp[V.cells]);grind
  |rest=>have:=ho _ (iN.2 rfl);grind
  |tup hl hh=>have:=ho _ (iN.2 rfl);grind
  |_=>simp[V.one]at h1
def fX(Z:Zs)(w:bg)(j:J)(g b:Nat)(cs:List V):Prop :=
 ∀(i:Nat) (y:V),cs[i]? = aA y->y.one=aD/\∃u,w.cell? ⟨g,b+i,aF⟩=aA u/\VR Z w j y u
def fX.mono{g b:Nat}{cs:List V}(h:fX Z w j g b cs)(hz:bU Z w Z' w')(hj:bG j j')(hb:w'.heap[g]? = w.heap[g]?):fX Z' w' j' g b cs:=by
 intro i y hy;obtain⟨a,u,hu,hv⟩:=h i y hy;exact⟨a,u,(World.cell?_of_block (a:=⟨g,b+i,aF⟩) hb).trans hu,hv.mono hz hj⟩
def VR.slInv{l:List V}{u:aR}(h:VR Z w j (.sl l) u):(∃A c,l=[]/\u = .slice A 0 c) ∨
  ∃g b c sz,u = .slice (aA ⟨g,b,aF⟩) l.length c/\l.length<=c/\0 < sz/\∀(k:Nat) (x:V),l[k]? = aA x->x.cells.length=sz/\(∀i,i < sz->Z g (b+(k * sz+i)))/\fX Z w j0 g (b+k * sz) x.cells:=by
 cases h with
 |sl0=>grind
 |sl f hlc hsz hl hc hv =>
  refine .inr ⟨_,_,_,_,rfl,hlc,hsz,λk x hk=>⟨hl k x hk,λi hi=>?_,λi y hy=>?_⟩⟩
  all_goals grind
def VR.slMk{l:List V}{g b c sz:Nat}(hlc:l.length<=c)(hsz:0 < sz)(h:∀(k:Nat) (x:V),l[k]? = aA x->x.cells.length=sz/\(∀i,i < sz->Z g (b+(k * sz+i)))/\fX Z w j0 g (b+k * sz) x.cells) :
  VR Z w j (.sl l) (.slice (aA ⟨g,b,aF⟩) l.length c):=by
 refine .sl (λk i=>(w.cell? ⟨g,b+(k * sz+i),aF⟩).getD undef) hlc hsz (λk x hk=>(h k x hk).1) (λk x i y hk hy=>?_) (λk x i y hk hy=>?_)
 ·obtain⟨h1,h2,h3⟩:=h k x hk;obtain⟨a,u,hu,_⟩:=h3 i y hy;grind
 ·obtain⟨h1,h2,h3⟩:=h k x hk;obtain⟨a,u,hu,hv⟩:=h3 i y hy;grind
def VR.refInv{x:V}{off:Nat}{u:aR}(h:VR Z w j (.ref x off) u) :
  ∃g b,u = .pointer (aA ⟨g,b+off,aF⟩)/\(∀i,i < x.cells.length->Z g (b+i))/\fX Z w j0 g b x.cells:=by
 cases h with
 |ref f hc hv =>
  refine⟨_,_,rfl,λi hi=>(hc i _ (cI hi)).2.1,λi y hy=>?_⟩;grind
def VR.refMk{x:V}{off g b:Nat}(hz:∀i,i < x.cells.length->Z g (b+i))(h:fX Z w j0 g b x.cells):VR Z w j (.ref x off) (.pointer (aA ⟨g,b+off,aF⟩)):=by
 refine .ref (λi=>(w.cell? ⟨g,b+i,aF⟩).getD undef) (λi y hy=>?_) (λi y hy=>?_)
 ·obtain⟨a,u,hu,_⟩:=h i y hy;grind
 ·obtain⟨a,u,hu,hv⟩:=h i y hy;grind
def O.live:O->Bool
 |.dead=>aE
 |_=>aD
def lV(P:bv)(Z:Zs)(w:bg)(h:cO)(t:aP)(els:List V)(fz:Nat):Prop :=
 h.sz=(aK P) t/\0 < h.sz/\fz<=els.length/\(∀x∈els,x.cells.length=h.sz) /\
 ((h.u = .slice aF 0 0/\els=[]) ∨
  ∃g b c us,h.u = .slice (aA ⟨g,b,aF⟩) els.length c/\els.length<=c/\c<=f9/\w.heap[g]? = aA (.cells us t (0,0))/\b+c * h.sz<=us.size /\
   (∀k x,els[k]? = aA x->fX Z w j0 g (b+k * h.sz) x.cells)/\(∀o,Z g o->0 < fz/\o < b+fz * h.sz)/\(∀o,o < fz * h.sz->Z g (b+o)))
structure qo(Z:Zs)(id:Nat)(t:aP)(n:Nat):Prop where
 i:Z.i t=aA id
 get:∀k,k < n->∃g,Z.a t k=aA g
 none:∀k,n<=k->Z.a t k=aF
 inj:∀k k' g,Z.a t k=aA g->Z.a t k'=aA g->k=k'
def BW(P:bv)(Z:Zs)(w:bg)(t:aP)(g:Nat)(x:V):Prop :=
 ∃us,w.heap[g]? = aA (.cells us t (0,0))/\x.cells.length=(aK P) t/\us.size=(aK P) t/\0 < (aK P) t/\fX Z w j0 g 0 x.cells/\∀o,¬Z g o
def wR(Z:Zs)(w:bg)(g:Nat)(es:List (V × V)):Prop :=
 ∃es' clock,w.heap[g]? = aA (.map es' clock)/\es.length=es'.size /\
   (∀(i:Nat) (a x:V),es[i]? = aA (a,x)->∃e:MapEntry,es'[i]? = aA e/\a.flat1=aD/\x.inMap=aD/\VR Z w j0 a e.key/\VR Z w j0 x e.val)/\(∀o,¬Z g o)/\MapKept.Stamped es' clock
def OR(P:bv)(Z:Zs)(w:bg)(j:J)(id:Nat):O->Prop
 |.row t els fz=>∃h,j id=aA h/\lV P Z w h t els fz
 |.box t v fz=>∃g us,j id=aA ⟨.pointer (aA ⟨g,0,aF⟩),(aK P) t⟩/\w.heap[g]? = aA (.cells us t (0,0))/\v.cells.length=(aK P) t/\us.size=(aK P) t /\
   fX Z w j g 0 v.cells/\(∀o,Z g o->fz=aD)/\(fz=aD->∀o,o < us.size->Z g o)
 |.map es=>∃r es' clock,j id=aA ⟨.map (aA r),0⟩/\w.heap[r]? = aA (.map es' clock)/\es.length=es'.size /\
   (∀(i:Nat) (a x:V),es[i]? = aA (a,x)->∃e:MapEntry,es'[i]? = aA e/\a.flat1=aD/\x.inMap=aD/\VR Z w j0 a e.key/\VR Z w j0 x e.val)/\(∀o,¬Z r o)/\MapKept.Stamped es' clock
 |.arena t els=>qo Z id t els.length/\∀(k:Nat) (x:V) (g:Nat),els[k]? = aA x->Z.a t k=aA g->BW P Z w t g x
 |.marena t ms=>qo Z id t ms.length/\∀(k:Nat) (es:List (V × V)) (g:Nat),ms[k]? = aA es->Z.a t k=aA g->wR Z w g es
 |.dead=>True
def bY(Z:Zs)(j:J)(id:Nat)(o:O)(g:Nat):Prop :=
 match o.ar with
 |some r=>∃k,k < r.2/\Z.a r.1 k=aA g
 |none=>dk j id=aA g
structure SR(P:bv)(Z:Zs)(w:bg)(j:J)(mem:List O):Prop where
 obj:∀id o,mem[id]? = aA o->OR P Z w j id o
 inj:∀id id' o o' g,mem[id]? = aA o->mem[id']? = aA o'->o.live=aD->o'.live=aD->bY Z j id o g->bY Z j id' o' g->id=id'
 out:∀id,mem.length<=id->j id=aF
 zin:∀g o,Z g o->g < w.heap.size
def bT(Z:Zs)(j:J)(mem:List O)(g:Nat):Prop:=∃id o,mem[id]? = aA o/\o.live=aD/\bY Z j id o g
def fU(t:aP)(mem:List O):Prop:=∀(id:Nat) (o:O) (n:Nat),mem[id]? = aA o->o.ar≠aA (t,n)
structure br(Z:Zs)(w:bg)(j:J)(mem:List O)(Z':Zs)(w':bg)(j':J)(mem':List O):Prop where
 os:w'.os=w.os
 tape:w'.tape=w.tape
 output:w'.output=w.output
 size:w.heap.size<=w'.heap.size
 keep:∀g,g < w.heap.size->¬bT Z j mem g->w'.heap[g]? = w.heap[g]?/\∀o,Z' g o↔Z g o
 owned:∀g,g < w.heap.size->bT Z' j' mem' g->bT Z j mem g
 z:bU Z w Z' w'
 ar:∀t,fU t mem->fU t mem'/\Z'.a t=Z.a t
def br.refl(Z:Zs)(w:bg)(j:J)(mem:List O):br Z w j mem Z w j mem :=
 ⟨rfl,rfl,rfl,cZ _,λ_ _ _=>⟨rfl,λ_=>Iff.rfl⟩,λ_ _ h=>h,bU.refl Z w,λ_ h=>⟨h,rfl⟩⟩
def br.trans{Z1:Zs}{w1:bg}{j1:J}{mem mem1 mem':List O}(h:br Z w j mem Z1 w1 j1 mem1)(h':br Z1 w1 j1 mem1 Z' w' j' mem'):br Z w j mem Z' w' j' mem' :=
 ⟨h'.os.trans h.os,h'.tape.trans h.tape,h'.output.trans h.output,qw h.size h'.size,λg hg hn=>by
  obtain⟨a,b⟩:=h.keep g hg hn;obtain⟨c,d⟩:=h'.keep g (qx hg h.size) (λho=>hn (h.owned g hg ho));grind,λg hg ho=>h.owned g hg (h'.owned g (qx hg h.size) ho),h.z.trans h'.z,
  λt hn=>⟨(h'.ar t (h.ar t hn).1).1,(h'.ar t (h.ar t hn).1).2.trans (h.ar t hn).2⟩⟩
def fU.set{id:Nat}{o o':O}{mem:List O}{t:aP}(hm:mem[id]? = aA o)(ho:∀n,o'.ar=aA (t,n)->∃m,o.ar=aA (t,m))(h:fU t mem):fU t (mem.set id o'):=by
 intro k x n hx hn;have bf:id < mem.length:=(cE.1 hm).1
 by_cases e:id=k
 ·subst e;rw[jn bf]at hx;cases hx;obtain⟨m,hm'⟩:=ho n hn;exact h id o m hm hm'
 ·rw[iM e]at hx;exact h k x n hx hn
def fU.add{o:O}{mem:List O}{t:aP}(ho:o.ar=aF)(h:fU t mem):fU t (mem++[o]):=by
 intro k x n hx hn
 by_cases e:k < mem.length
 ·rw[eP e]at hx;exact h k x n hx hn
 grind
def qo.same{id n:Nat}{t:aP}(h:qo Z id t n)(ha:Z'.a t=Z.a t)(hi:Z'.i=Z.i):qo Z' id t n :=
 ⟨by rw[hi];exact h.i,by rw[ha];exact h.get,by rw[ha];exact h.none,by rw[ha];exact h.inj⟩
def BW.mono{t:aP}{g:Nat}{x:V}(h:BW P Z w t g x)(hz:bU Z w Z' w')(hb:w'.heap[g]? = w.heap[g]?/\∀o,Z' g o↔Z g o):BW P Z' w' t g x:=by
 obtain⟨us,h1,h2,h3,h4,h5,h6⟩:=h;exact⟨us,hb.1.trans h1,h2,h3,h4,h5.mono hz (bG.refl _) hb.1,λo ho=>h6 o ((hb.2 o).1 ho)⟩
def wR.mono{g:Nat}{es:List (V × V)}(h:wR Z w g es)(hz:bU Z w Z' w')(hb:w'.heap[g]? = w.heap[g]?/\∀o,Z' g o↔Z g o):wR Z' w' g es:=by
 obtain⟨es',clock,h1,h2,h3,h4⟩:=h;refine⟨es',clock,hb.1.trans h1,h2,λi a x hi=>?_,⟨λo ho=>h4.1 o ((hb.2 o).1 ho),h4.2⟩⟩;obtain⟨e,he,ha,hx,hva,hvx⟩:=h3 i a x hi;exact⟨e,he,ha,hx,hva.mono hz (bG.refl _),hvx.mono hz (bG.refl _)⟩
def lV.mono{h:cO}{t:aP}{els:List V}{fz:Nat}(r:lV P Z w h t els fz)(hz:bU Z w Z' w')
  (hb:∀g,h.blk=aA g->w'.heap[g]? = w.heap[g]?/\∀o,Z' g o↔Z g o):lV P Z' w' h t els fz:=by
 obtain⟨h1,h2,h3,h4,h5⟩:=r;refine⟨h1,h2,h3,h4,?_⟩;rcases h5 with h5|⟨g,b,c,us,hu,hc,hm,hg,hs,hcells,hz1,hz2⟩
 ·grind
 ·have hbb:=hb g (by cases h;simp at hu;simp[cO.blk,hu]);exact .inr ⟨g,b,c,us,hu,hc,hm,hbb.1.trans hg,hs,λk x hk=>(hcells k x hk).mono hz (bG.refl _) hbb.1,λo ho=>hz1 o ((hbb.2 o).1 ho),λo ho=>(hbb.2 _).2 (hz2 o ho)⟩
def OR.mono{id:Nat}{o:O}(r:OR P Z w j id o)(hz:bU Z w Z' w')(hj:bG j j')
  (hb:∀g,bY Z j id o g->w'.heap[g]? = w.heap[g]?/\∀o,Z' g o↔Z g o) (ha:∀t n,o.ar=aA (t,n)->Z'.a t=Z.a t):OR P Z' w' j' id o:=by
 cases o with
 |dead=>exact True.intro
 |arena t els =>
  obtain⟨h1,h2⟩:=r;have e:=ha t els.length rfl;refine⟨h1.same e hz.i,λk x g hk hg=>?_⟩;rw[e]at hg;exact(h2 k x g hk hg).mono hz (hb g ⟨k,(cE.1 hk).1,hg⟩)
 |marena t ms =>
  obtain⟨h1,h2⟩:=r;have e:=ha t ms.length rfl;refine⟨h1.same e hz.i,λk x g hk hg=>?_⟩;rw[e]at hg;exact(h2 k x g hk hg).mono hz (hb g ⟨k,(cE.1 hk).1,hg⟩)
 |row t els fz =>
  obtain⟨h,hh,hr⟩:=r;exact⟨h,hj _ _ hh,hr.mono hz λg hg=>hb g (by simp[bY,O.ar,dk,hh,hg])⟩
 |box t v fz =>
  obtain⟨g,us,h1,h2,h3,h4,h5,h6,h7⟩:=r;have hbb:=hb g (by simp[bY,O.ar,dk,h1,cO.blk]);exact⟨g,us,hj _ _ h1,hbb.1.trans h2,h3,h4,h5.mono hz hj hbb.1,λo ho=>h6 o ((hbb.2 o).1 ho),λhf o ho=>(hbb.2 o).2 (h7 hf o ho)⟩
 |map es =>
  obtain⟨r,es',clock,h1,h2,h3,h4,h5⟩:=r;have hbb:=hb r (by simp[bY,O.ar,dk,h1,cO.blk]);refine⟨r,es',clock,hj _ _ h1,hbb.1.trans h2,h3,λi a x hi=>?_,⟨λo ho=>h5.1 o ((hbb.2 o).1 ho),h5.2⟩⟩;obtain⟨e,he,ha,hx,hva,hvx⟩:=h4 i a x hi;exact⟨e,he,ha,hx,hva.mono hz (bG.refl _),hvx.mono hz (bG.refl _)⟩
end
set_option linter.unusedVariables false
section
variable {P:bv}{Z Z':Zs}{w w':bg}{j j':J}{mem:List O}
def fh(j:J)(i:Nat)(h:cO):J:=λid=>if id=i then aA h else j id
def gF(j:J)(i:Nat)(h:cO):fh j i h i=aA h:=by simp[fh]
def uu(j:J){i k:Nat}(h:cO)(hne:k≠i):fh j i h k=j k:=by simp[fh,hne]
def SR.ext(s:SR P Z w j mem)(h:cO):bG j (fh j mem.length h):=by
 intro id x hx
 by_cases e:id=mem.length
 ·rw[e,s.out _ (cZ _)]at hx;grind
 ·rw[uu j h e];grind
def bY.eqA{id g:Nat}{o:O}(ha:Z'.a=Z.a):bY Z' j id o g↔bY Z j id o g:=by unfold bY;rw[ha]
def bY.plain{id g:Nat}{o:O}(ho:o.ar=aF):bY Z j id o g↔dk j id=aA g:=by unfold bY;rw[ho]
def bY.jeq{id g:Nat}{o:O}(h:j' id=j id):bY Z j' id o g↔bY Z j id o g:=by
 unfold bY dk;rw[h]
def bT.eqA{g:Nat}(ha:Z'.a=Z.a):bT Z' j mem g↔bT Z j mem g :=
 ⟨fun⟨id,o,h1,h2,h3⟩=>⟨id,o,h1,h2,(bY.eqA ha).1 h3⟩,fun⟨id,o,h1,h2,h3⟩=>⟨id,o,h1,h2,(bY.eqA ha).2 h3⟩⟩
def SR.world(s:SR P Z w j mem)(hz:bU Z w Z' w')(hb:∀g,bT Z j mem g->w'.heap[g]? = w.heap[g]?/\∀o,Z' g o↔Z g o)
  (hin:∀g o,Z' g o->g < w'.heap.size) (ha:Z'.a=Z.a:=by rfl):SR P Z' w' j mem where
 obj:=λid o ho=>by
  by_cases hl:o.live=aD
  ·exact(s.obj id o ho).mono hz (bG.refl _) (λg hg=>hb g ⟨id,o,ho,hl,hg⟩) (λt n _=>by rw[ha])
  ·cases o<;>first|exact True.intro|(simp[O.live]at hl)
 inj:=λid id' o o' g h1 h2 h3 h4 h5 h6=>s.inj id id' o o' g h1 h2 h3 h4 ((bY.eqA ha).1 h5) ((bY.eqA ha).1 h6)
 out:=s.out
 zin:=hin
def SR.add(s:SR P Z w j mem){h:cO}{o:O}(hn:∀g,h.blk=aA g->¬bT Z j mem g)(ho:OR P Z w (fh j mem.length h) mem.length o)(har:o.ar=none:=by rfl) :
  SR P Z w (fh j mem.length h) (mem++[o]) where
 obj:=λid x hx=>by
  by_cases e:id < mem.length
  ·rw[eP e]at hx;exact(s.obj id x hx).mono (bU.refl _ _) (s.ext h) (λ_ _=>⟨rfl,λ_=>Iff.rfl⟩) (λ_ _ _=>rfl)
  grind
 inj:=λid id' x x' g hx hx' hl hl' hg hg'=>by
  have side:∀id x,(mem++[o])[id]? = aA x->id < mem.length/\mem[id]? = aA x∨id=mem.length/\x=o:=by
   grind
  have up:∀id x,id < mem.length->bY Z (fh j mem.length h) id x g->bY Z j id x g:=λid x e hg=>(bY.jeq (uu j h (by omega))).1 hg
  have old:∀id x,id < mem.length->mem[id]? = aA x->x.live=aD->bY Z (fh j mem.length h) id x g->bT Z j mem g:=λid x e hx hl hg=>⟨id,x,hx,hl,up id x e hg⟩
  have new:∀id x,id=mem.length->x=o->bY Z (fh j mem.length h) id x g->h.blk=aA g:=by
   intro id x e ex hg;subst ex;have hg:=(bY.plain har).1 hg;unfold dk at hg;rw[e,gF]at hg;grind
  rcases side id x hx with⟨e,hx⟩|⟨e,ex⟩<;>rcases side id' x' hx' with⟨e',hx'⟩|⟨e',ex'⟩
  ·exact s.inj id id' x x' g hx hx' hl hl' (up id x e hg) (up id' x' e' hg')
  all_goals grind
 out:=λid hid=>by
  simp at hid;rw[uu j h (by omega)];exact s.out id (by omega)
 zin:=s.zin
def SR.set(s:SR P Z w j mem){id:Nat}{o o':O}(hm:mem[id]? = aA o)(hl:o'.live=aD->o.live=aD)(hz:bU Z w Z' w')
  (hb:∀g,dk j id≠aA g->w'.heap[g]? = w.heap[g]?/\∀o,Z' g o↔Z g o) (hin:∀g o,Z' g o->g < w'.heap.size)
  (hd:o.live=aE->∀g,w'.heap[g]? = w.heap[g]?/\∀o,Z' g o↔Z g o)
  (ho:OR P Z' w' j id o') (har:o.ar=none:=by rfl) (har':o'.ar=none:=by rfl) (ha:Z'.a=Z.a:=by rfl):SR P Z' w' j (mem.set id o') where
 obj:=λk x hx=>by
  have bf:id < mem.length:=(cE.1 hm).1
  by_cases e:id=k
  ·grind
  ·rw[iM e]at hx
   by_cases hlx:x.live=aD
   ·refine(s.obj k x hx).mono hz (bG.refl _) (λg hg=>?_) (λ_ _ _=>by rw[ha])
    by_cases hlo:o.live=aD
    ·exact hb g λhg'=>e (s.inj id k o x g hm hx hlo hlx ((bY.plain har).2 hg') hg)
    grind
   ·cases x<;>first|exact True.intro|(simp[O.live]at hlx)
 inj:=λa b x y g hx hy hlx hly hg hg'=>by
  have bf:id < mem.length:=(cE.1 hm).1
  have side:∀(k:Nat) (x:O),(mem.set id o')[k]? = aA x->x.live=aD->bY Z' j k x g->∃x':O,mem[k]? = aA x'/\x'.live=aD/\bY Z j k x' g:=by
   intro k x hx hlx hg;have hg:=(bY.eqA ha).1 hg
   by_cases e:id=k
   ·subst e;rw[jn bf]at hx;cases hx;exact⟨o,hm,hl hlx,(bY.plain har).2 ((bY.plain har').1 hg)⟩
   grind
  obtain⟨x',hx',hlx',hgx⟩:=side a x hx hlx hg;obtain⟨y',hy',hly',hgy⟩:=side b y hy hly hg';exact s.inj a b x' y' g hx' hy' hlx' hly' hgx hgy
 out:=λk hk=>s.out k (by grind)
 zin:=hin
def SR.kill(s:SR P Z w j mem){id:Nat}{o:O}(hm:mem[id]? = aA o)(har:o.ar=none:=by rfl):SR P Z w j (mem.set id .dead) :=
 s.set hm (by intro h;cases h) (bU.refl _ _) (λ_ _=>⟨rfl,λ_=>Iff.rfl⟩) s.zin (λ_ _=>⟨rfl,λ_=>Iff.rfl⟩) True.intro har
def bT.set{id:Nat}{o o':O}{g:Nat}(hm:mem[id]? = aA o)(hl:o'.live=aD->o.live=aD)(h:bT Z j (mem.set id o') g)(har:o.ar=none:=by rfl)(har':o'.ar=none:=by rfl):bT Z j mem g:=by
 obtain⟨k,x,hx,hlx,hg⟩:=h;have bf:id < mem.length:=(cE.1 hm).1
 by_cases e:id=k
 ·subst e;rw[jn bf]at hx;cases hx;exact⟨id,o,hm,hl hlx,(bY.plain har).2 ((bY.plain har').1 hg)⟩
 ·rw[iM e]at hx;exact⟨k,x,hx,hlx,hg⟩
def bT.add{h:cO}{o:O}{g:Nat}(hg:bT Z (fh j mem.length h) (mem++[o]) g)(har:o.ar=none:=by rfl):bT Z j mem g∨h.blk=aA g:=by
 obtain⟨k,x,hx,hlx,hb⟩:=hg
 by_cases e:k < mem.length
 ·rw[eP e]at hx;exact .inl ⟨k,x,hx,hlx,(bY.jeq (uu j h (by omega))).1 hb⟩
 ·right;have:=(cE.1 hx).1;simp at this;have e:k=mem.length:=by omega
  rw[e]at hx;simp at hx;subst hx;have hb:=(bY.plain har).1 hb;unfold dk at hb;rw[e,gF]at hb;grind
def iP(Z:Zs)(g n:Nat):Zs:={ Z with z:=λb o=>Z b o∨(b=g/\o < n) }
def bU.heap{w1:bg}{ob:Obj}(hh:w1.heap=w.heap.push ob)(hin:∀g o,Z g o->g < w.heap.size)(n:Nat):bU Z w (iP Z w.heap.size n) w1:=by
 refine .of λg o h=>?_
 refine⟨.inl h,ji ?_ o⟩;grind
def mM{w1:bg}{ob:Obj}(hh:w1.heap=w.heap.push ob){g:Nat}(hg:g < w.heap.size):w1.heap[g]? = w.heap[g]?:=by
 grind
def IT{w1:bg}{ob:Obj}(hh:w1.heap=w.heap.push ob){g:Nat}(hg:g < w.heap.size):w1.heap[g]? = w.heap[g]?:=mM hh hg
def bT.lt(s:SR P Z w j mem){g:Nat}(h:bT Z j mem g):g < w.heap.size:=by
 obtain⟨id,o,ho,hl,hg⟩:=h;have hO:=s.obj id o ho;cases o with
 |arena t els =>
  obtain⟨k,hk,hg⟩:=hg;obtain⟨us,h1,_⟩:=hO.2 k _ g (cI hk) hg;grind
 |marena t ms =>
  obtain⟨k,hk,hg⟩:=hg;obtain⟨es',clock,h1,_⟩:=hO.2 k _ g (cI hk) hg;grind
 |dead=>simp[O.live]at hl
 |row t els fz =>
  obtain⟨h,hh,hr⟩:=hO;rcases hr.2.2.2.2 with⟨hu,_⟩|⟨g',b,c,us,hu,_,_,hgg,_⟩
  ·cases h;simp at hu;simp[bY,O.ar,dk,hh,cO.blk,hu]at hg
  ·cases h;simp at hu;simp[bY,O.ar,dk,hh,cO.blk,hu]at hg;grind
 |box t v fz =>
  obtain⟨g',us,h1,h2,_⟩:=hO;simp[bY,O.ar,dk,h1,cO.blk]at hg;grind
 |map es =>
  obtain⟨r,es',clock,h1,h2,_⟩:=hO;simp[bY,O.ar,dk,h1,cO.blk]at hg;grind
def SR.push(s:SR P Z w j mem){w1:bg}{ob:Obj}(hh:w1.heap=w.heap.push ob)(hos:w1.os=w.os)(htape:w1.tape=w.tape)(hout:w1.output=w.output)
  (n:Nat) {h:cO} (hb:∀g,h.blk=aA g->g=w.heap.size) {o:O} (ho:OR P (iP Z w.heap.size n) w1 (fh j mem.length h) mem.length o) (har:o.ar=none:=by rfl) :
  SR P (iP Z w.heap.size n) w1 (fh j mem.length h) (mem++[o])/\br Z w j mem (iP Z w.heap.size n) w1 (fh j mem.length h) (mem++[o])/\bG j (fh j mem.length h):=by
 have hz:=bU.heap (Z:=Z) hh s.zin n;have iff:∀g,g < w.heap.size->∀o,iP Z w.heap.size n g o↔Z g o:=λg hg o=>⟨λh=>h.resolve_right λh=>by omega,.inl⟩
 have hsz:w1.heap.size=w.heap.size+1:=by grind
 have s1:SR P (iP Z w.heap.size n) w1 j mem:=s.world hz (λg hg=>⟨mM hh (bT.lt s hg),iff g (bT.lt s hg)⟩) (λg o h=>by
  rcases h with h|h
  ·have:=s.zin g o h;omega
  grind)
 refine⟨s1.add (λg hg ho=>?_) ho har,⟨hos,htape,hout,by omega,λg hg _=>⟨mM hh hg,iff g hg⟩,λg hg ho=>?_,hz,λt hn=>⟨hn.add har,rfl⟩⟩,s.ext h⟩
 ·have:=hb g hg;have:=bT.lt s ho;omega
 ·rcases bT.add ho har with ho|ho
  ·exact ho
  grind
def SR.pushV(s:SR P Z w j mem){h:cO}(hb:h.blk=aF){o:O}(ho:OR P Z w (fh j mem.length h) mem.length o)(har:o.ar=none:=by rfl) :
  SR P Z w (fh j mem.length h) (mem++[o])/\br Z w j mem Z w (fh j mem.length h) (mem++[o])/\bG j (fh j mem.length h):=by
 refine⟨s.add (λ_ hg=>by grind) ho har,⟨rfl,rfl,rfl,cZ _,λ_ _ _=>⟨rfl,λ_=>Iff.rfl⟩,λ_ _ ho=>?_,bU.refl _ _,λt hn=>⟨hn.add har,rfl⟩⟩,s.ext h⟩;rcases bT.add ho har with ho|ho
 all_goals grind
def br.set{id:Nat}{o o':O}(hm:mem[id]? = aA o)(hl:o'.live=aD->o.live=aD)(hlo:o.live=aD)(hz:bU Z w Z' w')
  (hb:∀g,dk j id≠aA g->w'.heap[g]? = w.heap[g]?/\∀o,Z' g o↔Z g o)
  (hos:w'.os=w.os) (htape:w'.tape=w.tape) (hout:w'.output=w.output) (hsz:w.heap.size<=w'.heap.size) (har:o.ar=none:=by rfl) (har':o'.ar=none:=by rfl) (ha:Z'.a=Z.a:=by rfl):br Z w j mem Z' w' j (mem.set id o') :=
 ⟨hos,htape,hout,hsz,λg _ hn=>hb g λhg=>hn ⟨id,o,hm,hlo,(bY.plain har).2 hg⟩,λg _ ho=>((bT.eqA ha).1 ho).set hm hl har har',hz,λt hn=>⟨hn.set hm λn e=>(by grind),by rw[ha]⟩⟩
def ve{t:aP}:∀(mem:List O) (i id:Nat) (els:List V),j6 t i mem=aA (id,els)->i<=id/\mem[id - i]? = aA (.arena t els)
 | [],_,_,_,h=>by simp[j6]at h
 |.arena t' els'::l,i,id,els,h=>by
  simp only[j6]at h
  by_cases e:(t'==t)=aD
  ·grind
  ·simp only[e,be]at h;obtain⟨a,b⟩:=ve l (i+1) id els h;grind
 |.row ..::l,i,id,els,h=>by
  obtain⟨a,b⟩:=ve l (i+1) id els h;grind
 |.box ..::l,i,id,els,h=>by
  obtain⟨a,b⟩:=ve l (i+1) id els h;grind
 |.map ..::l,i,id,els,h=>by
  obtain⟨a,b⟩:=ve l (i+1) id els h;grind
 |.marena ..::l,i,id,els,h=>by
  obtain⟨a,b⟩:=ve l (i+1) id els h;grind
 |.dead::l,i,id,els,h=>by
  obtain⟨a,b⟩:=ve l (i+1) id els h;grind
def vg{t:aP}:∀(mem:List O) (i id:Nat) (ms:List (List (V × V))),nB t i mem=aA (id,ms)->i<=id/\mem[id - i]? = aA (.marena t ms)
 | [],_,_,_,h=>by simp[nB]at h
 |.marena t' els'::l,i,id,els,h=>by
  simp only[nB]at h
  by_cases e:(t'==t)=aD
  ·grind
  ·simp only[e,be]at h;obtain⟨a,b⟩:=vg l (i+1) id els h;grind
 |.row ..::l,i,id,els,h=>by
  obtain⟨a,b⟩:=vg l (i+1) id els h;grind
 |.box ..::l,i,id,els,h=>by
  obtain⟨a,b⟩:=vg l (i+1) id els h;grind
 |.map ..::l,i,id,els,h=>by
  obtain⟨a,b⟩:=vg l (i+1) id els h;grind
 |.arena ..::l,i,id,els,h=>by
  obtain⟨a,b⟩:=vg l (i+1) id els h;grind
 |.dead::l,i,id,els,h=>by
  obtain⟨a,b⟩:=vg l (i+1) id els h;grind
def It{t:aP}{id:Nat}{els:List V}(h:j6 t 0 mem=aA (id,els)):mem[id]? = aA (.arena t els):=by simpa using(ve mem 0 id els h).2
def Iv{t:aP}{id:Nat}{ms:List (List (V × V))}(h:nB t 0 mem=aA (id,ms)):mem[id]? = aA (.marena t ms):=by simpa using(vg mem 0 id ms h).2
def OR.arena{id n:Nat}{o:O}{t:aP}(h:OR P Z w j id o)(ho:o.ar=aA (t,n)):qo Z id t n:=by
 cases o<;>simp[O.ar]at ho<;>(obtain⟨rfl,rfl⟩:=ho;exact h.1)
def o9{o:O}{r:aP × Nat}(h:o.ar=aA r):o.live=true:=by
 cases o<;>simp[O.ar]at h<;>rfl
def SR.setA(s:SR P Z w j mem){id n:Nat}{o o':O}{t:aP}(hm:mem[id]? = aA o)(hn:o.ar=aA (t,n))(hn':o'.ar=aA (t,n))(hz:bU Z w Z' w')
  (hb:∀g,¬bY Z j id o g->w'.heap[g]? = w.heap[g]?/\∀o,Z' g o↔Z g o) (hin:∀g o,Z' g o->g < w'.heap.size)
  (hos:w'.os=w.os) (htape:w'.tape=w.tape) (hout:w'.output=w.output) (hsz:w.heap.size<=w'.heap.size)
  (ho:OR P Z' w' j id o') (ha:Z'.a=Z.a:=by rfl):SR P Z' w' j (mem.set id o')/\br Z w j mem Z' w' j (mem.set id o'):=by
 have bf:id < mem.length:=(cE.1 hm).1;have same:∀g,bY Z j id o' g↔bY Z j id o g:=λg=>by unfold bY;grind
 have side:∀(g k:Nat) (x:O),(mem.set id o')[k]? = aA x->x.live=aD->bY Z' j k x g->∃x':O,mem[k]? = aA x'/\x'.live=aD/\bY Z j k x' g:=by
  intro g k x hx hlx hg;have hg:=(bY.eqA ha).1 hg
  by_cases e:id=k
  ·subst e;rw[jn bf]at hx;cases hx;exact⟨o,hm,o9 hn,(same g).1 hg⟩
  grind
 refine⟨⟨λk x hx=>?_,λa b x y g hx hy hlx hly hg hg'=>?_,λk hk=>s.out k (by grind),hin⟩,
  ⟨hos,htape,hout,hsz,λg _ hno=>hb g λhg=>hno ⟨id,o,hm,o9 hn,hg⟩,λg _ ho=>?_,hz,λt' h=>⟨h.set hm λm e=>?_,by rw[ha]⟩⟩⟩
 ·by_cases e:id=k
  ·grind
  ·rw[iM e]at hx
   by_cases hlx:x.live=aD
   ·exact(s.obj k x hx).mono hz (bG.refl _) (λg hg=>hb g λhg'=>e (s.inj id k o x g hm hx (o9 hn) hlx hg' hg)) (λ_ _ _=>by rw[ha])
   ·cases x<;>first|exact True.intro|(simp[O.live]at hlx)
 ·obtain⟨x',hx',hlx',hgx⟩:=side g a x hx hlx hg;obtain⟨y',hy',hly',hgy⟩:=side g b y hy hly hg';exact s.inj a b x' y' g hx' hy' hlx' hly' hgx hgy
 ·obtain⟨k,x,hx,hlx,hg⟩:=ho;obtain⟨x',hx',hlx',hgx⟩:=side g k x hx hlx hg;exact⟨k,x',hx',hlx',hgx⟩
 grind
def mC(Z:Zs)(t:aP)(k g:Nat):Zs:={ Z with a:=λt' k'=>if t'=t/\k'=k then aA g else Z.a t' k' }
def sD(t:aP)(k g:Nat):(mC Z t k g).a t k=aA g:=by simp[mC]
def mD{t t':aP}{k k' g:Nat}(h:¬(t'=t/\k'=k)):(mC Z t k g).a t' k'=Z.a t' k':=by simp only[mC,bh h]
def SR.growA(s:SR P Z w j mem){id n:Nat}{o o':O}{t:aP}(hm:mem[id]? = aA o)(hn:o.ar=aA (t,n))(hn':o'.ar=aA (t,n+1)){w1:bg}{ob:Obj}
  (hh:w1.heap=w.heap.push ob) (hos:w1.os=w.os) (htape:w1.tape=w.tape) (hout:w1.output=w.output)
  (ho:bU Z w (mC Z t n w.heap.size) w1->qo (mC Z t n w.heap.size) id t (n+1)->OR P (mC Z t n w.heap.size) w1 j id o') :
  SR P (mC Z t n w.heap.size) w1 j (mem.set id o')/\br Z w j mem (mC Z t n w.heap.size) w1 j (mem.set id o'):=by
 have bf:id < mem.length:=(cE.1 hm).1;have hA:=(s.obj id o hm).arena hn
 have hz:bU Z w (mC Z t n w.heap.size) w1:=by
  refine⟨λg x h=>⟨h,ji (IT hh (s.zin g x h)) x⟩,λt' k' g h=>?_,rfl⟩
  by_cases e:t'=t/\k'=n
  ·obtain⟨rfl,rfl⟩:=e;rw[hA.none _ (cZ _)]at h;cases h
  ·rw[mD e];exact h
 have lt:∀k g,Z.a t k=aA g->g < w.heap.size:=λk g hg=>bT.lt s ⟨id,o,hm,o9 hn,by
  unfold bY;rw[hn];refine⟨k,?_,hg⟩;rcases nQ k n with h|h
  ·exact h
  ·rw[hA.none k h]at hg;grind⟩
 have hA':qo (mC Z t n w.heap.size) id t (n+1):=by
  refine⟨hA.i,λk hk=>?_,λk hk=>?_,λk k' g h h'=>?_⟩
  ·by_cases e:k=n
   ·subst e;exact⟨_,sD _ _ _⟩
   ·rw[mD (by omega)];exact hA.get k (by omega)
  ·rw[mD (by omega)];exact hA.none k (by omega)
  ·by_cases e:k=n
   ·subst e;rw[sD]at h;cases h
    by_cases e':k'=k
    ·grind
    ·rw[mD (by omega)]at h';grind
   ·rw[mD (by omega)]at h
    by_cases e':k'=n
    ·subst e';rw[sD]at h';grind
    ·rw[mD (by omega)]at h';exact hA.inj _ _ _ h h'
 have back:∀(g k:Nat) (x:O),g < w.heap.size->(mem.set id o')[k]? = aA x->x.live=aD->bY (mC Z t n w.heap.size) j k x g->∃x':O,mem[k]? = aA x'/\x'.live=aD/\bY Z j k x' g:=by
  intro g k x hlg hx hlx hg
  by_cases e:id=k
  ·subst e;rw[jn bf]at hx;cases hx;refine⟨o,hm,o9 hn,?_⟩;unfold bY at hg |-
   rw[hn']at hg;rw[hn];obtain⟨m,hmm,hg⟩:=hg
   by_cases em:m=n
   ·subst em;rw[sD]at hg;grind
   ·simp only at hmm hg;rw[mD (by omega)]at hg;grind
  ·rw[iM e]at hx;refine⟨x,hx,hlx,?_⟩;unfold bY at hg |-
   cases hr:x.ar with
   |none=>grind
   |some r =>
    obtain⟨t',m⟩:=r;rw[hr]at hg;have hne:t'≠t:=λe'=>e (by subst e';have h1:=((s.obj k x hx).arena hr).i;rw[hA.i]at h1;grind)
    obtain⟨m',hm',hg⟩:=hg;simp only at hg;rw[mD (λh=>hne h.1)]at hg;grind
 have new:∀(g k:Nat) (x:O),¬g < w.heap.size->(mem.set id o')[k]? = aA x->x.live=aD->bY (mC Z t n w.heap.size) j k x g->k=id:=by
  intro g k x hlg hx hlx hg;apply Classical.byContradiction;intro e;have e:¬id=k:=λh=>e h.symm
  rw[iM e]at hx;refine hlg (bT.lt s ⟨k,x,hx,hlx,?_⟩);unfold bY at hg |-
  cases hr:x.ar with
  |none=>grind
  |some r =>
   obtain⟨t',m⟩:=r;rw[hr]at hg;have hne:t'≠t:=λe'=>e (by subst e';have h1:=((s.obj k x hx).arena hr).i;rw[hA.i]at h1;grind)
   obtain⟨m',hm',hg⟩:=hg;simp only at hg;rw[mD (λh=>hne h.1)]at hg;grind
 have hsz:w1.heap.size=w.heap.size+1:=by grind
 refine⟨⟨λk x hx=>?_,λa b x y g hx hy hlx hly hg hg'=>?_,λk hk=>s.out k (by grind),λg x h=>by have:=s.zin g x h;omega⟩,
  ⟨hos,htape,hout,by omega,λg hg _=>⟨IT hh hg,λ_=>Iff.rfl⟩,λg hg ho=>?_,hz,λt' h=>⟨h.set hm λm e=>?_,?_⟩⟩⟩
 ·by_cases e:id=k
  ·grind
  ·rw[iM e]at hx
   by_cases hlx:x.live=aD
   ·refine(s.obj k x hx).mono hz (bG.refl _) (λg hg=>⟨IT hh (bT.lt s ⟨k,x,hx,hlx,hg⟩),λ_=>Iff.rfl⟩) (λt' m hr=>?_);have hne:t'≠t:=λe'=>e (by subst e';have h1:=((s.obj k x hx).arena hr).i;rw[hA.i]at h1;grind)
    funext k';exact mD λh=>hne h.1
   ·cases x<;>first|exact True.intro|(simp[O.live]at hlx)
 ·by_cases hlg:g < w.heap.size
  ·obtain⟨x',hx',hlx',hgx⟩:=back g a x hlg hx hlx hg;obtain⟨y',hy',hly',hgy⟩:=back g b y hlg hy hly hg';exact s.inj a b x' y' g hx' hy' hlx' hly' hgx hgy
  grind
 ·obtain⟨k,x,hx,hlx,hb⟩:=ho;obtain⟨x',hx',hlx',hgx⟩:=back g k x hg hx hlx hb;exact⟨k,x',hx',hlx',hgx⟩
 ·grind
 ·have hne:t'≠t:=λe=>h id o n hm (by grind)
  funext k';exact mD λh=>hne h.1
def Rp(s:SR P Z w j mem){p x:V}{off:Nat}{u:aR}(h:f0 mem p=aA (x,off))(hv:VR Z w j p u) :
  ∃g b,u = .pointer (aA ⟨g,b+off,aF⟩)/\fX Z w j g b x.cells:=by
 cases p with
 |ref y o =>
  simp[f0]at h;obtain⟨rfl,rfl⟩:=h;obtain⟨g,b,hu,_,hc⟩:=hv.refInv;exact⟨g,b,hu,hc.mono (bU.refl _ _) (bG.zero _) rfl⟩
 |ptr id k o =>
  cases hv with
  |ptr hj hs =>
   rename_i g b hn;simp only[f0]at h;cases hm:mem[id]? with
   |none=>grind
   |some ob =>
    have hO:=s.obj id ob hm;cases ob with
    |dead=>grind
    |map es=>grind
    |arena t els=>grind
    |marena t els=>grind
    |row t els fz =>
     simp only[hm]at h;obtain⟨hn',hh,hr⟩:=hO;rw[hj]at hh;cases hh;cases hk:els[k]? with
     |none=>grind
     |some y =>
      simp[hk]at h;obtain⟨rfl,rfl⟩:=h;rcases hr.2.2.2.2 with⟨_,he⟩|⟨g',b',c,us,hu,_,_,_,_,hcells,_⟩
      ·grind
      ·have e:(g',b')=(g,b):=by
        cases hn;simp at hu;subst hu;simpa[cO.start]using hs
       cases e;exact⟨g,b+k * hn.sz,by grind,(hcells k y hk).mono (bU.refl _ _) (bG.zero _) rfl⟩
    |box t v fz =>
     simp only[hm]at h
     by_cases hk:k=0
     ·simp[hk]at h;obtain⟨rfl,rfl⟩:=h;obtain⟨g',us,h1,h2,h3,h4,h5,_⟩:=hO;rw[hj]at h1;cases h1;simp[cO.start]at hs;grind
     grind
 |hp t k o =>
  cases hv with
  |hp hg =>
   rename_i g;simp only[f0,obi,omi]at h;obtain⟨⟨id,els⟩,hf,y,hk,e⟩:=h;cases e;obtain⟨us,_,_,_,_,hc,_⟩:=(s.obj id _ (It hf)).2 k _ g hk hg;exact⟨g,0,by simp,hc.mono (bU.refl _ _) (bG.zero _) rfl⟩
 |_=>simp[f0]at h
def Ey(s:SR P Z w j mem){m:V}{es:List (V × V)}{u:aR}(h:gO mem m=aA es)(hv:VR Z w j m u):∃r,u = .map (aA r)/\wR Z w r es:=by
 cases m with
 |mp id =>
  simp only[gO]at h;cases hm:mem[id]? with
  |none=>grind
  |some o =>
   cases o<;>simp only[hm]at h<;>first|(cases h;done)|skip
   cases h;obtain⟨r,es',clock,h1,h2,h3,h4,h5⟩:=s.obj id _ hm;cases hv with
   |mp hj=>rw[hj]at h1;cases h1;exact⟨_,rfl,es',clock,h2,h3,h4,h5⟩
 |hm t k =>
  simp only[gO,obi]at h;obtain⟨⟨id,ms⟩,hf,hk⟩:=h;cases hv with
  |hm hg=>exact⟨_,rfl,(s.obj id _ (Iv hf)).2 k es _ hk hg⟩
 |_=>simp[gO]at h
def I7{t:aP}{d:TypeDesc}(h:(bO P) t=aA d):∃i,P.info? t=aA i/\(aK P) t=i.size/\P.bytesOf t=i.bytes:=by
 unfold bO at h;cases hi:P.info? t with
 |none=>grind
 |some i=>exact⟨i,rfl,by simp[aK,hi],by simp[Program.bytesOf,hi]⟩
def fX.drop{g b:Nat}{cs:List V}(h:fX Z w j g b cs)(off n:Nat):fX Z w j g (b+off) ((cs.drop off).take n):=by
 intro i y hy;rw[kx]at hy;split at hy
 ·rw[i6]at hy;obtain⟨a,u,hu,hv⟩:=h (off+i) y hy;grind
 grind
def TU{g b:Nat}{cs:List V}(h:fX Z w j g b cs) :
  ∃us:List aR,us.length=cs.length/\(loadCells ⟨g,b,aF⟩ cs.length).run P w = .ok us.toArray w/\(∀(i:Nat) (c:V) (u:aR),cs[i]? = aA c->us[i]? = aA u->VR Z w j c u) /\
   ∀(i:Nat) (u:aR),us[i]? = aA u->w.cell? ⟨g,b+i,aF⟩=aA u/\u.oneCell'=true:=by
 have add:∀i,(⟨g,b,aF⟩:Addr).add i=⟨g,b+i,aF⟩:=by intro i;unfold Addr.add;all_goals grind
 refine⟨(eQ cs.length).map λi=>(w.cell? ⟨g,b+i,aF⟩).getD undef,by simp,run_loadCells w _ _ _ (λi hi=>?_),λi c u hc hu=>?_,λi u hu=>?_⟩
 ·obtain⟨_,u,hu,_⟩:=h i _ (cI hi);grind
 ·obtain⟨_,u',hu',hv⟩:=h i c hc;grind
 ·have hi:i < cs.length:=by grind
  obtain⟨ho,u',hu',hv⟩:=h i _ (cI hi);simp[hi,hu']at hu;subst hu;exact⟨hu',hv.oneCell ho⟩
def aeD{t:aP}{g b:Nat}{cs:List V}{v:V}(hl:cs.length=(aK P) t)(h:pP P t cs=aA v)(hc:fX Z w j g b cs) :
  ∃u,(loadVar t ⟨g,b,aF⟩).run P w = .ok u w/\VR Z w j v u:=by
 unfold pP at h;cases hu:(bO P) t with
 |none=>grind
 |some d =>
  obtain⟨i,hi,hsz,_⟩:=I7 hu
  have agg:(d matches .struct _ |.array _ _)=aD->v = .agg cs->∃u,(loadVar t ⟨g,b,aF⟩).run P w = .ok u w/\VR Z w j v u:=by
   intro hd hv;subst hv;obtain⟨us,hul,hrun,hvr,_⟩:=TU (P:=P) hc;refine⟨.agg us.toArray,?_,.agg hul.symm hvr⟩;rw[hl,hsz]at hrun;cases d<;>first|(simp at hd;done)|simp[loadVar,isAgg,dP hu,sizeOf,ij,hi,hrun]
  have one:(d matches .struct _ |.array _ _)=aE->ug cs=aA v->∃u,(loadVar t ⟨g,b,aF⟩).run P w = .ok u w/\VR Z w j v u:=by
   intro hd hv;unfold ug at hv;split at hv
   ·cases hv;obtain⟨_,u,hu',hvr⟩:=hc 0 _ rfl;refine⟨u,?_,hvr⟩;simp only[gn]at hu';cases d<;>first|(simp at hd;done)|simp[loadVar,isAgg,dP hu,hu']
   grind
  cases d<;>simp only[hu]at h<;>first|grind|grind
def Rj(s:SR P Z w j mem){t:aP}{p v:V}{u:aR}(h:gD P mem t p=aA v)(hv:VR Z w j p u) :
  ∃u',(Instr.loadAt t u).run P w = .ok u' w/\VR Z w j v u':=by
 unfold gD at h;cases hl:f0 mem p with
 |none=>grind
 |some r =>
  obtain⟨x,off⟩:=r;simp only[hl,bu]at h;split at h
  ·rename_i hlen;obtain⟨g,b,hu,hc⟩:=Rp s hl hv;subst hu;obtain⟨u',h1,h2⟩:=aeD (P:=P) hlen h (hc.drop off _);exact⟨u',by simpa[Instr.loadAt,Instr.sureAddr]using h1,h2⟩
  grind
end
section
variable {P:bv}{Z Z':Zs}{w w':bg}{j j':J}{mem mem':List O}
def m5(P:bv)(Post:aR->bg->Prop):Result Next->Prop
 |.ok (.value u) w'=>Post u w'
 |.ok .skip w'=>Post undef w'
 |.ok (.enter f args) w'=>fQ P f args w' λe w''=>∃u,e = .returned u/\Post u w''
 |_=>False
def dz(P:bv)(Z:Zs)(w:bg)(j:J)(mem:List O)(v:V)(mem':List O)(u:aR)(w':bg):Prop :=
 ∃Z' j',VR Z' w' j' v u/\SR P Z' w' j' mem'/\br Z w j mem Z' w' j' mem'/\bG j j'
def fB(s:SR P Z w j mem){v:V}{u:aR}(hv:VR Z w j v u):dz P Z w j mem v mem u w :=
 ⟨Z,j,hv,s,br.refl _ _ _ _,bG.refl _⟩
def G6{c:aR}{v:V}(h:pn c=aA v):VR Z w j v c:=by
 unfold pn at h;split at h<;>first|(cases h;constructor;done)|skip
 ·rename_i vs;split at h
  ·rename_i he;cases h;have e:vs=([]:List aR).toArray:=by grind
   rw[e];exact .tup rfl λi c u hc=>by grind
  grind
 grind
def WR{op:BinOp}{k:IntKind}{a b:Int}{v:V}(X Y:fD)(t:aP)(hs:op≠.shl)(hs':op≠.shr)(h:sG op k a b=aA v) :
  ∃u,(do eqGuard op t X Y (.int k a) (.int k b);binOp op t (.int k a) (.int k b):Sem aR).run P w = .ok u w/\VR Z w j v u:=by
 cases op<;>simp[sG]at h hs hs' <;>
  first
  |(subst h;refine⟨_,?_,.int⟩;simp[eqGuard,binOp,Op.intArith,Op.intBits];done)
  |(subst h;refine⟨_,?_,.bool⟩;simp[eqGuard,binOp,Op.intCmp];done)
  |(obtain⟨hb,rfl⟩:=h;refine⟨_,?_,.int⟩;simp[eqGuard,binOp,Op.intDiv,hb];done)
def wC(s:ByteArray):s.toList=s.data.toList:=Go.ByteArray.toList_eq s
def ain{op:BinOp}{a b:ByteArray}{v:V}(X Y:fD)(t:aP)(h:F3 op a.data.toList b.data.toList=aA v) :
  ∃u,(do eqGuard op t X Y (.string a) (.string b);binOp op t (.string a) (.string b):Sem aR).run P w = .ok u w/\VR Z w j v u:=by
 cases op<;>simp[F3]at h <;>
  first
  |(subst h;refine⟨_,?_,.bool⟩;simp[eqGuard,binOp,Op.stringOp,wC];done)
  |skip
 obtain⟨hb,rfl⟩:=h;refine⟨.string (a++b),?_,?_⟩
 ·have:¬(((a.size+b.size:Nat):Int) > IntKind.i64.max):=by
   have e:IntKind.i64.max=9223372036854775807:=by decide
   grind
  simp only[eqGuard,binOp,Op.stringOp,Sem.run_bind,Sem.run_pure,bh this];simp_all
 ·have e:a.data.toList++b.data.toList=(a++b).data.toList:=by simp
  rw[e];exact .str
def abl{t:aP}{a b:V}{u v:aR}{r:Bool}(d:Nat)(h:sX ((bO P) t) a b=aA r)(ha:VR Z w j a u)(hb:VR Z w j b v) :
  (Op.equalIn (d+1) t u v).run P w = .ok r w:=by
 cases hu:(bO P) t with
 |none=>simp[hu,sX]at h
 |some dd =>
  rw[hu]at h;cases ha<;>cases hb<;>cases dd<;>simp[sX]at h
  ·subst h;exact run_equalIn_bool' w d t _ _ hu
  ·obtain⟨rfl,rfl⟩:=h;exact run_equalIn_int w d t _ _ _ _ hu
  ·rw[run_equalIn_string w d t _ _ hu,wC,wC,<-h];simp
def xJ:TypeDesc->Bool
 |.struct _ |.array _ _=>aD
 |_=>aE
def abk{t:aP}{a b:V}{r:Bool}(h:sX ((bO P) t) a b=aA r):∃d,(bO P) t=aA d/\xJ d=false:=by
 cases hu:(bO P) t with
 |none=>simp[hu,sX]at h
 |some d =>
  refine⟨d,rfl,?_⟩;rw[hu]at h;cases d<;>first|rfl|(simp[sX]at h)
def Ku{t:aP}{d:TypeDesc}{cs:Array aR}{off:Nat}{u:aR}(hu:(bO P) t=aA d)(hd:xJ d=aE)(hc:cs[off]? = aA u) :
  (part t cs off).run P w = .ok u w:=by
 cases d<;>first|(simp[xJ]at hd;done)|simp[part,isAgg,dP hu,hc]
def abh(d:Nat){xs ys:List aR}:∀(fs:List Field) (i:Nat) (cs ds:List V) (r:Bool),
  (fs.zipIdx i).all (λx=>x.1.name != "_" && x.1.offset==x.2)=aD->n9 P (fs.map (·.type)) cs ds=aA r ->
  (∀k c,cs[k]? = aA c->∃u,xs[i+k]? = aA u/\VR Z w j c u)->(∀k c,ds[k]? = aA c->∃u,ys[i+k]? = aA u/\VR Z w j c u) ->
  (Op.eqFields (d+1) xs.toArray ys.toArray fs).run P w = .ok r w:=by
 intro fs
 induction fs with
 |nil =>
  intro i cs ds r _ h _ _;cases cs<;>cases ds<;>simp[n9]at h;subst h;simp[Op.eqFields]
 |cons f fs ih =>
  intro i cs ds r hall h hx hy;cases cs with
  |nil=>simp[n9]at h
  |cons a cs =>
   cases ds with
   |nil=>simp[n9]at h
   |cons b ds =>
    simp only[List.zipIdx_cons,B4,cT,bne_iff_ne,iQ]at hall;obtain⟨⟨hn,ho⟩,hall⟩:=hall;simp only[fJ,n9]at h;cases h1:sX ((bO P) f.type) a b with
    |none=>grind
    |some e =>
     cases h2:n9 P (fs.map (·.type)) cs ds with
     |none=>grind
     |some e2 =>
      simp[h1,h2]at h;obtain⟨u,hu,hau⟩:=hx 0 a rfl;obtain⟨v,hv,hbv⟩:=hy 0 b rfl;obtain⟨dd,hdd,hpl⟩:=abk h1;have p1:=Ku (P:=P) (w:=w) (cs:=xs.toArray) (off:=i) hdd hpl (by simpa using hu);have p2:=Ku (P:=P) (w:=w) (cs:=ys.toArray) (off:=i) hdd hpl (by simpa using hv);have p3:=abl (w:=w) d h1 hau hbv
      have ihh:=ih (i+1) cs ds e2 hall h2 (λk c hk=>by have:=hx (k+1) c (by grind);grind)
       (λk c hk=>by have:=hy (k+1) c (by grind);grind)
      simp only[Op.eqFields,hn,ne_eq,not_false_eq_true,dv,Sem.run_bind,ho,p1,p2,p3,Result.andThen_ok];cases e
      all_goals simp_all
def aiq{op:BinOp}{t:aP}{x y v:V}{cs ds:List V}{u u':aR}(X Y:fD)(hx:x = .agg cs)(hy:y = .agg ds)(h:iR P op t x y=aA v)(hu:VR Z w j x u)(hu':VR Z w j y u') :
  ∃r,(do eqGuard op t X Y u u';binOp op t u u':Sem aR).run P w = .ok r w/\VR Z w j v r:=by
 subst hx hy;cases hu with
 |agg hl hc =>
  cases hu' with
  |agg hl' hc' =>
   rename_i xs ys;simp only[iR]at h;split at h
   ·rename_i hp;unfold SK at hp;cases hd:(bO P) t with
    |none=>grind
    |some dd =>
     cases dd<;>simp only[hd]at hp<;>first|(cases hp;done)|skip
     rename_i fs;simp only[cT,mU]at hp;obtain⟨⟨hg,hst⟩,hall⟩:=hp;have hfo:P.fieldsOf t=fs:=by simp[Program.fieldsOf,hd]
     have hft:DV P t=fs.toList.map (·.type):=by simp[DV,hd]
     rw[hft]at h
     have key:∀r,n9 P (fs.toList.map (·.type)) cs ds=aA r->(Op.equalIn 10000 t (.agg xs.toArray) (.agg ys.toArray)).run P w = .ok r w:=by
      intro r hr;rw[run_equalIn_struct w 9999 t xs.toArray ys.toArray (by grind) hst,hfo];refine abh (Z:=Z) (j:=j) 9998 fs.toList 0 cs ds r (by grind) hr (λk c hk=>?_) (λk c hk=>?_)
      ·have hkl:k < cs.length:=(cE.1 hk).1;exact⟨xs[k]'(by omega),by simp,hc k c _ hk (cI (by omega))⟩
      ·have hkl:k < ds.length:=(cE.1 hk).1;exact⟨ys[k]'(by omega),by simp,hc' k c _ hk (cI (by omega))⟩
     cases hr:n9 P (fs.toList.map (·.type)) cs ds with
     |none=>all_goals grind
     |some r =>
      have hk:=key r hr;have hgd:=run_eqGuard_agg (P:=P) w op t X Y xs.toArray ys.toArray hg;cases op<;>simp[hr]at h
      ·subst h;exact⟨_,by rw[Sem.run_bind,hgd,Result.andThen_ok,run_eql_struct,hk,Result.andThen_ok],.bool⟩
      ·subst h;exact⟨_,by rw[Sem.run_bind,hgd,Result.andThen_ok,run_neq_struct,hk,Result.andThen_ok],.bool⟩
   grind
def W5{op:BinOp}{t:aP}{x y v:V}{u u':aR}(X Y:fD)(h:iR P op t x y=aA v)(hx:VR Z w j x u)(hy:VR Z w j y u') :
  ∃r,(do eqGuard op t X Y u u';binOp op t u u':Sem aR).run P w = .ok r w/\VR Z w j v r:=by
 cases x with
 |agg cs =>
  cases y with
  |agg ds=>exact aiq X Y rfl rfl h hx hy
  |_=>simp[iR]at h
 |int k a =>
  cases y with
  |int k' b =>
   cases hx;cases hy
   by_cases hs:op = .shl
   ·subst hs;simp[iR]at h;obtain⟨hb,rfl⟩:=h;have:¬b < 0:=by omega
    exact⟨_,by simp[eqGuard,binOp,Op.shift,this],.int⟩
   ·by_cases hs':op = .shr
    ·subst hs';simp[iR]at h;obtain⟨hb,rfl⟩:=h;have:¬b < 0:=by omega
     exact⟨_,by simp[eqGuard,binOp,Op.shift,this],.int⟩
    ·by_cases hk:k=k'
     ·subst hk
      have h':sG op k a b=aA v:=by
       cases op<;>first|(simpa[iR]using h)|grind|grind
      exact WR X Y t hs hs' h'
     ·cases op<;>first|(simp[iR,hk]at h;done)|grind|grind
  |_=>simp[iR]at h
 |str a =>
  cases y with
  |str b =>
   cases hx;cases hy;exact ain X Y t (by simpa[iR]using h)
  |_=>simp[iR]at h
 |bool a =>
  cases y with
  |bool b =>
   cases hx;cases hy;cases hd:(bO P) t with
   |none=>simp[iR,hd]at h
   |some d =>
    cases d<;>simp[iR,hd]at h;have e:=run_equalIn_bool' (P:=P) w 9999 t a b hd;cases op<;>simp at h
    ·subst h;exact⟨.bool (a==b),by simp[eqGuard,binOp,Op.equal,Op.maxDepth,e],.bool⟩
    ·subst h;exact⟨.bool (!(a==b)),by simp[eqGuard,binOp,Op.equal,Op.maxDepth,e],.bool⟩
  |_=>simp[iR]at h
 |_=>simp[iR]at h
def R3{t:aP}{x y:V}{u u':aR}{b:Bool}(h:tO P t x y=aA b)(hx:VR Z w j x u)(hy:VR Z w j y u'):(Op.equal t u u').run P w = .ok b w:=by
 have key:∀d:Nat,(Op.equalIn (d+1) t u u').run P w = .ok b w:=by
  intro d;unfold tO at h;split at h
  ·rename_i hu;cases h;cases hx;cases hy;simp[Op.equalIn,dP hu]
  ·rename_i hu;cases h;cases hx;cases hy;simp[Op.equalIn,dP hu]
  ·rename_i hu;cases h;cases hx;cases hy;simp[Op.equalIn,dP hu]
  ·rename_i hu;cases h;cases hx;cases hy;simp[Op.equalIn,dP hu]
  ·rename_i hu;cases h;cases hx;cases hy;simp[Op.equalIn,dP hu]
  ·rename_i hu;cases h;cases hx;cases hy;unfold pA;split<;>simp[Op.equalIn,dP hu]
  ·cases h
 exact key 9999
def W7{op:BinOp}{t:aP}{x y v:V}{u u':aR}(X Y:fD)(h:nX P op t x y=aA v)(hx:VR Z w j x u)(hy:VR Z w j y u') :
  ∃r,(do eqGuard op t X Y u u';binOp op t u u':Sem aR).run P w = .ok r w/\VR Z w j v r:=by
 unfold nX at h;split at h;rotate_left
 ·exact W5 X Y h hx hy
 rename_i hn
 have hy':(∃p,u' = .pointer p)∨u' = .nilFunc:=by
  cases y<;>simp[vQ]at hn<;>cases hy
  ·exact .inl ⟨_,rfl⟩
  ·exact .inr rfl
 have hu:∀b,tO P t x y=aA b->(∃p,u = .pointer p)∨u = .nilFunc∨∃f a c,u = .func f a c:=by
  intro b hb;unfold tO at hb;split at hb<;>first|(cases hb;done)|skip
  all_goals cases hx
  ·exact .inl ⟨_,rfl⟩
  ·exact .inl ⟨_,rfl⟩
  ·exact .inl ⟨_,rfl⟩
  ·exact .inl ⟨_,rfl⟩
  ·exact .inr (.inl rfl)
  ·refine .inr (.inr ?_);unfold pA;split<;>exact⟨_,_,_,rfl⟩
 cases op<;>simp only at h<;>first|(cases h;done)|skip
 ·cases hb:tO P t x y with
  |none=>simp[hb]at h
  |some b =>
   simp[hb]at h;subst h;have he:=R3 hb hx hy;refine⟨.bool b,?_,.bool⟩;rcases hy' with⟨p,rfl⟩|rfl<;>rcases hu b hb with⟨q,rfl⟩|rfl|⟨f,a,c,rfl⟩<;>simp only[eqGuard,binOp,Sem.run_bind,Sem.run_pure,Result.andThen_ok,he,cN,d5,ej]
 ·cases hb:tO P t x y with
  |none=>simp[hb]at h
  |some b =>
   simp[hb]at h;subst h;have he:=R3 hb hx hy;refine⟨.bool (!b),?_,.bool⟩;rcases hy' with⟨p,rfl⟩|rfl<;>rcases hu b hb with⟨q,rfl⟩|rfl|⟨f,a,c,rfl⟩<;>simp only[eqGuard,binOp,Sem.run_bind,Sem.run_pure,Result.andThen_ok,he,cN,d5,ej]
def aiS{op:UnOp}{x v:V}{u:aR}(h:F7 op x=aA v)(hx:VR Z w j x u):∃r,(Op.unary op u).run P w = .ok r w/\VR Z w j v r:=by
 cases op<;>cases x<;>simp[F7]at h<;>first|(subst h;cases hx)|cases hx
 ·exact⟨.int _ _,by simp only[Op.unary,Op.intArith,Int.zero_sub];rfl,.int⟩
 ·simp only[sG,Option.some.injEq]at h;subst h;exact⟨_,by simp[Op.unary,Op.intBits],.int⟩
 ·exact⟨.bool _,by simp only[Op.unary];rfl,.bool⟩
def JD:∀{l:List V} {xs:List Int},iv l=aA xs->xs.length=l.length/\∀(i:Nat) (n:Int),xs[i]? = aA n->l[i]? = aA (.int bK n):=by
 intro l
 induction l with
 |nil=>intro xs h;cases h;grind
 |cons x l ih =>
  intro xs h;unfold iv at h;split at h
  ·grind
  ·rename_i n l' e;cases e;simp only[omi]at h;grind
  grind
def VC{s d e:aP}{l:List V}{v:V}{A:Option Addr}{c:Nat}(hs:(bO P) s=aA (.slice e))(hd:(bO P) d=aA .string)(h:wB P e l=aA v)
  (hel:l=[]∨∃g b sz,A=aA ⟨g,b,aF⟩/\0 < sz/\∀(k:Nat) (y:V),l[k]? = aA y->y.cells.length=sz/\fX Z w j0 g (b+k * sz) y.cells) :
  ∃r,(convert s d (.slice A l.length c)).run P w = .ok r w/\VR Z w j v r:=by
 unfold wB at h;split at h
 ·rename_i he;simp only[omi]at h;obtain⟨xs,h1,rfl⟩:=h;obtain⟨q1,q2⟩:=JD h1
  have key:(∀a,A=aA a->(loadCells a l.length).run P w = .ok (xs.map (Value.int bK)).toArray w)->(A=aF->l=[])->∃r,(convert s d (.slice A l.length c)).run P w = .ok r w/\VR Z w j (.str (xs.map λn=>UInt8.ofNat n.toNat)) r:=by
   intro hl hn;cases A with
   |none =>
    have e0:l=[]:=hn rfl;have:xs=[]:=wL (by grind);subst this;exact⟨_,run_convert_bytes_nil w s e hs he _ _ d hd,VR.str (s:=ByteArray.empty)⟩
   |some a =>
    refine⟨_,by rw[run_convert_bytes_string w s d e _ _ c hs he hd];exact run_bytesToString w a _ c xs (hl a rfl),?_⟩;rw[foldl_push_bytes];have:=VR.str (Z:=Z) (w:=w) (j:=j) (s:=(⟨ByteArray.empty.data++(xs.map λn=>UInt8.ofNat n.toNat).toArray⟩:ByteArray));simp_all
  rcases hel with rfl|⟨g,b,sz,rfl,hsz,hh⟩
  ·have:xs=[]:=wL q1;subst this;exact key (λa _=>run_loadCells_list (P:=P) w a [] (λj v hj=>by grind)) (λ_=>rfl)
  ·refine key (λa ha=>?_) (λh=>by cases h);cases ha
   have:=run_loadCells_list (P:=P) w ⟨g,b,aF⟩ (xs.map (Value.int bK)) (λi u hi=>by
    rw[gy]at hi;cases hx:xs[i]? with
    |none=>grind
    |some n =>
     simp[hx]at hi;subst hi;obtain⟨p1,p3⟩:=hh i _ (q2 i n hx);have e1:sz=1:=by rw[<-p1];rfl
     subst e1;obtain⟨_,u,hu,hv⟩:=p3 0 _ rfl;cases hv;rw[<-hu];have e2:(⟨g,b,aF⟩:Addr).add i=⟨g,b+i,aF⟩:=by unfold Addr.add;all_goals grind
     grind)
   grind
 grind
end
section
variable {P:bv}{Z Z':Zs}{w w':bg}{j j':J}{mem mem':List O}
def sF(g b n:Nat):(⟨g,b,aF⟩:Addr).add n=⟨g,b+n,aF⟩:=by unfold Addr.add;all_goals grind
def y5(s:SR P Z w j mem){id off fz:Nat}{t:aP}{els:List V}{u:aR}(hm:mem[id]? = aA (.row t els fz))(hv:VR Z w j (.tail id off) u) :
  off<=els.length/\VR Z w j (.win id off (els.length - off)) u:=by
 cases hv with
 |tail hj hn h =>
  obtain⟨hn',hh,h1,h2,h3,h4,h5⟩:=s.obj id _ hm;grind
def Vq{id off fz:Nat}{t:aP}{els:List V}(hm:mem[id]? = aA (.row t els fz))(hn:off<=els.length):dA mem (.win id off (els.length - off))=aA (els.drop off):=by
 simp only[dA,hm];rw[bc (by omega),zq (by simp)]
def Pz(s:SR P Z w j mem){x:V}{xs:List V}{u:aR}(h:dA mem x=aA xs)(hv:VR Z w j x u)(ht:∀id off,x≠.tail id off) :
  ∃A c,u = .slice A xs.length c/\(xs=[]∨∃g b sz,A=aA ⟨g,b,aF⟩/\0 < sz/\∀(k:Nat) (y:V),xs[k]? = aA y->y.cells.length=sz/\fX Z w j0 g (b+k * sz) y.cells):=by
 cases x with
 |nilS=>simp[dA]at h;subst h;cases hv;simp_all
 |sl l =>
  simp[dA]at h;subst h;rcases hv.slInv with⟨A,c,rfl,rfl⟩|⟨g,b,c,sz,rfl,_,hsz,hh⟩
  ·grind
  ·exact⟨_,_,rfl,.inr ⟨g,b,sz,rfl,hsz,λk y hk=>⟨(hh k y hk).1,(hh k y hk).2.2⟩⟩⟩
 |lit t l =>
  simp[dA]at h;subst h;cases hv with
  |lit hv =>
   rcases hv.slInv with⟨A,c,rfl,he⟩|⟨g,b,c,sz,he,_,hsz,hh⟩
   ·grind
   ·rw[he];exact⟨_,_,rfl,.inr ⟨g,b,sz,rfl,hsz,λk y hk=>⟨(hh k y hk).1,(hh k y hk).2.2⟩⟩⟩
 |own id =>
  simp only[dA]at h;cases hm:mem[id]? with
  |none=>grind
  |some o =>
   cases o<;>simp[hm]at h;subst h;rename_i t els fz;obtain⟨hn,hh,h1,h2,h3,h4,h5⟩:=s.obj id _ hm;cases hv with
   |own hj =>
    rw[hj]at hh;cases hh;rcases h5 with⟨hu,he⟩|⟨g,b,c,us,hu,_,_,_,_,hcells,_⟩
    ·grind
    ·cases hu;refine⟨_,_,rfl,.inr ⟨g,b,_,rfl,h2,λk y hk=>⟨h4 y (dH hk),hcells k y hk⟩⟩⟩
 |win id off len =>
  simp only[dA]at h;cases hm:mem[id]? with
  |none=>grind
  |some o =>
   cases o<;>simp[hm]at h;obtain⟨hle,rfl⟩:=h;rename_i t els fz;obtain⟨hn,hh,h1,h2,h3,h4,h5⟩:=s.obj id _ hm;cases hv with
   |win hj hn hlc _ ha =>
    rw[hj]at hh;cases hh;have hlen:((els.drop off).take len).length=len:=by grind
    rw[hlen];refine⟨_,_,rfl,?_⟩
    by_cases h0:len=0
    ·grind
    ·right;rcases h5 with⟨hu,he⟩|⟨g',b',c',us,hu,_,_,_,_,hcells,_⟩
     ·grind
     ·cases hu;obtain⟨g,b,o,hA,hA',_,ho⟩:=ha.resolve_left (λh=>by grind);have ho:=ho (by omega);subst ho;cases hA;refine⟨_,_,_,hA',h2,λk y hk=>?_⟩;grind
 |tail id off=>grind
 |_=>simp[dA]at h
def Xb{k:IntKind}{n:Int}{y d l:Nat}{code:BoundsCode}(h:gA (aA (aA (.int k n))) d=aA l)(hl:l<=y) :
  (Instr.sliceBound (.int k n) y code).run P w = .ok l w:=by
 simp only[gA]at h;split at h
 ·rename_i h0;cases h;have:n<=(y:Int):=by omega
  simp[Instr.sliceBound,asIntOf,h0,this]
 grind
def qt(Z:Zs)(w:bg)(j:J):Option (Option V)->Option aR->Prop
 |none,aF=>True
 |some (aA v),aA u=>VR Z w j v u
 |some aF,aA _=>True
 |_,_=>False
def aix(s:SR P Z w j mem){id off:Nat}{xs:List V}{u:aR}(h:dA mem (.tail id off)=aA xs)(hv:VR Z w j (.tail id off) u) :
  ∃len,dA mem (.win id off len)=aA xs/\VR Z w j (.win id off len) u:=by
 simp only[dA]at h;cases hm:mem[id]? with
 |none=>grind
 |some o =>
  cases o<;>simp[hm]at h;subst h;obtain⟨h1,h2⟩:=y5 s hm hv;exact⟨_,Vq hm h1,h2⟩
def uY(s:SR P Z w j mem){x:V}{xs:List V}{u:aR}(h:dA mem x=aA xs)(hv:VR Z w j x u) :
  ∃A c,u = .slice A xs.length c/\(xs=[]∨∃g b sz,A=aA ⟨g,b,aF⟩/\0 < sz/\∀(k:Nat) (y:V),xs[k]? = aA y->y.cells.length=sz/\fX Z w j0 g (b+k * sz) y.cells):=by
 by_cases ht:∃id off,x = .tail id off
 ·obtain⟨id,off,rfl⟩:=ht;obtain⟨len,h1,h2⟩:=aix s h hv;exact Pz s h1 h2 (by grind)
 ·exact Pz s h hv (λid off e=>ht ⟨id,off,e⟩)
def Nu{isSlice:Bool}{len cap l h m:Nat}{lo hi mx:Option (Option V)}{lo' hi' mx':Option aR}(hlo:qt Z w j lo lo')(hhi:qt Z w j hi hi')(hmx:qt Z w j mx mx')
  (h1:gA lo 0=aA l) (h2:gA hi len=aA h) (h3:gA mx len=aA m) (hlh:l<=h) (hhm:h<=m) (hml:m<=len) (hlc:len<=cap) (hh:mx.isSome=aD->hi.isSome=aD) :
  ∃m',(Instr.sliceBounds isSlice len cap lo' hi' mx').run P w = .ok (l,h,m') w/\m'<=cap/\h<=m'/\(mx=aF->m'=cap):=by
 have val:∀(o:Option (Option V)) (o':Option aR) (d r:Nat),qt Z w j o o'->gA o d=aA r->(o=aF/\o'=aF/\r=d)∨∃k n,o=aA (aA (.int k n))/\o'=aA (.int k n):=by
  intro o o' d r hr hb;cases o with
  |none=>cases o' with
   |none=>simp[gA]at hb;grind
   |some u=>exact hr.elim
  |some v=>cases o' with
   |none=>cases v<;>exact hr.elim
   |some u=>cases v with
    |none=>simp[gA]at hb
    |some v =>
     cases v<;>simp[gA]at hb;simp only[qt]at hr;cases hr;grind
 have eb:∀(o:Option (Option V)) (k:IntKind) (n:Int) (d r:Nat),o=aA (aA (.int k n))->gA o d=aA r->∀(y:Nat) (code:BoundsCode),r<=y->(Instr.sliceBound (.int k n) y code).run P w = .ok r w:=by
  intro o k n d r ho hb y code hy;subst ho;exact Xb hb hy
 unfold Instr.sliceBounds;rcases val mx mx' len m hmx h3 with⟨rfl,rfl,rfl⟩|⟨km,nm,rfl,rfl⟩
 ·rcases val hi hi' m h hhi h2 with⟨rfl,rfl,rfl⟩|⟨kh,nh,rfl,rfl⟩
  ·rcases val lo lo' 0 l hlo h1 with⟨rfl,rfl,rfl⟩|⟨kl,nl,rfl,rfl⟩
   ·simp_all
   ·have e:=eb _ kl nl 0 l rfl h1;simp_all
  ·have e2:=eb _ kh nh m h rfl h2;rcases val lo lo' 0 l hlo h1 with⟨rfl,rfl,rfl⟩|⟨kl,nl,rfl,rfl⟩
   ·exact⟨cap,by cases isSlice<;>simp[e2 cap _ (by omega)],by omega,by omega,λ_=>rfl⟩
   ·have e:=eb _ kl nl 0 l rfl h1;exact⟨cap,by cases isSlice<;>simp[e h _ hlh,e2 cap _ (by omega)],by omega,by omega,λ_=>rfl⟩
 ·have e3:=eb _ km nm len m rfl h3;rcases val hi hi' len h hhi h2 with⟨rfl,rfl,rfl⟩|⟨kh,nh,rfl,rfl⟩
  ·grind
  ·have e2:=eb _ kh nh len h rfl h2;rcases val lo lo' 0 l hlo h1 with⟨rfl,rfl,rfl⟩|⟨kl,nl,rfl,rfl⟩
   ·exact⟨m,by simp[e2 m _ hhm,e3 cap _ (by omega)],by omega,by omega,λh=>by cases h⟩
   ·have e:=eb _ kl nl 0 l rfl h1;exact⟨m,by simp[e h _ hlh,e2 m _ hhm,e3 cap _ (by omega)],by omega,by omega,λh=>by cases h⟩
def abo(s:ByteArray)(l h:Nat):(s.extract l h).data.toList=(s.data.toList.take h).drop l:=by
 simp[ByteArray.data_extract,List.extract_eq_take_drop,List.drop_take]
def LU(s:SR P Z w j mem){x:V}{xs:List V}{A:Option Addr}{n c:Nat}(h:dA mem x=aA xs)(hv:VR Z w j x (.slice A n c)):n<=c:=by
 cases x with
 |nilS=>cases hv;omega
 |sl l =>
  rcases hv.slInv with⟨A,c,_,he⟩|⟨g,b,c,sz,he,hlc,_⟩
  all_goals grind
 |lit t l =>
  cases hv with
  |lit hv =>
   grind
 |own id =>
  simp only[dA]at h;cases hm:mem[id]? with
  |none=>grind
  |some o =>
   cases o<;>simp[hm]at h;obtain⟨hn,hh,h1,h2,h3,h4,h5⟩:=s.obj id _ hm;cases hv with
   |own hj =>
    grind
 |win id off len=>cases hv with
  |win _ _ hlc _ _=>grind
 |tail id off=>cases hv with
  |tail _ _ h2=>cases h2 with
   |win _ _ hlc _ _=>grind
 |_=>simp[dA]at h
def ahQ(s:SR P Z w j mem){t:aP}{x v:V}{u:aR}{lo hi mx:Option (Option V)}{lo' hi' mx':Option aR}(h:lL P mem t x lo hi mx=aA v)(hv:VR Z w j x u)
  (hlo:qt Z w j lo lo') (hhi:qt Z w j hi hi') (hmx:qt Z w j mx mx'):∃r,(Instr.sliceAt t u lo' hi' mx').run P w = .ok r w/\VR Z w j v r:=by
 unfold lL at h;cases hu:(bO P) t with
 |none=>grind
 |some d =>
  rw[hu]at h;cases d<;>first|(simp at h;done)|skip
  case string =>
   cases x<;>simp only at h<;>first|(cases h;done)|skip
   cases hv;rename_i sb;split at h
   ·cases h
   ·rename_i hm0;cases hl:gA lo 0 with
    |none=>grind
    |some l =>
     cases hh:gA hi sb.data.toList.length with
     |none=>grind
     |some hh' =>
      simp only[hl,hh,bu]at h;split at h
      ·rename_i hc;cases h;cases mx with
       |some y=>grind
       |none =>
        cases mx' with
        |some y=>exact hmx.elim
        |none =>
         obtain⟨m',hr,hm1,hm2,_⟩:=Nu (P:=P) (isSlice:=aE) (len:=sb.size) (cap:=sb.size) (mx:=aF) (mx':=aF) hlo hhi True.intro hl hh (by rfl:gA aF sb.size=aA sb.size) hc.1 hc.2 (cZ _) (cZ _) (by simp);refine⟨.string (sb.extract l hh'),?_,?_⟩
         ·simp[Instr.sliceAt,Instr.slice,dP hu,hr]
         ·rw[<-abo];exact .str
      grind
  case slice e =>
   cases hx:dA mem x with
   |none=>grind
   |some xs =>
    simp only[hx,bu]at h;cases hl:gA lo 0 with
    |none=>grind
    |some l =>
     cases hh:gA hi xs.length with
     |none=>grind
     |some hh' =>
      cases hm:gA mx xs.length with
      |none=>grind
      |some m =>
       simp only[hl,hh,hm,bu]at h;split at h
       ·rename_i hc;obtain⟨hpos,hlh,hhm,hml,hmh,hall⟩:=hc
        have hinfo:∃i,P.info? e=aA i/\i.size=(aK P) e:=by
         cases hi:P.info? e with
         |none=>simp[aK,hi]at hpos
         |some i=>exact⟨i,rfl,by simp[aK,hi]⟩
        obtain⟨i,hinf,hisz⟩:=hinfo;obtain⟨A,c,rfl,hel⟩:=uY s hx hv;have hle:xs.length<=c:=LU s hx hv;obtain⟨m',hr,hm1,hm2,hm3⟩:=Nu (P:=P) (isSlice:=aD) hlo hhi hmx hl hh hm hlh hhm hml hle hmh
        have hrun:(Instr.sliceAt t (.slice A xs.length c) lo' hi' mx').run P w = .ok (.slice (if m'=l then A else A.map (·.add (l * (aK P) e))) (hh' - l) (m' - l)) w:=by
         simp[Instr.sliceAt,Instr.slice,dP hu,hr,sizeOf,ij,hinf,hisz]
        have hA:0 < hh' - l->∃g b,A=aA ⟨g,b,aF⟩/\(if m'=l then A else A.map (·.add (l * (aK P) e)))=aA ⟨g,b+l * (aK P) e,aF⟩/\∀(k:Nat) (y:V),xs[k]? = aA y->y.cells.length=(aK P) e/\fX Z w j0 g (b+k * (aK P) e) y.cells:=by
         intro h0;rcases hel with rfl|⟨g,b,sz,rfl,hsz,hcl⟩
         ·grind
         ·have h1:xs[l]? = aA (xs[l]'(by omega)):=cI (by omega)
          have h2:sz=(aK P) e:=by
           grind
          subst h2;refine⟨g,b,rfl,?_,hcl⟩;rw[bh (by omega)];simp[sF]
        refine⟨_,hrun,?_⟩;cases x<;>simp only at h<;>first|(cases h;done)|skip
        case nilS =>
         cases h;simp[dA]at hx;subst hx;cases hv;simp at hml hm1;have e1:hh'=0:=by omega
         have e2:l=0:=by omega
         have e3:m'=0:=by omega
         subst e1 e2 e3;simpa using VR.nilS
        case sl l0 =>
         simp[dA]at hx;subst hx;cases h
         by_cases h0:0 < hh' - l
         ·obtain⟨g,b,hA1,hA2,hcl⟩:=hA h0;rw[hA2];rcases hv.slInv with⟨_,_,rfl,_⟩|⟨g',b',c',sz,he,_,hsz,hz⟩
          ·grind
          ·rw[hA1]at he;simp at he;obtain⟨⟨rfl,rfl⟩,rfl⟩:=he;have e4:hh' - l=((l0.take hh').drop l).length:=by grind
           rw[e4];have h1:l0[l]? = aA (l0[l]'(by omega)):=cI (by omega);have h2:sz=(aK P) e:=by grind
           subst h2;refine VR.slMk (by grind) hsz λk y hk=>?_
           grind
         ·have e4:(l0.take hh').drop l=[]:=by grind
          rw[e4,show hh' - l=0 by omega];exact .sl0
        case own id =>
         split at h
         ·rename_i e' els fz hmem;cases mx<;>simp at h;obtain⟨rfl,h⟩:=h;have hm':=hm3 rfl;obtain⟨hn,hh2,h1,h2,h3,h4,h5⟩:=s.obj id _ hmem;cases hv with
          |own hj =>
           rw[hj]at hh2;cases hh2;simp only at h1
           have hw:VR Z w j (.win id l (hh' - l)) (.slice (if m'=l then A else A.map (·.add (l * (aK P) e'))) (hh' - l) (m' - l)):=by
            refine .win hj (by omega) (by omega) (by omega) ?_;rcases h5 with⟨h5,_⟩|⟨g,b,c',us,h5,_⟩
            ·grind
            ·simp only[Value.slice.injEq]at h5;obtain⟨rfl,_⟩:=h5;refine .inr ⟨g,b,if m'=l then 0 else l * (aK P) e',rfl,?_,?_,?_⟩
             ·split<;>simp[sF]
             all_goals grind
           cases hi0:hi with
           |some y=>grind
           |none =>
            rw[hi0]at h hh;simp at h;subst h;simp only[gA,Option.some.injEq]at hh;subst hh;exact .tail hj (by omega) hw
         grind
        case win id off len =>
         split at h
         ·rename_i e' els fz hmem;cases mx<;>simp at h;obtain⟨rfl,rfl⟩:=h;have hm':=hm3 rfl;obtain⟨hn',hh2,h1,h2,h3,h4,h5⟩:=s.obj id _ hmem;cases hv with
          |win hj hn hlc hcc ha =>
           rw[hj]at hh2;cases hh2;simp only at h1;refine .win hj (by omega) (by omega) (by omega) ?_;rcases ha with⟨hA1,rfl⟩|⟨g,b,o,hA1,rfl,ho1,ho2⟩
           ·grind
           ·refine .inr ⟨g,b,o+if m'=l then 0 else l * (aK P) e',hA1,?_,?_,?_⟩
            ·split<;>simp[sF,ky]
            all_goals grind
         grind
        case tail id off =>
         split at h
         ·rename_i e' els fz hmem;cases mx<;>simp at h;obtain⟨rfl,h⟩:=h;have hm':=hm3 rfl;obtain⟨hn',hh2,h1,h2,h3,h4,h5⟩:=s.obj id _ hmem;have hxs:xs=els.drop off:=by simp only[dA,hmem,Option.some.injEq]at hx;grind
          obtain⟨ho0,hwv⟩:=y5 s hmem hv
          obtain⟨At,nt,ct,szt,hjt,hnt⟩:∃A0 n0 c0 sz0,j id=aA ⟨.slice A0 n0 c0,sz0⟩/\off<=n0:=by
           cases hv with
           |tail hj hn _=>grind
          rw[hjt]at hh2;cases hh2
          have hnt2:nt=els.length:=by
           grind
          have hxl:xs.length=els.length - off:=by grind
          have hw:VR Z w j (.win id (off+l) (hh' - l)) (.slice (if m'=l then A else A.map (·.add (l * (aK P) e'))) (hh' - l) (m' - l)):=by
           rw[<-hxl]at hwv;cases hwv with
           |win hj hn hlc hcc ha =>
            rw[hjt]at hj;cases hj;simp only at h1;refine .win hjt (by omega) (by omega) (by omega) ?_;rcases ha with⟨hA1,rfl⟩|⟨g,b,o,hA1,rfl,ho1,ho2⟩
            ·grind
            ·refine .inr ⟨g,b,o+if m'=l then 0 else l * (aK P) e',hA1,?_,?_,?_⟩
             ·split<;>simp[sF,ky]
             all_goals grind
          cases hi0:hi with
          |some y=>grind
          |none =>
           rw[hi0]at h hh;simp at h;subst h;simp only[gA,Option.some.injEq]at hh;refine .tail hjt (by omega) ?_;grind
         grind
       grind
def abq{st:aP}{x v:V}{u:aR}{f:Nat}(h:DU P st x f=aA v)(hv:VR Z w j x u):∃r,(Instr.fieldAt st u f).run P w = .ok r w/\VR Z w j v r:=by
 unfold DU xB at h;cases hu:(bO P) st with
 |none=>grind
 |some d =>
  cases d<;>simp only[hu]at h<;>first|(simp at h;done)|skip
  rename_i fs;cases hf:fs[f]? with
  |none=>grind
  |some fl =>
  simp only[hf,dy,bu]at h;split at h
  ·cases h
  rename_i h0
  have hinfo:∃i,P.info? fl.type=aA i/\i.size≠0:=by
   cases hi:P.info? fl.type with
   |none=>simp[aK,hi]at h0
   |some i=>exact⟨i,rfl,by simpa[aK,hi]using h0⟩
  obtain⟨i,hi,hi0⟩:=hinfo
  have run:∀g b,(Instr.fieldAt st (.pointer (aA ⟨g,b,aF⟩)) f).run P w = .ok (.pointer (aA ⟨g,b+fl.offset,aF⟩)) w:=by
   intro g b;simp[Instr.fieldAt,dP hu,hf,Instr.sureAddr,fieldPlace,sizeOf,ij,hi,hi0,sF]
  cases x<;>simp at h<;>subst h
  ·cases hv with
   |ref f' hc hvv =>
    refine⟨_,run _ _,?_⟩;rw[ky];exact .ref f' hc hvv
  ·cases hv with
   |ptr hj hs =>
    refine⟨_,run _ _,?_⟩;rw[ky,ky];exact .ptr hj hs
  ·cases hv with
   |hp hg=>exact⟨_,run _ _,.hp hg⟩
def Kr{h:cO}{t:aP}{els:List V}{fz:Nat}(r:lV P Z w h t els fz){A:Option Addr}{n c:Nat}(hu:h.u = .slice A n c)(h0:0 < els.length) :
  n=els.length/\n<=c/\∃g b,A=aA ⟨g,b,aF⟩/\h.start=aA (g,b):=by
 rcases r.2.2.2.2 with⟨_,he⟩|⟨g,b,c',us,hu',hlc,_⟩
 ·grind
 ·rw[hu]at hu';cases hu';refine⟨rfl,hlc,g,b,rfl,?_⟩;cases h;simp at hu;subst hu;rfl
def acH(s:SR P Z w j mem){t:aP}{x i v:V}{u ui:aR}(h:j8 P mem t x i=aA v)(hv:VR Z w j x u)(hi:VR Z w j i ui) :
  ∃r,(Instr.indexAt t u ui).run P w = .ok r w/\VR Z w j v r:=by
 unfold j8 at h;cases hu:(bO P) t with
 |none=>grind
 |some d =>
  cases i<;>(try (simp[hu]at h;done))<;>(try (cases d<;>simp[hu]at h;done));rename_i k n;cases hi;cases d<;>simp only[hu]at h<;>first|(cases h;done)|skip
  case slice e =>
   split at h
   ·rename_i hn0
    have run:∀g b len c,n.toNat < len->0 < (aK P) e->(Instr.indexAt t (.slice (aA ⟨g,b,aF⟩) len c) (.int k n)).run P w = .ok (.pointer (aA ⟨g,b+n.toNat * (aK P) e,aF⟩)) w:=by
     intro g b len c bf hpos
     have hinfo:∃i,P.info? e=aA i/\i.size=(aK P) e:=by
      cases hi:P.info? e with
      |none=>simp[aK,hi]at hpos
      |some i=>exact⟨i,rfl,by simp[aK,hi]⟩
     obtain⟨i,hi,hisz⟩:=hinfo;have h1:n < (len:Int):=by omega
     simp[Instr.indexAt,asIntOf,dP hu,hn0,h1,sizeOf,ij,hi,hisz,sF]
    cases x<;>simp only at h<;>first|(cases h;done)|skip
    case sl l =>
     cases hl:l[n.toNat]? with
     |none=>grind
     |some y =>
      simp[hl]at h;obtain⟨hy,rfl⟩:=h;have bf:n.toNat < l.length:=(cE.1 hl).1;rcases hv.slInv with⟨_,_,rfl,_⟩|⟨g,b,c,sz,rfl,hlc,hsz,hh⟩
      ·grind
      ·obtain⟨h1,h2,h3⟩:=hh _ y hl;have e1:sz=(aK P) e:=by omega
       subst e1;refine⟨_,run g b _ c bf hsz,?_⟩;have:=VR.refMk (Z:=Z) (w:=w) (j:=j) (x:=y) (off:=0) (g:=g) (b:=b+n.toNat * (aK P) e) (λi hi=>by grind) h3;grind
    case own id =>
     cases hm:mem[id]? with
     |none=>grind
     |some o =>
      cases o<;>simp[hm]at h;rename_i t' els fz;obtain⟨⟨rfl,bf⟩,rfl⟩:=h;obtain⟨hn,hh,hr⟩:=s.obj id _ hm;cases hv with
      |own hj =>
       rw[hj]at hh;cases hh;obtain⟨e1,e2,g,b,rfl,hst⟩:=Kr hr rfl (by omega);subst e1;have h1:=hr.1;simp only at h1;refine⟨_,run g b _ _ bf (by have:=hr.2.1;grind),?_⟩;have:=VR.ptr (Z:=Z) (w:=w) (k:=n.toNat) (off:=0) hj hst;grind
    case win id off len =>
     cases hm:mem[id]? with
     |none=>grind
     |some o =>
      cases o<;>simp[hm]at h;rename_i t' els fz;obtain⟨⟨rfl,bf,hle⟩,rfl⟩:=h;obtain⟨hn,hh,hr⟩:=s.obj id _ hm;cases hv with
      |win hj hnn hlc _ ha =>
       rw[hj]at hh;cases hh;obtain⟨e1,e2,g,b,rfl,hst⟩:=Kr hr rfl (by omega);obtain⟨g',b',o,hA,hA',_,ho⟩:=ha.resolve_left (λh=>by grind);have ho:=ho (by omega);subst ho;cases hA;subst hA';have h1:=hr.1;simp only at h1;refine⟨_,run g _ _ _ bf (by have:=hr.2.1;grind),?_⟩;have:=VR.ptr (Z:=Z) (w:=w) (k:=off+n.toNat) (off:=0) hj hst;grind
    case tail id off =>
     cases hm:mem[id]? with
     |none=>grind
     |some o =>
      cases o<;>simp only[hm]at h<;>first|(cases h;done)|skip
      rename_i t' els fz;split at h
      ·rename_i hc;obtain⟨rfl,bf⟩:=hc;cases h;obtain⟨ho0,hwv⟩:=y5 s hm hv;rw[lh]at bf;obtain⟨hn,hh,hr⟩:=s.obj id _ hm;cases hwv with
       |win hj hnn hlc _ ha =>
        rw[hj]at hh;cases hh;obtain⟨e1,e2,g,b,rfl,hst⟩:=Kr hr rfl (by omega);obtain⟨g',b',o,hA,hA',_,ho⟩:=ha.resolve_left (λh=>by grind);have ho:=ho (by omega);subst ho;cases hA;subst hA';have h1:=hr.1;simp only at h1;refine⟨_,run g _ _ _ bf (by have:=hr.2.1;grind),?_⟩;have:=VR.ptr (Z:=Z) (w:=w) (k:=off+n.toNat) (off:=0) hj hst;grind
      grind
   grind
  case array len e =>
   split at h
   ·rename_i hc
    have run:∀g b,0 < (aK P) e->(Instr.indexAt t (.pointer (aA ⟨g,b,aF⟩)) (.int k n)).run P w = .ok (.pointer (aA ⟨g,b+n.toNat * (aK P) e,aF⟩)) w:=by
     intro g b hpos
     have hinfo:∃i,P.info? e=aA i/\i.size=(aK P) e:=by
      cases hi:P.info? e with
      |none=>simp[aK,hi]at hpos
      |some i=>exact⟨i,rfl,by simp[aK,hi]⟩
     obtain⟨i,hi,hisz⟩:=hinfo;have h1:n < (len:Int):=by omega
     simp[Instr.indexAt,asIntOf,dP hu,Instr.sureAddr,hc.1,h1,sizeOf,ij,hi,hisz,sF]
    cases x<;>simp only at h<;>first|(cases h;done)|skip
    ·cases h;cases hv with
     |ref f' hcc hvv =>
      refine⟨_,run _ _ hc.2.2,?_⟩;rw[ky];exact .ref f' hcc hvv
    ·cases h;cases hv with
     |ptr hj hs =>
      refine⟨_,run _ _ hc.2.2,?_⟩;rw[ky,ky];exact .ptr hj hs
   grind
end
section
variable {P:bv}{Z Z':Zs}{w w':bg}{j j':J}{mem mem':List O}
def LR(Z:Zs)(w:bg)(j:J)(cs:List V)(us:Array aR):Prop :=
 us.size=cs.length/\∀(i:Nat) (c:V),cs[i]? = aA c->∃u,us[i]? = aA u/\VR Z w j c u
def LR.of{cs:List V}{us:List aR}(hl:cs.length=us.length)(h:∀(i:Nat) (c:V) (u:aR),cs[i]? = aA c->us[i]? = aA u->VR Z w j c u):LR Z w j cs us.toArray:=by
 refine⟨by grind,λi c hc=>?_⟩;have hi:i < cs.length:=(cE.1 hc).1;exact⟨us[i]'(by omega),by simp,h i c _ hc (cI (by omega))⟩
def LR.aggMk{cs:List V}{us:Array aR}(h:LR Z w j cs us):VR Z w j (.agg cs) (.agg us):=by
 have e:us=us.toList.toArray:=by simp
 rw[e];refine .agg (by simpa using h.1.symm) λi c u hc hu=>?_
 obtain⟨u',hu',hv⟩:=h.2 i c hc;grind
def VR.aggInv{cs:List V}{u:aR}(h:VR Z w j (.agg cs) u):∃us,u = .agg us/\LR Z w j cs us:=by
 cases h with
 |agg hl hh=>exact⟨_,rfl,LR.of hl hh⟩
def VR.tupInv{cs:List V}{u:aR}(h:VR Z w j (.tup cs) u):∃us,u = .tuple us/\LR Z w j cs us:=by
 cases h with
 |tup hl hh=>exact⟨_,rfl,LR.of hl hh⟩
def LR.extract{cs:List V}{us:Array aR}(h:LR Z w j cs us){off n:Nat}(hl:((cs.drop off).take n).length=n):LR Z w j ((cs.drop off).take n) (us.extract off (off+n)):=by
 have h1:=h.1;simp at hl;refine⟨by grind,λi c hc=>?_⟩;rw[kx]at hc;split at hc
 ·rw[i6]at hc;obtain⟨u,hu,hv⟩:=h.2 _ c hc;grind
 grind
def SD{t:aP}{cs:List V}{us:Array aR}{off:Nat}{v:V}(h:rp P t cs off=aA v)(hr:LR Z w j cs us):∃r,(part t us off).run P w = .ok r w/\VR Z w j v r:=by
 unfold rp at h;simp only at h;split at h
 ·rename_i hlen;unfold pP at h;cases hu:(bO P) t with
  |none=>grind
  |some d =>
   obtain⟨i,hi,hsz,_⟩:=I7 hu;have ex:=hr.extract hlen
   have agg:xJ d=aD->v = .agg ((cs.drop off).take ((aK P) t))->∃r,(part t us off).run P w = .ok r w/\VR Z w j v r:=by
    intro hd hv;subst hv;refine⟨.agg (us.extract off (off+(aK P) t)),?_,ex.aggMk⟩;cases d<;>first|(simp[xJ]at hd;done)|simp[part,isAgg,dP hu,sizeOf,ij,hi,hsz]
   have one:xJ d=aE->ug ((cs.drop off).take ((aK P) t))=aA v->∃r,(part t us off).run P w = .ok r w/\VR Z w j v r:=by
    intro hd hv;unfold ug at hv;split at hv
    ·cases hv;rename_i c he
     have h0:cs[off]? = aA v:=by
      have h9:((cs.drop off).take ((aK P) t))[0]? = aA v:=by grind
      grind
     obtain⟨u,hu',hvv⟩:=hr.2 off v h0;exact⟨u,Ku hu hd hu',hvv⟩
    grind
   cases d<;>simp only[hu]at h<;>first|(cases h;exact agg rfl rfl)|exact one rfl h
 grind
def abr{st:aP}{cs:List V}{u:aR}{f off:Nat}{t:aP}{v:V}(hf:xB P st f=aA (off,t))(h:rp P t cs off=aA v)(hv:VR Z w j (.agg cs) u) :
  ∃r,(Instr.field st u f).run P w = .ok r w/\VR Z w j v r:=by
 obtain⟨us,rfl,hr⟩:=hv.aggInv;unfold xB at hf;cases hu:(bO P) st with
 |none=>grind
 |some d =>
  cases d<;>simp[hu]at hf;obtain⟨fl,hf,rfl,rfl⟩:=hf;obtain⟨r,h1,h2⟩:=SD h hr;exact⟨r,by simp[Instr.field,dP hu,hf,asAgg,h1],h2⟩
def acK{t:aP}{x i v:V}{u ui:aR}(h:qR P t x i=aA v)(hv:VR Z w j x u)(hi:VR Z w j i ui):∃r,(Instr.index t u ui).run P w = .ok r w/\VR Z w j v r:=by
 unfold qR at h;split at h
 ·rename_i s k n hu;cases hv;cases hi;rename_i sb;split at h
  ·rename_i h0;cases hb:sb.data.toList[n.toNat]? with
   |none=>grind
   |some b =>
    simp[hb]at h;subst h;have bf:n.toNat < sb.size:=by have:=(cE.1 hb).1;simp_all
    have hg:sb[n.toNat]? = aA b:=by
     rw[getElem?_pos sb n.toNat bf];congr 1;simp at hb;rw[gG (by grind)]at hb;have hb':=Option.some.inj hb;exact hb'
    exact⟨.int bK (b.toNat:Int),by simp[Instr.index,asIntOf,dP hu,h0,hg],.int⟩
  grind
 ·rename_i len e cs k n hu;cases hi;split at h
  ·rename_i hc;obtain⟨us,rfl,hr⟩:=hv.aggInv;have hc1:n < (len:Int):=by omega
   have hpos:∃i,P.info? e=aA i/\i.size=(aK P) e:=by
    unfold rp pP at h;simp only at h;split at h
    ·cases hu':(bO P) e with
     |none=>grind
     |some d=>obtain⟨i,hi,hs,_⟩:=I7 hu';grind
    grind
   obtain⟨i,hi,hisz⟩:=hpos;obtain⟨r,h1,h2⟩:=SD h hr;exact⟨r,by simp[Instr.index,asIntOf,dP hu,hc.1,hc1,sizeOf,ij,hi,hisz,h1],h2⟩
  grind
 grind
def ads(s:SR P Z w j mem){t ty:aP}{x v:V}{u:aR}{ts:Array aP}{us:Array aR}(ht:ts[0]? = aA t)(hu0:us[0]? = aA u)(h:nH P mem t x=aA v)(hv:VR Z w j x u) :
  ∃r,(Builtin.len_ ts ty us).run P w = .ok r w/\VR Z w j v r:=by
 unfold nH at h;split at h
 ·rename_i hu;cases h;cases hv;rename_i sb;exact⟨goInt (sb.size:Int),by simp[Builtin.len_,ht,hu0,dP hu],.int⟩
 ·rename_i n e hu;cases h;exact⟨goInt n,by cases u<;>simp[Builtin.len_,ht,hu0,dP hu],.int⟩
 ·rename_i y _ _ e hu;cases hx:dA mem y with
  |none=>grind
  |some xs =>
   simp only[hx,dy]at h;cases h;obtain⟨A,c,rfl,_⟩:=uY s hx hv;exact⟨goInt xs.length,by simp[Builtin.len_,ht,hu0,dP hu],.int⟩
 ·rename_i x _ _ k e hu;cases hm:gO mem x with
  |none=>grind
  |some es =>
   simp only[hm,dy]at h;cases h;obtain⟨r,rfl,es',clock,h2,h3,_⟩:=Ey s hm hv;refine⟨goInt es'.size,?_,by rw[h3];exact .int⟩;simp[Builtin.len_,ht,hu0,dP hu,getObj,Sem.run,h2]
 grind
def ad9{a b v:V}{u u':aR}(h:min2 a b=aA v)(ha:VR Z w j a u)(hb:VR Z w j b u'):∃r,(Builtin.min2 u u').run P w = .ok r w/\VR Z w j v r:=by
 cases a<;>cases b<;>simp[min2]at h
 ·obtain⟨rfl,rfl⟩:=h;cases ha;cases hb;exact⟨_,rfl,.int⟩
 ·subst h;cases ha;cases hb;rename_i s t;refine⟨.string (if Op.bytesLess s.data.toList t.data.toList ||s.data.toList==t.data.toList then s else t),by simp[Builtin.min2,Op.stringOp,asBool,wC],?_⟩;cases h:(Op.bytesLess s.data.toList t.data.toList ||s.data.toList==t.data.toList)<;>simp at h<;>simp[h]<;>exact .str
def ad1{a b v:V}{u u':aR}(h:max2 a b=aA v)(ha:VR Z w j a u)(hb:VR Z w j b u'):∃r,(Builtin.max2 u u').run P w = .ok r w/\VR Z w j v r:=by
 cases a<;>cases b<;>simp[max2]at h
 ·obtain⟨rfl,rfl⟩:=h;cases ha;cases hb;exact⟨_,rfl,.int⟩
 ·subst h;cases ha;cases hb;rename_i s t;refine⟨.string (if !(Op.bytesLess s.data.toList t.data.toList) then s else t),by simp[Builtin.max2,Op.stringOp,asBool,wC],?_⟩;cases Op.bytesLess s.data.toList t.data.toList<;>exact .str
def Qc{f:V->V->Option V}{g:aR->aR->Sem aR}(hf:∀(a b v:V) (u u':aR),f a b=aA v->VR Z w j a u->VR Z w j b u'->∃r,(g u u').run P w = .ok r w/\VR Z w j v r) :
  ∀(xs:List V) (us:List aR) (x v:V) (u:aR),vi f x xs=aA v->VR Z w j x u->us.length=xs.length->(∀(i:Nat) (c:V) (u:aR),xs[i]? = aA c->us[i]? = aA u->VR Z w j c u) ->
   ∃r,(us.foldlM g u).run P w = .ok r w/\VR Z w j v r:=by
 intro xs
 induction xs with
 |nil =>
  intro us x v u h hx hl _;simp[vi]at h;simp_all
 |cons y ys ih =>
  intro us x v u h hx hl hh;cases us with
  |nil=>grind
  |cons u1 us =>
   simp only[vi]at h;cases h1:f x y with
   |none=>grind
   |some z =>
    simp[h1]at h;obtain⟨r,hr,hv⟩:=hf x y z u u1 h1 hx (hh 0 y u1 rfl rfl);obtain⟨r2,hr2,hv2⟩:=ih us z v r h hv (by grind) (λi c u hc hu=>hh (i+1) c u (by grind) (by grind));simp_all
def abE{cs:Array aR}{off:Nat}(vs:List aR):∀(k:Nat) (acc:Array aR),acc.size=cs.size->(∀i,acc[i]? = if off<=i/\i < off+k then vs[i - off]? else cs[i]?) ->
  k<=vs.length->off+vs.length<=cs.size ->
  (((vs.drop k).zipIdx k).foldl (λa (x:aR × Nat)=>a.setIfInBounds (off+x.2) x.1) acc).size=cs.size /\
  ∀i,(((vs.drop k).zipIdx k).foldl (λa (x:aR × Nat)=>a.setIfInBounds (off+x.2) x.1) acc)[i]? = if off<=i/\i < off+vs.length then vs[i - off]? else cs[i]?:=by
 intro k;generalize hn:vs.length - k=n
 induction n generalizing k with
 |zero =>
  intro acc hsz hacc hk hle;have e:vs.drop k=[]:=B6 (by omega);rw[e];refine⟨hsz,λi=>?_⟩;simp only[List.zipIdx_nil,List.foldl_nil];grind
 |succ n ih =>
  intro acc hsz hacc hk hle;have hk':k < vs.length:=by omega
  rw[sd hk'];simp only[List.zipIdx_cons,List.foldl_cons];refine ih (k+1) (by omega) _ (by grind) (λi=>?_) (by omega) hle;rw[Mp]
  by_cases hi:off+k=i
  ·subst hi;rw[bc rfl,bc (by omega),bc (by omega)];simp_all
  ·rw[bh hi,hacc i]
   by_cases h1:off<=i/\i < off+k
   ·grind
   ·rw[bh h1,bh (by omega)]
def PR(Z:Zs)(w:bg)(j:J):List (Nat × V)->List (Nat × aR)->Prop
 | [],[]=>True
 |(i,v)::ps,(k,u)::qs=>i=k/\VR Z w j v u/\PR Z w j ps qs
 |_,_=>False
def SF{env:List V}{ρ:fD->aR}(hρ:∀x v,bB env x=aA v->VR Z w j v (ρ x)):∀(l:List (Nat × fD)) (ps:List (Nat × V)),cD (pU env) l=aA ps->PR Z w j ps (l.map λp=>(p.1,ρ p.2)):=by
 intro l
 induction l with
 |nil=>intro ps h;simp[cD]at h;subst h;trivial
 |cons p l ih =>
  intro ps h;simp only[cD,pU]at h;cases h1:bB env p.2 with
  |none=>grind
  |some v =>
   cases h2:cD (pU env) l with
   |none=>grind
   |some qs =>
    simp[h1,h2]at h;subst h;exact⟨rfl,hρ _ _ h1,ih _ h2⟩
def pT{v:V}(h:v.cells.all V.one=aD):∀y∈v.cells,y.one=true:=e9.1 h
def PW{place:Nat->Option (Nat × Nat)}:∀(ps:List (Nat × V)) (qs:List (Nat × aR)) (cs out:List V) (us:Array aR),sZ place cs ps=aA out->PR Z w j ps qs->LR Z w j cs us ->
  ∃us',Instr.fill place us qs=aA us'/\LR Z w j out us':=by
 intro ps
 induction ps with
 |nil =>
  intro qs cs out us h hp hr;cases qs with
  |nil=>simp[sZ]at h;subst h;exact⟨us,rfl,hr⟩
  |cons _ _=>exact hp.elim
 |cons p ps ih =>
  intro qs cs out us h hp hr;obtain⟨i,v⟩:=p;cases qs with
  |nil=>exact hp.elim
  |cons q qs =>
   obtain⟨k,u⟩:=q;obtain⟨rfl,hv,hp⟩:=hp;simp only[sZ]at h;cases hpl:place i with
   |none=>grind
   |some os =>
    obtain⟨off,size⟩:=os;simp only[hpl,bu]at h;split at h
    ·rename_i hc;obtain⟨h1,h2,h3⟩:=hc;obtain⟨hsz,hcl⟩:=hv.cellsOf (pT h3);have hus:=hr.1;have hle:off+u.cells.toList.length<=us.size:=by grind
     have fs:=abE (cs:=us) (off:=off) u.cells.toList 0 us rfl (λi=>by grind) (by omega) hle;simp only[wK]at fs
     have hr':LR Z w j (cs.take off++v.cells++cs.drop (off+size)) ((u.cells.toList.zipIdx 0).foldl (λa (x:aR × Nat)=>a.setIfInBounds (off+x.2) x.1) us):=by
      refine⟨by grind,λi c hc=>?_⟩;rw[fs.2 i];have hto:(cs.take off).length=off:=by grind
      by_cases hi:i < off
      ·rw[bh (by omega)];rw[c8,eP (by omega),kx,bc hi]at hc;exact hr.2 i c hc
      ·rw[c8,eC (by omega),hto]at hc
       by_cases hi2:i - off < v.cells.length
       ·grind
       ·rw[eC (by omega),i6]at hc;rw[bh (by grind)];have e:off+size+(i - off - v.cells.length)=i:=by omega
        rw[e]at hc;exact hr.2 i c hc
     obtain⟨us',h4,h5⟩:=ih qs _ out _ h hp hr';refine⟨us',?_,h5⟩;have g1:¬(u.cells.size≠size):=by omega
     have g2:¬(off+u.cells.size > us.size):=by grind
     simp only[Instr.fill,hpl];rw[bh (by grind)];rw[<-h4];congr 1;rw[<-Array.foldl_toList,Array.toList_zipIdx]
    grind
def uy{t:aP}{z:V}(h:jm P t=aA z):∃i zv,P.info? t=aA i/\i.zero=aA zv/\VR Z w j z zv/\(aK P) t=i.size:=by
 unfold jm at h;cases hi:P.info? t with
 |none=>grind
 |some i =>
  simp only[hi,bu]at h;have sz:(aK P) t=i.size:=by simp[aK,hi]
  cases hz:i.zero with
  |none=>grind
  |some zv =>
   refine⟨i,zv,rfl,hz,?_,sz⟩;simp only[hz]at h;split at h
   ·rename_i cs he;cases he;cases hm:cD pn cs.toList with
    |none=>grind
    |some vs =>
     simp[hm]at h;subst h
     have key:∀(l:List aR) (vs:List V),cD pn l=aA vs->vs.length=l.length/\∀(i:Nat) (c:V) (u:aR),vs[i]? = aA c->l[i]? = aA u->VR Z w j c u:=by
      intro l
      induction l with
      |nil=>intro vs h;simp[cD]at h;grind
      |cons x l ih =>
       intro vs h;simp only[cD]at h;cases h1:pn x with
       |none=>grind
       |some y =>
        cases h2:cD pn l with
        |none=>grind
        |some ys =>
         simp[h1,h2]at h;subst h;obtain⟨a,b⟩:=ih ys h2;refine⟨by grind,λi c u hc hu=>?_⟩;cases i with
         |zero=>simp at hc hu;subst hc hu;exact G6 h1
         |succ i=>grind
     obtain⟨a,b⟩:=key _ _ hm;have e:cs=cs.toList.toArray:=by simp
     rw[e];exact .agg a b
   ·cases ‹aA _=aA _›;exact G6 h
   grind
end
section
variable {P:bv}{Z Z':Zs}{w w':bg}{j j':J}{mem mem':List O}
def gB{g b:Nat}{us:Array aR}{t:aP}{fr:Nat × Nat}(h:w.heap[g]? = aA (.cells us t fr)):w.cell? ⟨g,b,aF⟩=us[b]?:=cell_of_row w g b us t fr h
def Vs(s:SR P Z w j mem){v:V}{u:aR}(hv:VR Z w j v u):VR Z w j (oO mem v) u:=by
 cases v<;>simp only[oO]<;>first|exact hv|skip
 rename_i id;cases hm:mem[id]? with
 |none=>grind
 |some o =>
  cases o<;>simp only<;>first|exact hv|skip
  rename_i t els fz;obtain⟨hn,hh,h1,h2,h3,h4,h5⟩:=s.obj id _ hm;cases hv with
  |own hj h0 =>
   rw[hj]at hh;cases hh;rcases h5 with⟨hu,he⟩|⟨g,b,c,us,hu,hlc,_⟩
   ·simp only[Value.slice.injEq]at hu;obtain⟨rfl,rfl,rfl⟩:=hu;exact .tail hj (kz _) (.win hj (by simp) (by simp) (by simp) (.inl ⟨rfl,rfl⟩))
   ·simp only[Value.slice.injEq]at hu;obtain⟨rfl,rfl,rfl⟩:=hu;exact .tail hj (kz _) (.win hj (by simp) hlc (by simp) (.inr ⟨g,b,0,rfl,by simp,by simp,by simp⟩))
def Vr{v:V}:(oO mem v).one=v.one:=by
 cases v<;>simp only[oO];split<;>rfl
def C3:∀(ts:List aP) (vs:List V) (us:List aR) (mem:List O) (j:J),SR P Z w j mem->vs.length=us.length->(∀(i:Nat) (v:V) (u:aR),vs[i]? = aA v->us[i]? = aA u->VR Z w j v u) ->
  ∃j',SR P Z w j' (boxed P ts vs mem).2/\br Z w j mem Z w j' (boxed P ts vs mem).2/\bG j j'/\(boxed P ts vs mem).1.length=vs.length /\
   (∀(i:Nat) (v:V) (u:aR),(boxed P ts vs mem).1[i]? = aA v->us[i]? = aA u->VR Z w j' v u)/\((∀v∈vs,v.one=aD)->∀v∈(boxed P ts vs mem).1,v.one=aD):=by
 intro ts
 induction ts with
 |nil =>
  intro vs us mem j s hl hv;have e:boxed P [] vs mem=(vs,mem):=by cases vs<;>rfl
  rw[e];exact⟨j,s,br.refl _ _ _ _,bG.refl _,rfl,hv,λh=>h⟩
 |cons t ts ih =>
  intro vs us mem j s hl hv;cases vs with
  |nil=>exact⟨j,s,br.refl _ _ _ _,bG.refl _,rfl,hv,λh=>h⟩
  |cons v vs =>
   cases us with
   |nil=>grind
   |cons u us =>
    have hv0:=hv 0 v u rfl rfl;have hvs:∀(i:Nat) (v:V) (u:aR),vs[i]? = aA v->us[i]? = aA u->VR Z w j v u:=λi v u h1 h2=>hv (i+1) v u (by grind) (by grind)
    have hl':vs.length=us.length:=by grind
    have same:∀(x:V),VR Z w j x u->x.one=v.one->boxed P (t::ts) (v::vs) mem=(x::(boxed P ts vs mem).1,(boxed P ts vs mem).2)->_:=λx hx h1 e=>(by
     rw[e];obtain⟨j',a1,a2,a3,a4,a5,a6⟩:=ih vs us mem j s hl' hvs;refine⟨j',a1,a2,a3,by grind,λi y z hy hz=>?_,λh y hy=>?_⟩
     ·cases i with
      |zero=>simp at hy hz;subst hy hz;exact hx.mono (bU.refl _ _) a3
      |succ i=>grind
     grind:∃j',SR P Z w j' (boxed P (t::ts) (v::vs) mem).2/\br Z w j mem Z w j' (boxed P (t::ts) (v::vs) mem).2/\bG j j'/\(boxed P (t::ts) (v::vs) mem).1.length=(v::vs).length /\
   (∀(i:Nat) (x:V) (z:aR),(boxed P (t::ts) (v::vs) mem).1[i]? = aA x->(u::us)[i]? = aA z->VR Z w j' x z)/\((∀x∈v::vs,x.one=aD)->∀x∈(boxed P (t::ts) (v::vs) mem).1,x.one=aD))
    by_cases hn:v = .nilS
    ·subst hn;cases he:gh P t with
     |none=>exact same .nilS hv0 rfl (by simp only[boxed,he])
     |some e =>
      by_cases hr:fC P e 0=aD
      ·have e1:boxed P (t::ts) (.nilS::vs) mem=(.tail mem.length 0::(boxed P ts vs (mem++[.row e [] 0])).1,(boxed P ts vs (mem++[.row e [] 0])).2):=by simp only[boxed,he,hr,dv]
       rw[e1]
       have hpos:0 < (aK P) e:=by
        simp only[fC,qd,cT,mI]at hr;grind
       obtain⟨s1,st,je⟩:=s.pushV (h:=⟨.slice aF 0 0,(aK P) e⟩) rfl (o:=.row e [] 0) ⟨_,gF _ _ _,rfl,hpos,cZ _,by simp,.inl ⟨rfl,rfl⟩⟩;obtain⟨j',a1,a2,a3,a4,a5,a6⟩:=ih vs us _ _ s1 hl' (λi v u h1 h2=>(hvs i v u h1 h2).mono (bU.refl _ _) je);refine⟨j',a1,st.trans a2,je.trans a3,by grind,λi y z hy hz=>?_,λh y hy=>?_⟩
       ·cases i with
        |zero =>
         simp at hy hz;subst hy hz;cases hv0;have hj:=a3 mem.length _ (gF j mem.length ⟨.slice aF 0 0,(aK P) e⟩);exact .tail hj (cZ _) (.win hj (by simp) (by simp) (by simp) (.inl ⟨rfl,rfl⟩))
        |succ i=>grind
       ·rcases dC.1 hy with rfl|hy
        ·rfl
        grind
      ·exact same .nilS hv0 rfl (by simp only[boxed,he];grind)
    ·exact same (oO mem v) (Vs s hv0) Vr (by cases v<;>first|exact(hn rfl).elim|rfl)
def Xe(s:SR P Z w j mem){t:aP}{v:V}{u:aR}(hl:v.cells.length=(aK P) t)(ho:v.cells.all V.one=aD)(hv:VR Z w j v u) :
  ∃r w1,(Instr.box t u).run P w = .ok r w1/\dz P Z w j mem (.ptr mem.length 0 0) (mem++[.box t v aE]) r w1:=by
 obtain⟨hsz,hcl⟩:=hv.cellsOf (pT ho);refine⟨.pointer (aA ⟨w.heap.size,0,aF⟩),w.alloc (.cells u.cells t),by simp[Instr.box,newVar,Go.newRow,newObj,Sem.run],?_⟩;have hz:=bU.heap (Z:=Z) (w1:=w.alloc (.cells u.cells t)) (ob:=.cells u.cells t) rfl s.zin 0
 obtain⟨s1,st,je⟩:=s.push (w1:=w.alloc (.cells u.cells t)) (ob:=.cells u.cells t) rfl rfl rfl rfl 0 (h:=⟨.pointer (aA ⟨w.heap.size,0,aF⟩),(aK P) t⟩) (by simp[cO.blk]) (o:=.box t v aE)
  (by
   refine⟨w.heap.size,u.cells,gF _ _ _,heap_alloc_new w _,hl,by omega,λi y hy=>?_,λo ho=>?_,λh=>by cases h⟩
   ·obtain⟨c,hc,hvr⟩:=hcl i y hy;refine⟨pT ho y (dH hy),c,?_,hvr.mono hz (s.ext _)⟩;simp_all
   ·rcases ho with ho|ho
    ·have:=s.zin _ _ ho;omega
    grind)
 refine⟨_,_,?_,s1,st,je⟩;have:=VR.ptr (Z:=iP Z w.heap.size 0) (w:=w.alloc (.cells u.cells t)) (j:=fh j mem.length ⟨.pointer (aA ⟨w.heap.size,0,aF⟩),(aK P) t⟩) (id:=mem.length) (k:=0) (off:=0) (g:=w.heap.size) (b:=0) (gF _ _ _) rfl;grind
def Xd(s:SR P Z w j mem){t:aP}{v:V}{u:aR}(hl:v.cells.length=(aK P) t)(ho:v.cells.all V.one=aD)(hv:VR Z w j v u) :
  ∃r w1,(Instr.box t u).run P w = .ok r w1/\dz P Z w j mem (newBox P mem t v).1 (newBox P mem t v).2 r w1:=by
 have fin:∀(v':V) (m':List O) (j':J),qH P mem t v=(v',m')->SR P Z w j' m'->br Z w j mem Z w j' m'->bG j j'->v'.cells.length=(aK P) t->v'.cells.all V.one=aD->VR Z w j' v' u ->
   ∃r w1,(Instr.box t u).run P w = .ok r w1/\dz P Z w j mem (newBox P mem t v).1 (newBox P mem t v).2 r w1:=by
  intro v' m' j' e s' st je hl' ho' hv';obtain⟨r,w1,h1,Z2,j2,h2,h3,h4,h5⟩:=Xe s' hl' ho' hv';refine⟨r,w1,h1,?_⟩;unfold newBox;rw[e];exact⟨Z2,j2,h2,h3,st.trans h4,je.trans h5⟩
 have ug:(∀cs,v≠.agg cs)->∃r w1,(Instr.box t u).run P w = .ok r w1/\dz P Z w j mem (newBox P mem t v).1 (newBox P mem t v).2 r w1:=by
  intro hna
  obtain⟨j',a1,a2,a3,a4,a5,a6⟩:=C3 (P:=P) (pi P t) [v] [u] mem j s rfl (λi x z hx hz=>by
   grind)
  have hc1:v.cells=[v]:=by cases v<;>first|rfl|grind
  have h1:v.one=true:=by grind
  match hb:boxed P (pi P t) [v] mem,a1,a2,a4,a5,a6 with
  |([x],m),a1,a2,a4,a5,a6 =>
   have hx1:x.one=true:=a6 (λy hy=>by grind) x (by simp);have hxc:=lW hx1;refine fin x m j' ?_ a1 a2 a3 (by grind) (by grind) (a5 0 x u rfl rfl);unfold qH
   all_goals grind
  |([],m),a1,a2,a4,a5,a6=>grind
  |(_::_::_,m),a1,a2,a4,a5,a6=>grind
 cases v with
 |agg cs =>
  cases hv with
  |agg hl2 hh =>
   rename_i us;obtain⟨j',a1,a2,a3,a4,a5,a6⟩:=C3 (P:=P) (pi P t) cs us mem j s hl2 hh;refine fin _ _ j' rfl a1 a2 a3 ?_ ?_ (.agg (by grind) a5)
   ·simp only[V.cells]at hl |-
    grind
   ·simp only[V.cells,e9]at ho |-
    grind
 |_=>simp_all
def mA(P:bv)(Z:Zs)(w:bg)(j:J)(mem:List O)(id:Nat)(mem':List O)(u:aR)(w':bg):Prop :=
 ∃Z' j' sz,j' id=aA ⟨u,sz⟩/\SR P Z' w' j' mem'/\br Z w j mem Z' w' j' mem'/\bG j j'
def mA.own{id:Nat}{mem':List O}{A:Option Addr}{n c:Nat}{w':bg}(h:mA P Z w j mem id mem' (.slice A n c) w')(h0:∀a,A=aA a->a.off=0):dz P Z w j mem (.own id) mem' (.slice A n c) w' :=
 let ⟨Z',j',_,h1,h2,h3,h4⟩:=h
 ⟨Z',j',.own h1 h0,h2,h3,h4⟩
def mA.tail{id:Nat}{mem':List O}{u:aR}{w':bg}{t:aP}{els:List V}{fz:Nat}(h:mA P Z w j mem id mem' u w')(hm:mem'[id]? = aA (.row t els fz)):dz P Z w j mem (.tail id 0) mem' u w':=by
 obtain⟨Z',j',sz,h1,h2,h3,h4⟩:=h;obtain⟨hn,hh,q1,q2,q3,q4,q5⟩:=h2.obj id _ hm;rw[h1]at hh;cases hh;rcases q5 with⟨hv,he⟩|⟨g,b,c,us,hv,hlc,_⟩
 ·simp only at hv;subst hv he;exact⟨Z',j',.tail h1 (kz _) (.win h1 (by simp) (by simp) (by simp) (.inl ⟨rfl,rfl⟩)),h2,h3,h4⟩
 ·simp only at hv;subst hv;exact⟨Z',j',.tail h1 (kz _) (.win h1 (by simp) hlc (by simp) (.inr ⟨g,b,0,rfl,by simp,by simp,by simp⟩)),h2,h3,h4⟩
def TE(hzin:∀g o,Z g o->g < w.heap.size)(id:Nat){w1:bg}{t:aP}{us:Array aR}{els:List V}{fz c:Nat}(hh:w1.heap=w.heap.push (.cells us t))
  (hpos:0 < (aK P) t) (hels:∀x∈els,x.cells.length=(aK P) t) (hfz:fz<=els.length) (hlc:els.length<=c) (hc:c<=f9) (hus:us.size=c * (aK P) t)
  (hcl:∀(k:Nat) (x:V) (i:Nat) (y:V),els[k]? = aA x->x.cells[i]? = aA y->y.one=aD/\∃u,us[k * (aK P) t+i]? = aA u/\VR Z w j0 y u) :
  OR P (iP Z w.heap.size (fz * (aK P) t)) w1 (fh j id ⟨.slice (aA ⟨w.heap.size,0,aF⟩) els.length c,(aK P) t⟩) id (.row t els fz):=by
 have hz:=bU.heap (Z:=Z) hh hzin (fz * (aK P) t);have hg:w1.heap[w.heap.size]? = aA (.cells us t (0,0)):=by rw[hh];simp
 refine⟨_,gF _ _ _,rfl,hpos,hfz,hels,.inr ⟨w.heap.size,0,c,us,rfl,hlc,hc,hg,by simpa using Nat.le_of_eq hus.symm,λk x hk i y hy=>?_,λo ho=>?_,λo ho=>.inr ⟨rfl,by simpa using ho⟩⟩⟩
 ·obtain⟨h1,u,hu,hv⟩:=hcl k x i y hk hy;refine⟨h1,u,?_,hv.mono hz (bG.refl _)⟩;rw[gB hg,<-hu];simp
 ·rcases ho with ho|ho
  ·have:=hzin _ _ ho;omega
  ·have ho:=ho.2;exact⟨Nat.pos_of_ne_zero λe=>by subst e;simp at ho,by simpa using ho⟩
def TG(s:SR P Z w j mem){w1:bg}{t:aP}{us:Array aR}{els:List V}{fz c:Nat}(hh:w1.heap=w.heap.push (.cells us t))(hos:w1.os=w.os)(htape:w1.tape=w.tape)(hout:w1.output=w.output)
  (hpos:0 < (aK P) t) (hels:∀x∈els,x.cells.length=(aK P) t) (hfz:fz<=els.length) (hlc:els.length<=c) (hc:c<=f9) (hus:us.size=c * (aK P) t)
  (hcl:∀(k:Nat) (x:V) (i:Nat) (y:V),els[k]? = aA x->x.cells[i]? = aA y->y.one=aD/\∃u,us[k * (aK P) t+i]? = aA u/\VR Z w j0 y u) :
  mA P Z w j mem mem.length (newRow mem t els fz).2 (.slice (aA ⟨w.heap.size,0,aF⟩) els.length c) w1:=by
 obtain⟨s1,st,je⟩:=s.push hh hos htape hout (fz * (aK P) t) (h:=⟨.slice (aA ⟨w.heap.size,0,aF⟩) els.length c,(aK P) t⟩) (by simp[cO.blk]) (o:=.row t els fz) (TE s.zin _ hh hpos hels hfz hlc hc hus hcl);exact⟨_,_,_,gF _ _ _,s1,st,je⟩
def Bo(s:SR P Z w j mem){w1:bg}{t:aP}{us:Array aR}{els:List V}{fz c:Nat}(hh:w1.heap=w.heap.push (.cells us t))(hos:w1.os=w.os)(htape:w1.tape=w.tape)(hout:w1.output=w.output)
  (hpos:0 < (aK P) t) (hels:∀x∈els,x.cells.length=(aK P) t) (hfz:fz<=els.length) (hlc:els.length<=c) (hc:c<=f9) (hus:us.size=c * (aK P) t)
  (hcl:∀(k:Nat) (x:V) (i:Nat) (y:V),els[k]? = aA x->x.cells[i]? = aA y->y.one=aD/\∃u,us[k * (aK P) t+i]? = aA u/\VR Z w j0 y u) :
  dz P Z w j mem (newRow mem t els fz).1 (newRow mem t els fz).2 (.slice (aA ⟨w.heap.size,0,aF⟩) els.length c) w1 :=
 (TG s hh hos htape hout hpos hels hfz hlc hc hus hcl).own (λa ha=>by grind)
def TB(s:SR P Z w j mem){w1:bg}{t:aP}{us:Array aR}{els:List V}{c:Nat}(hh:w1.heap=w.heap.push (.cells us t))(hos:w1.os=w.os)(htape:w1.tape=w.tape)(hout:w1.output=w.output)
  (hpos:0 < (aK P) t) (hels:∀x∈els,x.cells.length=(aK P) t) (hlc:els.length<=c)
  (hcl:∀(k:Nat) (x:V) (i:Nat) (y:V),els[k]? = aA x->x.cells[i]? = aA y->y.one=aD/\∃u,us[k * (aK P) t+i]? = aA u/\VR Z w j0 y u) :
  dz P Z w j mem (.sl els) mem (.slice (aA ⟨w.heap.size,0,aF⟩) els.length c) w1/\(c=els.length->dz P Z w j mem (.lit t els) mem (.slice (aA ⟨w.heap.size,0,aF⟩) els.length c) w1):=by
 have hz:=bU.heap (Z:=Z) hh s.zin (els.length * (aK P) t);have iff:∀g,g < w.heap.size->∀o,iP Z w.heap.size (els.length * (aK P) t) g o↔Z g o:=λg hg o=>⟨λh=>h.resolve_right λh=>by omega,.inl⟩
 have hsz:w1.heap.size=w.heap.size+1:=by grind
 have hg:w1.heap[w.heap.size]? = aA (.cells us t (0,0)):=by grind
 have hv:VR (iP Z w.heap.size (els.length * (aK P) t)) w1 j (.sl els) (.slice (aA ⟨w.heap.size,0,aF⟩) els.length c):=by
  refine VR.slMk (b:=0) hlc hpos λk x hk=>?_
  have hx:=hels x (dH hk);have hkl:k < els.length:=(cE.1 hk).1;refine⟨hx,λi hi=>.inr ⟨rfl,?_⟩,λi y hy=>?_⟩
  ·have:(k+1) * (aK P) t<=els.length * (aK P) t:=dO _ hkl;grind
  ·obtain⟨h1,u,hu,hv⟩:=hcl k x i y hk hy;refine⟨h1,u,?_,hv.mono hz (bG.refl _)⟩;rw[gB hg,<-hu];simp
 have s1:SR P (iP Z w.heap.size (els.length * (aK P) t)) w1 j mem:=s.world hz (λg hg=>⟨mM hh (bT.lt s hg),iff g (bT.lt s hg)⟩) (λg o h=>by
  rcases h with h|⟨h,_⟩
  ·have:=s.zin g o h;omega
  grind)
 have st:br Z w j mem (iP Z w.heap.size (els.length * (aK P) t)) w1 j mem:=⟨hos,htape,hout,by omega,λg hg _=>⟨mM hh hg,iff g hg⟩,λ_ _ ho=>ho,hz,λ_ h=>⟨h,rfl⟩⟩
 refine⟨⟨_,j,hv,s1,st,bG.refl _⟩,λhc=>⟨_,j,by subst hc;exact .lit (n:=us.size) hv (λ_=>by simp only[jf,hg]) (λh0=>.inr ⟨rfl,Nat.mul_pos h0 hpos⟩),s1,st,bG.refl _⟩⟩
def agG(s:SR P Z w j mem){w1:bg}{t:aP}{us:Array aR}{fr:Nat × Nat}{els:List V}{c:Nat}(hsz:w1.heap.size=w.heap.size+1)(hold:∀g,g < w.heap.size->w1.heap[g]? = w.heap[g]?)(hg:w1.heap[w.heap.size]? = aA (.cells us t fr))
  (hos:w1.os=w.os) (htape:w1.tape=w.tape) (hout:w1.output=w.output) {sz:Nat} (hpos:0 < sz) (hels:∀x∈els,x.cells.length=sz) (hlc:els.length<=c)
  (hcl:∀(k:Nat) (x:V) (i:Nat) (y:V),els[k]? = aA x->x.cells[i]? = aA y->y.one=aD/\∃u,us[k * sz+i]? = aA u/\VR Z w j0 y u) :
  dz P Z w j mem (.sl els) mem (.slice (aA ⟨w.heap.size,0,aF⟩) els.length c) w1:=by
 have hz:bU Z w (iP Z w.heap.size (els.length * sz)) w1:=.of λg o h=>⟨.inl h,ji (hold g (s.zin g o h)) o⟩
 have iff:∀g,g < w.heap.size->∀o,iP Z w.heap.size (els.length * sz) g o↔Z g o:=λg hg o=>⟨λh=>h.resolve_right λh=>by omega,.inl⟩
 have hv:VR (iP Z w.heap.size (els.length * sz)) w1 j (.sl els) (.slice (aA ⟨w.heap.size,0,aF⟩) els.length c):=by
  refine VR.slMk (b:=0) hlc hpos λk x hk=>?_
  have hx:=hels x (dH hk);have hkl:k < els.length:=(cE.1 hk).1;refine⟨hx,λi hi=>.inr ⟨rfl,?_⟩,λi y hy=>?_⟩
  ·have:(k+1) * sz<=els.length * sz:=dO _ hkl;grind
  ·obtain⟨h1,u,hu,hv⟩:=hcl k x i y hk hy;refine⟨h1,u,?_,hv.mono hz (bG.refl _)⟩;rw[gB hg,<-hu];simp
 have s1:SR P (iP Z w.heap.size (els.length * sz)) w1 j mem:=s.world hz (λg hg=>⟨hold g (bT.lt s hg),iff g (bT.lt s hg)⟩) (λg o h=>by
  rcases h with h|⟨h,_⟩
  ·have:=s.zin g o h;omega
  grind)
 exact⟨_,j,hv,s1,⟨hos,htape,hout,by omega,λg hg _=>⟨hold g hg,iff g hg⟩,λ_ _ ho=>ho,hz,λ_ h=>⟨h,rfl⟩⟩,bG.refl _⟩
def aa8{x:V}{xs:List V}(h:dA [] x=aA xs):dA mem x=aA xs:=by
 cases x<;>simp[dA]at h |-<;>exact h
def C5{s:List UInt8}{k:Nat}{x:V}(h:(fj s)[k]? = aA x):∃b,s[k]? = aA b/\x = .int bK (b.toNat:Int):=by
 unfold fj at h;grind
def XR(s:SR P Z w j mem){m:List O}(hm:m=mem∨m=[]){st d:aP}{x v:V}{u:aR}(h:po P m st d x=aA v)(hx:VR Z w j x u):∃r w1,(convert st d u).run P w = .ok r w1/\dz P Z w j mem v mem r w1:=by
 unfold po at h;split at h
 ·cases h;cases hx;exact⟨_,w,by simp[convert,dP, *,Conv.intToInt],fB s .int⟩
 ·cases h;cases hx;rename_i ss h1 h2 s';refine⟨_,w,?_,fB s .str⟩;simp[convert,dP h1,dP h2]
 ·rename_i h1 h2 _;simp only[obi]at h;obtain⟨xs,h3,h4⟩:=h;have h3:=(hm.elim (λe=>by rw[<-e];exact h3) (λe=>by rw[e]at h3;exact aa8 h3):dA mem _=aA xs)
  obtain⟨A,c,rfl,hel⟩:=uY s h3 hx;obtain⟨r,q1,q2⟩:=VC (j:=j) (c:=c) h1 h2 h4 hel;exact⟨r,w,q1,fB s q2⟩
 ·rename_i e bs h1 h2;split at h
  ·rename_i he;cases h;cases hx;rename_i b;refine⟨_,_,Lib.run_convert_string_bytes w st d e b h1 h2 he,?_⟩;have hl:(fj b.data.toList).length=b.size:=by simp[fj]
   have:=agG (els:=fj b.data.toList) (c:=gq w b.size 0 e) (sz:=1) s (Lib.bytesWorld_size w e b) (Lib.bytesWorld_at_old w e b) (Lib.bytesWorld_at_new w e b) rfl rfl rfl Nat.one_pos (λx hx=>by
     obtain⟨k,hk,rfl⟩:=mq hx;obtain⟨c,_,e⟩:=C5 (cI hk);rw[e];rfl) (by rw[hl];have:=grownCap_ge w b.size 0 e;omega) (λk x i y hk hy=>by
     obtain⟨c,hc,rfl⟩:=C5 hk;cases i with
     |succ i=>simp[V.cells]at hy
     |zero =>
      simp[V.cells]at hy;subst hy;refine⟨rfl,_,?_,.int⟩;have bf:k < b.data.size:=by grind
      rw[nR,gn];unfold Lib.bytesCells;grind)
   grind
  grind
 grind
def agF(s:SR P Z w j mem){t:aP}(hpos:0 < (aK P) t):dz P Z w j mem (newRow mem t [] 0).1 (newRow mem t [] 0).2 (.slice aF 0 0) w:=by
 obtain⟨s1,st,je⟩:=s.pushV (h:=⟨.slice aF 0 0,(aK P) t⟩) rfl (o:=.row t [] 0) ⟨_,gF _ _ _,rfl,hpos,cZ _,by simp,.inl ⟨rfl,rfl⟩⟩;exact⟨_,_,.own (gF _ _ _) (λa ha=>by grind),s1,st,je⟩
def mA.stp{id:Nat}{u:aR}{w1:bg}{mem1 mem2:List O}(h:mA P Z w j mem1 id mem2 u w1)(hs:br Z w j mem Z w j mem1):mA P Z w j mem id mem2 u w1:=by
 obtain⟨Z',j',sz,h1,h2,h3,h4⟩:=h;exact⟨Z',j',sz,h1,h2,hs.trans h3,h4⟩
def dz.stp{v:V}{u:aR}{w1:bg}{mem1 mem2:List O}(h:dz P Z w j mem1 v mem2 u w1)(hs:br Z w j mem Z w j mem1):dz P Z w j mem v mem2 u w1:=by
 obtain⟨Z',j',a,b,c,d⟩:=h;exact⟨Z',j',a,b,hs.trans c,d⟩
def br.kill{id:Nat}{o:O}(hm:mem[id]? = aA o)(har:o.ar=none:=by rfl):br Z w j mem Z w j (mem.set id .dead) :=
 ⟨rfl,rfl,rfl,cZ _,λ_ _ _=>⟨rfl,λ_=>Iff.rfl⟩,λ_ _ ho=>ho.set hm (by intro h;cases h) har,bU.refl _ _,λ_ h=>⟨h.set hm (λn e=>by cases e),rfl⟩⟩
def P9{els:List V}{sz:Nat}(h:∀x∈els,x.cells.length=sz):∀(k:Nat) (x:V) (i:Nat),els[k]? = aA x->i < sz->(els.flatMap V.cells)[k * sz+i]? = x.cells[i]?:=by
 induction els with
 |nil=>grind
 |cons e els ih =>
  intro k x i hk hi;have he:=h e (by simp);simp only[lc];cases k with
  |zero =>
   grind
  |succ k =>
   rw[eC (by grind)];rw[show(k+1) * sz+i - e.cells.length=k * sz+i by grind];grind
def IB{els:List V}{sz:Nat}(h:∀x∈els,x.cells.length=sz):(els.flatMap V.cells).length=els.length * sz:=by
 induction els with
 |nil=>simp
 |cons e els ih =>
  grind
def xC{els:List V}{sz g b:Nat}(hsz:0 < sz)(h:∀x∈els,x.cells.length=sz)(hc:∀(k:Nat) (x:V),els[k]? = aA x->fX Z w j0 g (b+k * sz) x.cells) :
  ∃us:List aR,us.length=els.length * sz/\(∀(i:Nat) (u:aR),us[i]? = aA u->w.cell? ((⟨g,b,aF⟩:Addr).add i)=aA u/\u.oneCell'=aD) /\
   (∀(k:Nat) (x:V) (i:Nat) (y:V),els[k]? = aA x->x.cells[i]? = aA y->y.one=aD/\∃u,us[k * sz+i]? = aA u/\VR Z w j0 y u):=by
 have hcell:fX Z w j0 g b (els.flatMap V.cells):=by
  intro i y hy;have bf:i < els.length * sz:=by rw[<-IB h];grind
  have hk:i / sz < els.length:=Nat.div_lt_of_lt_mul (by grind);have e1:els[i / sz]? = aA (els[i / sz]):=cI hk;have e2:=P9 h (i / sz) _ (i % sz) e1 (Nat.mod_lt _ hsz);have e3:i / sz * sz+i % sz=i:=by rw[Ci];exact Nat.div_add_mod i sz
  rw[e3,hy]at e2;obtain⟨a,u,hu,hv⟩:=hc _ _ e1 _ _ e2.symm;grind
 obtain⟨us,h1,_,h3,h4⟩:=TU (P:=default) hcell;rw[IB h]at h1;refine⟨us,h1,λi u hu=>?_,λk x i y hk hy=>?_⟩
 ·rw[sF];grind
 ·have hx:=h x (dH hk);have hi:i < sz:=by grind
  have e:=P9 h k x i hk hi;rw[hy]at e
  have bf:k * sz+i < us.length:=by
   rw[h1,<-IB h];grind
  refine⟨(hcell _ _ e).1,us[k * sz+i],cI bf,h3 _ _ _ e (cI bf)⟩
def lI{t:aP}{n:Nat}(h:fC P t n=aD):n<=16777216/\P.bytesOf t<=4096/\0 < (aK P) t /\
  ∃i z,P.info? t=aA i/\i.size=(aK P) t/\i.bytes=P.bytesOf t/\i.zero=aA z/\z.cells.size=(aK P) t:=by
 simp only[fC,qd,cT,mI]at h;obtain⟨h1,⟨h2,h3⟩,h4⟩:=h;refine⟨h1,h2,h3,?_⟩;cases hi:P.info? t with
 |none=>grind
 |some i =>
  simp only[hi,bu]at h4;cases hz:i.zero with
  |none=>grind
  |some z =>
   simp only[hz,iQ]at h4;exact⟨i,z,rfl,by simp[aK,hi],by simp[Program.bytesOf,hi],hz,h4⟩
def vm{t:aP}(h:0 < (aK P) t):∃i,P.info? t=aA i/\i.size=(aK P) t/\i.bytes=P.bytesOf t:=by
 cases hi:P.info? t with
 |none=>simp[aK,hi]at h
 |some i=>exact⟨i,rfl,by simp[aK,hi],by simp[Program.bytesOf,hi]⟩
structure jH(P:bv)(w:bg)(tx:aP)(ux:aR)(sz m:Nat)(news:List aR):Prop where
 ty:(bO P) tx=aA .string∨∃e,(bO P) tx=aA (.slice e)
 len:∀w2:bg,(Builtin.lenOf ux).run P w2 = .ok m w2
 size:news.length=m * sz
 cells:∀(n:Nat) (w2:bg),n<=m->w2.heap=w.heap->(Builtin.firstCells sz n ux).run P w2 = .ok (news.take (n * sz)).toArray w2
 one:∀u∈news,u.oneCell'=aD
def jH.all{tx:aP}{ux:aR}{sz m:Nat}{news:List aR}(h:jH P w tx ux sz m news)(w2:bg)(hw:w2.heap=w.heap):(Builtin.firstCells sz m ux).run P w2 = .ok news.toArray w2:=by
 rw[h.cells m w2 (cZ _) hw,<-h.size,jI]
def TS(w:bg){t tx ty e:aP}{i:TypeInfo}(ht:(bO P) t=aA (.slice e))(hi:P.info? e=aA i){m:Nat}{ux:aR}{news:List aR}(ha:jH P w tx ux i.size m news){B:Option Addr}{sLen sCap:Nat}(hroom:sLen+m<=sCap) :
  (Builtin.append_ #[t,tx] ty #[.slice B sLen sCap,ux]).run P w=(match B with|some a=>(storeCells (a.add (sLen * i.size)) news).run P w|none=>.ok () w).andThen λ_ w1=>.ok (.slice B (sLen+m) sCap) w1:=by
 have h1:=ha.len w;have h2:=ha.all w rfl;rcases ha.ty with hd|⟨e',hd⟩<;>cases B<;>simp[Builtin.append_,dP ht,dP hd,sizeOf,ij,hi,h1,hroom,h2]
def Kt(w:bg){t tx ty e:aP}{i:TypeInfo}{z:aR}(ht:(bO P) t=aA (.slice e))(hi:P.info? e=aA i)(hz:i.zero=aA z){m:Nat}{ux:aR}{news:List aR}(ha:jH P w tx ux i.size m news){B:Option Addr}{sLen sCap:Nat}{olds:List aR}
  (hfo:(Builtin.firstCells i.size sLen (.slice B sLen sCap)).run P w.drew = .ok olds.toArray w.drew) (hg:sCap < sLen+m) (h63:((sLen+m:Nat):Int)<=9223372036854775807) (hfit:Builtin.nextslicecap (sLen+m) sCap * i.bytes<=281474976710656) :
  (Builtin.append_ #[t,tx] ty #[.slice B sLen sCap,ux]).run P w = .ok (.slice (aA ⟨w.heap.size,0,aF⟩) (sLen+m) (gq w (sLen+m) sCap e))
    (w.drew.alloc (.cells (olds.toArray++news.toArray++Builtin.zeroCells z.cells (gq w (sLen+m) sCap e - (sLen+m))) e)):=by
 have h1:=ha.len w;have h2:=ha.all w.drew rfl;have hn:¬(sLen+m<=sCap):=by omega
 have h63':¬(9223372036854775807 < ((sLen:Int)+(m:Int))):=by omega
 have h48':¬(281474976710656 < Builtin.nextslicecap (sLen+m) sCap * i.bytes):=by omega
 rcases ha.ty with hd|⟨e',hd⟩ <;>
  (simp[Builtin.append_,dP ht,dP hd,sizeOf,ij,zeroValue,hi,hz,h1,hn,h63',h48',Question.forced,h2,hfo,Go.newRow,gq];grind)
def yF{t tx ty e:aP}(ht:(bO P) t=aA (.slice e))(hp:0 < (aK P) e){B:Option Addr}{n cap:Nat}{ux:aR}(ha:jH P w tx ux ((aK P) e) 0 [])(hn:n<=cap) :
  (Builtin.append_ #[t,tx] ty #[.slice B n cap,ux]).run P w = .ok (.slice B n cap) w:=by
 obtain⟨i,hi,his,_⟩:=vm hp;rw[<-his]at ha;rw[TS w ht hi ha (by omega)];cases B<;>simp[storeCells]
def TC{mem1:List O}{t:aP}{u:aR}{els:List V}{fz:Nat}(s1:SR P Z w j mem1)(st1:br Z w j mem Z w j mem1)(hr:lV P Z w ⟨u,(aK P) t⟩ t els fz)
  (hblk:∀g,cO.blk ⟨u,(aK P) t⟩=aA g->¬bT Z j mem1 g/\bT Z j mem g):mA P Z w j mem mem1.length (newRow mem1 t els fz).2 u w:=by
 have s2:=s1.add (h:=⟨u,(aK P) t⟩) (o:=.row t els fz) (λg hg=>(hblk g hg).1) ⟨_,gF _ _ _,hr⟩;refine⟨Z,_,_,gF _ _ _,s2,⟨rfl,rfl,rfl,cZ _,λ_ _ _=>⟨rfl,λ_=>Iff.rfl⟩,λg hg ho=>?_,bU.refl _ _,λ_ h=>⟨(st1.ar _ h).1.add rfl,rfl⟩⟩,s1.ext _⟩
 ·rcases bT.add ho with ho|ho
  ·exact st1.owned g hg ho
  grind
def ag0(w:bg){t tx ty e:aP}{i:TypeInfo}(ht:(bO P) t=aA (.slice e))(hi:P.info? e=aA i)
  (g b sLen sCap:Nat) (cur:Array aR) (hg:w.heap[g]? = aA (.cells cur e (0,0)))
  {ux:aR} {m:Nat} {news:List aR} (ha:jH P w tx ux i.size m news)
  (hroom:sLen+m<=sCap) (hfit:b+sLen * i.size+news.length<=cur.size) :
  (Builtin.append_ #[t,tx] ty #[.slice (aA ⟨g,b,aF⟩) sLen sCap,ux]).run P w =
   .ok (.slice (aA ⟨g,b,aF⟩) (sLen+m) sCap) (w.setRow g (cur.toList.take (b+sLen * i.size)++news++cur.toList.drop (b+sLen * i.size+news.length)).toArray):=by
 have hst:=yG P g (b+sLen * i.size) e news 0 cur w hg (by grind) ha.one;simp only[gn]at hst;rw[TS w ht hi ha hroom];simp[Addr.add_lit,hst]
def jH.of{tx e:aP}{A:Option Addr}{xs:List V}{c:Nat}(ht:(bO P) tx=aA (.slice e))(hpos:0 < (aK P) e)(hxs:∀y∈xs,y.cells.length=(aK P) e)
  (hel:xs=[]∨∃g b sz,A=aA ⟨g,b,aF⟩/\0 < sz/\∀(k:Nat) (y:V),xs[k]? = aA y->y.cells.length=sz/\fX Z w j0 g (b+k * sz) y.cells) :
  ∃news,jH P w tx (.slice A xs.length c) ((aK P) e) xs.length news/\∀(k:Nat) (x:V) (i:Nat) (y:V),xs[k]? = aA x->x.cells[i]? = aA y->y.one=aD/\∃u,news[k * (aK P) e+i]? = aA u/\VR Z w j0 y u:=by
 by_cases hx0:xs=[]
 ·subst hx0;refine⟨[],⟨.inr ⟨_,ht⟩,λw2=>by simp[Builtin.lenOf],by simp,λn w2 hn _=>?_,by simp⟩,λk x i y hk=>by grind⟩;have:n=0:=by grind
  subst this;cases A<;>simp[Builtin.firstCells,loadCells,loadCellsFrom]
 ·obtain⟨ga,ba,sz,hA,hsz,hcl⟩:=hel.resolve_left hx0;have hxl:0 < xs.length:=lT.2 hx0
  have hsz':sz=(aK P) e:=by
   have e0:xs[0]? = aA xs[0]:=cI hxl;grind
  subst hsz';subst hA;obtain⟨news,hnl,hnc',hnr⟩:=xC hpos hxs (λk x hk=>(hcl k x hk).2);refine⟨news,⟨.inr ⟨_,ht⟩,λw2=>by simp[Builtin.lenOf],hnl,λn w2 hn hw=>?_,λu hu=>?_⟩,hnr⟩
  ·refine Br (P:=P) w2 _ n _ _ c _ (by simp_all) (λk u hk=>?_)
   have hk':news[k]? = aA u:=by
    grind
   have:=(hnc' k u hk').1;simpa[World.cell?,hw]using this
  ·obtain⟨k,hk,rfl⟩:=mq hu;exact(hnc' k _ (cI hk)).2
def ag2{t ty e:aP}(ht:(bO P) t=aA (.slice e))(hp:0 < (aK P) e){B A:Option Addr}{n cap c:Nat}(hn:n<=cap) :
  (Builtin.append_ #[t,t] ty #[.slice B n cap,.slice A 0 c]).run P w = .ok (.slice B n cap) w:=by
 obtain⟨news,ha,_⟩:=jH.of (Z:=⟨λ_ _=>False,λ_ _=>aF,λ_=>aF⟩) (w:=w) (xs:=[]) (A:=A) (c:=c) ht hp (by simp) (.inl rfl);have:news=[]:=by have:=ha.size;simp_all
 subst this;exact yF ht hp ha hn
def jH.str{tx:aP}{bs:ByteArray}(ht:(bO P) tx=aA .string) :
  ∃news,jH P w tx (.string bs) 1 (fj bs.data.toList).length news/\∀(k:Nat) (x:V) (i:Nat) (y:V),(fj bs.data.toList)[k]? = aA x->x.cells[i]? = aA y->y.one=aD/\∃u,news[k * 1+i]? = aA u/\VR Z w j0 y u:=by
 have hl:(fj bs.data.toList).length=bs.size:=by simp[fj]
 refine⟨bs.data.toList.map λb=>Value.int bK b.toNat,⟨.inl ht,λw2=>by simp[Builtin.lenOf,hl],by simp_all,λn w2 hn _=>?_,λu hu=>?_⟩,λk x i y hk hy=>?_⟩
 ·simp only[Builtin.firstCells,Sem.run_pure,nR];congr 1;apply Array.ext';simp
 ·obtain⟨x,_,rfl⟩:=fi.1 hu;rfl
 ·obtain⟨b,hb,rfl⟩:=C5 hk;cases i with
  |succ i=>simp[V.cells]at hy
  |zero =>
   simp[V.cells]at hy;subst hy;refine⟨rfl,_,?_,.int⟩;grind
def CX{t tx ty e:aP}{u ux:aR}{els xs:List V}{news:List aR}{fz:Nat}{mem1:List O}{B:Option Addr}{n cap:Nat}(ht:(bO P) t=aA (.slice e))(s1:SR P Z w j mem1)(st1:br Z w j mem Z w j mem1)
  (hu:u = .slice B n cap) (hr:lV P Z w ⟨u,(aK P) e⟩ e els fz) (hroom:fC P e (els.length+xs.length)=aD) (hxs:∀y∈xs,y.cells.length=(aK P) e)
  (ha:jH P w tx ux ((aK P) e) xs.length news) (hnr:∀(k:Nat) (x:V) (i:Nat) (y:V),xs[k]? = aA x->x.cells[i]? = aA y->y.one=aD/\∃u,news[k * (aK P) e+i]? = aA u/\VR Z w j0 y u)
  (hblk:∀g,cO.blk ⟨u,(aK P) e⟩=aA g->¬bT Z j mem1 g/\bT Z j mem g) :
  ∃A' n' c' w1,(Builtin.append_ #[t,tx] ty #[u,ux]).run P w = .ok (.slice A' n' c') w1/\mA P Z w j mem mem1.length (newRow mem1 e (els++xs) fz).2 (.slice A' n' c') w1/\((∀a,B=aA a->a.off=0)->∀a,A'=aA a->a.off=0):=by
 obtain⟨hn,hby,hpos,i,z,hi,his,hib,hz,hzs⟩:=lI hroom;obtain⟨h1,h2,h3,h4,h5⟩:=hr;simp only at h2 h4 h5
 have hnc:n=els.length/\n<=cap:=by
  grind
 have hnl:=ha.size;have ha':=ha;rw[<-his]at ha'
 by_cases hx0:xs=[]
 ·subst hx0;have:news=[]:=by simp_all
  subst this;refine⟨B,n,cap,w,?_,?_,λh=>h⟩
  ·rw[hu];exact yF ht hpos ha hnc.2
  ·rw[fR,<-hu];exact TC s1 st1 ⟨rfl,h2,h3,h4,h5⟩ hblk
 ·have hxl:0 < xs.length:=lT.2 hx0
  have hbytes:(els.length+xs.length) * i.bytes<=140737488355328:=by
   rw[hib];exact qw (Cj hn hby) (by decide)
  have fresh:∀(cells:Array aR) (cp:Nat) (olds:List aR),cells=(olds.toArray++news.toArray++Builtin.zeroCells z.cells (cp - (els.length+xs.length)))->olds.length=els.length * (aK P) e->els.length+xs.length<=cp->cp<=f9 ->
    (∀(k:Nat) (x:V) (i:Nat) (y:V),els[k]? = aA x->x.cells[i]? = aA y->y.one=aD/\∃u,olds[k * (aK P) e+i]? = aA u/\VR Z w j0 y u) ->
    mA P Z w j mem mem1.length (newRow mem1 e (els++xs) fz).2 (.slice (aA ⟨w.heap.size,0,aF⟩) (els.length+xs.length) cp) (w.drew.alloc (.cells cells e)):=by
   intro cells cp olds hcells hol hcp hcm hold;have hall:∀x∈els++xs,x.cells.length=(aK P) e:=λx hx=>(cG.1 hx).elim (h4 x) (hxs x)
   have hp:=TG (fz:=fz) (els:=els++xs) (us:=cells) (c:=cp) (w1:=w.drew.alloc (.cells cells e)) s1 rfl rfl rfl rfl hpos hall (by grind) (by grind) hcm
    (by rw[hcells];simp only[BV,wO,size_zeroCells,hol,hnl,hzs,<-jX];grind)
    (λk x i y hk hy=>by
     have hi:i < (aK P) e:=by grind
     by_cases hk':k < els.length
     ·grind
     ·rw[eC (by omega)]at hk;obtain⟨a,u',hu',hv⟩:=hnr _ x i y hk hy;refine⟨a,u',?_,hv⟩;have bf:=(cE.1 hu').1
      have e1:k * (aK P) e+i - olds.length=(k - els.length) * (aK P) e+i:=by
       rw[hol,qy];have:els.length * (aK P) e<=k * (aK P) e:=dO _ (by omega);omega
      have hle:olds.length<=k * (aK P) e+i:=by
       rw[hol];have:els.length * (aK P) e<=k * (aK P) e:=dO _ (by omega);omega
      grind)
   rw[gJ]at hp;exact hp.stp st1
  rcases h5 with⟨hv,he⟩|⟨g,b,c',us,hv,hlc,hcm,hg,hus,hcells,hz1,hz2⟩
  ·subst he;rw[hu]at hv;cases hv;have hn':xs.length<=16777216:=by grind
   have hrun:=Kt (ty:=ty) w ht hi hz ha' (B:=aF) (sLen:=0) (sCap:=0) (olds:=[]) (run_firstCells_none w.drew i.size 0 0 0) (by omega) (by omega) (growslice_fits (by omega) (by grind));refine⟨_,_,_,_,by rw[hu];exact hrun,?_,λ_ a ha=>by grind⟩;exact fresh _ (gq w (0+xs.length) 0 e) [] (by simp) (by simp) (by simpa using grownCap_ge w (0+xs.length) 0 e) (grownCap_le_maxLen w _ 0 e (by simp only[f9];omega)) (λk x i y hk=>by grind)
  ·rw[hu]at hv;cases hv;have hcut:∀k x,els[k]? = aA x->fX Z w j0 g (b+k * (aK P) e) x.cells:=hcells
   by_cases hfit:els.length+xs.length<=cap
   ·have hul:b+els.length * (aK P) e+news.length<=us.size:=by
     have:(els.length+xs.length) * (aK P) e<=cap * (aK P) e:=dO _ hfit;grind
    have hrun:=ag0 (ty:=ty) w ht hi g b els.length cap us hg ha' hfit (by grind);rw[his]at hrun;refine⟨_,_,_,_,by rw[hu];exact hrun,?_,λh a ha=>h a ha⟩;have hblk':=hblk g (by simp[cO.blk,hu]);have bf:g < w.heap.size:=(gS.1 hg).1;obtain⟨cells,hcdef⟩:∃cells:Array aR,cells=(us.toList.take (b+els.length * (aK P) e)++news++us.toList.drop (b+els.length * (aK P) e+news.length)).toArray:=⟨_,rfl⟩
    rw[<-hcdef];have hg':=setRow_heap w g us cells e (0,0) hg;have hot:∀k,k≠g->(w.setRow g cells).heap[k]? = w.heap[k]?:=λk hk=>oL w g k cells hk
    have hfrom:∀o,o < b+els.length * (aK P) e->cells[o]? = us[o]?:=by
     intro o ho;rw[hcdef];simp only[B9,c8];rw[eP (by simp;omega),kx,bc ho];simp
    have hz':bU Z w Z (w.setRow g cells):=by
     refine .of λg' o ho=>?_
     refine⟨ho,?_⟩
     by_cases hgg:g'=g
     ·subst hgg;have h7:=(hz1 o ho).2;have h8:fz * (aK P) e<=els.length * (aK P) e:=dO _ h3;refine⟨by rw[gB hg',gB hg,hfrom o (by omega)],?_⟩;simp only[jf,hg',hg];rw[show cells.size=us.size by rw[hcdef];simp;omega]
     ·exact ji (hot g' hgg) o
    have s2:SR P Z (w.setRow g cells) j mem1:=s1.world hz' (λg' hg'=>⟨hot g' (λe=>hblk'.1 (e ▸ hg')),λ_=>Iff.rfl⟩) (λg' o ho=>by simpa using s1.zin g' o ho);have hall:∀x∈els++xs,x.cells.length=(aK P) e:=λx hx=>(cG.1 hx).elim (h4 x) (hxs x)
    have s3:=s2.add (h:=⟨.slice (aA ⟨g,b,aF⟩) (els.length+xs.length) cap,(aK P) e⟩) (o:=.row e (els++xs) fz) (λg' hg'=>by
      simp[cO.blk]at hg';grind)
     ⟨_,gF _ _ _,rfl,hpos,by grind,hall,.inr ⟨g,b,cap,cells,by simp,by grind,hcm,hg',by
       rw[hcdef];simp only[wO,gJ,jW,lh,Gg];omega,λk x hk i y hy=>by
       have hi:i < (aK P) e:=by grind
       by_cases hk':k < els.length
       ·rw[eP hk']at hk;obtain⟨a,u',hu',hv⟩:=hcut k x hk i y hy;refine⟨a,u',?_,hv.mono hz' (bG.refl _)⟩;rw[gB hg]at hu';rw[gB hg',hfrom _ ?_]
        ·grind
        ·have h9:(k+1) * (aK P) e<=els.length * (aK P) e:=dO _ hk';grind
       ·rw[eC (by omega)]at hk;obtain⟨a,u',hu',hv⟩:=hnr _ x i y hk hy;refine⟨a,u',?_,hv.mono hz' (bG.refl _)⟩;rw[gB hg',hcdef];have hle2:els.length * (aK P) e<=k * (aK P) e:=dO _ (by omega);have hsub:(k - els.length) * (aK P) e=k * (aK P) e - els.length * (aK P) e:=qy _ _ _;have hlt':=(cE.1 hu').1;have hto:(us.toList.take (b+els.length * (aK P) e)).length=b+els.length * (aK P) e:=by simp;omega
        simp only[B9,c8];rw[eC (by omega),hto,eP (by omega)];rw[<-hu'];congr 1;omega,λo ho=>by grind,λo ho=>by grind⟩⟩
    refine⟨Z,_,_,gF _ _ _,s3,⟨rfl,rfl,rfl,by simp,λg' hg' hno=>⟨hot g' (λe=>hno (e ▸ hblk'.2)),λ_=>Iff.rfl⟩,λg' hg' ho=>?_,hz',λ_ h=>⟨(st1.ar _ h).1.add rfl,rfl⟩⟩,s1.ext _⟩;rcases bT.add ho with ho|ho
    ·exact st1.owned g' hg' ho
    ·simp[cO.blk]at ho;grind
   ·obtain⟨olds,hol,hoc,hor⟩:=xC hpos h4 hcut;have hrun:=Kt (ty:=ty) w ht hi hz ha' (Br (P:=P) w.drew i.size els.length ⟨g,b,aF⟩ els.length cap olds (by grind) (λk u hk=>by simp_all)) (by omega) (by omega) (growslice_fits (by omega) hbytes);refine⟨_,_,_,_,by rw[hu];exact hrun,?_,λ_ a ha=>by grind⟩;exact fresh _ (gq w (els.length+xs.length) cap e) olds rfl hol (grownCap_ge w _ cap e) (grownCap_le_maxLen w _ cap e (by simp only[f9];omega)) hor
end
section
variable {P:bv}{Z Z':Zs}{w w':bg}{j j':J}{mem mem':List O}
def VR.down{l:List V}{u:aR}(h:VR Z w j (.sl l) u)(j':J):VR Z w j' (.sl l) u:=by
 cases h with
 |sl0=>exact .sl0
 |sl f a b c d e=>exact .sl f a b c d e
def VR.litSl{t:aP}{l:List V}{u:aR}(h:VR Z w j (.lit t l) u):VR Z w j (.sl l) u:=by
 cases h with
 |lit h=>exact h
def WN{t tx ty e t':aP}{l xs:List V}{u ux:aR}{news:List aR}(ht:(bO P) t=aA (.slice e))(s:SR P Z w j mem)(hv:VR Z w j (.lit t' l) u)
  (hroom:fC P e (l.length+xs.length)=aD) (h4:∀y∈l,y.cells.length=(aK P) e) (hxs:∀y∈xs,y.cells.length=(aK P) e)
  (ha:jH P w tx ux ((aK P) e) xs.length news) (hnr:∀(k:Nat) (x:V) (i:Nat) (y:V),xs[k]? = aA x->x.cells[i]? = aA y->y.one=aD/\∃u,news[k * (aK P) e+i]? = aA u/\VR Z w j0 y u) :
  ∃r w1,(Builtin.append_ #[t,tx] ty #[u,ux]).run P w = .ok r w1/\dz P Z w j mem (.sl (l++xs)) mem r w1:=by
 obtain⟨hn,hby,hpos,i,z,hi,his,hib,hz,hzs⟩:=lI hroom;cases hv with
 |lit hv hk hzz =>
 rename_i g n;have hnl:=ha.size;have ha':=ha;rw[<-his]at ha'
 by_cases hx0:xs=[]
 ·subst hx0;have:news=[]:=by simp_all
  subst this;refine⟨_,w,yF ht hpos ha (cZ _),?_⟩;rw[fR];exact fB s hv
 ·have hxl:0 < xs.length:=lT.2 hx0
  have hbytes:(l.length+xs.length) * i.bytes<=140737488355328:=by
   rw[hib];exact qw (Cj hn hby) (by decide)
  have hcut:∀k x,l[k]? = aA x->fX Z w j0 g (0+k * (aK P) e) x.cells:=by
   rcases hv.slInv with⟨_,_,rfl,_⟩|⟨g',b',c',sz,he,_,hsz,hh⟩
   all_goals grind
  obtain⟨olds,hol,hoc,hor⟩:=xC hpos h4 hcut;have hrun:=Kt (ty:=ty) w ht hi hz ha' (Br (P:=P) w.drew i.size l.length ⟨g,0,aF⟩ l.length l.length olds (by grind) (λk u hk=>by simp_all)) (by omega) (by omega) (growslice_fits (by omega) hbytes);refine⟨_,_,hrun,?_⟩;have hall:∀x∈l++xs,x.cells.length=(aK P) e:=λx hx=>(cG.1 hx).elim (h4 x) (hxs x)
  have hcp:=grownCap_ge w (l.length+xs.length) l.length e
  have hp:=(TB (els:=l++xs) (us:=olds.toArray++news.toArray++Builtin.zeroCells z.cells (gq w (l.length+xs.length) l.length e - (l.length+xs.length))) (c:=gq w (l.length+xs.length) l.length e) (t:=e)
    (w1:=w.drew.alloc (.cells (olds.toArray++news.toArray++Builtin.zeroCells z.cells (gq w (l.length+xs.length) l.length e - (l.length+xs.length))) e)) s rfl rfl rfl rfl hpos hall (by grind)
    (λk x i y hk hy=>by
     have hi:i < (aK P) e:=by grind
     by_cases hk':k < l.length
     ·grind
     ·rw[eC (by omega)]at hk;obtain⟨a,u',hu',hv⟩:=hnr _ x i y hk hy;refine⟨a,u',?_,hv⟩;have bf:=(cE.1 hu').1
      have e1:k * (aK P) e+i - olds.length=(k - l.length) * (aK P) e+i:=by
       rw[hol,qy];have:l.length * (aK P) e<=k * (aK P) e:=dO _ (by omega);omega
      have hle:olds.length<=k * (aK P) e+i:=by
       rw[hol];have:l.length * (aK P) e<=k * (aK P) e:=dO _ (by omega);omega
      grind)).1
  grind
def GL(s:SR P Z w j mem){t tx e:aP}{x:V}{xs:List V}{ux:aR}(hty:nc P t tx x=aD)(ht:(bO P) t=aA (.slice e))(hpos:0 < (aK P) e)(hxs:n7 mem x=aA xs)(hall:∀y∈xs,y.cells.length=(aK P) e)(hx:VR Z w j x ux) :
  ∃news,jH P w tx ux ((aK P) e) xs.length news/\∀(k:Nat) (x:V) (i:Nat) (y:V),xs[k]? = aA x->x.cells[i]? = aA y->y.one=aD/\∃u,news[k * (aK P) e+i]? = aA u/\VR Z w j0 y u:=by
 have sl:(∀b,x≠.str b)->∃news,jH P w tx ux ((aK P) e) xs.length news/\∀(k:Nat) (x:V) (i:Nat) (y:V),xs[k]? = aA x->x.cells[i]? = aA y->y.one=aD/\∃u,news[k * (aK P) e+i]? = aA u/\VR Z w j0 y u:=by
  intro hns;have h1:dA mem x=aA xs:=by cases x<;>first|exact hxs|grind
  have h2:t=tx:=by cases x<;>first|simpa[nc]using hty|grind
  subst h2;obtain⟨A,c,rfl,hel⟩:=uY s h1 hx;exact jH.of ht hpos hall hel
 by_cases hs:∃b,x = .str b
 rotate_left
 ·grind
 obtain⟨bs,rfl⟩:=hs;cases hx;rename_i b;simp only[n7,Option.some.injEq]at hxs;subst hxs
 have ht2:(bO P) tx=aA .string:=by
  simp only[nc]at hty;grind
 by_cases h0:b.data.toList=[]
 ·have hb0:b.size=0:=by
   have:b.data.toList.length=0:=by grind
   simpa using this
  have hbv:fj b.data.toList=[]:=by rw[h0];rfl
  rw[hbv];refine⟨[],⟨.inl ht2,λw2=>by simp[Builtin.lenOf,hb0],by simp,λn w2 hn _=>?_,by simp⟩,λk x i y hk=>by grind⟩;have:n=0:=by grind
  subst this;simp[Builtin.firstCells]
 ·have h1:(aK P) e=1:=by
   cases hd:b.data.toList with
   |nil=>grind
   |cons y l =>
    rw[hd]at hall;have:=hall (.int bK (y.toNat:Int)) (by simp[fj]);rw[<-this];rfl
  rw[h1];exact jH.str ht2
def GJ(s:SR P Z w j mem){t tx ty:aP}{sv x v:V}{u ux:aR}(hty:nc P t tx x=aD)(h:kE P mem t sv x=aA (v,mem'))(hv:VR Z w j sv u)(hx:VR Z w j x ux) :
  ∃r w1,(Builtin.append_ #[t,tx] ty #[u,ux]).run P w = .ok r w1/\dz P Z w j mem v mem' r w1:=by
 unfold kE at h;cases he:gh P t with
 |none=>grind
 |some e =>
  have ht:(bO P) t=aA (.slice e):=by
   unfold gh at he;grind
  cases hxs:n7 mem x with
  |none=>grind
  |some xs =>
   simp only[he,hxs,bu]at h;split at h
   ·rename_i hall;have hall':∀y∈xs,y.cells.length=(aK P) e:=λy hy=>by grind
    have arg:=λhpos=>GL s hty ht hpos hxs hall' hx
    cases sv<;>simp only at h<;>first|(cases h;done)|skip
    case nilS =>
     split at h
     ·rename_i hroom;cases h;cases hv;have hp:=(lI hroom).2.2.1;obtain⟨news,ha,hnr⟩:=arg hp;obtain⟨A',n',c',w1,q1,q2,q3⟩:=CX (ty:=ty) (els:=[]) (fz:=0) ht s (br.refl _ _ _ _) rfl ⟨rfl,hp,cZ _,by simp,.inl ⟨rfl,rfl⟩⟩ (by grind) hall' ha hnr (λg hg=>by simp[cO.blk]at hg);exact⟨_,w1,q1,q2.own (q3 λa ha=>by grind)⟩
     grind
    case own id =>
     cases hm:mem[id]? with
     |none=>grind
     |some o =>
      cases o<;>simp only[hm]at h<;>first|(cases h;done)|skip
      rename_i e' els fz;split at h
      ·rename_i hc;obtain⟨rfl,hroom⟩:=hc;cases h;obtain⟨hn,hh,hr⟩:=s.obj id _ hm;cases hv with
       |own hj h00 =>
        rw[hj]at hh;cases hh;have h1:=hr.1;simp only at h1;subst h1;obtain⟨news,ha,hnr⟩:=arg (lI hroom).2.2.1
        suffices hsf:∀g,cO.blk ⟨_,(aK P) e'⟩=aA g->¬bT Z j (mem.set id .dead) g from(let ⟨A',n',c',w1,q1,q2,q3⟩:=CX (ty:=ty) (els:=els) (fz:=fz) ht (s.kill hm) (br.kill hm) rfl hr hroom hall' ha hnr (λg hg=>⟨hsf g hg,⟨id,_,hm,rfl,by simp[bY,O.ar,dk,hj,hg]⟩⟩);⟨_,w1,q1,q2.own (q3 h00)⟩)
        intro g hg;rintro⟨k,x,hx,hl,hb⟩;have bf:id < mem.length:=(cE.1 hm).1
        by_cases e:id=k
        ·subst e;rw[jn bf]at hx;cases hx;cases hl
        ·rw[iM e]at hx;exact e (s.inj id k _ x g hm hx rfl hl (by simp[bY,O.ar,dk,hj,hg]) hb)
      grind
    case lit t' l =>
     split at h
     ·rename_i hc;obtain⟨rfl,hroom,hla⟩:=hc;cases h;obtain⟨news,ha,hnr⟩:=arg (lI hroom).2.2.1;exact WN ht s hv hroom (λy hy=>by grind) hall' ha hnr
     grind
    case win id off len =>
     cases hm:mem[id]? with
     |none=>grind
     |some o =>
      cases o<;>simp only[hm]at h<;>first|(cases h;done)|skip
      rename_i e' els fz;split at h
      ·rename_i hc;obtain⟨rfl,rfl,hend,hroom⟩:=hc;cases h;obtain⟨hn,hh,hr⟩:=s.obj id _ hm;cases hv with
       |win hj hnn hlc hcc ha =>
        rename_i n c' sz c'' A A';rw[hj]at hh;cases hh;obtain⟨h1,h2,h3,h4,h5⟩:=hr;simp only at h1 h2 h4 h5;subst h1;have hlen:((els.drop off).take len).length=len:=by grind
        have hr':lV P Z w ⟨.slice A' len c'',(aK P) e'⟩ e' ((els.drop off).take len) 0:=by
         refine⟨rfl,h2,kz _,λx hx=>h4 x (uE (uF hx)),?_⟩;rcases ha with⟨rfl,rfl⟩|⟨g,b,o,rfl,rfl,ho1,ho2⟩
         ·grind
         ·right;rcases h5 with⟨h5,he⟩|⟨g',b',c,us,h5,hlc',hcm,hg,hus,hcells,hz1,hz2⟩
          ·grind
          ·simp only[Value.slice.injEq,Option.some.injEq,Addr.mk.injEq,and_true]at h5;obtain⟨⟨rfl,rfl⟩,rfl,rfl⟩:=h5;refine⟨g,b+o,c'',us,by grind,by grind,by omega,hg,?_,λk x hk=>?_,λx hx=>?_,λx hx=>?_⟩
           ·have:(off+c'') * (aK P) e'=off * (aK P) e'+c'' * (aK P) e':=jX _ _ _;grind
           all_goals grind
        have hbk:∀g,cO.blk ⟨.slice A' len c'',(aK P) e'⟩=aA g->dk j id=aA g:=by
         intro g hg;rcases ha with⟨rfl,rfl⟩|⟨g',b,o,rfl,rfl,_⟩
         ·simp[cO.blk]at hg
         ·simp[cO.blk]at hg;simp[dk,hj,cO.blk,hg]
        have hlm:(mem.set id O.dead).length=mem.length:=by simp
        obtain⟨news,harg,hnr⟩:=arg (lI hroom).2.2.1
        suffices hsf:∀g,cO.blk ⟨.slice A' len c'',(aK P) e'⟩=aA g->¬bT Z j (mem.set id .dead) g from(let ⟨A',n',c',w1,q1,q2,q3⟩:=CX (ty:=ty) (els:=(els.drop off).take len) (fz:=0) ht (s.kill hm) (br.kill hm) rfl hr' (by grind) hall' harg hnr (λg hg=>⟨hsf g hg,⟨id,_,hm,rfl,hbk g hg⟩⟩);⟨_,w1,q1,hlm ▸ q2.tail (fz:=0) (t:=e') (els:=(els.drop off).take len++xs) (by simp[newRow])⟩)
        intro g hg;rintro⟨k,x,hx,hl,hb⟩;have bf:id < mem.length:=(cE.1 hm).1
        by_cases e:id=k
        ·subst e;rw[jn bf]at hx;cases hx;cases hl
        ·rw[iM e]at hx;exact e (s.inj id k _ x g hm hx rfl hl (hbk g hg) hb)
      grind
    case tail id off =>
     cases hm:mem[id]? with
     |none=>grind
     |some o =>
      cases o<;>simp only[hm]at h<;>first|(cases h;done)|skip
      rename_i e' els fz;split at h
      ·rename_i hc;obtain⟨rfl,hfz,hroom⟩:=hc
       have efz:cond (m4 fz 0) 0 (fz - off)=fz - off:=by
        cases fz<;>simp[m4]
       rw[efz]at h;cases h;obtain⟨hend,hv⟩:=y5 s hm hv;obtain⟨len,hlen0⟩:∃len,len=els.length - off:=⟨_,rfl⟩
       rw[<-hlen0]at hv;obtain⟨hn,hh,hr⟩:=s.obj id _ hm;cases hv with
       |win hj hnn hlc hcc ha =>
        rename_i n c' sz c'' A A';rw[hj]at hh;cases hh;obtain⟨h1,h2,h3,h4,h5⟩:=hr;simp only at h1 h2 h4 h5;subst h1;have hlen:(els.drop off).length=len:=by grind
        have hr':lV P Z w ⟨.slice A' len c'',(aK P) e'⟩ e' (els.drop off) (fz - off):=by
         refine⟨rfl,h2,by grind,λx hx=>h4 x (uE hx),?_⟩;rcases ha with⟨rfl,rfl⟩|⟨g,b,o,rfl,rfl,ho1,ho2⟩
         ·grind
         ·right;rcases h5 with⟨h5,he⟩|⟨g',b',c,us,h5,hlc',hcm,hg,hus,hcells,hz1,hz2⟩
          ·grind
          ·simp only[Value.slice.injEq,Option.some.injEq,Addr.mk.injEq,and_true]at h5;obtain⟨⟨rfl,rfl⟩,rfl,rfl⟩:=h5;refine⟨g,b+o,c'',us,by grind,by grind,by omega,hg,?_,λk x hk=>?_,λx hx=>?_,λx hx=>?_⟩
           ·have:(off+c'') * (aK P) e'=off * (aK P) e'+c'' * (aK P) e':=jX _ _ _;grind
           ·have hkl:k < (els.drop off).length:=(cE.1 hk).1;rw[i6]at hk;grind
           ·obtain⟨q1,q2⟩:=hz1 x hx;have q2:x < b+fz * (aK P) e':=q2;have q3:off < fz:=by omega
            refine⟨by omega,?_⟩;show x < b+o+(fz - off) * (aK P) e';rw[ho2 (by omega),qy];grind
           ·have hx:x < (fz - off) * (aK P) e':=hx
            have q3:off < fz:=by
             grind
            rw[qy]at hx;grind
        have hbk:∀g,cO.blk ⟨.slice A' len c'',(aK P) e'⟩=aA g->dk j id=aA g:=by
         intro g hg;rcases ha with⟨rfl,rfl⟩|⟨g',b,o,rfl,rfl,_⟩
         ·simp[cO.blk]at hg
         ·simp[cO.blk]at hg;simp[dk,hj,cO.blk,hg]
        have hlm:(mem.set id O.dead).length=mem.length:=by simp
        obtain⟨news,harg,hnr⟩:=arg (lI hroom).2.2.1
        suffices hsf:∀g,cO.blk ⟨.slice A' len c'',(aK P) e'⟩=aA g->¬bT Z j (mem.set id .dead) g from(let ⟨A',n',c',w1,q1,q2,q3⟩:=CX (ty:=ty) (els:=els.drop off) (fz:=fz - off) ht (s.kill hm) (br.kill hm) rfl hr' hroom hall' harg hnr (λg hg=>⟨hsf g hg,⟨id,_,hm,rfl,hbk g hg⟩⟩);⟨_,w1,q1,hlm ▸ q2.tail (fz:=fz - off) (t:=e') (els:=els.drop off++xs) (by simp[newRow])⟩)
        intro g hg;rintro⟨k,x,hx,hl,hb⟩;have bf:id < mem.length:=(cE.1 hm).1
        by_cases e:id=k
        ·subst e;rw[jn bf]at hx;cases hx;cases hl
        ·rw[iM e]at hx;exact e (s.inj id k _ x g hm hx rfl hl (hbk g hg) hb)
      grind
   grind
def VR.flat{v:V}{u:aR}(h:VR Z w j v u)(hf:v.flat1=aD)(j':J):VR Z w j' v u:=by
 cases h<;>first|(simp[V.flat1]at hf;done)|constructor
def oo{y y':V}{u:aR}(h:kV y=aA y')(hv:VR Z w j y u):VR Z w j0 y' u/\y'.one=aD/\y.one=true:=by
 cases y<;>simp[kV]at h<;>subst h
 ·cases hv;exact⟨.bool,rfl,rfl⟩
 ·cases hv;exact⟨.int,rfl,rfl⟩
 ·cases hv;exact⟨.str,rfl,rfl⟩
 ·cases hv;exact⟨.sl0,rfl,rfl⟩
 ·exact⟨hv.down j0,rfl,rfl⟩
 ·cases hv;exact⟨.nilP,rfl,rfl⟩
 ·exact⟨hv.litSl.down j0,rfl,rfl⟩
 ·cases hv;rename_i hg;exact⟨.hp hg,rfl,rfl⟩
 ·cases hv;rename_i hg;exact⟨.hm hg,rfl,rfl⟩
 ·cases hv;exact⟨.nilM,rfl,rfl⟩
 ·cases hv;exact⟨.nilI,rfl,rfl⟩
 ·cases hv;rename_i hx;exact⟨.ifc hx,rfl,rfl⟩
def kY{α β:Type}{f:α->Option β}:∀{l:List α} {r:List β},cD f l=aA r->r.length=l.length/\∀(i:Nat) (y:β),r[i]? = aA y->∃x,l[i]? = aA x/\f x=aA y:=by
 intro l
 induction l with
 |nil=>intro r h;simp[cD]at h;grind
 |cons a l ih =>
  intro r h;simp only[cD]at h;cases h1:f a with
  |none=>grind
  |some b =>
   cases h2:cD f l with
   |none=>grind
   |some bs =>
    grind
def JZ{x y:V}{off:Nat}{vs:List V}(h:putCells x off vs=aA y)(h1:∀v∈vs,v.one=aD):y.cells=x.cells.take off++vs++x.cells.drop (off+vs.length)/\off+vs.length<=x.cells.length:=by
 unfold putCells at h;split at h
 ·split at h
  ·rename_i hle;cases h;exact⟨rfl,hle⟩
  grind
 ·split at h
  ·rename_i v;split at h
   ·rename_i hc;cases h;obtain⟨rfl,hx⟩:=hc;rw[lW hx,lW (h1 _ (by simp))];simp
   grind
  grind
def BM{g p:Nat}{us:Array aR}{t:aP}{vals:List aR}(hg:w.heap[g]? = aA (.cells us t (0,0)))(hp:p+vals.length<=us.size) :
  (w.setRow g (us.toList.take p++vals++us.toList.drop (p+vals.length)).toArray).heap[g]? = aA (.cells (us.toList.take p++vals++us.toList.drop (p+vals.length)).toArray t (0,0)) /\
  (us.toList.take p++vals++us.toList.drop (p+vals.length)).toArray.size=us.size /\
  ∀o,(w.setRow g (us.toList.take p++vals++us.toList.drop (p+vals.length)).toArray).cell? ⟨g,o,aF⟩=if p<=o/\o < p+vals.length then vals[o - p]? else us[o]?:=by
 have hg':=setRow_heap w g us (us.toList.take p++vals++us.toList.drop (p+vals.length)).toArray t (0,0) hg;refine⟨hg',by grind,λo=>?_⟩;rw[gB hg'];grind
def Kw{g p:Nat}{us:Array aR}{t t':aP}{u:aR}(hg:w.heap[g]? = aA (.cells us t' (0,0)))(hu:u.cells.size=(aK P) t)(h0:0 < (aK P) t)(h1:∀v∈u.cells.toList,v.oneCell'=aD)
  (hp:p+u.cells.toList.length<=us.size) :
  (Instr.storeAt t (.pointer (aA ⟨g,p,aF⟩)) u).run P w = .ok () (w.setRow g (us.toList.take p++u.cells.toList++us.toList.drop (p+u.cells.toList.length)).toArray):=by
 obtain⟨i,hi,his,_⟩:=vm h0;have hst:=yG P g p t' u.cells.toList 0 us w hg (by grind) h1;simp only[gn]at hst;have:¬(u.cells.size≠i.size):=by omega
 simp only[Instr.storeAt,Instr.sureAddr,storeVar,sizeOf,ij,Sem.run_bind,Sem.run_pure,Result.andThen_ok,run_program,hi];grind
def Vf(s:SR P Z w j mem){t:aP}{p v:V}{u up:aR}(h:nN P mem t p v=aA mem')(hp:VR Z w j p up)(hv:VR Z w j v u) :
  ∃w1,(Instr.storeAt t up u).run P w = .ok () w1/\dz P Z w j mem (.tup []) mem' undef w1:=by
 unfold nN at h;split at h
 ·rename_i hc;obtain⟨hvl,hvp,hv1⟩:=hc;have hpos:0 < v.cells.length:=by omega
  obtain⟨hus,hucl⟩:=hv.cellsOf (pT hv1)
  have hu1:∀c∈u.cells.toList,c.oneCell'=true:=by
   intro c hcm;obtain⟨i,hi,rfl⟩:=mq hcm;have hi':i < v.cells.length:=by grind
   have e:=cI hi';obtain⟨c',hc',hvr⟩:=hucl i _ e
   have:u.cells.toList[i]=c':=by
    grind
   rw[this];exact hvr.oneCell (pT hv1 _ (dH e))
  have hul:u.cells.toList.length=v.cells.length:=by grind
  have gen:∀(id k off g b:Nat) (hn:cO) (o o':O) (us:Array aR) (t':aP),mem[id]? = aA o->o.ar=aF->o'.ar=aF->o.live=aD->o'.live=aD->j id=aA hn->hn.blk=aA g->w.heap[g]? = aA (.cells us t' (0,0))->0 < v.cells.length ->
    b+v.cells.length<=us.size->(∀x,Z g x->x < b∨b+v.cells.length<=x)->up = .pointer (aA ⟨g,b,aF⟩) ->
    (∀w1,w1.heap[g]? = aA (.cells (us.toList.take b++u.cells.toList++us.toList.drop (b+u.cells.toList.length)).toArray t' (0,0)) ->
     (us.toList.take b++u.cells.toList++us.toList.drop (b+u.cells.toList.length)).toArray.size=us.size->bU Z w Z w1 ->
     (∀x,w1.cell? ⟨g,x,aF⟩=if b<=x/\x < b+u.cells.toList.length then u.cells.toList[x - b]? else us[x]?)->OR P Z w1 j id o') ->
    mem'=mem.set id o'->∃w1,(Instr.storeAt t up u).run P w = .ok () w1/\dz P Z w j mem (.tup []) mem' undef w1:=by
   intro id k off g b hn o o' us t' hm har har' hl hl' hj hb hg hpos hle hzz hup hor hmem;subst hup hmem;obtain⟨h1,h2,h3⟩:=BM (w:=w) (p:=b) (vals:=u.cells.toList) hg (by omega);refine⟨_,Kw hg (by omega) (by omega) hu1 (by omega),?_⟩;have hot:∀k,k≠g->(w.setRow g (us.toList.take b++u.cells.toList++us.toList.drop (b+u.cells.toList.length)).toArray).heap[k]? = w.heap[k]?:=λk hk=>oL w g k _ hk
   have hz':bU Z w Z (w.setRow g (us.toList.take b++u.cells.toList++us.toList.drop (b+u.cells.toList.length)).toArray):=by
    refine .of λg' x hx=>⟨hx,?_⟩
    by_cases e:g'=g
    ·subst e;have:=hzz x hx;refine⟨by rw[h3 x,bh (by omega),gB hg],?_⟩;simp only[jf,h1,hg,h2]
    ·exact ji (hot g' e) x
   have hne:∀g',dk j id≠aA g'->g'≠g:=by
    intro g' h e;subst e;exact h (by simp[dk,hj,hb])
   refine⟨Z,j,.tup (us:=[]) rfl (λi c u hc=>by grind),s.set hm (λ_=>hl) hz' (λg' hg'=>⟨hot g' (hne g' hg'),λ_=>Iff.rfl⟩) (λg' x hx=>by simpa using s.zin g' x hx) (λh=>by grind) (hor _ h1 h2 hz' h3) har har',?_,bG.refl _⟩;exact br.set hm (λ_=>hl) hl hz' (λg' hg'=>⟨hot g' (hne g' hg'),λ_=>Iff.rfl⟩) rfl rfl rfl (by simp) har har'
  cases p<;>simp only at h<;>first|(cases h;done)|skip
  case hp t' k off =>
   simp only[obi,omi]at h;obtain⟨⟨id,els⟩,hf,x,hk,vs,hvs,y,hpc,rfl⟩:=h;simp only at hk;have hm:=It hf;have hO:=s.obj id _ hm;obtain⟨hvsl,hvsg⟩:=kY hvs
   have hvs1:∀z∈vs,z.one=true:=by
    intro z hz;obtain⟨i,hi,rfl⟩:=mq hz;obtain⟨y0,hy0,hy1⟩:=hvsg i _ (cI hi);obtain⟨c,hc,hcv⟩:=hucl i y0 hy0;exact(oo hy1 hcv).2.1
   obtain⟨hyc,hle⟩:=JZ hpc hvs1;have hkl:k < els.length:=(cE.1 hk).1;cases hp with
   |hp hga =>
    rename_i g;obtain⟨us,hg,hxl,husl,hpos',hcells,hnz⟩:=hO.2 k x g hk hga;obtain⟨h1,h2,h3⟩:=BM (w:=w) (p:=off) (vals:=u.cells.toList) hg (by omega);refine⟨_,Kw hg (by omega) (by omega) hu1 (by omega),?_⟩;have hot:∀k,k≠g->(w.setRow g (us.toList.take off++u.cells.toList++us.toList.drop (off+u.cells.toList.length)).toArray).heap[k]? = w.heap[k]?:=λk hk=>oL w g k _ hk
    have hz':bU Z w Z (w.setRow g (us.toList.take off++u.cells.toList++us.toList.drop (off+u.cells.toList.length)).toArray):=by
     refine .of λg' x hx=>⟨hx,?_⟩
     by_cases e:g'=g
     ·grind
     ·exact ji (hot g' e) x
    obtain⟨q1,q2⟩:=s.setA (o':=.arena t' (els.set k y)) hm (n:=els.length) (t:=t') rfl (by simp[O.ar]) hz' (λg' hg'=>⟨hot g' λe=>hg' ⟨k,hkl,by grind⟩,λ_=>Iff.rfl⟩) (λg' x hx=>by simpa using s.zin g' x hx) rfl rfl rfl (by simp) (by
     refine⟨by rw[sg];exact hO.1,λk' x' g' hk' hg'=>?_⟩
     by_cases e:k=k'
     ·subst e;rw[hga]at hg';cases hg';rw[jn hkl]at hk';cases hk';refine⟨_,h1,by grind,by omega,hpos',λi y' hy'=>?_,hnz⟩;rw[h3];rw[hyc]at hy';have hto:(x.cells.take off).length=off:=by grind
      by_cases hi1:i < off
      ·rw[c8,eP (by omega),kx,bc hi1]at hy';rw[bh (by omega)];obtain⟨a,u',hu'',hvv⟩:=hcells i y' hy';rw[gB hg]at hu'';exact⟨a,u',hu'',hvv.mono hz' (bG.refl _)⟩
      ·rw[c8,eC (by omega),hto]at hy'
       by_cases hi2:i - off < vs.length
       ·rw[eP hi2]at hy';rw[bc (by omega)];obtain⟨y0,hy0,hy1⟩:=hvsg _ _ hy';obtain⟨c,hc,hcv⟩:=hucl _ y0 hy0;obtain⟨q1,q2,_⟩:=oo hy1 hcv;refine⟨q2,c,?_,q1.mono hz' (bG.refl _)⟩;grind
       ·rw[eC (by omega),i6]at hy';rw[bh (by omega)];rw[show off+vs.length+(i - off - vs.length)=i by omega]at hy';obtain⟨a,u',hu'',hvv⟩:=hcells i y' hy';rw[gB hg]at hu'';exact⟨a,u',hu'',hvv.mono hz' (bG.refl _)⟩
     ·rw[iM e]at hk';exact(hO.2 k' x' g' hk' hg').mono hz' ⟨hot g' λe'=>e (hO.1.inj k k' g hga (by grind)),λ_=>Iff.rfl⟩)
    exact⟨Z,j,.tup (us:=[]) rfl (λi c u hc=>by grind),q1,q2,bG.refl _⟩
  rename_i id k off;cases hp with
  |ptr hj hs =>
   rename_i g b0 hn;cases hm:mem[id]? with
   |none=>grind
   |some o =>
    have hO:=s.obj id o hm;cases o<;>simp only[hm]at h<;>first|(cases h;done)|skip
    case row t' els fz =>
     split at h
     ·rename_i hfk;cases hk:els[k]? with
      |none=>grind
      |some x =>
       cases hvs:cD kV v.cells with
       |none=>grind
       |some vs =>
        cases hpc:putCells x off vs with
        |none=>grind
        |some y =>
         simp[hk,hvs,hpc]at h;obtain⟨hvsl,hvsg⟩:=kY hvs
         have hvs1:∀z∈vs,z.one=true:=by
          intro z hz;obtain⟨i,hi,rfl⟩:=mq hz;obtain⟨y0,hy0,hy1⟩:=hvsg i _ (cI hi);obtain⟨c,hc,hcv⟩:=hucl i y0 hy0;exact(oo hy1 hcv).2.1
         obtain⟨hyc,hle⟩:=JZ hpc hvs1;obtain⟨hn',hh,h1,h2,h3,h4,h5⟩:=hO;rw[hj]at hh;cases hh;have hxl:=h4 x (dH hk);have hkl:k < els.length:=(cE.1 hk).1;rcases h5 with⟨_,he⟩|⟨g',b',c',us,hu',hlc,hcm,hg,hsz,hcells,hz1,hz2⟩
         ·grind
         ·have e:(g',b')=(g,b0):=by cases hn;simp at hu';subst hu';simpa[cO.start]using hs
          cases e;have hkk:(k+1) * hn.sz<=els.length * hn.sz:=dO _ hkl;have hcc:els.length * hn.sz<=c' * hn.sz:=dO _ hlc;rw[my]at hkk;refine gen id k off g (b0+(k * hn.sz+off)) hn _ (.row t' (els.set k y) fz) us t' hm rfl rfl rfl rfl hj (by cases hn;simp at hu';subst hu';rfl) hg hpos (by omega) (λx' hx'=>.inl ?_) rfl (λw1 hw1 hsz1 hz' hcell=>?_) h.symm
          ·have:=(hz1 x' hx').2;have:fz * hn.sz<=k * hn.sz:=dO _ hfk;omega
          ·refine⟨hn,hj,h1,h2,by grind,λz hz=>?_,.inr ⟨g,b0,c',_,by grind,by grind,hcm,hw1,by omega,λk' x' hk' i y' hy'=>?_,hz1,hz2⟩⟩
           ·grind
           ·rw[hcell]
            by_cases ek:k=k'
            ·subst ek;rw[jn hkl]at hk';cases hk';rw[hyc]at hy';have hto:(x.cells.take off).length=off:=by grind
             by_cases hi1:i < off
             ·rw[c8,eP (by omega),kx,bc hi1]at hy';rw[bh (by omega)];obtain⟨a,u',hu'',hvv⟩:=hcells k x hk i y' hy';rw[gB hg]at hu'';exact⟨a,u',hu'',hvv.mono hz' (bG.refl _)⟩
             ·rw[c8,eC (by omega),hto]at hy'
              by_cases hi2:i - off < vs.length
              ·rw[eP hi2]at hy';rw[bc (by omega)];obtain⟨y0,hy0,hy1⟩:=hvsg _ _ hy';obtain⟨c,hc,hcv⟩:=hucl _ y0 hy0;obtain⟨q1,q2,_⟩:=oo hy1 hcv;refine⟨q2,c,?_,q1.mono hz' (bG.refl _)⟩;rw[<-hc,show b0+k * hn.sz+i - (b0+(k * hn.sz+off))=i - off by omega];simp
              ·rw[eC (by omega),i6]at hy';rw[bh (by omega)];rw[show off+vs.length+(i - off - vs.length)=i by omega]at hy';obtain⟨a,u',hu'',hvv⟩:=hcells k x hk i y' hy';rw[gB hg]at hu'';exact⟨a,u',hu'',hvv.mono hz' (bG.refl _)⟩
            ·rw[iM ek]at hk';have hx'l:=h4 x' (dH hk');have hil:i < hn.sz:=by grind
             have hout:¬(b0+(k * hn.sz+off)<=b0+k' * hn.sz+i/\b0+k' * hn.sz+i < b0+(k * hn.sz+off)+u.cells.toList.length):=by
              rintro⟨q1,q2⟩;rcases Nat.lt_or_gt_of_ne ek with bf|hgt
              ·have:(k+1) * hn.sz<=k' * hn.sz:=dO _ bf;grind
              ·have:(k'+1) * hn.sz<=k * hn.sz:=dO _ hgt;grind
             rw[bh hout];obtain⟨a,u',hu'',hvv⟩:=hcells k' x' hk' i y' hy';rw[gB hg]at hu'';exact⟨a,u',hu'',hvv.mono hz' (bG.refl _)⟩
     grind
    case box t' x fz =>
     split at h
     ·rename_i hc;obtain⟨rfl,rfl⟩:=hc;have htl:(v.cells.map (oO mem)).length=v.cells.length:=by simp
      have ht1:∀y∈v.cells.map (oO mem),y.one=true:=by
       intro y hy;obtain⟨z,hz,rfl⟩:=fi.1 hy;rw[Vr];grind
      have hut:∀(i:Nat) (y:V),(v.cells.map (oO mem))[i]? = aA y->∃c,u.cells[i]? = aA c/\VR Z w j y c:=by
       intro i y hy;rw[gy]at hy;cases hz:v.cells[i]? with
       |none=>grind
       |some z =>
        simp[hz]at hy;subst hy;obtain⟨c,hc,hcv⟩:=hucl i z hz;exact⟨c,hc,Vs s hcv⟩
      obtain⟨vt,hvt⟩:∃vt,vt=v.cells.map (oO mem):=⟨_,rfl⟩
      rw[<-hvt]at htl ht1 hut h;cases hpc:putCells x off vt with
      |none=>grind
      |some y =>
       simp[hpc]at h;obtain⟨hyc,hle⟩:=JZ hpc ht1;obtain⟨g',us,hj',hg,hxl,husl,hcells,hz1,hz2⟩:=hO;rw[hj]at hj';cases hj';have e:(g',0)=(g,b0):=by simpa[cO.start]using hs
       cases e;refine gen id 0 off g (0+(0 * (aK P) t'+off)) _ _ (.box t' y aE) us t' hm rfl rfl rfl rfl hj rfl hg hpos (by omega) (λx' hx'=>by grind) rfl (λw1 hw1 hsz1 hz' hcell=>?_) h.symm;refine⟨g,_,hj,hw1,by grind,by omega,λi y' hy'=>?_,hz1,λh=>by grind⟩;rw[hcell];rw[hyc]at hy';have hto:(x.cells.take off).length=off:=by grind
       by_cases hi1:i < off
       ·rw[c8,eP (by omega),kx,bc hi1]at hy';rw[bh (by omega)];obtain⟨a,u',hu'',hvv⟩:=hcells i y' hy';rw[gB hg]at hu'';exact⟨a,u',hu'',hvv.mono hz' (bG.refl _)⟩
       ·rw[c8,eC (by omega),hto]at hy'
        by_cases hi2:i - off < vt.length
        ·rw[eP hi2]at hy';rw[bc (by omega)];obtain⟨c,hc,hcv⟩:=hut _ y' hy';refine⟨ht1 _ (dH hy'),c,?_,hcv.mono hz' (bG.refl _)⟩;grind
        ·rw[eC (by omega),i6]at hy';rw[bh (by omega)];rw[show off+vt.length+(i - off - vt.length)=i by omega]at hy';obtain⟨a,u',hu'',hvv⟩:=hcells i y' hy';rw[gB hg]at hu'';exact⟨a,u',hu'',hvv.mono hz' (bG.refl _)⟩
     grind
 grind
end
end Go.Lite
