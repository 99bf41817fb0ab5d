/-
  Texts that the last one stands on.
-/
import Derived.Test.YtlphgcjepphhcaaGreatR3
import Derived.Lib.Walk
import Derived.Lib.Overlaps
import Derived.Lib.AppendZerosOnto
import Derived.Laws.Externs
import Derived.Laws.IdiomCopy
import Derived.Laws.CopyRow
import Derived.Lib.Bytealg
import Derived.ProofKit
import Derived.OpenShut
import Derived.Carry
import Derived.ChangeArms
import Derived.ChangeCalls
import Derived.Sort.OwnSortedInts
import Derived.Lib.SlicesCompact
import Derived.Test.YtlphgcjepphhcaaGreatProg
set_option linter.all false
noncomputable section
open Option renaming some->aA,none->aF,bind_some->bu,map_some->dy,getD_some->uH
open Go renaming Program->bv,TypeId->aP,FuncId->cf,Operand->fD,World->bg,Value->aR,run_firstCells_some->Br,run_storeCells_at->yG,run_underlying->dP,typeInfo->ij,maxLen->f9,Calls->fQ,setRow_other->oL,grownCap->gq,Oper->dU
open Bool renaming true->aD,false_eq_true->d5,false->aE,and_self->qp,or_eq_true->oT,and_eq_true->cT,not_eq_true'->mU,false_and->uz,not_true->cN,false_ne_true->Mt,or_eq_false_iff->uA,or_false->zg
open Nat renaming le_refl->cZ,blt_eq->oY,eq_of_beq_eq_true->MP,mul_one->nR,blt->jq,lt_or_ge->nQ,add_zero->gn,zero_le->kz,add_assoc->ky,beq->m4,sub_mul->qy,mul_le_mul_right->dO,add_mul->jX,succ_mul->my,lt_of_lt_of_le->qx,zero_add->eW,le_trans->qw,mul_le_mul->Cj,sub_self->nS,pow_succ->Ck,mul_comm->Ci,pow_le_pow_right->MQ,add_comm->so
open Go.Program renaming cellsOf->aK,underlying->bO
open List renaming getElem?_eq_some_iff->cE,drop_eq_getElem_cons->sd,take_succ_cons->Cf,take_zero->Gt,replicate->cA,drop_eq_nil_of_le->B6,getElem?_eq_getElem->cI,drop_eq_nil_iff->Gn,getElem?_map->gy,all_eq_true->e9,size_toArray->wO,length_append->gJ,length_take->jW,length_drop->lh,getElem?_toArray->B9,append_assoc->c8,getElem?_set_self->jn,getElem?_set_ne->iM,mem_of_getElem?->dH,getElem_of_mem->mq,mem_of_mem_drop->uE,getElem?_drop->i6,mem_append->cG,mem_of_mem_take->uF,getElem?_append_left->eP,getElem?_take->kx,getElem?_append_right->eC,mem_map->fi,take_append_drop->lj,length_nil->jo,nil_append->il,getElem?_cons_zero->MC,mem_cons->dC,drop_drop->uC,drop_zero->wK,take_append_of_le_length->MK,take_of_length_le->zq,drop_append->B5,getElem?_of_mem->zk,eq_nil_of_length_eq_zero->wL,take_length->jI,all_cons->B4,append_nil->fR,map_cons->fJ,length_cons->d8,cons_append->gI,map_append->li,length_map->gm,range->eQ
open Go.Lite.V renaming cells->gV,junk->bj,flat1->js,one->fL,int->aC,agg->aI,ptr->aL,mp->dJ,tail->bl,str->aG
open Go.IntKind renaming i64->aB,bits->bJ,u64->b9,u8->bK
open Array renaming length_toList->Gg,size_append->BV,getElem?_eq_some_iff->gS,getElem?_eq_getElem->gG,getElem?_append_left->Mn,toArray_toList->Ms,getElem?_toList->BU,getElem?_map->Gf
open Go.Lite.O renaming dead->gU,box->aM,map->dI,row->aN
open Int renaming fdiv_eq_ediv_of_nonneg->Wf
namespace Go.Lite
open Go
structure iL(kc:KC):Prop where
 ik:∀f as0 mem k r,kc.ik f as0 mem k=aA r->∃v m,ol kc.cfg f as0 mem=aA (v,m)/\k v m=aA r
 ck:∀rd f as0 mem k r,kc.ck rd f as0 mem k=aA r->∃v m,bW kc.cfg rd f as0 mem=aA (v,m)/\k v m=aA r:=by exact λ_ _ _ _ _ _ h=>nomatch h
section
variable {kc:KC}{P:bv}{r:d6}
def C1{o:Option (Option V)}{d:Nat}{k:Nat->R}(h:xk o d k=aA r):∃n,gA o d=aA n/\k n=aA r/\(o=aF->n=d):=by
 unfold xk at h;split at h
 ·exact⟨d,rfl,h,λ_=>rfl⟩
 ·rename_i n;obtain⟨h1,h2⟩:=cU h;exact⟨n.toNat,by simp only[gA];grind,h2,λe=>by cases e⟩
 grind
def FV{o:Option (Option V)}{b:Bool}{k:R}(h:yP o b k=aA r)(hn:o=aF->b=aD):b=aD/\k=aA r:=by
 unfold yP at h;split at h
 ·grind
 ·exact cU h
def An{mem:List O}{x:V}{k:List V->R}(h:sU mem x k=aA r):∃l,dA mem x=aA l/\k l=aA r:=by
 unfold sU at h;split at h
 ·split at h
  ·rename_i hm;obtain⟨p,h⟩:=cU h;exact⟨_,by simp only[dA,hm,bc (gb p)],h⟩
  grind
 ·exact cS h
def ahO{mem:List O}{t:aP}{x:V}{lo hi mx:Option (Option V)}{k:V->R}(h:LS P mem t x lo hi mx k=aA r):∃v,lL P mem t x lo hi mx=aA v/\k v=aA r:=by
 unfold LS at h;split at h
 ·rename_i s hu;obtain⟨l,b1,h,z1⟩:=C1 h;obtain⟨m,b2,h,z2⟩:=C1 h;obtain⟨c1,h⟩:=FV h (λe=>by grind);obtain⟨c2,h⟩:=FV h (λe=>by grind);refine⟨_,?_,h⟩;simp only[lL,hu,b1,b2,bu,Option.isSome_none,d5,ej];grind
 ·rename_i x d x' mx' e hu;obtain⟨xs,hx,h⟩:=An h;obtain⟨p1,h⟩:=cU h;obtain⟨p2,h⟩:=cU h;obtain⟨l,b1,h,z1⟩:=C1 h;obtain⟨m,b2,h,z2⟩:=C1 h;obtain⟨c1,h⟩:=FV h (λe=>by grind);obtain⟨c2,h⟩:=FV h (λe=>by grind);have hb:gA aF xs.length=aA xs.length:=rfl
  have key:∀y,(match x with
    |.nilS=>aA .nilS
    |.sl xs=>aA (.sl ((xs.take m).drop l))
    |.own id =>
     match mem[id]? with
     |some (.row e' _ _)=>if (none:Option (Option V)).isSome then aF else if e'=e then aA (if hi.isNone then .tail id l else .win id l (m - l)) else aF
     |_=>aF
    |.tail id off =>
     match mem[id]? with
     |some (.row e' _ _)=>if (none:Option (Option V)).isSome then aF else if e'=e then aA (if hi.isNone then .tail id (off+l) else .win id (off+l) (m - l)) else aF
     |_=>aF
    |.win id off _ =>
     match mem[id]? with
     |some (.row e' _ _)=>if (none:Option (Option V)).isSome then aF else if e'=e then aA (.win id (off+l) (m - l)) else aF
     |_=>aF
    |_=>aF)=aA y->lL P mem t x lo hi aF=aA y:=by
   intro y hy;simp only[lL,hu,hx,b1,b2,hb,bu];rw[bc ⟨gb p1,gb c1,gb c2,cZ _,(by grind),p2⟩];grind
  cases x<;>first|grind|grind|grind|skip
  all_goals grind
 ·exact cS h
def Px{mem:List O}{x:V}{k:List V->R}(h:DK mem x k=aA r):∃l,n7 mem x=aA l/\k l=aA r:=by
 by_cases hs:∃b,x = .str b
 ·obtain⟨b,rfl⟩:=hs;exact⟨_,rfl,h⟩
 ·have e1:DK mem x k=sU mem x k:=by cases x<;>first|rfl|grind
  have e2:n7 mem x=dA mem x:=by cases x<;>first|rfl|grind
  rw[e1]at h;rw[e2];exact An h
def XS{t:aP}{s x:V}{mem:List O}{k:V->List O->R}(h:G9 P t s x mem k=aA r):∃v m,Ae P mem t s x=aA (v,m)/\k v m=aA r:=by
 unfold G9 at h;obtain⟨e,he,h⟩:=cS h;obtain⟨xs,hx,h⟩:=Px h;obtain⟨p1,h⟩:=cU h;obtain⟨q,hq,h⟩:=cS h;have hw:(xs.all λy=>y.cells.length==(aK P) e)=true:=p1;split at h
 ·rename_i e' els fz hm;obtain⟨p3,h1⟩:=cU h;obtain⟨p4,h2⟩:=cU h1;obtain⟨p5,h3⟩:=cU h2;have ee:e'=e:=by grind
  subst ee;have p4:=gb p4;have p5:=gb p5;refine⟨_,_,?_,h3⟩;simp only[Ae,he,hx,hq,bu,hm];grind
 grind
def XA{t:aP}{s:V}{mem:List O}{k:V->List O->R}(h:G2 P t s mem k=aA r):∃v m,Aa P mem t s=aA (v,m)/\k v m=aA r:=by
 unfold G2 at h;obtain⟨e,he,h⟩:=cS h;obtain⟨q,hq,h⟩:=cS h;split at h
 ·rename_i e' els fz hm;obtain⟨p3,h1⟩:=cU h;obtain⟨p4,h2⟩:=cU h1;obtain⟨p5,h3⟩:=cU h2;obtain⟨p6,h4⟩:=cU h3;obtain⟨z,hz,h5⟩:=cS h4;obtain⟨z',hz',h6⟩:=cS h5;clear h h1 h2 h3 h4 h5;have ee:e'=e:=by grind
  subst ee;have p5:=gb p5;have p6:=gb p6;refine⟨_,_,?_,h6⟩;have hr:fC P e' 0=true:=by simp[fC,p4]
  simp only[Aa,he,hq,bu,hm];grind
 grind
def acy{t:aP}{ok:Bool}{v:V}{k:V->R}(hi:I9 P t=aE)(h:I3 t v (λx=>rP P t x λx=>k (cond ok (.tup [x,.bool aD]) x)) (cond ok (cg (wG P t) λz=>k z) aF)=aA r) :
  ∃u,y7 P t ok v=aA u/\k u=aA r:=by
 have ti:y7 P t ok v=CZ P t ok v:=by
  unfold y7;unfold I9 at hi;cases hu:(bO P) t with
  |none=>simp[hu]at hi
  |some d=>cases d<;>first|rfl|(simp[hu]at hi;done)
 have no:(cond ok (cg (wG P t) λz=>k z) aF)=aA r->∃u,(if ok then wG P t else aF)=aA u/\k u=aA r:=λh=>by
  rcases dm h with⟨e,h⟩|⟨_,h⟩
  ·obtain⟨z,hz,h⟩:=cS h;exact⟨z,by rw[e,bc rfl];exact hz,h⟩
  ·cases h
 rw[ti];unfold I3 at h;split at h
 ·exact no h
 ·rename_i t' x;simp only[CZ];rcases dm h with⟨e,h⟩|⟨e,h⟩
  ·rw[bc (by simpa using e)];refine⟨_,rfl,?_⟩;have h:=ut h;cases ok<;>exact h
  ·rw[bh (by simpa using e)];exact no h
 ·cases h
def adW{t:aP}{a b:V}{mem:List O}{k:V->List O->R}(h:Jn P t a b mem k=aA r):∃v m,qY P mem t a b=aA (v,m)/\k v m=aA r:=by
 unfold Jn at h;obtain⟨e,he,h⟩:=cS h;split at h
 ·obtain⟨p1,h⟩:=cU h;obtain⟨p2,h⟩:=cU h;obtain⟨p3,h⟩:=cU h;obtain⟨p4,h⟩:=cU h;obtain⟨z,hz,h⟩:=cS h;obtain⟨z',hz',h⟩:=cS h;refine⟨_,_,?_,h⟩;simp only[qY,he,bu];rw[bc ⟨gb p1,gb p2,by simp only[fC,p3,p4,qp]⟩];simp only[hz,bu,hz',dy,newRow]
 grind
def XQ{mem:List O}{s d:aP}{x:V}{k:V->R}(h:G7 P mem s d x k=aA r):∃v,po P mem s d x=aA v/\k v=aA r:=by
 unfold G7 at h;split at h
 ·rename_i e h1 h2;obtain⟨xs,h3,h⟩:=An h;obtain⟨p1,h⟩:=cU h;obtain⟨ns,h4,h⟩:=cS h;refine⟨_,?_,h⟩
  have ht:wB P e xs=aA (.str (ns.map λn=>UInt8.ofNat n.toNat)):=by
   unfold wB;grind
  have key:∀x,dA mem x=aA xs->po P mem s d x=aA (.str (ns.map λn=>UInt8.ofNat n.toNat)):=by
   intro x h3;unfold po;rw[h1,h2];cases x<;>first|(cases h3;done)|grind
  grind
 ·exact cS h
def WM{t:aP}{s x:V}{mem:List O}{k:V->List O->R}(h:GI P t s x mem k=aA r):∃v m,kE P mem t s x=aA (v,m)/\k v m=aA r:=by
 unfold GI at h;obtain⟨e,he,h⟩:=cS h;obtain⟨xs,hx,h⟩:=Px h;obtain⟨p1,h⟩:=cU h;obtain⟨p2,h⟩:=cU h;have hw:(xs.all λy=>y.cells.length==(aK P) e)=true:=p1;split at h
 ·obtain⟨p3,h⟩:=cU h;exact⟨_,_,by simp only[kE,he,hx,bu,hw,dv,fC,p2,p3,qp,newRow],h⟩
 ·rename_i id;split at h
  ·rename_i e' els fz hm;obtain⟨p3,h⟩:=cU h;obtain⟨p4,h⟩:=cU h;have ee:e'=e:=by grind
   subst ee;exact⟨_,_,by simp only[kE,he,hx,bu,hw,dv,hm,fC,p2,p4,qp,and_self,newRow],h⟩
  grind
 ·split at h
  ·rename_i e' els fz hm;obtain⟨p3,h⟩:=cU h;obtain⟨p5,h⟩:=cU h;obtain⟨p6,h⟩:=cU h;have ee:e'=e:=by grind
   subst ee;simp only[oT,Nat.beq_eq,oY]at p5;exact⟨_,_,by simp only[kE,he,hx,bu,hw,dv,hm,fC,p2,p5,p6,qp,and_self,newRow],h⟩
  grind
 ·split at h
  ·rename_i e' els fz hm;obtain⟨p3,h1⟩:=cU h;obtain⟨p5,h2⟩:=cU h1;obtain⟨p6,h3⟩:=cU h2;obtain⟨p7,h4⟩:=cU h3;clear h h1 h2 h3;have ee:e'=e:=by grind
   subst ee;have p5:=MP p5;subst p5;have p6:=gb p6;exact⟨_,_,by simp only[kE,he,hx,bu,hw,dv,hm,fC,p2,p6,p7,qp,and_self,newRow],h4⟩
  grind
 ·obtain⟨p3,h1⟩:=cU h;obtain⟨p5,h2⟩:=cU h1;obtain⟨p6,h3⟩:=cU h2;clear h h1 h2;rw[iQ]at p3;subst p3;simp only[cC]at p6;exact⟨_,_,by simp only[kE,he,hx,bu,hw,dv,fC,p2,p5,p6,qp,and_self],h3⟩
 grind
def WK{t t':aP}{s x:V}{mem:List O}{k:V->List O->R}(h:GH P t t' s x mem k=aA r):∃v m,uO P mem t t' s x=aA (v,m)/\k v m=aA r:=by
 unfold GH at h;unfold uO;split at h
 ·rename_i kn n hu;obtain⟨e,he,h⟩:=cS h;obtain⟨p1,h⟩:=cU h;obtain⟨p2,h⟩:=cU h;obtain⟨p3,h⟩:=cU h;obtain⟨z,hz,h⟩:=cS h;obtain⟨z',hz',h⟩:=cS h;refine⟨_,_,?_,h⟩;simp only[hu,he,bu];rw[bc ⟨gb p1,by simp only[fC,p2,p3,qp]⟩];simp only[hz,hz',bu,dy,newRow]
 ·cases h
def acG{mem:List O}{t:aP}{x i:V}{k:V->List O->R}(h:I5 P mem t x i k=aA r):∃v,j8 P mem t x i=aA v/\k v mem=aA r:=by
 unfold I5 at h;split at h
 ·rename_i e ik n hu;obtain⟨p0,h⟩:=cU h;have p0:=gb p0;split at h
  ·obtain⟨y,hy,h⟩:=pI h;have h:=ut h;obtain⟨p1,h⟩:=cU h;have p1:y.cells.length=(aK P) e:=by grind
   exact⟨_,by simp only[j8,hu,bc p0,hy,bu,bc p1],h⟩
  ·split at h
   ·rename_i id _ e' els fz hm;obtain⟨p1,h⟩:=cU h;obtain⟨p2,h⟩:=cU h;have p1:e'=e:=by grind
    exact⟨_,by simp only[j8,hu,bc p0,hm,bc (And.intro p1 (gb p2))],h⟩
   grind
  ·split at h
   ·rename_i id off len _ e' els fz hm;obtain⟨p1,h⟩:=cU h;obtain⟨p2,h⟩:=cU h;obtain⟨p3,h⟩:=cU h;have p1:e'=e:=by grind
    exact⟨_,by simp only[j8,hu,bc p0,hm,bc (And.intro p1 (And.intro (gb p2) (gb p3)))],h⟩
   grind
  ·split at h
   ·rename_i id off _ e' els fz hm;obtain⟨p1,h⟩:=cU h;obtain⟨p2,h⟩:=cU h;have p1:e'=e:=by grind
    exact⟨_,by simp only[j8,hu,bc p0,hm,bc (And.intro p1 (gb p2))],h⟩
   grind
  grind
 ·rename_i len e ik n hu;obtain⟨p0,h⟩:=cU h;obtain⟨p1,h⟩:=cU h;obtain⟨p2,h⟩:=cU h;have hc:=And.intro (gb p0) (And.intro (gb p1) (gb p2));split at h
  ·exact⟨_,by simp only[j8,hu,bc hc],h⟩
  ·exact⟨_,by simp only[j8,hu,bc hc],h⟩
  grind
 ·exact cS h
def Ri{mem:List O}{t:aP}{p c:V}{cs:List V}{off:Nat}(hl:f0 mem p=aA (.agg cs,off))(h1:(aK P) t=1)(hd:Iz ((bO P) t)=aD)(hc:cs[off]? = aA c):gD P mem t p=aA c:=by
 unfold gD;obtain⟨bf,hcc⟩:=cE.1 hc
 have e1:(cs.drop off).take 1=[c]:=by
  rw[sd bf,Cf,Gt,hcc]
 simp only[hl,bu,gV,h1,e1,List.length_singleton,dv];unfold pP;cases hu:(bO P) t with
 |none=>rw[hu]at hd;cases hd
 |some d=>rw[hu]at hd;cases d<;>first|(cases hd;done)|rfl
def adD{mem:List O}{t:aP}{id i off:Nat}{e:aP}{els:List V}{fz:Nat}{x v:V}(hm:mem[id]? = aA (.row e els fz))(hx:els[i]? = aA x)
  (hl:(((x.cells.drop off).take ((aK P) t)).length==(aK P) t)=aD) (hv:pP P t ((x.cells.drop off).take ((aK P) t))=aA v):gD P mem t (.ptr id i off)=aA v:=by
 unfold gD;simp only[f0,hm,hx,dy,bu];grind
def adC{mem:List O}{t:aP}{p:V}{k:V->R}(h:Jj P mem t p k=aA r):∃v,gD P mem t p=aA v/\k v=aA r:=by
 unfold Jj at h;split at h
 ·split at h
  ·rename_i hm;obtain⟨x,hx,h⟩:=pI h;have h:=ut h;rcases dm h with⟨hl,h⟩|⟨_,h⟩
   ·obtain⟨v,hv,h⟩:=cS h;exact⟨v,adD hm hx hl hv,h⟩
   grind
  ·rename_i hm;rcases dm h with⟨c1,h⟩|⟨_,h⟩
   ·obtain⟨p1,h1⟩:=cU h;obtain⟨c,hc,h2⟩:=pI h1;have h3:=xO h2;clear h h1 h2;simp only[cT,iQ]at c1;have p1:=MP p1;subst p1;exact⟨c,Ri (by simp only[f0,hm,dv]) c1.1 c1.2 hc,h3⟩
   ·exact cS h
  ·exact cS h
 ·rcases dm h with⟨c1,h⟩|⟨_,h⟩
  ·obtain⟨c,hc,h⟩:=pI h;have h:=xO h;simp only[cT,iQ]at c1;exact⟨c,Ri rfl c1.1 c1.2 hc,h⟩
  ·exact cS h
 ·obtain⟨r',hr,h⟩:=cS h;obtain⟨x,hx,h⟩:=pI h;have h:=ut h;rcases dm h with⟨hl,h⟩|⟨_,h⟩
  ·obtain⟨v,hv,h⟩:=cS h;refine⟨v,?_,h⟩;unfold gD;simp only[f0,hr,hx,dy,bu];grind
  grind
 ·exact cS h
def L4{mem:List O}{t:aP}{p v:V}{k:List O->R}(h:BL P mem t p v k=aA r):∃m,nN P mem t p v=aA m/\k m=aA r:=by
 unfold BL at h;split at h
 ·split at h
  ·rename_i hm;obtain⟨p1,h⟩:=cU h;obtain⟨p2,h⟩:=cU h;obtain⟨x,hx,h⟩:=pI h;have h:=ut h;obtain⟨vs,hvs,h⟩:=cS h;obtain⟨y,hy,h⟩:=cS h;refine⟨_,?_,h⟩;unfold nN;grind
  ·exact cS h
 ·obtain⟨p1,h⟩:=cU h;obtain⟨r',hr,h⟩:=cS h;obtain⟨x,hx,h⟩:=pI h;have h:=ut h;obtain⟨vs,hvs,h⟩:=cS h;obtain⟨y,hy,h⟩:=cS h;refine⟨_,?_,h⟩;unfold nN;grind
 ·exact cS h
def Ew{mem:List O}{m:V}{k:List (V × V)->R}(h:xS mem m k=aA r):∃es,gO mem m=aA es/\k es=aA r:=by
 unfold xS at h;split at h
 ·split at h
  ·rename_i es hm;exact⟨es,by simp only[gO,hm],h⟩
  grind
 ·obtain⟨r',hr,h⟩:=cS h;obtain⟨es,hx,h⟩:=pI h;exact⟨es,by simp only[gO,hr,hx,bu],h⟩
 grind
def acI{t:aP}{x i:V}{k:V->R}(h:I6 P t x i k=aA r):∃v,qR P t x i=aA v/\k v=aA r:=by
 unfold I6 at h;split at h
 ·rename_i hu;obtain⟨p0,h⟩:=cU h;obtain⟨b,hb,h⟩:=pI h;exact⟨_,by simp only[qR,hu,bc (gb p0),hb,dy],h⟩
 ·rename_i len e cs ik n hu;obtain⟨p0,h⟩:=cU h;obtain⟨p1,h⟩:=cU h;have hcond:=And.intro (gb p0) (gb p1);rcases dm h with⟨c1,h⟩|⟨_,h⟩
  ·obtain⟨c,hc,h⟩:=pI h;have h:=xO h;simp only[cT,iQ]at c1;refine⟨c,?_,h⟩;simp only[qR,hu,bc hcond,rp,c1.1,nR];obtain⟨bf,hcc⟩:=cE.1 hc
   have e1:(cs.drop n.toNat).take 1=[c]:=by
    rw[sd bf,Cf,Gt,hcc]
   rw[e1];simp only[List.length_singleton,dv];have hd:=c1.2;unfold pP;cases hue:(bO P) e with
   |none=>rw[hue]at hd;cases hd
   |some d =>
    rw[hue]at hd;cases d<;>first|(cases hd;done)|rfl
  ·obtain⟨v,hv,h⟩:=cS h;exact⟨v,by simp only[qR,hu,bc hcond,hv],h⟩
 ·exact cS h
def W6{op:BinOp}{t:aP}{x y:V}{k:V->R}(h:GQ P op t x y k=aA r):∃v,nX P op t x y=aA v/\k v=aA r:=by
 unfold GQ at h;split at h
 ·obtain⟨p1,h1⟩:=cU h;obtain⟨p2,h2⟩:=cU h1;have p1:=eq_of_beq p1;subst p1;rw[mU]at p2;exact⟨_,by simp only[nX,vQ,d5,ej,iR,dv,sG,bh (of_decide_eq_false p2)],h2⟩
 ·obtain⟨p1,h1⟩:=cU h;obtain⟨p2,h2⟩:=cU h1;have p1:=eq_of_beq p1;subst p1;rw[mU]at p2;exact⟨_,by simp only[nX,vQ,d5,ej,iR,dv,sG,bh (of_decide_eq_false p2)],h2⟩
 ·obtain⟨p2,h⟩:=cU h;rw[mU]at p2;exact⟨_,by simp only[nX,vQ,d5,ej,iR,bh (of_decide_eq_false p2)],h⟩
 ·obtain⟨p2,h⟩:=cU h;rw[mU]at p2;exact⟨_,by simp only[nX,vQ,d5,ej,iR,bh (of_decide_eq_false p2)],h⟩
 ·obtain⟨p2,h⟩:=cU h;exact⟨_,by simp only[nX,vQ,d5,ej,iR,F3,bc (gb p2)],h⟩
 ·exact cS h
def AK{α β:Type}{f:α->(β->R)->R}{g:α->Option β}(hf:∀x k,f x k=aA r->∃y,g x=aA y/\k y=aA r):∀{l:List α} {k:List β->R},vC f l k=aA r->∃ys,cD g l=aA ys/\k ys=aA r:=by
 intro l
 induction l with
 |nil=>intro k h;exact⟨[],rfl,h⟩
 |cons x l ih =>
  intro k h;obtain⟨y,h1,h⟩:=hf _ _ h;obtain⟨ys,h2,h⟩:=ih h;exact⟨y::ys,by simp only[cD,h1,h2,bu,dy],h⟩
def FW{mem:List O}{v:V}{k:V->R}(h:yQ mem v k=aA r):∃y,ge mem v=aA y/\k y=aA r:=by
 unfold yQ at h;split at h
 ·obtain⟨l,h1,h⟩:=An h;exact⟨_,by simp only[ge,h1,dy],h⟩
 ·exact cS h
def FX{mem:List O}{v:V}{k:V->R}(h:yR mem v k=aA r):∃y,iy mem v=aA y/\k y=aA r:=by
 unfold yR at h;split at h
 ·obtain⟨l,h1,h⟩:=AK (λx k h=>FW h) h;exact⟨_,by simp only[iy,h1,dy],h⟩
 ·obtain⟨⟨x,off⟩,h1,h⟩:=cS h;simp only at h;split at h
  ·obtain⟨l,h2,h⟩:=AK (λx k h=>FW h) h;exact⟨_,by simp only[iy,h1,bu,h2,dy],h⟩
  ·rename_i hx;obtain⟨y,h2,h⟩:=FW h;refine⟨_,?_,h⟩;simp only[iy,h1,bu]
   all_goals grind
 ·rename_i h1 h2;obtain⟨y,h3,h⟩:=FW h;refine⟨y,?_,h⟩;cases v<;>first|exact(h1 _ rfl).elim|exact(h2 _ _ _ rfl).elim|exact h3
def aii{mem:List O}{t:aP}{p v:V}{k:List O->R}(h:L5 P mem t p v k=aA r):∃m,un P mem t p v=aA m/\k m=aA r:=by
 unfold L5 at h;unfold un;split at h
 ·split at h
  ·rename_i he;rw[he,bh (by grind)];exact L4 h
  ·rename_i i is he;obtain⟨v',h1,h⟩:=FX h;rw[he,bc (by simp[nG]),h1];exact L4 h
 ·rename_i hne;have:nG p=false:=by cases p<;>first|rfl|grind
  rw[this,uz,bh (by simp)];exact L4 h
def ahR{mem:List O}{v:V}{k:V->R}(h:LX mem v k=aA r):∃y,ku mem v=aA y/\k y=aA r:=by
 unfold LX at h;split at h
 ·obtain⟨l,h1,h⟩:=AK (λx k h=>FX h) h;exact⟨_,by simp only[ku,h1,dy],h⟩
 ·rename_i h1;obtain⟨y,h3,h⟩:=FX h;refine⟨y,?_,h⟩;cases v<;>first|exact(h1 _ _ rfl).elim|exact h3
def afF{f:cf}{as0:List V}{k:V->R}(h:J7 kc f as0 k=aA r):∃x,bP kc.cfg f as0=aA x/\k x=aA r:=by
 unfold J7 at h;split at h
 ·rename_i g hg;split at h
  ·rename_i x hx;exact⟨x,kc.pvok _ _ _ _ hg hx,h⟩
  grind
 ·exact afc h
def NA(hik:iL kc){dr:Bool}{f:cf}{ty:aP}{args:List V}{mem:List O}{k:V->List O->R}(h:C6 kc dr f ty args mem k=aA r) :
  ∃v m,jw kc.cfg (jy kc.cfg) dr f args mem=aA (v,m)/\k v m=aA r:=by
 unfold C6 at h;obtain⟨p1,h⟩:=cU h;unfold jw;rw[p1];simp only[cN,d5,ej];rcases dm h with⟨c1,h⟩|⟨c1,h⟩
 ·rw[c1];simp only[dv];obtain⟨as0,ha,h⟩:=AK (λx k h=>ahR h) h;obtain⟨v,hv,h⟩:=afF h;have h:=af6 h;simp only[ha,bu];have hv':(jy kc.cfg).pc f as0=aA v:=hv;rw[hv'];simp only[bu];rcases dm h with⟨c2,h⟩|⟨c2,h⟩
  ·rw[c2];simp only[dv];rcases dm h with⟨_,h⟩|⟨c3,h⟩
   ·cases h
   ·rw[c3];simp only[d5,ej];exact⟨_,_,rfl,h⟩
  ·rw[c2];simp only[d5,ej];exact⟨_,_,rfl,h⟩
 ·rw[c1];simp only[d5,ej];rcases dm h with⟨_,h⟩|⟨c2,h⟩
  ·cases h
  ·rw[c2];simp only[d5,ej];split at h
   ·rename_i hcf;rw[hcf];exact hik.ik _ _ _ _ _ h
   ·rename_i rd hcf;rw[hcf];obtain⟨v,m,h1,h⟩:=hik.ck _ _ _ _ _ _ h
    have hrk:(kc.cfg.ro f=aD->(nr rd.row args mem v m).2.take mem.length=mem)/\k (nr rd.row args mem v m).1 (nr rd.row args mem v m).2=aA r:=by
     rcases dm h with⟨_,h⟩|⟨c4,h⟩
     ·obtain⟨e1,e2⟩:=abY h;exact⟨λ_=>e1,e2⟩
     ·exact⟨λe=>(by rw[e]at c4;cases c4),h⟩
    unfold bW at h1;simp only[omi]at h1;obtain⟨r0,h1,h2⟩:=h1;refine⟨_,_,Ko ?_ hrk.1,hrk.2⟩;simp only[sK];rw[show(jy kc.cfg).ic _ _ _=_ from h1,dy,h2];rfl
def Sf(hik:iL kc){dr:Bool}{o:bz}{env:List V}{mem:List O}{k:V->List O->R}(h:iI kc dr o env mem k=aA r) :
  ∃v m,da kc.cfg (jy kc.cfg) dr o env mem=aA (v,m)/\k v m=aA r:=by
 rcases o with⟨dst,op,ty,gu⟩
 have dflt:∀q:Option (V × List O),(cg q λr=>k r.1 r.2)=aA r->∃v m,q=aA (v,m)/\k v m=aA r:=by
  intro q hq;obtain⟨⟨v,m⟩,h1,h2⟩:=cS hq;exact⟨v,m,h1,h2⟩
 cases op
 case pick c a b =>
  simp only[iI]at h;obtain⟨c',h1,h⟩:=cS h;obtain⟨a',h2,h⟩:=cS h;obtain⟨b',h3,h⟩:=cS h;obtain⟨t,rfl,h'⟩:=Jc h;simp only[da,h1,h2,h3,bu];rcases dm h' with⟨rfl,h'⟩|⟨rfl,h'⟩
  ·exact⟨_,_,rfl,h'⟩
  ·exact⟨_,_,rfl,h'⟩
 case load t a =>
  simp only[iI]at h;obtain⟨c',h1,h⟩:=cS h;rcases dm h with⟨_,h⟩|⟨hb,h⟩
  ·cases h
  obtain⟨v,h2,h⟩:=adC h;exact⟨_,_,by simp only[da,h1,h2,hb,bu,dy,d5,ej],h⟩
 case nilCheck x =>
  simp only[iI]at h;obtain⟨c',h1,h⟩:=cS h;rcases dm h with⟨hs,h⟩|⟨_,h⟩
  ·exact⟨_,_,by simp only[da,h1,hs,bu,dv],h⟩
  ·cases h
 case store t a x =>
  simp only[iI]at h;obtain⟨c',h1,h⟩:=cS h;obtain⟨x',h3,h⟩:=cS h;rcases dm h with⟨_,h⟩|⟨hb,h⟩
  ·cases h
  obtain⟨v,h2,h⟩:=aii h;exact⟨_,_,by simp only[da,h1,h2,h3,hb,d5,ej,bu,dy],h⟩
 case binOp op t x y yt =>
  simp only[iI]at h;obtain⟨c',h1,h⟩:=cS h;obtain⟨x',h3,h⟩:=cS h;obtain⟨v,h2,h⟩:=W6 h;exact⟨_,_,by simp only[da,h1,h2,h3,bu,dy],h⟩
 case slice t x lo hi mx =>
  simp only[iI]at h;obtain⟨c',h1,h⟩:=cS h;rcases dm h with⟨_,h⟩|⟨hbx,h⟩
  ·cases h
  obtain⟨v,h2,h⟩:=ahO h;exact⟨_,_,by simp only[da,h1,h2,hbx,d5,ej,bu,dy],h⟩
 case indexAddr t x i =>
  simp only[iI]at h;obtain⟨c',h1,h⟩:=cS h;obtain⟨x',h3,h⟩:=cS h;rcases dm h with⟨_,h⟩|⟨hbx,h⟩
  ·cases h
  obtain⟨v,h2,h⟩:=acG h;exact⟨_,_,by simp only[da,h1,h2,h3,hbx,d5,ej,bu,dy],h⟩
 case makeSlice t n c =>
  simp only[iI]at h;obtain⟨a,h1,h⟩:=cS h;obtain⟨b,h3,h⟩:=cS h;obtain⟨v,m,h2,h⟩:=adW h;exact⟨v,m,by simp only[da,h1,h2,h3,bu],h⟩
 case typeAssert x s t ok =>
  simp only[iI]at h;obtain⟨v,h1,h⟩:=cS h;rcases dm h with⟨_,h⟩|⟨hi,h⟩
  ·cases h
  obtain⟨u,h2,h⟩:=acy hi h;exact⟨u,mem,by simp only[da,h1,bu,h2,dy],h⟩
 case convert st d x =>
  simp only[iI]at h;obtain⟨a,h1,h⟩:=cS h;obtain⟨v,h2,h⟩:=XQ h;refine⟨v,mem,?_,h⟩;simp only[da,h1,bu];cases dr
  ·rw[show(if aE=aD then [] else mem)=mem from rfl,show po kc.cfg.P mem st d a=aA v from h2];rfl
  ·rw[show(if aD=aD then [] else mem)=([]:List O) from rfl,show po kc.cfg.P [] st d a=aA v from h2];rfl
 case index t x i =>
  simp only[iI]at h;obtain⟨c',h1,h⟩:=cS h;obtain⟨x',h3,h⟩:=cS h;obtain⟨v,h2,h⟩:=acI h;exact⟨_,_,by simp only[da,h1,h2,h3,bu,dy],h⟩
 case lookup t m key ok =>
  simp only[iI]at h;obtain⟨m',h1,h⟩:=cS h;obtain⟨key',h2,h⟩:=cS h;obtain⟨es,hm,h⟩:=Ew h;obtain⟨p1,h⟩:=cU h;obtain⟨e,he,h⟩:=cS h;obtain⟨z,hz,h⟩:=cS h;obtain⟨q,hq,h⟩:=ad8 h;rcases h with⟨rfl,h⟩|⟨v,rfl,h⟩
  ·exact⟨_,_,by simp only[da,h1,h2,hm,p1,dv,he,hz,hq,bu,dy,Option.getD_none,Option.isSome_none],h⟩
  ·have h:=xO h;exact⟨_,_,by simp only[da,h1,h2,hm,p1,dv,he,hz,hq,bu,dy,uH,Option.isSome_some],h⟩
 case mapUpdate t m key x =>
  simp only[iI]at h;obtain⟨m',h1,h⟩:=cS h;obtain⟨key',h2,h⟩:=cS h;obtain⟨x',h3,h⟩:=cS h;obtain⟨es,hm,h⟩:=Ew h;obtain⟨p1,h⟩:=cU h;obtain⟨p2,h⟩:=cU h;obtain⟨e,he,h⟩:=cS h;exact⟨_,_,by simp only[da,h1,h2,h3,hm,p1,p2,and_self,dv,he,bu,dy],h⟩
 case call c =>
  obtain⟨callee,args,ats⟩:=c;cases callee
  case value f =>
   simp only[iI]at h;obtain⟨fv,h1,h⟩:=cS h;obtain⟨as0,h2,h⟩:=cS h;cases fv<;>simp only at h<;>first|(cases h;done)|skip
   rcases dm h with⟨hc,h⟩|⟨hc,h⟩
   ·rcases dm h with⟨_,h⟩|⟨hb,h⟩
    ·cases h
    obtain⟨v,m,h3,h⟩:=NA hik h;exact⟨v,m,by simp only[da,h1,h2,hb,bu];rw[bc (Nat.le_of_ble_eq_true hc),bh Mt,h3],h⟩
   have hc:=λhle=>Mt (hc.symm.trans (Nat.ble_eq_true_of_le hle))
   rcases dm h with⟨hb,h⟩|⟨hb,h⟩
   ·rcases dm h with⟨hb2,h⟩|⟨_,h⟩
    ·rcases dm h with⟨hna,h⟩|⟨_,h⟩
     rotate_left
     ·cases h
     obtain⟨v,m,h3,h⟩:=hik.ik _ _ _ _ _ h;obtain⟨h4,h⟩:=cU h;refine⟨_,_,?_,h⟩;simp only[da,h1,h2,hb,hb2,bu,bh hc,dv];unfold pC;rw[bh (by rw[hna];simp),show(jy kc.cfg).ic _ _ _=_ from h3,bu,bc (Nat.le_of_ble_eq_true h4)]
    ·cases h
   obtain⟨v,m,h3,h⟩:=NA hik h;exact⟨v,m,by simp only[da,h1,h2,hb,bu,bh hc,d5,ej,h3],h⟩
  case builtin b =>
   cases b
   case len =>
    simp only[iI]at h;obtain⟨as0,h2,h⟩:=cS h;rcases dm h with⟨_,h0⟩|⟨hbx,h0⟩
    ·cases h0
    clear h;revert h0;intro h;split at h
    ·rename_i t ts id off len rest hat;rcases dm h with⟨p1,h⟩|⟨_,h⟩
     ·obtain⟨l,h3,h⟩:=An h;split at p1
      ·rename_i e hu;refine⟨_,_,?_,h⟩;simp only[da,h2,hbx,d5,ej,bu,i9,hat,qX,nH,hu,h3,dy]
      ·cases p1
     ·cases h
    ·rename_i t ts t' i rest hat;rcases dm h with⟨p1,h⟩|⟨_,h⟩
     ·obtain⟨es,h3,h⟩:=Ew h;split at p1
      ·rename_i e hu;refine⟨_,_,?_,h⟩;simp only[da,h2,hbx,d5,ej,bu,i9,hat,qX,nH,hu,h3,dy]
      ·cases p1
     ·cases h
    ·obtain⟨⟨v,m⟩,h3,h⟩:=cS h;exact⟨v,m,h3,h⟩
   case append =>
    simp only[iI]at h;obtain⟨as0,h2,h⟩:=cS h;rcases dm h with⟨_,h0⟩|⟨hbx,h0⟩
    ·cases h0
    clear h;revert h0;intro h;split at h
    ·rename_i t t' s x hat;rcases dm h with⟨p1,h⟩|⟨p1,h⟩
     ·obtain⟨v,m,h3,h⟩:=WM h;exact⟨v,m,by simp only[da,h2,hbx,d5,ej,bu,i9,hat,xe,bc p1,h3],h⟩
     ·obtain⟨v,m,h3,h⟩:=WK h;exact⟨v,m,by simp only[da,h2,hbx,d5,ej,bu,i9,hat,xe,p1,h3],h⟩
    ·cases h
   case copy =>
    simp only[iI]at h;obtain⟨as0,h2,h⟩:=cS h;rcases dm h with⟨_,h0⟩|⟨hbx,h0⟩
    ·cases h0
    clear h;revert h0;intro h;split at h
    ·rename_i t t' s x hat;obtain⟨p1,h⟩:=cU h;obtain⟨v,m,h3,h⟩:=XS h;exact⟨v,m,by simp only[da,h2,hbx,d5,ej,bu,i9,hat,G8,bc p1,h3],h⟩
    ·cases h
   case clear =>
    simp only[iI]at h;obtain⟨as0,h2,h⟩:=cS h;rcases dm h with⟨_,h0⟩|⟨hbx,h0⟩
    ·cases h0
    clear h;revert h0;intro h;split at h
    ·rename_i t s hat;obtain⟨v,m,h3,h⟩:=XA h;exact⟨v,m,by simp only[da,h2,hbx,d5,ej,bu,i9,hat,G1,h3],h⟩
    ·cases h
   case delete =>
    simp only[iI]at h;obtain⟨as0,h2,h⟩:=cS h;rcases dm h with⟨_,h0⟩|⟨hbx,h0⟩
    ·cases h0
    clear h;revert h0;intro h;split at h
    ·rename_i t ts m key hat;obtain⟨es,hm,h⟩:=Ew h;obtain⟨p1,h⟩:=cU h;obtain⟨e,he,h⟩:=cS h;exact⟨_,_,by simp only[da,h2,hbx,d5,ej,bu,i9,hat,Hg,hm,p1,dv,he,dy],h⟩
    ·cases h
   all_goals exact dflt _ h
  all_goals exact dflt _ h
 all_goals exact dflt _ h
def ym(hik:iL kc){dr:Bool}{o:bz}{env:List V}{mem:List O}{k:V->List O->R}(h:vU kc dr o env mem k=aA r) :
  ∃v m,eB kc.cfg (jy kc.cfg) dr o env mem=aA (v,m)/\k v m=aA r:=by
 unfold eB;rcases dm h with⟨hx,h⟩|⟨hx,h⟩
 ·obtain⟨v,m,h1,h⟩:=Sf hik h;rw[bc hx,h1];cases m with
  |nil=>grind
  |cons _ _ =>
   obtain⟨v2,h3,h⟩:=cS h;grind
 ·obtain⟨v,m,h1,h⟩:=Sf hik h;grind
def yO{α:Type}{l:List α}{i:Nat}{x:α}(h:l[i]? = aA x):l.set i x=l:=by
 obtain⟨bf,rfl⟩:=cE.1 h;simp_all
def aeX(hik:iL kc){dr:Bool}:∀(l:List bz) (env:List V) (mem:List O) (k:List V->List O->R),rj kc dr l env mem k=aA r ->
  ∃s,ib kc.cfg (jy kc.cfg) dr l ⟨env,mem⟩=aA s/\k s.env s.mem=aA r:=by
 intro l
 induction l with
 |nil=>intro env mem k h;exact⟨_,rfl,h⟩
 |cons o l ih =>
  intro env mem k h;simp only[rj]at h;split at h
  ·rename_i hg;obtain⟨v,m,h1,h⟩:=ym hik h;obtain⟨s,h2,h⟩:=ih _ _ _ h;exact⟨s,by simp only[ib,hg,fI,bu,dv,h1,h2],h⟩
  ·rename_i t want hg;split at h
   ·rename_i b hb;rcases dm h with⟨rfl,h⟩|⟨rfl,h⟩
    ·rw[yO hb]at h;cases want<;>simp only[bn,be]at h;rotate_left
     ·obtain⟨v,m,h1,h⟩:=ym hik h;obtain⟨s,h2,h⟩:=ih _ _ _ h;exact⟨s,by simp only[ib,hg,fI,hb,gg,bu,dv,h1,h2],h⟩
     ·obtain⟨s,h2,h⟩:=ih _ _ _ h;refine⟨s,?_,h⟩;simp only[ib,hg,fI,hb,bu];grind
    ·rw[yO hb]at h;cases want<;>simp only[bn,be]at h;rotate_left
     ·obtain⟨s,h2,h⟩:=ih _ _ _ h;refine⟨s,?_,h⟩;simp only[ib,hg,fI,hb,bu];grind
     ·obtain⟨v,m,h1,h⟩:=ym hik h;obtain⟨s,h2,h⟩:=ih _ _ _ h;exact⟨s,by simp only[ib,hg,fI,hb,gg,bu,dv,h1,h2],h⟩
   ·rename_i hb;obtain⟨s,h2,h⟩:=ih _ _ _ h;exact⟨s,by simp only[ib,hg,fI,hb,bu,d5,ej,h2],h⟩
   grind
def aeW(hik:iL kc):∀(l:List bz) (env:List V) (mem:List O) (fs:List Nat) (k:List V->List O->List Nat->R),rk kc l env mem fs k=aA r ->
  ∃s fs1,jF kc.cfg (jy kc.cfg) l ⟨env,mem⟩ fs=aA (s,fs1)/\k s.env s.mem fs1=aA r:=by
 intro l
 induction l with
 |nil=>intro env mem fs k h;exact⟨_,_,rfl,h⟩
 |cons o l ih =>
  intro env mem fs k h;simp only[rk]at h;split at h
  ·rename_i hg;obtain⟨v,m,h1,h⟩:=ym hik h;obtain⟨s,fs1,h2,h⟩:=ih _ _ _ _ h;rw[Bool.cond_eq_ite]at h2;exact⟨s,fs1,by simp only[jF,hg,fI,bu,dv,h1,h2],h⟩
  ·rename_i t want hg;split at h
   ·rename_i b hb;rcases dm h with⟨rfl,h⟩|⟨rfl,h⟩
    ·rw[yO hb]at h;cases want<;>simp only[bn,be]at h;rotate_left
     ·obtain⟨v,m,h1,h⟩:=ym hik h;obtain⟨s,fs1,h2,h⟩:=ih _ _ _ _ h;rw[Bool.cond_eq_ite]at h2;exact⟨s,fs1,by simp only[jF,hg,fI,hb,gg,bu,dv,h1,h2],h⟩
     ·obtain⟨s,fs1,h2,h⟩:=ih _ _ _ _ h;refine⟨s,fs1,?_,h⟩;simp only[jF,hg,fI,hb,bu];grind
    ·rw[yO hb]at h;cases want<;>simp only[bn,be]at h;rotate_left
     ·obtain⟨s,fs1,h2,h⟩:=ih _ _ _ _ h;refine⟨s,fs1,?_,h⟩;simp only[jF,hg,fI,hb,bu];grind
     ·obtain⟨v,m,h1,h⟩:=ym hik h;obtain⟨s,fs1,h2,h⟩:=ih _ _ _ _ h;rw[Bool.cond_eq_ite]at h2;exact⟨s,fs1,by simp only[jF,hg,fI,hb,gg,bu,dv,h1,h2],h⟩
   ·rename_i hb;obtain⟨s,fs1,h2,h⟩:=ih _ _ _ _ h;exact⟨s,fs1,by simp only[jF,hg,fI,hb,bu,d5,ej,h2],h⟩
   grind
def aeT(hik:iL kc){dr:Bool}(l:List bz)(env:List V)(mem:List O)(k:List V->List O->R)(h:JH kc dr l env mem k=aA r) :
  ∃s,mg kc.cfg (jy kc.cfg) dr l ⟨env,mem⟩=aA s/\k s.env s.mem=aA r:=by
 unfold JH at h;unfold mg;rcases dm h with⟨hc,h⟩|⟨hc,h⟩
 ·obtain⟨s,fs,h1,h⟩:=aeW hik _ _ _ _ _ h;grind
 ·obtain⟨s,h1,h⟩:=aeX hik _ _ _ _ h;grind
end
def dj(cfg:cB)(n0:Nat):C->Nat->Nat->S->Ex × S->Prop
 |.seq a b,i,j,s,r=>if j < i+nl a then ∃q,dj cfg n0 a i j s q/\(match q with
   |(.norm,s')=>df cfg n0 b s'=aA r
   |q=>r=q)
  else dj cfg n0 b (i+nl a) j s r
 |.cseq f a b,i,j,s,r=>if j < i+nl a then ∃q,dj cfg n0 a i j s q/\(match q with
   |(.norm,s')=>df cfg n0 b (dK n0 f s')=aA r
   |q=>r=q)
  else if j=i+nl a then df cfg n0 b s=aA r else dj cfg n0 b (i+nl a+1) j s r
 |.cond _ a b,i,j,s,r=>if j < i+nl a then dj cfg n0 a i j s r else dj cfg n0 b (i+nl a) j s r
 |.block id c,i,j,s,r=>∃q,dj cfg n0 c i j s q/\r=(match q with
   |(.norm,s')=>(.norm,s')
   |(.exit e,s')=>if e=id then (.norm,s') else (.exit e,s')
   |(.ret,s')=>(.ret,s'))
 |.loop f c,i,j,s,r=>if j=i then wQ cfg n0 f c s r.1 r.2 else ∃q,dj cfg n0 c (i+1) j s q/\(match q with
   |(.norm,s')=>wQ cfg n0 f c (dK n0 f s') r.1 r.2
   |(x,s')=>r=(x,dK n0 f s'))
 |_,_,_,_,_=>False
section
variable {kc:KC}{n0:Nat}
def Mm(o:d6)(W:Ex × S->Prop)(kn:S->R)(ke:Nat->S->R)(kr:S->R)(H:Nat->S->Prop):Prop :=
 (∃s,W (.norm,s)/\kn s=aA o)∨(∃e s,W (.exit e,s)/\ke e s=aA o)∨(∃s,W (.ret,s)/\kr s=aA o)∨∃j s,o = .head j s/\H j s
def NL{c:C}{t s1:S}(h:df kc.cfg n0 c t=aA (.norm,s1)){f:List Nat}{x:Ex}{s:S}(hr:wQ kc.cfg n0 f c (dK n0 f s1) x s):wQ kc.cfg n0 f c t x s:=by
 intro s0 h0;have:=hr s1 rfl;simp only[df,omi]at this |-
 obtain⟨r,q1,q2⟩:=this;exact⟨r,acW (by grind) q1,q2⟩
def NK{c:C}{t s1:S}{i:Nat}(h:df kc.cfg n0 c t=aA (.exit i,s1)){f:List Nat}:wQ kc.cfg n0 f c t (.exit i) (dK n0 f s1):=by
 intro s0 h0;simp only[df,omi];exact⟨(.exit i,s1),acV (by grind),rfl⟩
def NN{c:C}{t s1:S}(h:df kc.cfg n0 c t=aA (.ret,s1)){f:List Nat}:wQ kc.cfg n0 f c t .ret (dK n0 f s1):=by
 intro s0 h0;simp only[df,omi];exact⟨(.ret,s1),acX (by grind),rfl⟩
def U1{env:List V}{c:fD}{b:Bool}(h:bB env c=aA (.bool b)):LM env c b=env:=by
 cases c<;>first|rfl|exact yO h
def BH(hik:iL kc):∀(c:C) (i:Nat) (s:S) (kn:S->R) (ke:Nat->S->R) (kr:S->R) (o:d6),iZ kc n0 c i s kn ke kr=aA o ->
  Mm o (λr=>df kc.cfg n0 c s=aA r) kn ke kr (λj s'=>i<=j/\j < i+nl c/\∀r,dj kc.cfg n0 c i j s' r->df kc.cfg n0 c s=aA r):=by
 intro c
 induction c with
 |skip=>intro i s kn ke kr o h;exact .inl ⟨s,rfl,h⟩
 |ops dr l =>
  intro i s kn ke kr o h;obtain⟨s',h1,h2⟩:=aeT hik _ _ _ _ h;rcases dm h2 with⟨hc,h2⟩|⟨_,h2⟩
  ·exact .inl ⟨s',by simp only[df];rw[show(⟨s.env,s.mem⟩:S)=s from rfl]at h1;rw[h1,bu,bc hc],h2⟩
  ·cases h2
 |seq a b iha ihb =>
  intro i s kn ke kr o h;simp only[iZ]at h;rcases iha _ _ _ _ _ _ h with⟨s1,h1,h2⟩|⟨e,s1,h1,h2⟩|⟨s1,h1,h2⟩|⟨j,s1,rfl,h1,h2,h3⟩
  ·have e1:df kc.cfg n0 (.seq a b) s=df kc.cfg n0 b s1:=by simp only[df,h1,bu]
   rcases ihb _ _ _ _ _ _ h2 with⟨s2,g1,g2⟩|⟨e,s2,g1,g2⟩|⟨s2,g1,g2⟩|⟨j,s2,rfl,g1,g2,g3⟩
   ·exact .inl ⟨s2,e1.trans g1,g2⟩
   ·exact .inr (.inl ⟨e,s2,e1.trans g1,g2⟩)
   ·exact .inr (.inr (.inl ⟨s2,e1.trans g1,g2⟩))
   ·refine .inr (.inr (.inr ⟨j,s2,rfl,by omega,by simp only[nl];omega,λr hr=>?_⟩));simp only[dj]at hr;rw[bh (by omega)]at hr;exact e1.trans (g3 r hr)
  ·exact .inr (.inl ⟨e,s1,by simp only[df,h1,bu],h2⟩)
  ·exact .inr (.inr (.inl ⟨s1,by simp only[df,h1,bu],h2⟩))
  ·refine .inr (.inr (.inr ⟨j,s1,rfl,h1,by simp only[nl];omega,λr hr=>?_⟩));simp only[dj]at hr;rw[bc h2]at hr;obtain⟨⟨x,s'⟩,q1,q2⟩:=hr;have q1:=h3 _ q1;simp only[df,q1,bu];cases x
   ·exact q2
   ·simp only at q2;rw[q2]
   ·simp only at q2;rw[q2]
 |cseq f a b iha ihb =>
  intro i s kn ke kr o h;simp only[iZ]at h;rcases iha _ _ _ _ _ _ h with⟨s1,h1,h2⟩|⟨e,s1,h1,h2⟩|⟨s1,h1,h2⟩|⟨j,s1,rfl,h1,h2,h3⟩
  ·cases h2;refine .inr (.inr (.inr ⟨i+nl a,_,rfl,by omega,by simp only[nl];omega,λr hr=>?_⟩));simp only[dj]at hr;rw[bh (by omega),bc (by trivial)]at hr;simp only[df,h1,bu];exact hr
  ·exact .inr (.inl ⟨e,s1,by simp only[df,h1,bu],h2⟩)
  ·exact .inr (.inr (.inl ⟨s1,by simp only[df,h1,bu],h2⟩))
  ·refine .inr (.inr (.inr ⟨j,s1,rfl,h1,by simp only[nl];omega,λr hr=>?_⟩));simp only[dj]at hr;rw[bc h2]at hr;obtain⟨⟨x,s'⟩,q1,q2⟩:=hr;have q1:=h3 _ q1;simp only[df,q1,bu];cases x
   ·exact q2
   ·simp only at q2;rw[q2]
   ·simp only at q2;rw[q2]
 |cond c a b iha ihb =>
  intro i s kn ke kr o h;simp only[iZ]at h;obtain⟨v,hv,h⟩:=cS h;obtain⟨t,rfl,h'⟩:=Jc h;rcases dm h' with⟨rfl,h⟩|⟨rfl,h⟩
  ·rw[U1 hv]at h;have e1:df kc.cfg n0 (.cond c a b) s=df kc.cfg n0 a s:=by simp only[df,hv,bu,dv]
   rcases iha _ _ _ _ _ _ h with⟨s2,g1,g2⟩|⟨e,s2,g1,g2⟩|⟨s2,g1,g2⟩|⟨j,s2,rfl,g1,g2,g3⟩
   ·exact .inl ⟨s2,e1.trans g1,g2⟩
   ·exact .inr (.inl ⟨e,s2,e1.trans g1,g2⟩)
   ·exact .inr (.inr (.inl ⟨s2,e1.trans g1,g2⟩))
   ·refine .inr (.inr (.inr ⟨j,s2,rfl,g1,by simp only[nl];omega,λr hr=>?_⟩));simp only[dj]at hr;rw[bc g2]at hr;exact e1.trans (g3 r hr)
  ·rw[U1 hv]at h;have e1:df kc.cfg n0 (.cond c a b) s=df kc.cfg n0 b s:=by simp only[df,hv,bu,d5,ej]
   rcases ihb _ _ _ _ _ _ h with⟨s2,g1,g2⟩|⟨e,s2,g1,g2⟩|⟨s2,g1,g2⟩|⟨j,s2,rfl,g1,g2,g3⟩
   ·exact .inl ⟨s2,e1.trans g1,g2⟩
   ·exact .inr (.inl ⟨e,s2,e1.trans g1,g2⟩)
   ·exact .inr (.inr (.inl ⟨s2,e1.trans g1,g2⟩))
   ·refine .inr (.inr (.inr ⟨j,s2,rfl,by omega,by simp only[nl];omega,λr hr=>?_⟩));simp only[dj]at hr;rw[bh (by omega)]at hr;exact e1.trans (g3 r hr)
 |block id c ih =>
  intro i s kn ke kr o h;simp only[iZ]at h;rcases ih _ _ _ _ _ _ h with⟨s2,g1,g2⟩|⟨e,s2,g1,g2⟩|⟨s2,g1,g2⟩|⟨j,s2,rfl,g1,g2,g3⟩
  ·exact .inl ⟨s2,by simp only[df,g1,dy],g2⟩
  ·rcases dm g2 with⟨he,g2⟩|⟨he,g2⟩
   ·have he:e=id:=by simpa using he
    exact .inl ⟨s2,by simp only[df,g1,dy,bc he],g2⟩
   ·have he:¬e=id:=by simpa using he
    exact .inr (.inl ⟨e,s2,by simp only[df,g1,dy,bh he],g2⟩)
  ·exact .inr (.inr (.inl ⟨s2,by simp only[df,g1,dy],g2⟩))
  ·refine .inr (.inr (.inr ⟨j,s2,rfl,g1,by simp only[nl];omega,λr hr=>?_⟩));simp only[dj]at hr;obtain⟨q,q1,rfl⟩:=hr;simp only[df,g3 _ q1,dy];rcases q with⟨x,s'⟩
   cases x<;>rfl
 |loop f c ih =>
  intro i s kn ke kr o h;simp only[iZ]at h;cases h;refine .inr (.inr (.inr ⟨i,_,rfl,cZ _,by simp only[nl];omega,λr hr=>?_⟩));simp only[dj,dv]at hr;exact hr s rfl
 |exit j=>intro i s kn ke kr o h;exact .inr (.inl ⟨j,s,rfl,h⟩)
 |ret=>intro i s kn ke kr o h;exact .inr (.inr (.inl ⟨s,rfl,h⟩))
 |start g =>
  intro i s kn ke kr o h;simp only[iZ]at h;split at h;rotate_left
  ·cases h
  rename_i f caps he;rcases dm h with⟨_,h⟩|⟨hc,h⟩
  ·cases h
  have hc:=λhle=>Mt (hc.symm.trans (Nat.ble_eq_true_of_le hle))
  obtain⟨th,h1,h⟩:=cS h;rcases dm h with⟨e,h⟩|⟨e,h⟩
  ·obtain⟨as0,h2,h⟩:=cS h;obtain⟨l,h3,h⟩:=cS h;exact .inl ⟨_,by simp only[df,wy,he,bh hc,h1,bu,e,h2,h3,dy],h⟩
  ·obtain⟨as0,h2,h⟩:=AK (λx k h=>FX h) h;obtain⟨l,h3,h⟩:=cS h
   exact .inl ⟨_,by
    have h2':cD (ww (kc.cfg.sqj f) s.mem) caps=aA as0:=by rw[e];exact h2
    have e2:pH (kc.cfg.sqj f) s.mem=iG s.mem:=by rw[e];rfl
    simp only[df,wy,he,bh hc,h1,bu,h2',h3,dy,e2],h⟩
 |uncons g ps ws a b iha ihb =>
  intro i s kn ke kr o h;simp only[iZ]at h;obtain⟨hn,h⟩:=cU h;simp only[cT,Nat.beq_eq]at hn;split at h;rotate_left
  ·cases h
  rename_i ts l he;cases l with
  |nil =>
   simp only[mh]at h;have e1:df kc.cfg n0 (.uncons g ps ws a b) s=df kc.cfg n0 b s:=by simp only[df,he]
   rcases ihb _ _ _ _ _ _ h with⟨s2,g1,g2⟩|⟨e,s2,g1,g2⟩|⟨s2,g1,g2⟩|⟨j,s2,rfl,g1,g2,g3⟩
   ·exact .inl ⟨s2,e1.trans g1,g2⟩
   ·exact .inr (.inl ⟨e,s2,e1.trans g1,g2⟩)
   ·exact .inr (.inr (.inl ⟨s2,e1.trans g1,g2⟩))
   ·omega
  |cons x l =>
   simp only[mh]at h;obtain⟨vs,rfl,h⟩:=QQ h;have h:=VH h;obtain⟨hl,h⟩:=cU h;have hl:vs.length=ps.length:=by simpa using hl
   have e1:∀x s2,df kc.cfg n0 a ⟨wq (s.env.set g .junk) ps vs,s.mem⟩=aA (x,s2)->df kc.cfg n0 (.uncons g ps ws a b) s=aA (x,⟨(gL s2.env ws).set g (.rest ts l),s2.mem⟩):=by
    intro x s2 q;simp only[df,he,bc hl,q,dy]
   rcases iha _ _ _ _ _ _ h with⟨s2,g1,g2⟩|⟨e,s2,g1,g2⟩|⟨s2,g1,g2⟩|⟨j,s2,rfl,g1,g2,g3⟩
   ·exact .inl ⟨_,e1 _ _ g1,g2⟩
   ·exact .inr (.inl ⟨e,_,e1 _ _ g1,g2⟩)
   ·exact .inr (.inr (.inl ⟨_,e1 _ _ g1,g2⟩))
   ·omega
def XN(hik:iL kc):∀(c:C) (i j:Nat) (s:S) (kn:S->R) (ke:Nat->S->R) (kr:S->R) (o:d6),kH kc n0 c i j s kn ke kr=aA o ->
  Mm o (λr=>dj kc.cfg n0 c i j s r) kn ke kr (λj' s'=>i<=j'/\j' < i+nl c/\∀r,dj kc.cfg n0 c i j' s' r->dj kc.cfg n0 c i j s r):=by
 intro c
 induction c with
 |seq a b iha ihb =>
  intro i j s kn ke kr o h;simp only[kH]at h;rcases dm h with⟨hj,h⟩|⟨hj,h⟩
  ·have hj:j < i+nl a:=by simp_all
   rcases iha _ _ _ _ _ _ _ h with⟨s1,h1,h2⟩|⟨e,s1,h1,h2⟩|⟨s1,h1,h2⟩|⟨j',s1,rfl,h1,h2,h3⟩
   ·rcases BH hik b _ _ _ _ _ _ h2 with⟨s2,g1,g2⟩|⟨e,s2,g1,g2⟩|⟨s2,g1,g2⟩|⟨j',s2,rfl,g1,g2,g3⟩
    ·exact .inl ⟨s2,by simp only[dj];grind,g2⟩
    ·exact .inr (.inl ⟨e,s2,by simp only[dj];grind,g2⟩)
    ·exact .inr (.inr (.inl ⟨s2,by simp only[dj];grind,g2⟩))
    ·refine .inr (.inr (.inr ⟨j',s2,rfl,by omega,by simp only[nl];omega,λr hr=>?_⟩));simp only[dj]at hr |-
     grind
   ·exact .inr (.inl ⟨e,s1,by simp only[dj];grind,h2⟩)
   ·exact .inr (.inr (.inl ⟨s1,by simp only[dj];grind,h2⟩))
   ·refine .inr (.inr (.inr ⟨j',s1,rfl,h1,by simp only[nl];omega,λr hr=>?_⟩));simp only[dj]at hr |-
    grind
  ·have hj:¬j < i+nl a:=by
    intro hh;have:jq j (i+nl a)=true:=by simpa[oY]using hh
    grind
   rcases ihb _ _ _ _ _ _ _ h with⟨s1,h1,h2⟩|⟨e,s1,h1,h2⟩|⟨s1,h1,h2⟩|⟨j',s1,rfl,h1,h2,h3⟩
   ·exact .inl ⟨s1,by simp only[dj];grind,h2⟩
   ·exact .inr (.inl ⟨e,s1,by simp only[dj];grind,h2⟩)
   ·exact .inr (.inr (.inl ⟨s1,by simp only[dj];grind,h2⟩))
   ·refine .inr (.inr (.inr ⟨j',s1,rfl,by omega,by simp only[nl];omega,λr hr=>?_⟩));simp only[dj]at hr |-
    grind
 |cseq f a b iha ihb =>
  intro i j s kn ke kr o h;simp only[kH]at h;rcases dm h with⟨hj,h⟩|⟨hj,h⟩
  ·have hj:j < i+nl a:=by simp_all
   rcases iha _ _ _ _ _ _ _ h with⟨s1,h1,h2⟩|⟨e,s1,h1,h2⟩|⟨s1,h1,h2⟩|⟨j',s1,rfl,h1,h2,h3⟩
   ·cases h2;refine .inr (.inr (.inr ⟨i+nl a,_,rfl,by omega,by simp only[nl];omega,λr hr=>?_⟩));simp only[dj]at hr |-
    grind
   ·exact .inr (.inl ⟨e,s1,by simp only[dj];grind,h2⟩)
   ·exact .inr (.inr (.inl ⟨s1,by simp only[dj];grind,h2⟩))
   ·refine .inr (.inr (.inr ⟨j',s1,rfl,h1,by simp only[nl];omega,λr hr=>?_⟩));simp only[dj]at hr |-
    grind
  ·have hj:¬j < i+nl a:=by
    intro hh;have:jq j (i+nl a)=true:=by simpa[oY]using hh
    grind
   rcases dm h with⟨hk,h⟩|⟨hk,h⟩
   ·have hk:j=i+nl a:=by grind
    rcases BH hik b _ _ _ _ _ _ h with⟨s2,g1,g2⟩|⟨e,s2,g1,g2⟩|⟨s2,g1,g2⟩|⟨j',s2,rfl,g1,g2,g3⟩
    ·exact .inl ⟨s2,by simp only[dj];grind,g2⟩
    ·exact .inr (.inl ⟨e,s2,by simp only[dj];grind,g2⟩)
    ·exact .inr (.inr (.inl ⟨s2,by simp only[dj];grind,g2⟩))
    ·refine .inr (.inr (.inr ⟨j',s2,rfl,by omega,by simp only[nl];omega,λr hr=>?_⟩));simp only[dj]at hr |-
     grind
   ·have hk:¬j=i+nl a:=by grind
    rcases ihb _ _ _ _ _ _ _ h with⟨s1,h1,h2⟩|⟨e,s1,h1,h2⟩|⟨s1,h1,h2⟩|⟨j',s1,rfl,h1,h2,h3⟩
    ·exact .inl ⟨s1,by simp only[dj];grind,h2⟩
    ·exact .inr (.inl ⟨e,s1,by simp only[dj];grind,h2⟩)
    ·exact .inr (.inr (.inl ⟨s1,by simp only[dj];grind,h2⟩))
    ·refine .inr (.inr (.inr ⟨j',s1,rfl,by omega,by simp only[nl];omega,λr hr=>?_⟩));simp only[dj]at hr |-
     grind
 |cond c a b iha ihb =>
  intro i j s kn ke kr o h;simp only[kH]at h;rcases dm h with⟨hj,h⟩|⟨hj,h⟩
  ·have hj:j < i+nl a:=by simp_all
   rcases iha _ _ _ _ _ _ _ h with⟨s1,h1,h2⟩|⟨e,s1,h1,h2⟩|⟨s1,h1,h2⟩|⟨j',s1,rfl,h1,h2,h3⟩
   ·exact .inl ⟨s1,by simp only[dj];grind,h2⟩
   ·exact .inr (.inl ⟨e,s1,by simp only[dj];grind,h2⟩)
   ·exact .inr (.inr (.inl ⟨s1,by simp only[dj];grind,h2⟩))
   ·refine .inr (.inr (.inr ⟨j',s1,rfl,by omega,by simp only[nl];omega,λr hr=>?_⟩));simp only[dj]at hr |-
    grind
  ·have hj:¬j < i+nl a:=by
    intro hh;have:jq j (i+nl a)=true:=by simpa[oY]using hh
    grind
   rcases ihb _ _ _ _ _ _ _ h with⟨s1,h1,h2⟩|⟨e,s1,h1,h2⟩|⟨s1,h1,h2⟩|⟨j',s1,rfl,h1,h2,h3⟩
   ·exact .inl ⟨s1,by simp only[dj];grind,h2⟩
   ·exact .inr (.inl ⟨e,s1,by simp only[dj];grind,h2⟩)
   ·exact .inr (.inr (.inl ⟨s1,by simp only[dj];grind,h2⟩))
   ·refine .inr (.inr (.inr ⟨j',s1,rfl,by omega,by simp only[nl];omega,λr hr=>?_⟩));simp only[dj]at hr |-
    grind
 |block id c ih =>
  intro i j s kn ke kr o h;simp only[kH]at h;rcases ih _ _ _ _ _ _ _ h with⟨s2,g1,g2⟩|⟨e,s2,g1,g2⟩|⟨s2,g1,g2⟩|⟨j',s2,rfl,g1,g2,g3⟩
  ·exact .inl ⟨s2,by simp only[dj];grind,g2⟩
  ·rcases dm g2 with⟨he,g2⟩|⟨he,g2⟩
   ·have he:e=id:=by grind
    exact .inl ⟨s2,by simp only[dj];grind,g2⟩
   ·have he:¬e=id:=by grind
    exact .inr (.inl ⟨e,s2,by simp only[dj];grind,g2⟩)
  ·exact .inr (.inr (.inl ⟨s2,by simp only[dj];grind,g2⟩))
  ·refine .inr (.inr (.inr ⟨j',s2,rfl,g1,by simp only[nl];omega,λr hr=>?_⟩));simp only[dj]at hr |-
   grind
 |loop f c ih =>
  intro i j s kn ke kr o h;simp only[kH]at h;rcases dm h with⟨hj,h⟩|⟨hj,h⟩
  ·have hj:j=i:=by grind
   subst hj;rcases BH hik c _ _ _ _ _ _ h with⟨s2,g1,g2⟩|⟨e,s2,g1,g2⟩|⟨s2,g1,g2⟩|⟨j',s2,rfl,g1,g2,g3⟩
   ·cases g2;refine .inr (.inr (.inr ⟨j,_,rfl,cZ _,by simp only[nl];omega,λr hr=>?_⟩));simp only[dj,dv]at hr |-
    exact NL g1 hr
   ·exact .inr (.inl ⟨e,_,by simp only[dj,dv];exact NK g1,g2⟩)
   ·exact .inr (.inr (.inl ⟨_,by simp only[dj,dv];exact NN g1,g2⟩))
   ·refine .inr (.inr (.inr ⟨j',s2,rfl,by omega,by simp only[nl];omega,λr hr=>?_⟩));simp only[dj,dv]at hr |-
    rw[bh (by omega)]at hr;obtain⟨⟨x,s'⟩,q1,q2⟩:=hr;have q1:=g3 _ q1;cases x with
    |norm=>exact NL q1 q2
    |exit e=>simp only at q2;rw[q2];exact NK q1
    |ret=>simp only at q2;rw[q2];exact NN q1
  ·have hj:¬j=i:=by grind
   rcases ih _ _ _ _ _ _ _ h with⟨s2,g1,g2⟩|⟨e,s2,g1,g2⟩|⟨s2,g1,g2⟩|⟨j',s2,rfl,g1,g2,g3⟩
   ·cases g2;refine .inr (.inr (.inr ⟨i,_,rfl,cZ _,by simp only[nl];omega,λr hr=>?_⟩));simp only[dj,dv]at hr |-
    grind
   ·exact .inr (.inl ⟨e,_,by simp only[dj];grind,g2⟩)
   ·exact .inr (.inr (.inl ⟨_,by simp only[dj];grind,g2⟩))
   ·refine .inr (.inr (.inr ⟨j',s2,rfl,by omega,by simp only[nl];omega,λr hr=>?_⟩));simp only[dj]at hr |-
    grind
 |_=>intro i j s kn ke kr o h;simp only[kH]at h;cases h
inductive Go(kc:KC)(imp:Bool)(n0:Nat)(fa:FA):d6->d6->Prop
 |refl (o:d6):Go kc imp n0 fa o o
 |step {j:Nat} {s:S} {o o':d6} (h:Qq kc imp n0 fa j s=aA o) (hr:Go kc imp n0 fa o o'):Go kc imp n0 fa (.head j s) o'
def Go.trans{imp:Bool}{fa:FA}{a b c:d6}(h:Go kc imp n0 fa a b)(h':Go kc imp n0 fa b c):Go kc imp n0 fa a c:=by
 induction h with
 |refl _=>grind
 |step q _ ih=>exact .step q (ih h')
def ab5{P:bv}{mem:List O}{t:aP}{v:V}{k:V->R}{r:d6}(h:IM P mem t v k=aA r):∃x,s9 P mem t v=aA x/\k x=aA r:=by
 unfold IM at h;split at h
 ·split at h
  ·rename_i hm;rcases dm h with⟨c1,h⟩|⟨c1,h⟩
   ·rcases dm h with⟨c2,h⟩|⟨c2,h⟩
    ·obtain⟨c3,h⟩:=cU h;exact⟨_,by simp only[s9,hm,c1,dv,bc (show _=0 by simpa using c2),c3],h⟩
    ·exact⟨_,by simp only[s9,hm,c1,dv,bh (show ¬_=0 by simpa using c2)],h⟩
   ·exact⟨_,by simp only[s9,hm,c1,d5,ej],h⟩
  grind
 ·exact cS h
def ab7{P:bv}{mem:List O}{ts:List aP}{vs:List V}{k:V->R}{r:d6}(h:IN P mem ts vs k=aA r):∃x,oh P mem ts vs=aA x/\k x=aA r:=by
 unfold IN at h;split at h
 ·exact ab5 h
 ·exact cS h
def rY(kc:KC)(imp:Bool)(fa:FA)(s:S)(o:d6):Prop :=
 ∃vs,cD (oH kc.cfg.P s) fa.results=aA vs/\((imp=aD/\o = .doneM (rO vs) s.mem)∨(imp=aE/\∃v,oh kc.cfg.P s.mem fa.rtypes vs=aA v/\o = .done v))
def DW{imp:Bool}{fa:FA}{s:S}{o:d6}(h:Av kc imp fa s=aA o):rY kc imp fa s o:=by
 obtain⟨vs,h1,h⟩:=cS h;refine⟨vs,h1,?_⟩;rcases dm h with⟨rfl,h⟩|⟨rfl,h⟩
 ·grind
 ·obtain⟨v,h2,h⟩:=ab7 h;grind
def Im:Ex->Bool
 |.exit _=>aE
 |_=>aD
def rY.stay{imp:Bool}{fa:FA}{s:S}{o o':d6}(hf:rY kc imp fa s o)(hg:Go kc imp n0 fa o o'):o=o':=by
 cases hg with
 |refl=>rfl
 |step q _ =>
  obtain⟨vs,_,⟨_,q⟩|⟨_,v,_,q⟩⟩:=hf
  all_goals grind
def Go.sound(hik:iL kc){imp:Bool}{fa:FA}{o o':d6}(h:Go kc imp n0 fa o o'):∀j s,o = .head j s->(∀j s,o'≠.head j s)->∃x s',dj kc.cfg n0 fa.body 0 j s (x,s')/\Im x=aD/\rY kc imp fa s' o':=by
 induction h with
 |refl o=>grind
 |step h1 hr ih =>
  intro j s e hn;cases e;rcases XN hik _ _ _ _ _ _ _ _ h1 with⟨s2,g1,g2⟩|⟨e,s2,g1,g2⟩|⟨s2,g1,g2⟩|⟨j',s2,rfl,g1,g2,g3⟩
  ·have hf:=DW g2;have:=rY.stay hf hr;subst this;exact⟨_,_,g1,rfl,hf⟩
  ·grind
  ·have hf:=DW g2;have:=rY.stay hf hr;subst this;exact⟨_,_,g1,rfl,hf⟩
  grind
def TV(hik:iL kc){imp:Bool}{fa:FA}{args:List V}{mem:List O}{o o':d6}(h:nA kc imp fa args mem=aA o)(hg:Go kc imp mem.length fa o o')(hn:∀j s,o'≠.head j s) :
  ∃vs s,tY kc.cfg fa args mem=aA (vs,s)/\((imp=aD/\o' = .doneM (rO vs) s)∨(imp=aE/\∃v,oh kc.cfg.P s fa.rtypes vs=aA v/\o' = .done v)):=by
 obtain⟨ha,h⟩:=cU h;simp only[cT,iQ,Nat.ble_eq]at ha
 have key:∀(x:Ex) (s':S),df kc.cfg mem.length fa.body ⟨args++cA (fa.nt - fa.np) (.tup []),mem⟩=aA (x,s')->Im x=aD->rY kc imp fa s' o' ->
   ∃vs s,tY kc.cfg fa args mem=aA (vs,s)/\((imp=aD/\o' = .doneM (rO vs) s)∨(imp=aE/\∃v,oh kc.cfg.P s fa.rtypes vs=aA v/\o' = .done v)):=by
  intro x s' hx he ⟨vs,h1,h2⟩;refine⟨vs,s'.mem,?_,h2⟩;unfold tY;rw[bc ha];cases x with
  |exit i=>cases he
  |norm=>grind
  |ret=>grind
 have done:∀s,rY kc imp fa s o->o=o':=λs hf=>hf.stay hg
 rcases BH hik _ _ _ _ _ _ _ h with⟨s2,g1,g2⟩|⟨e,s2,g1,g2⟩|⟨s2,g1,g2⟩|⟨j',s2,rfl,g1,g2,g3⟩
 ·have hf:=DW g2;have:=done _ hf;subst this;exact key _ _ g1 rfl hf
 ·grind
 ·have hf:=DW g2;have:=done _ hf;subst this;exact key _ _ g1 rfl hf
 ·obtain⟨x,s',q1,q2,q3⟩:=hg.sound hik _ _ rfl hn;grind
def pX(hik:iL kc){f:cf}{fa:FA}{args:List V}{o:d6}{v:V}(hp:kc.cfg.pprim f=aF)(hf:iq kc.cfg.P (kc.cfg.rxf f) f=aA fa)(h:nA kc aE fa args []=aA o)(hg:Go kc aE 0 fa o (.done v))(ha:kc.cfg.ars f=[]:=by rfl) :
  bP kc.cfg f args=aA v:=by
 obtain⟨vs,s,h1,⟨h2,_⟩|⟨_,v',h2,h3⟩⟩:=TV hik h hg (by grind)
 ·grind
 ·cases h3;exact afe hp hf h1 h2 ha
def QA(hik:iL kc){f:cf}{fa:FA}{args:List V}{mem mem':List O}{o:d6}{v:V}(hp:kc.cfg.iprim f=aF)(hf:iq kc.cfg.P (kc.cfg.rxf f) f=aA fa)(h:nA kc aD fa args mem=aA o)(hg:Go kc aD mem.length fa o (.doneM v mem')) :
  ol kc.cfg f args mem=aA (v,mem'):=by
 obtain⟨vs,s,h1,⟨_,h2⟩|⟨h2,_⟩⟩:=TV hik h hg (by grind)
 ·cases h2;exact QB hp hf h1
 grind
end
def JU(n:Nat):List V:=cA n bj
def W(k:IntKind)(n:Int):Int:=k.wrap n
def mv(d s t:Nat):bz:=⟨aA d,.move (.tmp s),t,aF,aE,aE,aE⟩
def uP(d s t:Nat):bz:=⟨aA d,.assign (.tmp s),t,aF,aE,aE,aE⟩
def o1(d:Nat)(o:Op)(t:Nat):bz:=⟨aA d,o,t,aF,aE,aE,aE⟩
def o0(o:Op)(t:Nat):bz:=⟨aF,o,t,aF,aE,aE,aE⟩
def o2(d:Nat)(o:Op)(t g:Nat)(b:Bool):bz:=⟨aA d,o,t,aA (g,b),aE,aE,aE⟩
abbrev t'(n:Nat):fD:=.tmp n
def bd{n:Int}(h:-9223372036854775808<=n/\n < 9223372036854775808):W aB n=n:=by
 have e:IntKind.signed aB=true:=rfl;have e1:bJ aB=64:=rfl;unfold W IntKind.wrap;grind
def lr{n:Int}(h:0<=n/\n < 18446744073709551616):W b9 n=n:=by
 have e:IntKind.signed b9=false:=rfl;have e1:bJ b9=64:=rfl;unfold W IntKind.wrap;grind
section
variable {o:R}{b:Bool}
@[simp] theorem D5{k:R}:gd aD k=k:=rfl
@[simp] theorem bX{b:Bool}{k:Bool->R}:kB (.bool b) k=k b:=rfl
@[simp] theorem bL{j:IntKind}{n:Int}{k:Int->R}:kI j (.int j n) k=k n:=by cases j<;>rfl
@[simp] theorem de{s:List UInt8}{k:List UInt8->R}:kS (.str s) k=k s:=rfl
@[simp] theorem ma{s:List V}{k:List V->R}:kL (.sl s) k=k s:=rfl
@[simp] theorem AF{s:List V}{k:List V->R}:kA (.agg s) k=k s:=rfl
@[simp] theorem ot{s:List V}{k:List V->R}:kT (.tup s) k=k s:=rfl
@[simp] theorem lC{e:aP}{s:List V}{k:List V->R}:kF e (.fr e s) k=k s:=by simp[kF]
@[simp] theorem ajG{e:aP}{i:Nat}{k:Nat->R}:kP e (.hp e i 0) k=k i:=by simp[kP]
@[simp] theorem ajF{e:aP}{i:Nat}{k:Nat->R}:kM e (.hm e i) k=k i:=by simp[kM]
@[simp] theorem y8{c:V}{cs:List V}{k:V->List V->R}:cj (c::cs) k=k c cs:=rfl
@[simp] theorem BR{k:R}:er [] k=k:=rfl
@[simp] theorem mS{α:Type}{x:α}{k:α->R}:cg (aA x) k=k x:=rfl
def aS{k:R}(h:b=aD):gd b k=k:=by simp_all
def cM{α:Type}{l:List α}{n:Nat}{x:α}{k:α->R}(h:l[n]? = aA x):bk l n k=k x:=by simp only[bk,h]
def aQ{cfg:cB}{f:cf}{as0:List V}{k:V->R}{v:V}(h:bP cfg f as0=aA v):aT cfg f as0 k=k v:=by simp only[aT,h]
@[simp] theorem af7{kn:R}{ks:V->List V->R}:mh [] kn ks=kn:=rfl
@[simp] theorem E8{x:V}{l:List V}{kn:R}{ks:V->List V->R}:mh (x::l) kn ks=ks x l:=rfl
def ad7{es:List (V × V)}{key:V}{kn:R}{ks:V->R}{v:V}(h:gj es key=aA (aA v)):mP es key kn ks=ks v:=by simp only[mP,h]
end
def dZ{α:Type}{l r:List α}{k:Nat}{x:α}(h:l.drop k=x::r):l[k]? = aA x/\l.drop (k+1)=r/\k < l.length:=by
 have hk:k < l.length:=by
  rcases nQ k l.length with h1|h1
  ·exact h1
  ·rw[B6 h1]at h;cases h
 rw[sd hk]at h;injection h with h1 h2
 exact⟨by rw[cI hk,h1],h2,hk⟩
def drop_nil{α:Type}{l:List α}{k:Nat}(h:l.drop k=[]):l.length<=k:=Gn.1 h
@[simp] theorem aje{α:Type}{p:Prop}[Decidable p]{a b:α}:(cond (decide p) a b)=if p then a else b:=by
 by_cases h:p<;>simp[h]
@[simp] theorem ajx{p:Prop}[Decidable p]{k:R}:gd (decide p) k=if p then k else none:=by
 by_cases h:p<;>simp[h,gd]
def I2{α:Type}{l:List α}{f:α->V}{n:Nat}{x:α}{k:V->R}(h:l[n]? = aA x):bk (l.map f) n k=k (f x):=by
 simp only[bk,gy,h,dy]
def Mh{α:Type}{l:List α}{f:α->V}{c:Nat}(h:∀x,(f x).cells.length=c):cC c (l.map f)=true:=by
 simp only[cC,List.all_map,e9,Function.comp_apply,iQ];exact λx _=>h x
def Qa{α:Type}{l:List α}{f:α->V}(h:∀x,(f x).cells.all js=aD):((l.map f).all λx=>x.cells.all js)=true:=by
 simp only[List.all_map,e9,Function.comp_apply];exact λx _=>by simpa using h x
def bq(n:Nat):((n:Int)).toNat=n:=by omega
def Go.up{kc:KC}{imp:Bool}{n0:Nat}{fa:FA}{P:Nat->d6}{n:Nat}(h:∀k,k < n->Go kc imp n0 fa (P k) (P (k+1))):∀k,k<=n->Go kc imp n0 fa (P k) (P n):=by
 have:∀d k,k+d=n->Go kc imp n0 fa (P k) (P n):=by
  intro d
  induction d with
  | zero=>intro k hk;have:k=n:=by omega
          subst this;exact .refl _
  |succ d ih=>intro k hk;exact(h k (by omega)).trans (ih (k+1) (by omega))
 exact λk hk=>this (n - k) k (by omega)
section
variable {P:bv}{Z Z':Zs}{w w':bg}{j j':J}{mem mem':List O}
def Fg(w:bg)(dT sT ty elem:aP)(i:TypeInfo)(g o dLen dCap:Nat)(a:Addr)(sLen sCap:Nat)(cur:Array aR)(t:aP)(cs:List aR)
  (hu:(bO P) dT=aA (.slice elem)) (hi:P.info? elem=aA i)
  (hg:w.heap[g]? = aA (.cells cur t (0,0))) (hn:cs.length=Nat.min sLen dLen * i.size)
  (hsrc:∀j v,cs[j]? = aA v->w.cell? (a.add j)=aA v) (hfit:o+cs.length<=cur.size) (h1:∀v∈cs,v.oneCell'=aD) :
  (Builtin.copy_ #[dT,sT] ty #[.slice (aA ⟨g,o,aF⟩) dLen dCap,.slice (aA a) sLen sCap]).run P w =
   .ok (goInt (Nat.min sLen dLen)) (w.setRow g (cur.toList.take o++cs++cur.toList.drop (o+cs.length)).toArray):=by
 have hf:=Br (P:=P) w i.size (Nat.min sLen dLen) a sLen sCap cs hn hsrc;have hst:=yG P g o t cs 0 cur w hg (by grind) h1;simp only[gn]at hst;simp[Builtin.copy_,dP hu,Builtin.lenOf,sizeOf,ij,hi,hf,hst]
def jl(us:Array aR)(p:Nat)(vs:List aR):Array aR:=(us.toList.take p++vs++us.toList.drop (p+vs.length)).toArray
def yT{us:Array aR}{p:Nat}{vs:List aR}(h:p+vs.length<=us.size):(jl us p vs).size=us.size:=by
 simp only[jl,wO,gJ,jW,lh,Gg];omega
def mi{us:Array aR}{p:Nat}{vs:List aR}(h:p+vs.length<=us.size)(o:Nat):(jl us p vs)[o]? = if o < p then us[o]? else if o < p+vs.length then vs[o - p]? else us[o]?:=by
 have hto:(us.toList.take p).length=p:=by grind
 simp only[jl,B9,c8];grind
def TD(s:SR P Z w j mem){id:Nat}{e:aP}{els els':List V}(hm:mem[id]? = aA (.row e els 0)){g q n c:Nat}{us us':Array aR}(hj:j id=aA ⟨.slice (aA ⟨g,q,aF⟩) n c,(aK P) e⟩)
  (_hg:w.heap[g]? = aA (.cells us e (0,0))) (hZ:∀o,¬Z g o) {w1:bg} (hg1:w1.heap[g]? = aA (.cells us' e (0,0))) (hot:∀k,k≠g->w1.heap[k]? = w.heap[k]?)
  (hos:w1.os=w.os) (htape:w1.tape=w.tape) (hout:w1.output=w.output) (hsz:w1.heap.size=w.heap.size) (hpos:0 < (aK P) e) (hall:∀x∈els',x.cells.length=(aK P) e) (hlc:els'.length<=c) (hcm:c<=f9) (hus:q+c * (aK P) e<=us'.size)
  (hcl:∀(k:Nat) (x:V) (i:Nat) (y:V),els'[k]? = aA x->x.cells[i]? = aA y->y.one=aD/\∃u,us'[q+(k * (aK P) e+i)]? = aA u/\VR Z w j0 y u) :
  mA P Z w j mem (mem.set id .dead).length (newRow (mem.set id .dead) e els' 0).2 (.slice (aA ⟨g,q,aF⟩) els'.length c) w1:=by
 have bf:id < mem.length:=(cE.1 hm).1;have hown:bT Z j mem g:=⟨id,_,hm,rfl,by simp[bY,O.ar,dk,hj,cO.blk]⟩
 have hno:¬bT Z j (mem.set id .dead) g:=by
  rintro⟨k,x,hx,hl,hb⟩
  by_cases e':id=k
  ·subst e';rw[jn bf]at hx;cases hx;cases hl
  ·rw[iM e']at hx;exact e' (s.inj id k _ x g hm hx rfl hl (by simp[bY,O.ar,dk,hj,cO.blk]) hb)
 have s1:=s.kill hm
 have hz':bU Z w Z w1:=by
  refine .of λg' o ho=>⟨ho,?_⟩
  by_cases hgg:g'=g
  ·subst hgg;exact(hZ o ho).elim
  ·exact ji (hot g' hgg) o
 have s2:SR P Z w1 j (mem.set id .dead):=s1.world hz' (λg' hg'=>⟨hot g' (λe'=>hno (e' ▸ hg')),λ_=>Iff.rfl⟩) (λg' o ho=>by rw[hsz];exact s1.zin g' o ho)
 have s3:=s2.add (h:=⟨.slice (aA ⟨g,q,aF⟩) els'.length c,(aK P) e⟩) (o:=.row e els' 0) (λg' hg'=>by
   simp[cO.blk]at hg';subst hg';exact hno)
  ⟨_,gF _ _ _,rfl,hpos,kz _,hall,.inr ⟨g,q,c,us',rfl,hlc,hcm,hg1,hus,λk x hk i y hy=>by
    obtain⟨a,u',hu',hv⟩:=hcl k x i y hk hy;refine⟨a,u',?_,hv.mono hz' (bG.refl _)⟩;rw[gB hg1,<-hu'];simp only[ky],λo ho=>(hZ o ho).elim,λo ho=>by simp at ho⟩⟩
 refine⟨Z,_,_,gF _ _ _,s3,⟨hos,htape,hout,by omega,λg' hg' hno'=>⟨hot g' (λe'=>hno' (e' ▸ hown)),λ_=>Iff.rfl⟩,λg' hg' ho=>?_,hz',λt h=>⟨(fU.set hm (λn e=>by cases e) h).add rfl,rfl⟩⟩,s1.ext _⟩
 ·rcases bT.add ho with ho|ho
  ·exact(br.kill (Z:=Z) (w:=w) (j:=j) hm).owned g' hg' ho
  ·simp[cO.blk]at ho;subst ho;exact hown
def ag1(w:bg)(t ty e:aP)(i:TypeInfo)(ht:(bO P) t=aA (.slice e))(hi:P.info? e=aA i)
  (g b sLen sCap:Nat) (cur:Array aR) (hg:w.heap[g]? = aA (.cells cur e (0,0)))
  (a:Addr) (m c:Nat) (news:List aR) (hl:news.length=m * i.size) (hnews:∀j u,news[j]? = aA u->w.cell? (a.add j)=aA u) (h1:∀u∈news,u.oneCell'=aD)
  (hroom:sLen+m<=sCap) (hfit:b+sLen * i.size+news.length<=cur.size) :
  (Builtin.append_ #[t,t] ty #[.slice (aA ⟨g,b,aF⟩) sLen sCap,.slice (aA a) m c]).run P w =
   .ok (.slice (aA ⟨g,b,aF⟩) (sLen+m) sCap) (w.setRow g (cur.toList.take (b+sLen * i.size)++news++cur.toList.drop (b+sLen * i.size+news.length)).toArray):=by
 have hf:=Br (P:=P) w i.size m a m c news hl hnews;have hst:=yG P g (b+sLen * i.size) e news 0 cur w hg (by grind) h1;simp only[gn]at hst;simp[Builtin.append_,dP ht,sizeOf,ij,hi,Builtin.lenOf,hroom,hf,Addr.add_lit,hst]
def ajL{α:Type}(a:Array α)(x:α)(f:α->α):(a.push x).modify a.size f=a.push (f x):=by
 grind
def ahE(w:bg)(us us':Array aR)(t:aP):((w.alloc (.cells us t)).setRow w.heap.size us').heap=w.heap.push (.cells us' t):=by
 unfold World.setRow World.alloc;grind
def yU(mem:List O)(id:Nat):V->Option (aP × List V)
 |.own id2=>if m4 id id2 then aF else
  match mem[id2]? with
  |some (.row t xs _)=>aA (t,xs)
  |_=>aF
 |.lit t xs=>aA (t,xs)
 |_=>aF
def td(e:aP)(sz:Nat):List V->List O->Option (V × List O)
 | [.own id,.int aB i,x],mem =>
  match mem[id]?,yU mem id x with
  |some (.row t els 0),aA (t2,xs) =>
   if t=e/\t2=e/\cC sz xs=aD/\0 < xs.length/\0<=i/\i.toNat<=els.length/\els.length+xs.length<=16777216 then
    aA (newRow (mem.set id .dead) e (els.take i.toNat++xs++els.drop i.toNat) 0)
   else aF
  |_,_=>aF
 |_,_=>aF
structure Gl(P:bv)(f ov:cf)(t e tn:aP)(kn:IntKind):Prop where
 ht:(bO P) t=aA (.slice e)
 htn:(bO P) tn=aA (.int kn)
 row:qd P e=aD
 ovr:∀(w:bg) (g g2 o m c2 lb cb:Nat) (us us2:Array aR),g2≠g->w.heap[g]? = aA (.cells us e (0,0))->w.heap[g2]? = aA (.cells us2 e (0,0))->0 < us.size ->
  (callFunc ov #[.slice (aA ⟨g2,0,aF⟩) m c2,.slice (aA ⟨g,o,aF⟩) lb cb]).run P w = .ok (.value (.bool aE)) w
 shift:∀(g n c i g2 m c2:Nat) (w w2 w3:bg) (k1 k2:aR),i < n->0 < m->n+m<=c->c<=9223372036854775807 ->
  (∀lb cb o,(callFunc ov #[.slice (aA ⟨g2,0,aF⟩) m c2,.slice (aA ⟨g,o,aF⟩) lb cb]).run P w = .ok (.value (.bool aE)) w) ->
  (∀ty dc sc,(Builtin.copy_ #[t,t] ty #[.slice (aA ⟨g,(i+m) * (aK P) e,aF⟩) (n+m - (i+m)) dc,.slice (aA ⟨g,i * (aK P) e,aF⟩) (n+m - i) sc]).run P w.drew = .ok k1 w2) ->
  (∀ty dc,(Builtin.copy_ #[t,t] ty #[.slice (aA ⟨g,i * (aK P) e,aF⟩) (n+m - i) dc,.slice (aA ⟨g2,0,aF⟩) m c2]).run P w2 = .ok k2 w3) ->
  fQ P f #[.slice (aA ⟨g,0,aF⟩) n c,.int aB i,.slice (aA ⟨g2,0,aF⟩) m c2] w λx w'=>x = .returned (.slice (aA ⟨g,0,aF⟩) (n+m) c)/\w'=w3
 atEnd:∀(A A2:Option Addr) (n c m c2:Nat) (w w1:bg) (r:aR),0 < m->n<=c->c<=9223372036854775807->(A=aF->n=0/\c=0)->(∀a,A=aA a->∃g,a=⟨g,0,aF⟩) ->
  (∀ty,(Builtin.append_ #[t,t] ty #[.slice A n c,.slice A2 m c2]).run P w = .ok r w1) ->
  fQ P f #[.slice A n c,.int aB n,.slice A2 m c2] w λx w'=>x = .returned r/\w'=w1
 grow:∀(g n c i g2 m c2 N G:Nat) (w w1 w2 w3:bg) (k1 k2:aR),i < n->0 < m->n<=c->c < n+m->n+m<=16777216->n+m<=G->G<=9223372036854775807 ->
  (∀ty,(Builtin.append_ #[t,tn] ty #[.slice (aA ⟨g,0,aF⟩) i c,.int aB ((n:Int)+(m:Int) - (i:Int))]).run P w = .ok (.slice (aA ⟨N,0,aF⟩) (n+m) G) w1) ->
  (∀ty dc,(Builtin.copy_ #[t,t] ty #[.slice (aA ⟨N,i * (aK P) e,aF⟩) (n+m - i) dc,.slice (aA ⟨g2,0,aF⟩) m c2]).run P w1 = .ok k1 w2) ->
  (∀ty dc sc,(Builtin.copy_ #[t,t] ty #[.slice (aA ⟨N,(i+m) * (aK P) e,aF⟩) (n+m - (i+m)) dc,.slice (aA ⟨g,i * (aK P) e,aF⟩) (n - i) sc]).run P w2.drew = .ok k2 w3) ->
  fQ P f #[.slice (aA ⟨g,0,aF⟩) n c,.int aB i,.slice (aA ⟨g2,0,aF⟩) m c2] w λx w'=>x = .returned (.slice (aA ⟨N,0,aF⟩) (n+m) G)/\w'=w3
def QK{f ov:cf}{t e tn:aP}{kn:IntKind}(W:Gl P f ov t e tn kn):gH P λf' as0 mem=>if f'=f then td e ((aK P) e) as0 mem else none:=by
 intro f' as0 mem r mem' h bC Z w j us s ha;simp only at h
 by_cases hf:f'=f
 rotate_left
 ·rw[bh hf]at h;cases h
 subst hf;rw[bc rfl]at h;unfold td at h;split at h;rotate_left
 ·cases h
 rename_i id i x2;split at h;rotate_left
 ·cases h
 rename_i te els t2 xs hm hm2;split at h;rotate_left
 ·cases h
 rename_i hc;obtain⟨rfl,rfl,hw,hx0,hi0,hin,hlen⟩:=hc;cases h
 have hxl:∀x∈xs,x.cells.length=(aK P) t2:=λx hx=>by
  have:=e9.1 hw x hx;simpa using this
 obtain⟨hl,hv⟩:=ha
 match us,hl,hv with
 | [u,ui,ux],hl,hv =>
 have hu:=hv 0 (.own id) u rfl rfl;have hui:=hv 1 (.int aB i) ui rfl rfl;have hux:=hv 2 x2 ux rfl rfl;cases hui;obtain⟨h,hh,h1,h2,h3,h4,h5⟩:=s.obj id _ hm;have hroom:fC P t2 (els.length+xs.length)=true:=by simp[fC,hlen,W.row]
 obtain⟨_,hby,hpos,inf,z,hinf,his,hib,hz,hzs⟩:=lI hroom;cases hu with
 |own hju h00 =>
 rename_i A n c szu;rw[hju]at hh;cases hh;simp only at h1 h2;subst h1;have h2:0 < (aK P) t2:=h2
 have hel2:dA mem x2=aA xs:=by
  cases x2<;>simp only[yU]at hm2<;>first|(cases hm2;done)|skip
  ·split at hm2
   ·cases hm2
   ·split at hm2
    ·rename_i hmm;cases hm2;simp only[dA,hmm]
    ·cases hm2
  ·cases hm2;rfl
 obtain⟨g2,c2,us2,rfl,hg2,hcells2,hgn2⟩:∃g2 c2 us2,ux = .slice (aA ⟨g2,0,aF⟩) xs.length c2/\w.heap[g2]? = aA (.cells us2 t2 (0,0))/\(∀k x,xs[k]? = aA x->fX Z w j0 g2 (0+k * (aK P) t2) x.cells) /\
   (∀g,dk j id=aA g->(∀o,¬Z g o)->g2≠g):=by
  cases x2 with
  |own id2 =>
   simp only[yU]at hm2;split at hm2
   ·cases hm2
   ·rename_i hne;split at hm2
    ·rename_i t2' xs' fz2 hmm;cases hm2;obtain⟨hb,hhb,b1,b2,b3,b4,b5⟩:=s.obj id2 _ hmm;cases hux with
     |own hjx h01 =>
      rw[hjx]at hhb;cases hhb;simp only at b1 b2;subst b1;rcases b5 with⟨hv2,he2⟩|⟨g2,q2,cc2,us2,hv2,hlc2,hcm2,hg2,hus2,hcells2,hz21,hz22⟩
      ·subst he2;simp at hx0
      ·simp only at hv2;cases hv2;have hq2:q2=0:=h01 _ rfl;subst hq2;refine⟨g2,_,us2,rfl,hg2,hcells2,λg hg _=>?_⟩;rintro rfl;exact hne (by rw[s.inj id id2 _ _ g2 hm hmm rfl rfl hg (by simp[bY,O.ar,dk,hjx,cO.blk])];exact Nat.beq_refl _)
    ·cases hm2
  |lit t' l' =>
   simp only[yU]at hm2;cases hm2;cases hux with
   |lit hsl hk hz0 =>
    rename_i g2 n2;have hk:=hk hx0;have hz0:=hz0 hx0;simp only[jf]at hk;split at hk
    ·rename_i us2 tt fr hgg;cases hk;rcases hsl.slInv with⟨A,c,he,_⟩|⟨g',b',c',sz',he,_,hsz',hh'⟩
     ·subst he;simp at hx0
     ·simp only[Value.slice.injEq,Option.some.injEq,Addr.mk.injEq,and_true,true_and]at he;obtain⟨⟨rfl,rfl⟩,hcc⟩:=he;have e0:xs[0]? = aA xs[0]:=cI hx0;have es:sz'=(aK P) t2:=by rw[<-(hh' 0 _ e0).1,hxl _ (dH e0)]
      subst es;refine⟨g2,_,us2,rfl,hgg,λk x hk=>(hh' k x hk).2.2,λg hg hno=>?_⟩;rintro rfl;exact hno 0 hz0
    ·cases hk
  |_=>simp[yU]at hm2
 ·clear h2
  have hnc:n=els.length/\n<=c/\c<=9223372036854775807/\(A=aF->n=0/\c=0)/\(∀a,A=aA a->∃g,a=⟨g,0,aF⟩):=by
   rcases h5 with⟨hv1,he1⟩|⟨g,q,cc,us1,hv1,hlc,hcm,_⟩
   ·simp only at hv1;cases hv1;subst he1;exact⟨rfl,cZ _,by omega,λ_=>⟨rfl,rfl⟩,(by intro a h;cases h)⟩
   ·simp only at hv1;cases hv1;have hq:q=0:=h00 _ rfl;subst hq;exact⟨rfl,hlc,by unfold f9 at hcm;omega,(by intro h;cases h),(by intro a h;cases h;exact⟨g,rfl⟩)⟩
  obtain⟨hn,hnc,hc63,hA0,hA1⟩:=hnc;obtain⟨ii,rfl⟩:∃ii:Nat,i=(ii:Int):=⟨i.toNat,by omega⟩
  have eii:((ii:Int)).toNat=ii:=by omega
  rw[eii]at hin |-
  by_cases hend:ii=els.length
  ·-- at the end
   have hap:kE P mem t (.own id) x2=aA (newRow (mem.set id .dead) t2 (els++xs) 0):=by
    have hel3:n7 mem x2=aA xs:=by cases x2<;>first|exact hel2|(cases hel2)
    simp only[kE,gh,W.ht,bu,hel3,hm,hroom,and_self,dv];have:(xs.all λy=>y.cells.length==(aK P) t2)=true:=hw;rw[bc this]
   obtain⟨r1,w1,hr,hpost⟩:=GJ (t:=t) (tx:=t) (ty:=t) (u:=.slice A n c) (ux:=.slice (aA ⟨g2,0,aF⟩) xs.length c2) s (by cases x2<;>first|(simp[nc];done)|(cases hel2)) hap (.own hju h00) hux;have hr':∀ty,(Builtin.append_ #[t,t] ty #[.slice A n c,.slice (aA ⟨g2,0,aF⟩) xs.length c2]).run P w = .ok r1 w1:=λty=>hr
   have e1:els.take ii++xs++els.drop ii=els++xs:=by rw[hend];simp
   rw[e1];have hcall:=W.atEnd A (aA ⟨g2,0,aF⟩) n c xs.length c2 w w1 r1 hx0 hnc hc63 hA0 hA1 hr';have e2:ii=n:=by omega
   subst e2
   exact hcall.mono λx w' hxw=>by
    obtain⟨rfl,rfl⟩:=hxw;exact⟨r1,rfl,hpost⟩
  ·have bf:ii < els.length:=by omega
   rcases h5 with⟨hv1,he1⟩|⟨g,q,cc,us1,hv1,hlc,hcm,hg,hus,hcells,hz1,hz2⟩
   ·subst he1;simp at bf
   ·simp only at hv1;cases hv1;have hq:q=0:=h00 _ rfl;subst hq;have hus:c * (aK P) t2<=us1.size:=by simpa using hus
    have hZ:∀o,¬Z g o:=λo ho=>by have:=(hz1 o ho).1;omega
    have hgne:g2≠g:=hgn2 g (by simp[dk,hju,cO.blk]) hZ;obtain⟨news,hnl,hnc',hnr⟩:=xC hpos hxl hcells2;obtain⟨olds,hol,hoc,hor⟩:=xC hpos h4 hcells
    have hn1:∀v∈news,v.oneCell'=true:=λv hv=>by
     obtain⟨k,hk,rfl⟩:=mq hv;exact(hnc' k _ (cI hk)).2
    have ho1:∀v∈olds.drop (ii * (aK P) t2),v.oneCell'=true:=λv hv=>by
     obtain⟨k,hk,rfl⟩:=mq (uE hv);exact(hoc k _ (cI hk)).2
    have hdl:(olds.drop (ii * (aK P) t2)).length=(els.length - ii) * (aK P) t2:=by
     rw[lh,hol,<-qy]
    have hget:∀k u,(olds.drop (ii * (aK P) t2))[k]? = aA u->w.cell? ((⟨g,ii * (aK P) t2,aF⟩:Addr).add k)=aA u:=λk u hk=>by
     rw[i6]at hk;have:=(hoc _ u hk).1;rw[Addr.add_lit]at this |-
     rw[<-this];congr 2;omega
    have hmul1:ii * (aK P) t2<=els.length * (aK P) t2:=dO _ hin;have hM:(els.length+xs.length) * (aK P) t2=els.length * (aK P) t2+xs.length * (aK P) t2:=jX _ _ _;have hIM:(ii+xs.length) * (aK P) t2=ii * (aK P) t2+xs.length * (aK P) t2:=jX _ _ _;have hDD:(els.length - ii) * (aK P) t2=els.length * (aK P) t2 - ii * (aK P) t2:=qy _ _ _
    have hall:∀x∈els.take ii++xs++els.drop ii,x.cells.length=(aK P) t2:=λx hx=>by
     simp only[cG]at hx;rcases hx with(hx|hx)|hx
     ·exact h4 x (uF hx)
     ·exact hxl x hx
     ·exact h4 x (uE hx)
    have hlen':(els.take ii++xs++els.drop ii).length=els.length+xs.length:=by simp;omega
    have key:∀(F:Array aR) (D:Array aR),(∀o,o < ii * (aK P) t2->F[o]? = olds[o]?)->(∀o,o < xs.length * (aK P) t2->F[ii * (aK P) t2+o]? = news[o]?)->(∀o,o < (els.length - ii) * (aK P) t2->F[(ii+xs.length) * (aK P) t2+o]? = olds[ii * (aK P) t2+o]?) ->
      ∀(k:Nat) (x:V) (q:Nat) (y:V),(els.take ii++xs++els.drop ii)[k]? = aA x->x.cells[q]? = aA y->y.one=aD/\∃u,F[k * (aK P) t2+q]? = aA u/\VR Z w j0 y u:=by
     intro F _ f1 f2 f3 k x q y hk hy;have hq:q < (aK P) t2:=by rw[<-hall x (dH hk)];exact(cE.1 hy).1
     by_cases k1:k < ii
     ·rw[c8,eP (by simp;omega),kx,bc k1]at hk;obtain⟨a,u',hu',hvr⟩:=hor k x q y hk hy;refine⟨a,u',?_,hvr⟩;rw[f1 _ ?_]
      ·exact hu'
      ·have:(k+1) * (aK P) t2<=ii * (aK P) t2:=dO _ k1;rw[my]at this;omega
     ·by_cases k2:k < ii+xs.length
      ·rw[c8,eC (by simp;omega),eP (by simp;omega)]at hk;have e3:k - (els.take ii).length=k - ii:=by simp;omega
       rw[e3]at hk;obtain⟨a,u',hu',hvr⟩:=hnr _ x q y hk hy;refine⟨a,u',?_,hvr⟩
       have e4:k * (aK P) t2+q=ii * (aK P) t2+((k - ii) * (aK P) t2+q):=by
        have:k * (aK P) t2=ii * (aK P) t2+(k - ii) * (aK P) t2:=by rw[<-jX];congr 1;omega
        omega
       rw[e4,f2 _ ?_]
       ·exact hu'
       ·have:(k - ii+1) * (aK P) t2<=xs.length * (aK P) t2:=dO _ (by omega);rw[my]at this;omega
      ·rw[eC (by simp;omega)]at hk;have e3:k - (els.take ii++xs).length=k - ii - xs.length:=by simp;omega
       rw[e3,i6]at hk;have hkl:=(cE.1 hk).1;obtain⟨a,u',hu',hvr⟩:=hor _ x q y hk hy;refine⟨a,u',?_,hvr⟩
       have e4:k * (aK P) t2+q=(ii+xs.length) * (aK P) t2+((k - ii - xs.length) * (aK P) t2+q):=by
        have:k * (aK P) t2=(ii+xs.length) * (aK P) t2+(k - ii - xs.length) * (aK P) t2:=by rw[<-jX];congr 1;omega
        omega
       rw[e4,f3 _ ?_]
       ·rw[<-hu'];congr 1;have:(ii+(k - ii - xs.length)) * (aK P) t2=ii * (aK P) t2+(k - ii - xs.length) * (aK P) t2:=jX _ _ _;omega
       ·have:(k - ii - xs.length+1) * (aK P) t2<=(els.length - ii) * (aK P) t2:=dO _ (by omega);rw[my]at this;omega
    have hold:∀o,o < els.length * (aK P) t2->us1[o]? = olds[o]?:=λo ho=>by
     have hlt':o < olds.length:=by omega
     have hc0:=(hoc o _ (cI hlt')).1;rw[Addr.add_lit,gB hg]at hc0;rw[cI hlt',<-hc0];congr 1;simp
    by_cases hfit:els.length+xs.length<=c
    ·-- in place
     have hfitm:(els.length+xs.length) * (aK P) t2<=c * (aK P) t2:=dO _ hfit;have p1:(ii+xs.length) * (aK P) t2+(olds.drop (ii * (aK P) t2)).length<=us1.size:=by rw[hdl];omega
     have hcp1:∀ty dc sc,(Builtin.copy_ #[t,t] ty #[.slice (aA ⟨g,(ii+xs.length) * (aK P) t2,aF⟩) (els.length+xs.length - (ii+xs.length)) dc,.slice (aA ⟨g,ii * (aK P) t2,aF⟩) (els.length+xs.length - ii) sc]).run P w.drew =
       .ok (goInt (els.length - ii:Nat)) (w.drew.setRow g (jl us1 ((ii+xs.length) * (aK P) t2) (olds.drop (ii * (aK P) t2)))):=λty dc sc=>by
      have hmin:Nat.min (els.length+xs.length - ii) (els.length+xs.length - (ii+xs.length))=els.length - ii:=by simp only[Nat.min_def];split<;>omega
      have:=Fg (P:=P) w.drew t t ty t2 inf g ((ii+xs.length) * (aK P) t2) (els.length+xs.length - (ii+xs.length)) dc ⟨g,ii * (aK P) t2,aF⟩ (els.length+xs.length - ii) sc us1 t2 (olds.drop (ii * (aK P) t2)) W.ht hinf hg (by rw[hmin,hdl,his]) hget p1 ho1;rw[hmin]at this;exact this
     obtain⟨F1,hF1⟩:∃F1,F1=jl us1 ((ii+xs.length) * (aK P) t2) (olds.drop (ii * (aK P) t2)):=⟨_,rfl⟩
     have sF1:F1.size=us1.size:=by rw[hF1];exact yT p1
     rw[<-hF1]at hcp1;have hgF:(w.drew.setRow g F1).heap[g]? = aA (.cells F1 t2 (0,0)):=setRow_heap w.drew g us1 F1 t2 (0,0) hg;have p2:ii * (aK P) t2+news.length<=F1.size:=by rw[sF1,hnl];omega
     have hcp2:∀ty dc,(Builtin.copy_ #[t,t] ty #[.slice (aA ⟨g,ii * (aK P) t2,aF⟩) (els.length+xs.length - ii) dc,.slice (aA ⟨g2,0,aF⟩) xs.length c2]).run P (w.drew.setRow g F1) =
       .ok (goInt xs.length) ((w.drew.setRow g F1).setRow g (jl F1 (ii * (aK P) t2) news)):=λty dc=>by
      have hmin:Nat.min xs.length (els.length+xs.length - ii)=xs.length:=by simp only[Nat.min_def];split<;>omega
      have:=Fg (P:=P) (w.drew.setRow g F1) t t ty t2 inf g (ii * (aK P) t2) (els.length+xs.length - ii) dc ⟨g2,0,aF⟩ xs.length c2 F1 t2 news W.ht hinf hgF (by rw[hmin,hnl,his]) (λk u hk=>by
       have:=(hnc' k u hk).1;rw[Addr.add_lit]at this |-
       rw[<-this];exact World.cell?_of_block (a:=⟨g2,0+k,aF⟩) (oL w.drew g g2 F1 hgne)) p2 hn1
      rw[hmin]at this;exact this
     have hcall:=W.shift g els.length c ii g2 xs.length c2 w _ _ _ _ bf hx0 hfit hc63 (λlb cb o=>W.ovr w g g2 o xs.length c2 lb cb us1 us2 hgne hg hg2 (qx (qx (Nat.mul_pos (by omega) hpos) hfitm) hus)) hcp1 hcp2;refine hcall.mono λx w' hxw=>?_
     obtain⟨rfl,rfl⟩:=hxw;refine⟨_,rfl,?_⟩;rw[setRow_setRow]
     have hk0:=key (jl F1 (ii * (aK P) t2) news) #[] (fun o ho=>by
        rw[mi p2,bc ho,hF1,mi p1,bc (by omega)];exact hold o (by omega))
       (λo ho=>by
        rw[mi p2,bh (by omega),bc (by rw[hnl];omega)];congr 1;omega)
       (λo ho=>by
        rw[mi p2,bh (by omega),bh (by rw[hnl];omega),hF1,mi p1,bh (by omega),bc (by rw[hdl];omega),i6];congr 1;omega)
     have hp:=TD (els':=els.take ii++xs++els.drop ii) s hm hju hg hZ (w1:=w.drew.setRow g (jl F1 (ii * (aK P) t2) news)) (setRow_heap w.drew g us1 _ t2 (0,0) hg) (λk hk=>oL w.drew g k _ hk) rfl rfl rfl
      (by show(w.heap.modify g _).size=w.heap.size;simp) hpos hall (by rw[hlen'];exact hfit) hcm (by rw[yT p2,sF1,eW];exact hus)
      (λk x i y hk hy=>by rw[eW];exact hk0 k x i y hk hy)
     rw[hlen']at hp;exact hp.own (λa ha=>by cases ha;rfl)
    ·-- a new block
     have hgrow:c < els.length+xs.length:=by omega
     have hbytes:(els.length+xs.length) * inf.bytes<=140737488355328:=by
      rw[hib];exact qw (Cj hlen hby) (by decide)
     obtain⟨G,hG⟩:∃G,G=gq w (els.length+xs.length) c t2:=⟨_,rfl⟩
     have hGn:els.length+xs.length<=G:=by rw[hG];exact grownCap_ge w _ _ _
     have hGm:G<=f9:=by rw[hG];exact grownCap_le_maxLen w _ c t2 (by simp only[f9];omega)
     have htk:(olds.take (ii * (aK P) t2)).length=ii * (aK P) t2:=by rw[jW,hol];omega
     have hfc:(Builtin.firstCells inf.size ii (.slice (aA ⟨g,0,aF⟩) ii c)).run P w.drew = .ok (olds.take (ii * (aK P) t2)).toArray w.drew :=
      Br w.drew inf.size ii ⟨g,0,aF⟩ ii c _ (by rw[htk,his]) (λk v hk=>by
       rw[kx]at hk;split at hk
       ·exact(hoc k v hk).1
       ·cases hk)
     have hik:ii+(els.length+xs.length - ii)=els.length+xs.length:=by omega
     obtain⟨ROW,hROW⟩:∃ROW:Array aR,ROW=(olds.take (ii * (aK P) t2)).toArray++Builtin.zeroCells z.cells (els.length+xs.length - ii)++Builtin.zeroCells z.cells (G - (els.length+xs.length)):=⟨_,rfl⟩
     have hRs:ROW.size=G * (aK P) t2:=by
      rw[hROW];simp only[BV,wO,size_zeroCells,htk,hzs,<-jX];congr 1;omega
     have hRl:(els.length+xs.length) * (aK P) t2<=ROW.size:=by rw[hRs];exact dO _ hGn
     have hrz:∀ty,(Builtin.append_ #[t,tn] ty #[.slice (aA ⟨g,0,aF⟩) ii c,.int aB ((els.length:Int)+(xs.length:Int) - (ii:Int))]).run P w =
       .ok (.slice (aA ⟨w.heap.size,0,aF⟩) (els.length+xs.length) G) (w.drew.alloc (.cells ROW t2)):=λty=>by
      have hh:=Lib.run_append_grow_zeros w t tn ty t2 inf z aB kn W.ht W.htn hinf hz (aA ⟨g,0,aF⟩) ii c _ hfc (els.length+xs.length - ii) (by omega) (by rw[his];exact hpos) (by omega) (by omega) (by
       have h7:(els.length+xs.length - ii) * inf.bytes<=(els.length+xs.length) * inf.bytes:=dO _ (by omega);omega) (by rw[hik];exact growslice_fits hgrow hbytes)
      rw[hik]at hh;rw[show(els.length:Int)+(xs.length:Int) - (ii:Int)=((els.length+xs.length - ii:Nat):Int) by omega,hh,hROW,hG]
     have hgW:(w.drew.alloc (.cells ROW t2)).heap[w.heap.size]? = aA (.cells ROW t2 (0,0)):=heap_alloc_new w.drew _;have hgl:g < w.heap.size:=(gS.1 hg).1;have hgl2:g2 < w.heap.size:=(gS.1 hg2).1
     have hoth:∀k,k < w.heap.size->(w.drew.alloc (.cells ROW t2)).heap[k]? = w.heap[k]?:=λk hk=>by
      show(w.heap.push _)[k]? = _;rw[Array.getElem?_push_lt hk,gG hk]
     have p2:ii * (aK P) t2+news.length<=ROW.size:=by rw[hnl];omega
     have hcpA:∀ty dc,(Builtin.copy_ #[t,t] ty #[.slice (aA ⟨w.heap.size,ii * (aK P) t2,aF⟩) (els.length+xs.length - ii) dc,.slice (aA ⟨g2,0,aF⟩) xs.length c2]).run P (w.drew.alloc (.cells ROW t2)) =
       .ok (goInt xs.length) ((w.drew.alloc (.cells ROW t2)).setRow w.heap.size (jl ROW (ii * (aK P) t2) news)):=λty dc=>by
      have hmin:Nat.min xs.length (els.length+xs.length - ii)=xs.length:=by simp only[Nat.min_def];split<;>omega
      have:=Fg (P:=P) (w.drew.alloc (.cells ROW t2)) t t ty t2 inf w.heap.size (ii * (aK P) t2) (els.length+xs.length - ii) dc ⟨g2,0,aF⟩ xs.length c2 ROW t2 news W.ht hinf hgW (by rw[hmin,hnl,his]) (λk u hk=>by
       have:=(hnc' k u hk).1;rw[Addr.add_lit]at this |-
       rw[<-this];exact World.cell?_of_block (a:=⟨g2,0+k,aF⟩) (hoth g2 hgl2)) p2 hn1
      rw[hmin]at this;exact this
     obtain⟨F1,hF1⟩:∃F1,F1=jl ROW (ii * (aK P) t2) news:=⟨_,rfl⟩
     have sF1:F1.size=ROW.size:=by rw[hF1];exact yT p2
     rw[<-hF1]at hcpA;have hgF:((w.drew.alloc (.cells ROW t2)).setRow w.heap.size F1).drew.heap[w.heap.size]? = aA (.cells F1 t2 (0,0)):=setRow_heap _ w.heap.size ROW F1 t2 (0,0) hgW;have p1:(ii+xs.length) * (aK P) t2+(olds.drop (ii * (aK P) t2)).length<=F1.size:=by rw[hdl,sF1];omega
     have hcpB:∀ty dc sc,(Builtin.copy_ #[t,t] ty #[.slice (aA ⟨w.heap.size,(ii+xs.length) * (aK P) t2,aF⟩) (els.length+xs.length - (ii+xs.length)) dc,.slice (aA ⟨g,ii * (aK P) t2,aF⟩) (els.length - ii) sc]).run P ((w.drew.alloc (.cells ROW t2)).setRow w.heap.size F1).drew =
       .ok (goInt (els.length - ii:Nat)) (((w.drew.alloc (.cells ROW t2)).setRow w.heap.size F1).drew.setRow w.heap.size (jl F1 ((ii+xs.length) * (aK P) t2) (olds.drop (ii * (aK P) t2)))):=λty dc sc=>by
      have hmin:Nat.min (els.length - ii) (els.length+xs.length - (ii+xs.length))=els.length - ii:=by simp only[Nat.min_def];split<;>omega
      have:=Fg (P:=P) ((w.drew.alloc (.cells ROW t2)).setRow w.heap.size F1).drew t t ty t2 inf w.heap.size ((ii+xs.length) * (aK P) t2) (els.length+xs.length - (ii+xs.length)) dc ⟨g,ii * (aK P) t2,aF⟩ (els.length - ii) sc F1 t2 (olds.drop (ii * (aK P) t2)) W.ht hinf hgF (by rw[hmin,hdl,his]) (λk u hk=>by
       have:=hget k u hk;rw[Addr.add_lit]at this |-
       rw[<-this];refine World.cell?_of_block (a:=⟨g,ii * (aK P) t2+k,aF⟩) ?_;exact(oL (w.drew.alloc (.cells ROW t2)) w.heap.size g F1 (by omega)).trans (hoth g hgl)) p1 ho1
      rw[hmin]at this;exact this
     have hcall:=W.grow g els.length c ii g2 xs.length c2 w.heap.size G w _ _ _ _ _ bf hx0 hnc hgrow hlen hGn (by unfold f9 at hGm;omega) hrz hcpA hcpB;refine hcall.mono λx w' hxw=>?_
     obtain⟨rfl,rfl⟩:=hxw;refine⟨_,rfl,?_⟩
     have hheap:(((w.drew.alloc (.cells ROW t2)).setRow w.heap.size F1).drew.setRow w.heap.size (jl F1 ((ii+xs.length) * (aK P) t2) (olds.drop (ii * (aK P) t2)))).heap=w.heap.push (.cells (jl F1 ((ii+xs.length) * (aK P) t2) (olds.drop (ii * (aK P) t2))) t2):=by
      show(((w.drew.alloc (.cells ROW t2)).setRow w.heap.size F1).setRow w.heap.size _).heap=_;rw[setRow_setRow];exact ahE w.drew ROW _ t2
     have hp:=Bo (fz:=0) (els:=els.take ii++xs++els.drop ii) (c:=G) (s.kill hm) hheap rfl rfl rfl hpos hall (kz _) (by rw[hlen'];exact hGn) hGm (by rw[yT p1,sF1,hRs])
      (key _ #[] (λo ho=>by
        rw[mi p1,bc (by omega),hF1,mi p2,bc ho,hROW,Array.append_assoc,Mn (by simpa[htk]using ho)];simp only[B9,kx,bc ho])
       (λo ho=>by
        rw[mi p1,bc (by omega),hF1,mi p2,bh (by omega),bc (by rw[hnl];omega)];congr 1;omega)
       (λo ho=>by
        rw[mi p1,bh (by omega),bc (by rw[hdl];omega),i6];congr 1;omega))
     rw[hlen']at hp;exact hp.stp (br.kill hm)
def ahF{w:bg}{g:Nat}{us:Array aR}{t:aP}{fr:Nat × Nat}(hg:w.heap[g]? = aA (.cells us t fr)):w.setRow g us=w:=by
 have hh:(w.setRow g us).heap=w.heap:=by
  apply Array.ext_getElem?;intro k
  by_cases hk:k=g
  ·subst hk;rw[setRow_heap w k us us t fr hg,hg]
  ·exact oL w g k us hk
 cases w;unfold World.setRow at hh |-
 grind
def uV(e:aP)(mem:List O)(id:Nat)(i j:Int):Option (List O) :=
 match mem[id]? with
 |some (.row t els 0) =>
  if t=e/\0<=i/\i<=j/\j.toNat<=els.length/\els.length<=16777216 then
   aA (newRow (mem.set id .dead) e (els.take i.toNat++els.drop j.toNat) 0).2
  else aF
 |_=>aF
def qM(e:aP):List V->List O->Option (V × List O)
 | [.own id,.int aB i,.int aB j],mem=>(uV e mem id i j).map λm=>(.own mem.length,m)
 | [.tail id 0,.int aB i,.int aB j],mem=>(uV e mem id i j).map λm=>(.tail mem.length 0,m)
 |_,_=>aF
def F2{ops:Array dU}{o:dU}{a:Act}{w:bg}{K:Act->bg->Prop}{Q:Exit->Act->bg->Prop}{E:Prop}
  (hg:o.guard=aF) (d x:fD) (dT sT:aP) (hop:o.op=Op.call { callee:=Callee.builtin Builtin.append,args:=#[d,x],argTypes:=#[dT,sT] })
  (v u:aR) (hd:a.eval d=v) (hx:a.eval x=u) {v':aR} {w':bg} (hr:(Builtin.append_ #[dT,sT] o.type #[v,u]).run P w = .ok v' w') (hK:K (a.put o.dst v') w') :
  if Region.wanted o (yielded ops a.tmps)=aD then Oper.wp P o a w K Q else E:=by
 have hw:Region.wanted o (yielded ops a.tmps)=true:=by simp[Region.wanted,hg]
 rw[bc hw];unfold Oper.wp;simp[execOp,hop,resolve,invoke,builtin,hd,hx,hr,Result.andThen];exact hK
structure Gj(P:bv)(f:cf)(t e:aP):Prop where
 ht:(bO P) t=aA (.slice e)
 row:qd P e=aD
 z1:∀i z,P.info? e=aA i->i.zero=aA z->∀v∈z.cells.toList,v.oneCell'=aD
 same:∀(A:Option Addr) (n c i:Nat) (w:bg),i<=n->n<=c->c<=9223372036854775807->(A=aF->n=0/\c=0)->(∀a,A=aA a->∃g q,a=⟨g,q,aF⟩) ->
  fQ P f #[.slice A n c,.int aB i,.int aB i] w λx w'=>x = .returned (.slice A n c)/\w'=w
 cut:∀(g q n c i jj:Nat) (w w2 w3:bg) (k:aR),i < jj->jj<=n->n<=c->c<=9223372036854775807 ->
  (∀ty A cp,(jj < n->A=aA ⟨g,q+jj * (aK P) e,aF⟩)->(Builtin.append_ #[t,t] ty #[.slice (aA ⟨g,q,aF⟩) i c,.slice A (n - jj) cp]).run P w.drew = .ok (.slice (aA ⟨g,q,aF⟩) (i+(n - jj)) c) w2) ->
  (∀ty cp,(Builtin.clear_ #[t] ty #[.slice (aA ⟨g,q+(i+(n - jj)) * (aK P) e,aF⟩) (n - (i+(n - jj))) cp]).run P w2 = .ok k w3) ->
  fQ P f #[.slice (aA ⟨g,q,aF⟩) n c,.int aB i,.int aB jj] w λx w'=>x = .returned (.slice (aA ⟨g,q,aF⟩) (i+(n - jj)) c)/\w'=w3
def ag3(w:bg)(t ty elem:aP)(i:TypeInfo)(z:aR)(g o n cp:Nat)(cur:Array aR)(et:aP)(hu:(bO P) t=aA (.slice elem))(hi:P.info? elem=aA i)(hz:i.zero=aA z)
  (hg:w.heap[g]? = aA (.cells cur et (0,0))) (h0:0 < n) (hfit:o+n * z.cells.size<=cur.size) (h1:∀v∈z.cells.toList,v.oneCell'=aD) :
  (Builtin.clear_ #[t] ty #[.slice (aA ⟨g,o,aF⟩) n cp]).run P w = .ok (.tuple #[]) (w.setRow g (jl cur o (Builtin.zeroCells z.cells n).toList)):=by
 have hsz:(Builtin.zeroCells z.cells n).toList.length=n * z.cells.size:=by simp[size_zeroCells]
 have hone:∀v∈(Builtin.zeroCells z.cells n).toList,v.oneCell'=true:=λv hv=>by
  have:v∈z.cells.toList:=by
   simp only[Builtin.zeroCells,Array.toList_map,fi,Array.mem_toList_iff,Array.mem_range]at hv;obtain⟨q,hq,rfl⟩:=hv
   have hpos:0 < z.cells.size:=by
    grind
   have bf:q % z.cells.size < z.cells.size:=Nat.mod_lt _ hpos;grind
  grind
 have hst:=yG P g o et (Builtin.zeroCells z.cells n).toList 0 cur w hg (by grind) hone;simp only[gn]at hst;obtain⟨m,rfl⟩:∃m,n=m+1:=⟨n - 1,by omega⟩
 simp[Builtin.clear_,dP hu,zeroValue,ij,hi,hz,hst,jl]
def NZ{f:cf}{t e:aP}(W:Gj P f t e):gH P λf' as0 mem=>if f'=f then qM e as0 mem else none:=by
 intro f' as0 mem r mem' h bC Z w j us s ha;simp only at h
 by_cases hf:f'=f
 rotate_left
 ·grind
 subst hf;rw[bc rfl]at h
 have main:∀(id:Nat) (i jv:Int) (m:List O),uV e mem id i jv=aA m->∀(A:Option Addr) (n c szu:Nat),j id=aA ⟨.slice A n c,szu⟩ ->
   fQ P f' #[.slice A n c,.int aB i,.int aB jv] w λx w'=>∃A' n' c',x = .returned (.slice A' n' c')/\mA P Z w j mem (mem.set id .dead).length m (.slice A' n' c') w'/\((∀a,A=aA a->a.off=0)->∀a,A'=aA a->a.off=0):=by
  clear h ha;intro id i jv m h A n c szu hju;unfold uV at h;split at h;rotate_left
  ·cases h
  rename_i te els hm;split at h;rotate_left
  ·cases h
  rename_i hc;obtain⟨rfl,hi0,hij,hjn,hlen⟩:=hc;cases h;obtain⟨h,hh,h1,h2,h3,h4,h5⟩:=s.obj id _ hm;have hroom:fC P te els.length=true:=by simp[fC,hlen,W.row]
  obtain⟨_,hby,hpos,inf,z,hinf,his,hib,hz,hzs⟩:=lI hroom;rw[hju]at hh;cases hh;simp only at h1 h2;subst h1;obtain⟨ii,rfl⟩:∃ii:Nat,i=(ii:Int):=⟨i.toNat,by omega⟩
  obtain⟨jj,rfl⟩:∃jj:Nat,jv=(jj:Int):=⟨jv.toNat,by omega⟩
  have eii:((ii:Int)).toNat=ii:=by omega
  have ejj:((jj:Int)).toNat=jj:=by omega
  rw[ejj]at hjn;rw[eii,ejj];have hijn:ii<=jj:=by omega
  have hnc:n=els.length/\n<=c/\c<=9223372036854775807/\(A=aF->n=0/\c=0)/\(∀a,A=aA a->∃g q,a=⟨g,q,aF⟩):=by
   rcases h5 with⟨hv1,he1⟩|⟨g,q,cc,us1,hv1,hlc,hcm,_⟩
   ·grind
   ·simp only at hv1;cases hv1;exact⟨rfl,hlc,by unfold f9 at hcm;omega,(by grind),(by grind)⟩
  obtain⟨hn,hnc,hc63,hA0,hA1⟩:=hnc;have bf:id < mem.length:=(cE.1 hm).1
  have hblk:∀g,cO.blk ⟨.slice A n c,(aK P) te⟩=aA g->¬bT Z j (mem.set id .dead) g/\bT Z j mem g:=by
   intro g hg;refine⟨?_,⟨id,_,hm,rfl,by simp[bY,O.ar,dk,hju,hg]⟩⟩;rintro⟨k,x,hx,hl,hb⟩
   by_cases e':id=k
   ·subst e';rw[jn bf]at hx;cases hx;cases hl
   ·rw[iM e']at hx;exact e' (s.inj id k _ x g hm hx rfl hl (by simp[bY,O.ar,dk,hju,hg]) hb)
  by_cases heq:ii=jj
  ·subst heq;have e1:els.take ii++els.drop ii=els:=lj _ _;rw[e1];refine(W.same A n c ii w (by omega) hnc hc63 hA0 hA1).mono λx w' hxw=>?_
   obtain⟨rfl,rfl⟩:=hxw;have hlm:(mem.set id gU).length=mem.length:=by simp
   exact⟨A,n,c,rfl,hlm ▸ TC (s.kill hm) (br.kill hm) ⟨rfl,h2,h3,h4,h5⟩ hblk,λh=>h⟩
  ·have hltj:ii < jj:=by omega
   rcases h5 with⟨hv1,he1⟩|⟨g,q,cc,us1,hv1,hlc,hcm,hg,hus,hcells,hz1,hz2⟩
   ·grind
   ·simp only at hv1;cases hv1;have hus:q+c * (aK P) te<=us1.size:=hus;have hZ:∀o,¬Z g o:=λo ho=>by grind
    obtain⟨olds,hol,hoc,hor⟩:=xC hpos h4 hcells
    have ho1:∀v∈olds.drop (jj * (aK P) te),v.oneCell'=true:=λv hv=>by
     obtain⟨k,hk,rfl⟩:=mq (uE hv);exact(hoc k _ (cI hk)).2
    have hdl:(olds.drop (jj * (aK P) te)).length=(els.length - jj) * (aK P) te:=by
     rw[lh,hol,<-qy]
    have hDD:(els.length - jj) * (aK P) te=els.length * (aK P) te - jj * (aK P) te:=qy _ _ _;have hmul1:ii * (aK P) te<=jj * (aK P) te:=dO _ hijn;have hmul2:jj * (aK P) te<=els.length * (aK P) te:=dO _ hjn;have hmul3:els.length * (aK P) te<=c * (aK P) te:=dO _ hlc;have hIM:(ii+(els.length - jj)) * (aK P) te=ii * (aK P) te+(els.length - jj) * (aK P) te:=jX _ _ _;have hRM:(els.length - (ii+(els.length - jj))) * (aK P) te=els.length * (aK P) te - (ii+(els.length - jj)) * (aK P) te:=qy _ _ _;have p1:q+ii * (aK P) te+(olds.drop (jj * (aK P) te)).length<=us1.size:=by grind
    obtain⟨F1,hF1⟩:∃F1,F1=jl us1 (q+ii * (aK P) te) (olds.drop (jj * (aK P) te)):=⟨_,rfl⟩
    have sF1:F1.size=us1.size:=by rw[hF1];exact yT p1
    have hap:∀ty A cp,(jj < els.length->A=aA ⟨g,q+jj * (aK P) te,aF⟩)->(Builtin.append_ #[t,t] ty #[.slice (aA ⟨g,q,aF⟩) ii c,.slice A (els.length - jj) cp]).run P w.drew = .ok (.slice (aA ⟨g,q,aF⟩) (ii+(els.length - jj)) c) (w.drew.setRow g F1):=λty A cp hA=>by
     by_cases hz0:jj < els.length
     ·rw[hA hz0]
      have:=ag1 (P:=P) w.drew t ty te inf W.ht hinf g q ii c us1 hg ⟨g,q+jj * (aK P) te,aF⟩ (els.length - jj) cp (olds.drop (jj * (aK P) te)) (by grind) (λk u hk=>by
       rw[i6]at hk;have:=(hoc _ u hk).1;rw[Addr.add_lit]at this |-
       rw[<-this];show w.cell? _=_;grind) ho1 (by omega) (by grind)
      rw[his]at this;rw[hF1];exact this
     ·have e0:els.length - jj=0:=by omega
      have e1:olds.drop (jj * (aK P) te)=[]:=by
       grind
      have eF:F1=us1:=by
       rw[hF1,e1];simp[jl]
      rw[e0,eF,gn];have hset:w.drew.setRow g us1=w.drew:=ahF (w:=w.drew) hg;rw[hset];exact ag2 W.ht hpos (by omega)
    have hgF:(w.drew.setRow g F1).heap[g]? = aA (.cells F1 te (0,0)):=setRow_heap w.drew g us1 F1 te (0,0) hg;have p2:q+(ii+(els.length - jj)) * (aK P) te+(els.length - (ii+(els.length - jj))) * z.cells.size<=F1.size:=by grind
    have hclr:∀ty cp,(Builtin.clear_ #[t] ty #[.slice (aA ⟨g,q+(ii+(els.length - jj)) * (aK P) te,aF⟩) (els.length - (ii+(els.length - jj))) cp]).run P (w.drew.setRow g F1) =
      .ok (.tuple #[]) ((w.drew.setRow g F1).setRow g (jl F1 (q+(ii+(els.length - jj)) * (aK P) te) (Builtin.zeroCells z.cells (els.length - (ii+(els.length - jj)))).toList)):=λty cp =>
     ag3 (w.drew.setRow g F1) t ty te inf z g _ _ cp F1 te W.ht hinf hz hgF (by omega) p2 (W.z1 inf z hinf hz)
    refine(W.cut g q els.length c ii jj w _ _ _ hltj hjn hlc hc63 hap hclr).mono λx w' hxw=>?_
    obtain⟨rfl,rfl⟩:=hxw;refine⟨_,_,_,rfl,?_,λh=>h⟩;rw[setRow_setRow]
    have hall:∀x∈els.take ii++els.drop jj,x.cells.length=(aK P) te:=λx hx=>by
     grind
    have hlen':(els.take ii++els.drop jj).length=ii+(els.length - jj):=by grind
    have zl:(Builtin.zeroCells z.cells (els.length - (ii+(els.length - jj)))).toList.length=(els.length - (ii+(els.length - jj))) * z.cells.size:=by simp[size_zeroCells]
    have hold:∀o,o < els.length * (aK P) te->us1[q+o]? = olds[o]?:=λo ho=>by
     have hlt':o < olds.length:=by omega
     have hc0:=(hoc o _ (cI hlt')).1;rw[Addr.add_lit,gB hg]at hc0;grind
    have hp:=TD (els':=els.take ii++els.drop jj) s hm hju hg hZ (w1:=w.drew.setRow g (jl F1 (q+(ii+(els.length - jj)) * (aK P) te) (Builtin.zeroCells z.cells (els.length - (ii+(els.length - jj)))).toList)) (setRow_heap w.drew g us1 _ te (0,0) hg) (λk hk=>oL w.drew g k _ hk) rfl rfl rfl
     (by simp_all) hpos hall (by grind) hcm (by rw[yT (by grind),sF1];grind)
     (λk x qq y hk hy=>by
      have hq:qq < (aK P) te:=by grind
      have hkl:k < ii+(els.length - jj):=by grind
      have hkm:(k+1) * (aK P) te<=(ii+(els.length - jj)) * (aK P) te:=dO _ hkl;rw[my]at hkm
      by_cases k1:k < ii
      ·rw[eP (by grind),kx,bc k1]at hk;obtain⟨a,u',hu',hvr⟩:=hor k x qq y hk hy;refine⟨a,u',?_,hvr⟩;have hkm2:(k+1) * (aK P) te<=ii * (aK P) te:=dO _ k1;rw[my]at hkm2;rw[mi (by grind),bc (by omega),hF1,mi p1,bc (by omega)];grind
      ·rw[eC (by grind)]at hk;have e3:k - (els.take ii).length=k - ii:=by grind
       rw[e3,i6]at hk;obtain⟨a,u',hu',hvr⟩:=hor _ x qq y hk hy;refine⟨a,u',?_,hvr⟩;have e4:k * (aK P) te=ii * (aK P) te+(k - ii) * (aK P) te:=by rw[<-jX];grind
       have e5:(jj+(k - ii)) * (aK P) te=jj * (aK P) te+(k - ii) * (aK P) te:=jX _ _ _;rw[mi (by grind),bc (by omega),hF1,mi p1,bh (by omega),bc (by grind),i6,<-hu'];congr 1;omega)
    grind
 unfold qM at h;split at h
 ·rename_i id i jv;simp only[omi]at h;obtain⟨m,hm,h⟩:=h;cases h;obtain⟨hl,hv⟩:=ha
  match us,hl,hv with
  | [u,ui,uj],hl,hv =>
  have hu:=hv 0 (.own id) u rfl rfl;have hui:=hv 1 (.int aB i) ui rfl rfl;have huj:=hv 2 (.int aB jv) uj rfl rfl;cases hui;cases huj;cases hu with
  |own hju h00 =>
  refine(main _ _ _ _ hm _ _ _ _ hju).mono λx w' hx=>?_
  obtain⟨A',n',c',rfl,hp,h0⟩:=hx;have hp:=hp.own (h0 h00);grind
 ·rename_i id i jv;simp only[omi]at h;obtain⟨m,hm,h⟩:=h;cases h;obtain⟨hl,hv⟩:=ha
  match us,hl,hv with
  | [u,ui,uj],hl,hv =>
  have hu:=hv 0 (.tail id 0) u rfl rfl;have hui:=hv 1 (.int aB i) ui rfl rfl;have huj:=hv 2 (.int aB jv) uj rfl rfl;cases hui;cases huj
  have hrow:∃els',mem'=(newRow (mem.set id .dead) e els' 0).2:=by
   unfold uV at hm;grind
  obtain⟨els',hm'⟩:=hrow;cases hu with
  |tail hju hn hw =>
  rename_i n c sz A;cases hw with
  |win hju2 hnn hlc hcc hA =>
  rename_i n2 c2 sz2 c2' A2 A2';rw[hju]at hju2;cases hju2
  have e0:A2'=A/\c2'=c:=by
   grind
  obtain⟨rfl,rfl⟩:=e0;rw[Nat.sub_zero];refine(main _ _ _ _ hm _ _ _ _ hju).mono λx w' hx=>?_
  obtain⟨A',n',c',rfl,hp,_⟩:=hx;have hp:=hp.tail (fz:=0) (t:=e) (els:=els') (by rw[hm'];simp[newRow]);grind
 grind
def pj(e:aP)(sz:Nat):List V->Option V
 | [.sl l]=>if cC sz l=aD/\(l.all λx=>x.cells.all js)=aD/\l.length<=16777216 then aA (.fr e l) else aF
 |_=>aF
structure BX(P:bv)(f:cf)(t e:aP):Prop where
 ht:(bO P) t=aA (.slice e)
 row:qd P e=aD
 atNil:∀(n c:Nat) (w:bg),fQ P f #[.slice aF n c] w λx w'=>x = .returned (.slice aF 0 0)/\w'=w
 atSome:∀(g b n c:Nat) (w w2:bg) (r:aR),
  (∀ty,(Builtin.append_ #[t,t] ty #[.slice (aA ⟨w.heap.size,0,aF⟩) 0 0,.slice (aA ⟨g,b,aF⟩) n c]).run P (w.alloc (.cells #[] e)) = .ok r w2) ->
  fQ P f #[.slice (aA ⟨g,b,aF⟩) n c] w λx w'=>x = .returned r/\w'=w2
 atZero:∀(a:Addr) (c:Nat) (w:bg),fQ P f #[.slice (aA a) 0 c] w λx w'=>x = .returned (.slice (aA ⟨w.heap.size,0,aF⟩) 0 0)/\w'=w.alloc (.cells #[] e)
def G4{f:cf}{t e:aP}(W:BX P f t e):iO P λf' as0=>if f'=f then pj e ((aK P) e) as0 else none:=by
 intro f' as0 r h bC Z w us hzin ha;simp only at h
 by_cases hf:f'=f
 rotate_left
 ·grind
 subst hf;rw[bc rfl]at h;unfold pj at h;split at h;rotate_left
 ·cases h
 rename_i l;split at h;rotate_left
 ·cases h
 rename_i hc;obtain⟨hw,hfl,hlen⟩:=hc;cases h;have hroom:fC P e (([]:List V).length+l.length)=true:=by simp[fC,hlen,W.row]
 obtain⟨_,hby,hpos,inf,z,hinf,his,hib,hz,hzs⟩:=lI hroom
 have hxl:∀x∈l,x.cells.length=(aK P) e:=λx hx=>by
  have:=e9.1 hw x hx;grind
 have hflat:∀x∈l,∀y∈x.cells,y.flat1=true:=λx hx y hy=>e9.1 (e9.1 hfl x hx) y hy
 obtain⟨hl,hv⟩:=ha
 match us,hl,hv with
 | [u],hl,hv =>
 have hu:=hv 0 (.sl l) u rfl rfl;have s:SR P Z w j0 []:=⟨λid o h=>by grind,λid id' o o' g h=>by grind,λ_ _=>rfl,hzin⟩
 have hp:=Bo (P:=P) (Z:=Z) (w:=w) (j:=j0) (mem:=[]) (w1:=w.alloc (.cells #[] e)) (t:=e) (us:=#[]) (els:=[]) (fz:=0) (c:=0) s rfl rfl rfl rfl hpos (by simp) (cZ _) (cZ _) (by simp) (by simp) (λk x i y hk=>by grind);obtain⟨Z1,j1,a1,a2,a3,a4⟩:=hp
 have fin:∀(Z2:Zs) (w2:bg) (j2:J) (mem2:List O) (id:Nat) (u2:aR),SR P Z2 w2 j2 mem2->br Z w j0 [] Z2 w2 j2 mem2->VR Z2 w2 j2 (.own id) u2->mem2[id]? = aA (.row e l 0)->RR P Z2 w w2 (.fr e l) u2/\sy Z w Z2 w2:=by
  intro Z2 w2 j2 mem2 id u2 e3 e4 hv2 hm2;have st0:sy Z w Z2 w2:=⟨e4.os,e4.tape,e4.output,e4.size,λg hg=>e4.keep g hg EQ,e3.zin,funext λt=>(e4.ar t λid o n ho=>by grind).2,e4.z.i⟩
  refine⟨?_,st0⟩;obtain⟨hn,hh,hrow⟩:=e3.obj id _ hm2;cases hv2 with
  |own hj h00 =>
   rw[hj]at hh;cases hh;have h1:=hrow.1;simp only at h1;subst h1;refine⟨_,_,_,rfl,hrow,hflat,λg hg=>?_,h00⟩;have ho:bT Z2 j2 mem2 g:=⟨id,_,hm2,rfl,(bY.plain rfl).2 (by simpa[dk,hj]using hg)⟩
   refine⟨?_,bT.lt e3 ho⟩;rcases nQ g w.heap.size with bf|hge
   ·exact(EQ (e4.owned g bf ho)).elim
   grind
 rcases hu.slInv with⟨A,c,rfl,rfl⟩|⟨g,b,c,sz,rfl,_⟩
 ·cases A with
  |none =>
   refine(W.atNil 0 c w).mono λx w' hxw=>?_
   obtain⟨rfl,rfl⟩:=hxw;exact⟨_,Z,rfl,⟨aF,0,0,rfl,⟨rfl,hpos,cZ _,by simp,.inl ⟨rfl,rfl⟩⟩,by simp,λg hg=>by simp[cO.blk]at hg,λa ha=>by grind⟩,⟨rfl,rfl,rfl,cZ _,λg hg=>⟨rfl,λo=>Iff.rfl⟩,hzin,rfl,rfl⟩⟩
  |some a =>
   refine(W.atZero a c w).mono λx w' hxw=>?_
   obtain⟨rfl,rfl⟩:=hxw;obtain⟨f1,f2⟩:=fin Z1 _ j1 _ 0 _ a2 a3 a1 rfl;grind
 ·have hx:VR Z1 (w.alloc (.cells #[] e)) j1 (.sl l) (.slice (aA ⟨g,b,aF⟩) l.length c):=hu.mono a3.z (bG.zero _)
  have hap:kE P (newRow [] e [] 0).2 t (.own 0) (.sl l)=aA (newRow ((newRow [] e [] 0).2.set 0 .dead) e ([]++l) 0):=by
   have hw':(l.all λy=>y.cells.length==(aK P) e)=true:=hw;simp only[kE,gh,W.ht,bu,n7,dA,hw',dv];simp only[newRow,jo,il,MC];grind
  obtain⟨r2,w2,hr,hpost⟩:=GJ (t:=t) (tx:=t) (ty:=t) a2 (by simp[nc]) hap a1 hx;obtain⟨Z2,j2,b1,b2,b3,b4⟩:=hpost;refine(W.atSome g b l.length c w w2 r2 (λty=>hr)).mono λx w' hxw=>?_
  obtain⟨rfl,rfl⟩:=hxw;obtain⟨f1,f2⟩:=fin Z2 _ j2 _ 1 _ b2 (a3.trans b3) b1 rfl;grind
def Ek(e:aP)(sz:Nat)(args:List V)(mem:List O)(k:V->List O->R):R :=
 match args with
 | [.own id,.int aB i,x] =>
  match mem[id]?,yU mem id x with
  |some (.row t els 0),aA (t2,xs)=>gd (t==e && t2==e)<|gd (cC sz xs)<|gd (jq 0 xs.length) <|
    gd (decide (0<=i/\i.toNat<=els.length/\els.length+xs.length<=16777216)) (k (.own (mem.set id .dead).length) (mem.set id .dead++[.row e (els.take i.toNat++xs++els.drop i.toNat) 0]))
  |_,_=>aF
 |_=>aF
def Dm(e:aP)(args:List V)(mem:List O)(k:V->List O->R):R :=
 match args with
 | [.own id,.int aB i,.int aB j] =>
  match mem[id]? with
  |some (.row t els 0)=>gd (t==e)<|gd (decide (0<=i/\i<=j/\j.toNat<=els.length/\els.length<=16777216)) (k (.own mem.length) (mem.set id .dead++[.row e (els.take i.toNat++els.drop j.toNat) 0]))
  |_=>aF
 | [.tail id 0,.int aB i,.int aB j] =>
  match mem[id]? with
  |some (.row t els 0)=>gd (t==e)<|gd (decide (0<=i/\i<=j/\j.toNat<=els.length/\els.length<=16777216)) (k (.tail mem.length 0) (mem.set id .dead++[.row e (els.take i.toNat++els.drop j.toNat) 0]))
  |_=>aF
 |_=>aF
def QJ{e:aP}{sz:Nat}{args:List V}{mem:List O}{k:V->List O->R}{r:d6}(h:Ek e sz args mem k=aA r):∃v m,td e sz args mem=aA (v,m)/\k v m=aA r:=by
 unfold Ek at h;split at h
 ·split at h
  ·rename_i hm hm2;obtain⟨p1,h⟩:=cU h;obtain⟨p2,h⟩:=cU h;obtain⟨p3,h⟩:=cU h;obtain⟨p4,h⟩:=cU h;simp only[cT,iQ]at p1;obtain⟨a1,a2⟩:=p1;have p4:=gb p4;refine⟨_,_,?_,h⟩;unfold td;simp only[hm,hm2];rw[bc ⟨a1,a2,p2,(by simp_all),p4.1,p4.2.1,p4.2.2⟩];rfl
  grind
 grind
def NW{e:aP}{args:List V}{mem:List O}{k:V->List O->R}{r:d6}(h:Dm e args mem k=aA r):∃v m,qM e args mem=aA (v,m)/\k v m=aA r:=by
 unfold Dm at h;split at h
 ·split at h
  ·rename_i hm;obtain⟨p1,h⟩:=cU h;obtain⟨p4,h⟩:=cU h;have p4:=gb p4;refine⟨_,_,?_,h⟩;unfold qM uV;simp only[hm];rw[bc ⟨(by grind),p4.1,p4.2.1,p4.2.2.1,p4.2.2.2⟩];rfl
  grind
 ·split at h
  ·rename_i hm;obtain⟨p1,h⟩:=cU h;obtain⟨p4,h⟩:=cU h;have p4:=gb p4;refine⟨_,_,?_,h⟩;unfold qM uV;simp only[hm];rw[bc ⟨(by grind),p4.1,p4.2.1,p4.2.2.1,p4.2.2.2⟩];rfl
  grind
 grind
def Da:List V->Option V
 | [.str a,.str b]=>aA (.int aB (if a==b then 0 else if Op.bytesLess a b then -1 else 1))
 |_=>aF
def XJ(a b:List UInt8):Lib.compareBytes a b=if a==b then 0 else if Op.bytesLess a b then -1 else 1:=by
 induction a generalizing b with
 |nil=>cases b<;>simp[Lib.compareBytes,Op.bytesLess]
 |cons x a ih =>
  cases b with
  |nil=>simp[Lib.compareBytes,Op.bytesLess]
  |cons y b =>
   simp only[Lib.compareBytes,Op.bytesLess,ih,List.cons_beq_cons];grind
def XL{f:cf}(W:∀(a b:ByteArray) (w:bg),fQ P f #[.string a,.string b] w λx w'=>x = .returned (.int aB (Lib.compareBytes a.data.toList b.data.toList))/\w'=w):iO P λf' as0=>if f'=f then Da as0 else none:=by
 intro f' as0 r h bC Z w us hzin ha;simp only at h
 by_cases hf:f'=f
 rotate_left
 ·grind
 subst hf;rw[bc rfl]at h;unfold Da at h;split at h;rotate_left
 ·cases h
 rename_i a b;cases h;obtain⟨hl,hv⟩:=ha
 match us,hl,hv with
 | [u,v],hl,hv =>
 have hu:=hv 0 (.str a) u rfl rfl;have hv':=hv 1 (.str b) v rfl rfl;cases hu with
 |@str _ sa =>
 cases hv' with
 |@str _ sb =>
 refine(W sa sb w).mono λx w' hxw=>?_
 obtain⟨rfl,rfl⟩:=hxw;refine⟨_,Z,rfl,?_,⟨rfl,rfl,rfl,cZ _,λg hg=>⟨rfl,λo=>Iff.rfl⟩,hzin,rfl,rfl⟩⟩;rw[XJ];exact VR.int
end
def xd(w:bg):Zs:=⟨λg _=>g < w.heap.size,λ_ _=>aF,λ_=>aF⟩
def sN(P:bv):Nat->List Field->Nat->Bool
 |off,[],tot=>off==tot
 |off,f::fs,tot=>f.offset==off && sN P (off+(aK P) f.type) fs tot
def dG(P:bv):Nat->aP->Bool
 |0,_=>aE
 |n+1,t=>match (bO P) t with
  |some .bool|some (.int _)|some .string=>aD
  |some (.slice e)=>dG P n e && decide (0 < (aK P) e)
  |some (.struct fs)=>sN P 0 fs.toList ((aK P) t) && fs.toList.all λf=>dG P n f.type
  |some (.array len e)=>dG P n e && (aK P) t==len * (aK P) e
  |_=>aE
def fK(P:bv):Nat->aP->List V->Prop
 |0,_,_=>False
 |n+1,t,vs=>match (bO P) t with
  |some .bool=>∃b,vs=[.bool b]
  |some (.int k)=>∃m,vs=[.int k m]/\(Lit.int k m).wf=aD
  |some .string=>∃s,vs=[.str s]/\s.length<=f9
  |some (.slice e)=>∃l,vs=[.sl l]/\l.length<=f9/\∀x∈l,fK P n e x.cells/\(if o8 ((bO P) e) then ∃cs,x = .agg cs else x.cells=[x])
  |some (.struct fs)=>vs.length=(aK P) t/\∀f∈fs.toList,fK P n f.type ((vs.drop f.offset).take ((aK P) f.type))
  |some (.array len e)=>vs.length=(aK P) t/\∀i,i < len->fK P n e ((vs.drop (i * (aK P) e)).take ((aK P) e))
  |_=>False
def RC(w:bg)(vs:List V)(cs:List aR):Prop:=vs.length=cs.length/\∀(i:Nat) (v:V) (u:aR),vs[i]? = aA v->cs[i]? = aA u->v.one=aD/\VR (xd w) w j0 v u
section
variable {H:Type}{enc:aP × aR->H}{P:bv}{w:bg}{kv:Nat->Bool}
def RC.one{v:V}{u:aR}(h1:v.one=aD)(h:VR (xd w) w j0 v u):RC w [v] [u]:=by
 refine⟨rfl,λi x y hx hy=>?_⟩;cases i with
 |zero=>simp at hx hy;subst hx;subst hy;exact⟨h1,h⟩
 |succ i=>simp at hx
def RC.append{vs vs':List V}{cs cs':List aR}(h:RC w vs cs)(h':RC w vs' cs'):RC w (vs++vs') (cs++cs'):=by
 refine⟨by simp[h.1,h'.1],λi x y hx hy=>?_⟩
 by_cases hi:i < vs.length
 ·rw[eP hi]at hx;rw[eP (by rw[<-h.1];exact hi)]at hy;exact h.2 i x y hx hy
 ·rw[eC (by omega)]at hx;rw[eC (by rw[<-h.1];omega),<-h.1]at hy;exact h'.2 _ x y hx hy
def XP:∀(fs:List Field) (off tot:Nat),sN P off fs tot=aD->off<=tot/\∀f∈fs,off<=f.offset:=by
 intro fs
 induction fs with
 |nil=>intro off tot h;simp[sN]at h;exact⟨by omega,by simp⟩
 |cons f fs ih =>
  intro off tot h;simp only[sN,cT,iQ]at h;obtain⟨h1,h2⟩:=ih _ _ h.2;refine⟨by omega,λg hg=>?_⟩;simp only[dC]at hg;rcases hg with rfl|hg
  ·omega
  ·have:=h2 g hg;omega
def abt{n:Nat}{cs:List aR}:∀(fs:List Field) (off tot:Nat),sN P off fs tot=aD->cs.length=tot ->
  (∀f∈fs,∃vs,RC w vs ((cs.drop f.offset).take ((aK P) f.type))/\fK P n f.type vs) ->
  ∃vs,RC w vs (cs.drop off)/\∀f∈fs,fK P n f.type ((vs.drop (f.offset - off)).take ((aK P) f.type)):=by
 intro fs
 induction fs with
 |nil =>
  intro off tot h hl _;simp[sN]at h;refine⟨[],⟨by simp;omega,λi v u hv=>by simp at hv⟩,by simp⟩
 |cons f fs ih =>
  intro off tot h hl hf;simp only[sN,cT,iQ]at h;obtain⟨h1,h2⟩:=h;obtain⟨g1,g2⟩:=XP _ _ _ h2;obtain⟨vs',r',t'⟩:=ih (off+(aK P) f.type) tot h2 hl (λg hg=>hf g (by simp[hg]));obtain⟨vf,rf,tf⟩:=hf f (by simp);have hlen:((cs.drop f.offset).take ((aK P) f.type)).length=(aK P) f.type:=by simp;omega
  have hvl:vf.length=(aK P) f.type:=by rw[rf.1,hlen]
  have e1:cs.drop off=(cs.drop f.offset).take ((aK P) f.type)++cs.drop (off+(aK P) f.type):=by
   rw[h1,<-uC,lj]
  refine⟨vf++vs',by rw[e1];exact rf.append r',λg hg=>?_⟩;simp only[dC]at hg;rcases hg with rfl|hg
  ·rw[h1,nS,wK,MK (by omega),zq (by omega)];exact tf
  ·have:=g2 g hg
   have e2:(vf++vs').drop (g.offset - off)=vs'.drop (g.offset - (off+(aK P) f.type)):=by
    rw[B5,List.drop_of_length_le (by omega),il,hvl];congr 1;omega
   rw[e2];exact t' g hg
def WS{n:Nat}{e:aP}{cs:List aR}:∀(len:Nat),cs.length=len * (aK P) e->(∀i,i < len->∃vs,RC w vs ((cs.drop (i * (aK P) e)).take ((aK P) e))/\fK P n e vs) ->
  ∀k,k<=len->∃vs,RC w vs (cs.take (k * (aK P) e))/\∀i,i < k->fK P n e ((vs.drop (i * (aK P) e)).take ((aK P) e)):=by
 intro len hl hf k
 induction k with
 |zero=>intro _;exact⟨[],⟨by simp,λi v u hv=>by simp at hv⟩,λi hi=>by omega⟩
 |succ k ih =>
  intro hk;obtain⟨vs,r1,t1⟩:=ih (by omega);obtain⟨vf,rf,tf⟩:=hf k (by omega);have hmul:(k+1) * (aK P) e=k * (aK P) e+(aK P) e:=my k _;have hle:(k+1) * (aK P) e<=len * (aK P) e:=dO _ hk;have hvl:vs.length=k * (aK P) e:=by rw[r1.1,jW];omega
  have hfl:vf.length=(aK P) e:=by rw[rf.1,jW,lh];omega
  have e1:cs.take ((k+1) * (aK P) e)=cs.take (k * (aK P) e)++(cs.drop (k * (aK P) e)).take ((aK P) e):=by rw[hmul,List.take_add]
  refine⟨vs++vf,by rw[e1];exact r1.append rf,λi hi=>?_⟩
  by_cases h:i=k
  ·subst h;rw[B5,List.drop_of_length_le (by omega),il,hvl,nS,wK,zq (by omega)];exact tf
  ·have hik:(i+1) * (aK P) e<=k * (aK P) e:=dO _ (by omega);have h2:(i+1) * (aK P) e=i * (aK P) e+(aK P) e:=my i _;rw[List.drop_append_of_le_length (by omega),MK (by rw[lh];omega)];exact t1 i (by omega)
def adv{α:Type}{Q:Nat->α->Prop}:∀(n:Nat),(∀i,i < n->∃x,Q i x)->∃l:List α,l.length=n/\∀i x,l[i]? = aA x->Q i x:=by
 intro n
 induction n with
 |zero=>intro _;exact⟨[],rfl,λi x h=>by simp at h⟩
 |succ n ih =>
  intro h;obtain⟨l,h1,h2⟩:=ih (λi hi=>h i (by omega));obtain⟨x,hx⟩:=h n (by omega);refine⟨l++[x],by simp[h1],λi y hy=>?_⟩
  by_cases hi:i < n
  ·rw[eP (by omega)]at hy;exact h2 i y hy
  ·rw[eC (by omega)]at hy
   have e:i - l.length=0:=by
    have:=(cE.1 hy).1;simp at this;omega
   rw[e]at hy;simp at hy;subst hy
   have:i=n:=by
    have:i - l.length=0:=e;omega
   subst this;exact hx
def M3{n:Nat}{t:aP}{vs:List V}(h:fK P n t vs)(ha:o8 ((bO P) t)=aE):∃v,vs=[v]/\v.cells=[v]:=by
 cases n with
 |zero=>cases h
 |succ n =>
  unfold fK at h;split at h
  ·obtain⟨b,rfl⟩:=h;exact⟨_,rfl,rfl⟩
  ·obtain⟨b,rfl,_⟩:=h;exact⟨_,rfl,rfl⟩
  ·obtain⟨b,rfl,_⟩:=h;exact⟨_,rfl,rfl⟩
  ·obtain⟨b,rfl,_⟩:=h;exact⟨_,rfl,rfl⟩
  ·rename_i hu;rw[hu]at ha;cases ha
  ·rename_i hu;rw[hu]at ha;cases ha
  ·cases h
def aiN:∀(n fuel:Nat) (t:aP) (cs:List aR) (x:DataW H × List MemPlace),dG P n t=aD->DataW.trod enc P w 0 kv aD fuel t cs=aA x->∃vs,RC w vs cs/\fK P n t vs:=by
 intro n
 induction n with
 |zero=>intro fuel t cs x h;cases h
 |succ n ih =>
  intro fuel t cs x bC h;unfold dG at bC;split at bC
  ·rename_i hu;obtain⟨b,rfl,_⟩:=DataW.trod_bool hu h;exact⟨[.bool b],RC.one rfl .bool,by unfold fK;rw[hu];exact⟨b,rfl⟩⟩
  ·rename_i k hu;obtain⟨m,rfl,_,hw⟩:=DataW.trod_int hu h;exact⟨[.int k m],RC.one rfl .int,by unfold fK;rw[hu];exact⟨m,rfl,hw⟩⟩
  ·rename_i hu;obtain⟨s,rfl,_,hs⟩:=DataW.trod_string hu h;exact⟨[.str s.data.toList],RC.one rfl .str,by unfold fK;rw[hu];exact⟨_,rfl,by have h1:s.data.size<=f9:=hs;rw[Gg];exact h1⟩⟩
  ·rename_i e hu;simp only[cT,mI]at bC;obtain⟨hoke,hpos⟩:=bC;rcases DataW.trod_slice hu h with⟨rfl,_⟩|⟨a,len,cap,dA,rest,fu,_,rfl,_,hb,hlc,hcm,hel,hread,_⟩
   ·exact⟨[.sl []],RC.one rfl .sl0,by unfold fK;rw[hu];exact⟨[],rfl,by simp,by simp⟩⟩
   ·have each:∀i,i < len->∃x:V,∃ci:List aR,w.cells? 0 (a.add (i * (aK P) e)) ((aK P) e)=aA ci/\RC w x.cells ci/\fK P n e x.cells/\(if o8 ((bO P) e) then ∃cs,x = .agg cs else x.cells=[x]):=by
     intro i hi;have hr:=hread i hi;have:dA[i]? = aA dA[i]:=cI (by omega);rw[this,obi]at hr;obtain⟨ci,h1,h2⟩:=hr;obtain⟨vs,r1,r2⟩:=ih fu e ci _ hoke h2
     by_cases hag:o8 ((bO P) e)=aD
     ·exact⟨.agg vs,ci,h1,r1,r2,by rw[bc hag];exact⟨vs,rfl⟩⟩
     ·have hag':o8 ((bO P) e)=false:=by simpa using hag
      obtain⟨v,rfl,hv⟩:=M3 r2 hag';exact⟨v,ci,h1,by rw[hv];exact r1,by rw[hv];exact r2,by rw[bh (by simp[hag'])];exact hv⟩
    obtain⟨l,hll,hlq⟩:=adv len each
    have hT:fK P (n+1) t [.sl l]:=by
     unfold fK;rw[hu];refine⟨l,rfl,by omega,λx hx=>?_⟩;obtain⟨i,hi⟩:=zk hx;obtain⟨ci,_,_,h3,h4⟩:=hlq i x hi;exact⟨h3,h4⟩
    refine⟨[.sl l],RC.one rfl ?_,hT⟩
    by_cases h0:len=0
    ·have:l=[]:=wL (by omega);subst this;subst h0;exact .sl0
    ·have hx0:l[0]? = aA l[0]:=cI (by omega);obtain⟨c0,q1,q2,q3,q4⟩:=hlq 0 _ hx0;obtain⟨_,q5,q6⟩:=World.cells?_some q1;have hc0:=q6 0 hpos;rw[cI (by omega)]at hc0;have hspot:=World.cell?_spot hc0;obtain⟨g,b,spot⟩:=a;have:spot=none:=by simpa[Addr.add]using hspot
     subst this
     have hg:g < w.heap.size:=by
      have:=World.cells?_block q1 hpos;simpa[Addr.add]using this
     subst hll;refine VR.sl (sz:=(aK P) e) (λk i=>(w.cell? ⟨g,b+(k * (aK P) e+i),aF⟩).getD default) hlc hpos (λk x hk=>?_) (λk x i y hk hy=>?_) (λk x i y hk hy=>?_)
     ·obtain⟨ck,r1,r2,_⟩:=hlq k x hk;rw[r2.1,(World.cells?_some r1).2.1]
     ·obtain⟨ck,r1,r2,_⟩:=hlq k x hk;obtain⟨_,s1,s2⟩:=World.cells?_some r1;have hi:i < (aK P) e:=by rw[<-s1,<-r2.1];exact(cE.1 hy).1
      have hcell:=s2 i hi;have hck:ck[i]? = aA ck[i]:=cI (by omega);rw[hck]at hcell;have e1:((⟨g,b,aF⟩:Addr).add (k * (aK P) e)).add i=⟨g,b+(k * (aK P) e+i),aF⟩:=by rw[Addr.add_lit,Addr.add_lit,ky]
      rw[e1]at hcell;exact⟨(r2.2 i y _ hy hck).1,hg,by rw[hcell];rfl⟩
     ·obtain⟨ck,r1,r2,_⟩:=hlq k x hk;obtain⟨_,s1,s2⟩:=World.cells?_some r1;have hi:i < (aK P) e:=by rw[<-s1,<-r2.1];exact(cE.1 hy).1
      have hcell:=s2 i hi;have hck:ck[i]? = aA ck[i]:=cI (by omega);rw[hck]at hcell;have e1:((⟨g,b,aF⟩:Addr).add (k * (aK P) e)).add i=⟨g,b+(k * (aK P) e+i),aF⟩:=by rw[Addr.add_lit,Addr.add_lit,ky]
      rw[e1]at hcell;simp only[hcell,uH];exact(r2.2 i y _ hy hck).2
  ·rename_i fs hu;simp only[cT]at bC;obtain⟨hcon,hall⟩:=bC;obtain⟨xs,fu,_,_,hl,hlen,hf⟩:=DataW.trod_struct hu h
   have hfi:∀f∈fs.toList,∃vs,RC w vs ((cs.drop f.offset).take ((aK P) f.type))/\fK P n f.type vs:=by
    intro f hfm;obtain⟨i,hi⟩:=zk hfm;have hi':fs[i]? = aA f:=by simpa using hi
    have:=hf i f hi'
    have hil:i < xs.length:=by
     have:=(gS.1 hi').1;omega
    have hx:xs[i]? = aA xs[i]:=cI hil;rw[hx]at this;exact ih fu f.type _ _ (e9.1 hall f hfm) this
   obtain⟨vs,r1,r2⟩:=abt fs.toList 0 _ hcon hl hfi;rw[wK]at r1;refine⟨vs,r1,?_⟩;unfold fK;rw[hu];exact⟨by rw[r1.1,hl],λf hfm=>by have:=r2 f hfm;simpa using this⟩
  ·rename_i len e hu;simp only[cT,iQ]at bC;obtain⟨hoke,hcs⟩:=bC;obtain⟨xs,fu,_,_,hl,hlen,hf⟩:=DataW.trod_array hu h;rw[hcs]at hl
   have hfi:∀i,i < len->∃vs,RC w vs ((cs.drop (i * (aK P) e)).take ((aK P) e))/\fK P n e vs:=by
    intro i hi;have:=hf i hi;have hx:xs[i]? = aA xs[i]:=cI (by omega);rw[hx]at this;exact ih fu e _ _ hoke this
   obtain⟨vs,r1,r2⟩:=WS len hl hfi len (cZ _);rw[<-hl,jI]at r1;refine⟨vs,r1,?_⟩;unfold fK;rw[hu];exact⟨by rw[r1.1,hl,hcs],r2⟩
  ·cases bC
end
def aht{W W':bg}(h:∀g,g < W.heap.size->W'.heap[g]? = W.heap[g]?){p:MemPlace}(hp:p.block < W.heap.size):W.sameAt W' p:=by
 cases p with
 |cell b off=>exact World.cell?_of_block (a:=⟨b,off,aF⟩) (h b hp)
 |map b=>exact h b hp
def ac6{W W':bg}{may:MemPlace->Prop}(ho:W'.os=W.os)(hout:W'.output=W.output)(h:∀g,g < W.heap.size->W'.heap[g]? = W.heap[g]?):W.keptBut W' may:=by
 refine⟨ho,hout,λi hi=>?_⟩;rw[h i hi];have:W.heap[i]? = aA W.heap[i]:=gG hi;rw[this];cases W.heap[i]<;>simp
section
variable {H:Type}{enc:aP × aR->H}{P:bv}
def M0(hl:laidOutB P=aD){W W':bg}{sp':Nat->Bool}(hsz:∀g,g < W.heap.size->W'.heap[g]? = W.heap[g]?):∀{ts:List aP} {vs:List aR} {ds:List (DataW H)} {ps:List MemPlace},(∀t∈ts,P.readableRec t=aD/\t < P.types.size) ->
  DataW.TrodAll enc P W 0 (λ_=>aD) aD ts vs ds ps->(∀p∈ps,p.block < W.heap.size)->(∀p∈ps,sp' p.block=aD)->DataW.TrodAll enc P W' 0 sp' aD ts vs ds ps
 | [],[],[],_,_,h,_,_=>h
 |t::ts,v::vs,d::ds,_,hT,⟨p,q,h1,h2,e⟩,bf,hs=>by
  subst e
  exact⟨p,q,WideElems.Trod_stays hl (hT t (by simp)).1 (hT t (by simp)).2 h1 (λx hx=>aht hsz (bf x (by simp[hx]))) (λx hx=>hs x (by simp[hx])),
   M0 hl hsz (λt ht=>hT t (by simp[ht])) h2 (λx hx=>bf x (by simp[hx])) (λx hx=>hs x (by simp[hx])),rfl⟩
end
end Go.Lite
namespace Go.Lite
open Go Go.ChangeShapes Go.WideShapes Go.RowKit
def mo(P:bv)(n:Nat)(t:aP)(x:V):Prop:=fK P n t x.cells/\(if o8 ((bO P) t) then ∃cs,x = .agg cs else x.cells=[x])
def zf(P:bv)(n:Nat):List aP->List V->Prop
 | [],[]=>True
 |t::ts,x::xs=>mo P n t x/\zf P n ts xs
 |_,_=>False
def mo.agg{P:bv}{n:Nat}{t:aP}{x:V}(h:mo P n t x)(ha:o8 ((bO P) t)=aD):∃cs,x = .agg cs:=by
 have:=h.2;rwa [bc ha]at this
def mo.leaf{P:bv}{n:Nat}{t:aP}{x:V}(h:mo P n t x)(ha:o8 ((bO P) t)=aE):x.cells=[x]:=by
 have:=h.2;rwa [bh (by simp[ha])]at this
section
variable {H:Type}{enc:aP × aR->H}{P:bv}{w:bg}{kv:Nat->Bool}
def WP{n base:Nat}{t:aP}{v:aR}{d:DataW H}{p:List MemPlace}(bC:dG P n t=aD)(hval:Value.okWide P w .any base t v)
  (h:DataW.Trod enc P w 0 kv aD t v d p):∃x,VR (xd w) w j0 x v/\mo P n t x:=by
 obtain⟨fuel,hf⟩:=h;obtain⟨vs,r,ty⟩:=aiN n fuel t _ _ bC hf
 have leaf:o8 ((bO P) t)=aE->v.cells.toList=[v]->∃x,VR (xd w) w j0 x v/\mo P n t x:=by
  intro ha hc;obtain⟨x,rfl,hx⟩:=M3 ty ha;refine⟨x,(r.2 0 x v rfl (by rw[hc];rfl)).2,by rw[hx];exact ty,by rw[bh (by simp[ha])];exact hx⟩
 cases n with
 |zero=>cases bC
 |succ n =>
  have hok':=bC;unfold dG at bC;split at bC
  ·rename_i hu;obtain⟨b,rfl⟩:=okWide_bool hu hval;exact leaf (by rw[hu];rfl) rfl
  ·rename_i k hu;obtain⟨b,rfl⟩:=okWide_int hu hval;exact leaf (by rw[hu];rfl) rfl
  ·rename_i hu;obtain⟨b,rfl⟩:=okWide_string hu hval;exact leaf (by rw[hu];rfl) rfl
  ·rename_i e hu;obtain⟨a,l,c,rfl⟩:=okWide_slice hu hval;exact leaf (by rw[hu];rfl) rfl
  ·rename_i fs hu;simp only[Value.okWide,hu]at hval;obtain⟨cs,rfl,_,_⟩:=hval;have e:(Value.agg cs) = .agg (cs.toList).toArray:=by simp
   refine⟨.agg vs,?_,?_,?_⟩
   ·rw[e];exact .agg r.1 λi c u hc hu=>(r.2 i c u hc hu).2
   ·exact ty
   ·rw[hu];exact⟨vs,rfl⟩
  ·rename_i len e hu;simp only[Value.okWide,hu]at hval;obtain⟨cs,rfl,_,_⟩:=hval;have e:(Value.agg cs) = .agg (cs.toList).toArray:=by simp
   refine⟨.agg vs,?_,?_,?_⟩
   ·rw[e];exact .agg r.1 λi c u hc hu=>(r.2 i c u hc hu).2
   ·exact ty
   ·rw[hu];exact⟨vs,rfl⟩
  ·cases bC
def Nb{n base:Nat}:∀{ts:List aP} {vs:List aR} {ds:List (DataW H)} {ps:List MemPlace},(ts.all (dG P n))=aD->(∀(j:Nat) t v,ts[j]? = aA t->vs[j]? = aA v->Value.okWide P w .any base t v) ->
  DataW.TrodAll enc P w 0 kv aD ts vs ds ps->∃xs,gz (xd w) w j0 xs vs/\zf P n ts xs
 | [],[],[],_,_,_,_=>⟨[],⟨rfl,λi v u hv=>by simp at hv⟩,trivial⟩
 |t::ts,v::vs,d::ds,_,bC,hval,⟨p,q,h1,h2,_⟩=>by
  simp only[B4,cT]at bC;obtain⟨x,hx,tx⟩:=WP bC.1 (hval 0 t v rfl rfl) h1;obtain⟨xs,hxs,txs⟩:=Nb bC.2 (λj t v hj hv=>hval (j+1) t v (by simpa using hj) (by simpa using hv)) h2;refine⟨x::xs,⟨by simp[hxs.1],λi a b ha hb=>?_⟩,tx,txs⟩;cases i with
  |zero=>simp at ha hb;subst ha;subst hb;exact hx
  |succ i=>exact hxs.2 i a b (by simpa using ha) (by simpa using hb)
end
def Wz{Z:Zs}{w:bg}{j:J}{b:Bool}{u:aR}(h:VR Z w j (.bool b) u):u = .bool b:=by cases h;rfl
def adi{cfg:cB}(hc:zh cfg){f:cf}{fn:Func}(n:Nat)(bC:l9 cfg.P f=aD)(hlaid:laidOutB cfg.P=aD){s:ChangeSpec}(hvars:s.vars=[])
  (hts:(fn.params.toList.all λt=>dG cfg.P n t && cfg.P.readableRec t && decide (t < cfg.P.types.size))=aD) {tb:aP} (hres:fn.resultTypes=#[tb]) (htb:cfg.P.underlying tb=aA .bool)
  (hspec:∀(H:Type) (ds:List (DataW H)),ds.length=fn.params.toList.length->s.fn H ds={ results:=[.lit (.bool aD)],args:=ds })
  (law:∀xs,zf cfg.P n fn.params.toList xs->bP cfg f xs=aA (.bool aD))
  {H:Type} {enc:aP × aR->H} {apart fresh handsOn:Bool} (W:bg) (base:Nat) (args:Array aR) (ds gs:List (DataW H)) (before:List MemPlace)
  (hval:∀(j:Nat) t v,fn.params[j]? = aA t->args[j]? = aA v->Value.okWide cfg.P W .any base t v)
  (hW:DataW.Whole enc cfg.P fn.params.toList s.vars apart W args.toList ds gs before) :
  fQ cfg.P f args W λe W'=>∃v,e = .returned v/\s.post enc cfg.P fn apart fresh handsOn aE W args v W':=by
 have hW':=hW;obtain⟨p,q,hA,hV,hb,hfz,hnd⟩:=hW;rw[hvars]at hV;obtain⟨hg,hq⟩:=trodVars_none hV;subst hg;subst hq;simp only[fR]at hb;subst hb;simp only[e9,cT,mI]at hts;obtain⟨xs,hx,ht⟩:=Nb (P:=cfg.P) (n:=n) (base:=base) (e9.2 λt h=>(hts t h).1.1) (λj t v hj hv=>hval j t v (by simpa using hj) (by simpa using hv)) hA;obtain⟨m,hm⟩:=SG (law xs ht);have:=(Xn hc m).1 f xs _ hm bC (xd W) W args.toList (λg o h=>h) hx;rw[Ms]at this;refine this.mono λe W1 ⟨u,Z1,he,hr,hs⟩=>?_
 have hu:u = .bool true:=Wz hr;subst hu;refine⟨_,he,ds,[],before,[],before,[],hW',?_,?_,?_,?_,λh=>by cases h⟩
 ·rw[hspec H (ds++[]) (by simpa using(Go.trodAll_length hA).2),hres];exact trodAll_mk1 (shut_bool htb aD)
 ·rw[hspec H (ds++[]) (by simpa using(Go.trodAll_length hA).2)];simp only[fR];exact M0 hlaid (λg h=>(hs.keep g h).1) (λt h=>⟨(hts t h).1.2,(hts t h).2⟩) hA (λx h=>hW'.lt x h) (λx h=>by simpa using hW'.lt x h)
 ·rw[hspec H (ds++[]) (by simpa using(Go.trodAll_length hA).2),hvars];exact rfl
 ·exact ac6 hs.os hs.output λg h=>(hs.keep g h).1
end Go.Lite
namespace Go.Lite
open Go
def Ki (kc:KC) (fa:FA) (k:V->List O->R) (s:S):R:=cg (cD (oH kc.cfg.P s) fa.results) λvs=>k (rO vs) s.mem
def QH (kc:KC) (fa:FA) (args:List V) (mem:List O) (k:V->List O->R):R :=
 gd (args.length==fa.np && Nat.ble fa.np fa.nt) (iZ kc 0 fa.body 0 ⟨args++cA (fa.nt - fa.np) (.tup []),mem⟩ (Ki kc fa k) (λ_ _=>aF) (Ki kc fa k))
def aeF{cfg:cB}{n0 n1:Nat}:∀(c:C) (s:S),nl c=0->df cfg n0 c s=df cfg n1 c s:=by
 intro c
 induction c with
 |seq a b iha ihb =>
  intro s h;simp only[nl]at h;simp only[df,iha s (by omega)];congr 1;funext r;obtain⟨x,s'⟩:=r;cases x<;>simp only[ihb _ (by omega:nl b=0)]
 |cond c a b iha ihb =>
  intro s h;simp only[nl]at h;simp only[df,iha s (by omega),ihb s (by omega)]
 |block i c ih=>intro s h;simp only[nl]at h;simp only[df,ih s h]
 |loop f c _=>intro s h;simp[nl]at h
 |cseq f a b _ _=>intro s h;simp[nl]at h
 |uncons g ps ws a b iha ihb =>
  intro s h;simp only[nl]at h;simp only[df,iha _ (by omega:nl a=0),ihb _ (by omega:nl b=0)]
 |_=>intro s _;rfl
def acL{kc:KC}(hik:iL kc){f:cf}{fa:FA}{args:List V}{mem:List O}{k:V->List O->R}{r:d6}(hp:kc.cfg.iprim f=aF)(hf:iq kc.cfg.P (kc.cfg.rxf f) f=aA fa)(hn:nl fa.body=0)
  (h:QH kc fa args mem k=aA r):∃v m,ol kc.cfg f args mem=aA (v,m)/\k v m=aA r:=by
 obtain⟨ha,h⟩:=cU h;simp only[cT,iQ,Nat.ble_eq]at ha
 have fin:∀(x:Ex) (s':S),df kc.cfg 0 fa.body ⟨args++cA (fa.nt - fa.np) (.tup []),mem⟩=aA (x,s')->Im x=aD->Ki kc fa k s'=aA r ->
   ∃v m,ol kc.cfg f args mem=aA (v,m)/\k v m=aA r:=by
  intro x s' hx he hr;obtain⟨vs,h1,h2⟩:=cS hr;refine⟨rO vs,s'.mem,QB hp hf ?_,h2⟩;unfold tY;rw[bc ha,aeF (n1:=0) _ _ hn];cases x with
  |exit i=>cases he
  |norm=>simp only[hx,bu,h1,dy]
  |ret=>simp only[hx,bu,h1,dy]
 rcases BH hik _ _ _ _ _ _ _ h with⟨s2,g1,g2⟩|⟨e,s2,g1,g2⟩|⟨s2,g1,g2⟩|⟨j',s2,_,g1,g2,g3⟩
 ·exact fin _ _ g1 rfl g2
 ·cases g2
 ·exact fin _ _ g1 rfl g2
 ·omega
def I8 (kc:KC):List (Nat × FA)->cf->List V->List O->(V->List O->R)->R
 | [],f,args,mem,k=>kc.ik f args mem k
 |x::l,f,args,mem,k=>cond (m4 f x.1) (QH kc x.2 args mem k) (I8 kc l f args mem k)
def KC.inl (kc:KC) (l:List (Nat × FA)):KC:={ kc with ik:=I8 kc l }
def QI{kc:KC}(hik:iL kc){l:List (Nat × FA)}(h:∀x∈l,kc.cfg.iprim x.1=aF/\iq kc.cfg.P (kc.cfg.rxf x.1) x.1=aA x.2/\nl x.2.body=0):iL (kc.inl l):=by
 refine⟨λf as0 mem k r hr=>?_,λrd f as0 mem k r hr=>hik.ck rd f as0 mem k r hr⟩;show ∃v m,ol kc.cfg f as0 mem=aA (v,m)/\k v m=aA r;change I8 kc l f as0 mem k=aA r at hr
 induction l with
 |nil=>exact hik.ik f as0 mem k r hr
 |cons x l ih =>
  rcases dm hr with⟨c1,h2⟩|⟨_,h2⟩
  ·obtain⟨a,b,c⟩:=h x (by simp);have e:f=x.1:=MP c1;subst e;exact acL hik a b c h2
  ·exact ih (λy hy=>h y (by simp[hy])) h2
def uB(kc:KC)(n0:Nat)(fa:FA)(rd:CM)(mem:List O)(o:d6)(r:V × List O):Prop:=∃v m,Go kc aD n0 fa o (.doneM v m)/\jZ rd mem v m=r
def uB.step{kc:KC}{n0:Nat}{fa:FA}{rd:CM}{mem:List O}{o o':d6}{r:V × List O}(hs:∀o'',Go kc aD n0 fa o o''->Go kc aD n0 fa o' o'')(h:uB kc n0 fa rd mem o r):uB kc n0 fa rd mem o' r :=
 let ⟨v,m,h1,h2⟩:=h
 ⟨v,m,hs _ h1,h2⟩
def uB.done{kc:KC}{n0:Nat}{fa:FA}{rd:CM}{mem m:List O}{v:V}{r:V × List O}(h:jZ rd mem v m=r):uB kc n0 fa rd mem (.doneM v m) r:=⟨v,m,.refl _,h⟩
def acl{kc:KC}(hik:iL kc){f:cf}{fa:FA}{rd:CM}{args:List V}{mem:List O}{o:d6}{r:V × List O}(hp:kc.cfg.iprim f=aF)(hf:iq kc.cfg.P (kc.cfg.rxf f) f=aA fa)(h:nA kc aD fa args mem=aA o)(hg:uB kc mem.length fa rd mem o r) :
  bW kc.cfg rd f args mem=aA r:=by
 obtain⟨v,m,h1,h2⟩:=hg;unfold bW;rw[QA hik hp hf h h1,dy,h2]
set_option linter.unusedSimpArgs false
section
variable {b b':Bool}{v v':V}
@[congr] theorem ajf{x y:R}(h:b=b'):cond b x y=cond b' x y:=by rw[h]
@[congr] theorem ajy{k:R}(h:b=b'):gd b k=gd b' k:=by rw[h]
@[congr] theorem ajz{α:Type}{l l':List α}{n n':Nat}{k:α->R}(h:l=l')(h':n=n'):bk l n k=bk l' n' k:=by rw[h,h']
@[congr] theorem ajN{cfg:cB}{f:cf}{as0 as0':List V}{k:V->R}(h:as0=as0'):aT cfg f as0 k=aT cfg f as0' k:=by rw[h]
@[congr] theorem ajK{es es':List (V × V)}{key key':V}{kn:R}{ks:V->R}(h:es=es')(h':key=key'):mP es key kn ks=mP es' key' kn ks:=by rw[h,h']
@[congr] theorem ajM{α:Type}{o o':Option α}{k:α->R}(h:o=o'):cg o k=cg o' k:=by rw[h]
@[congr] theorem ajB{k:Bool->R}(h:v=v'):kB v k=kB v' k:=by rw[h]
@[congr] theorem ajD{j:IntKind}{k:Int->R}(h:v=v'):kI j v k=kI j v' k:=by rw[h]
@[congr] theorem ajH{k:List UInt8->R}(h:v=v'):kS v k=kS v' k:=by rw[h]
@[congr] theorem ajE{k:List V->R}(h:v=v'):kL v k=kL v' k:=by rw[h]
@[congr] theorem ajA{k:List V->R}(h:v=v'):kA v k=kA v' k:=by rw[h]
@[congr] theorem ajI{k:List V->R}(h:v=v'):kT v k=kT v' k:=by rw[h]
@[congr] theorem ajC{e:aP}{k:List V->R}(h:v=v'):kF e v k=kF e v' k:=by rw[h]
@[congr] theorem ajU{l l':List V}{k:V->List V->R}(h:l=l'):cj l k=cj l' k:=by rw[h]
@[congr] theorem ajV{l l':List V}{k:R}(h:l=l'):er l k=er l' k:=by rw[h]
end
def dL{a b:Int}(h:a=b):(a==b)=true:=by rw[h];simp
def ew{a b:Int}(h:a≠b):(a==b)=false:=by simpa using h
def jz{a b:Int}(h:a≠b):(a != b)=true:=by simpa using h
def ef{a b:Int}(h:a=b):(a != b)=false:=by rw[h];simp
def ajT(k:Nat):((k:Int) - 1).toNat=k - 1:=by omega
def ajS(k:Nat):((k:Int)+1).toNat=k+1:=by omega
abbrev Bs:=List UInt8
abbrev lt(a b:Bs):Bool:=Op.bytesLess a b
def lF(a:Bs):lt a a=false:=by
 induction a with
 |nil=>rfl
 |cons x a ih=>simp only[lt,Op.bytesLess]at ih |-;simp[ih]
def lt_trans{a b c:Bs}(h:lt a b=aD)(h':lt b c=aD):lt a c=true:=by
 induction a generalizing b c with
 |nil =>
  cases c with
  |nil=>cases b<;>simp[Op.bytesLess]at h'
  |cons y c=>rfl
 |cons x a ih =>
  cases b with
  |nil=>simp[Op.bytesLess]at h
  |cons y b =>
   cases c with
   |nil=>simp[Op.bytesLess]at h'
   |cons z c =>
    simp only[lt,Op.bytesLess,oT,mI,cT,iQ]at h h' |-
    rcases h with h|⟨rfl,h⟩
    ·rcases h' with h'|⟨rfl,h'⟩
     ·exact .inl (UInt8.lt_trans h h')
     ·exact .inl h
    ·rcases h' with h'|⟨rfl,h'⟩
     ·exact .inl h'
     ·exact .inr ⟨rfl,ih h h'⟩
def pK{a b:Bs}(h:lt a b=aE)(hn:a≠b):lt b a=true:=by
 induction a generalizing b with
 |nil =>
  cases b with
  |nil=>exact(hn rfl).elim
  |cons y b=>simp[Op.bytesLess]at h
 |cons x a ih =>
  cases b with
  |nil=>rfl
  |cons y b =>
   simp only[lt,Op.bytesLess,uA,decide_eq_false_iff_not,Bool.and_eq_false_imp,iQ,oT,mI,cT]at h |-
   by_cases e:x=y
   ·subst e;exact .inr ⟨rfl,ih (h.2 rfl) (λe=>hn (by rw[e]))⟩
   ·left;rcases UInt8.lt_or_lt_of_ne e with h1|h1
    ·exact(h.1 h1).elim
    ·exact h1
def oy{a b:Bs}(h:lt a b=aD):lt b a=false:=by
 cases h':lt b a with
 |false=>rfl
 |true=>have:=lt_trans h h';rw[lF]at this;cases this
def Q2(a b:Bs):(Op.bytesLess a b ||a==b) = !(lt b a):=by
 by_cases e:a=b
 ·subst e;simp[lF]
 ·have e2:(a==b)=false:=by simpa using e
  rw[e2,zg];cases h:Op.bytesLess a b with
  |true=>rw[oy h];rfl
  |false=>rw[pK h e];rfl
def xj:List V->Option (List (List V))
 | [.ref (.sl a) 0,.ref (.sl b) 0]=>if a.length<=16777216/\a.all fL=aD/\b.all fL=aD then aA (List.zipWith (λx y=>[x,y]) a b) else aF
 |_=>aF
def rl(s:Bs)(n:Nat)(t:Bs):Bs:=s.take n++t++s.drop (n+t.length)
def yo:List V->Option V
 | [.str s,.int aB n,.sl l]=>if 0<=n/\n.toNat+l.length<=s.length then (iv l).map λns=>.str (rl s n.toNat (ns.map λx=>UInt8.ofNat x.toNat)) else aF
 |_=>aF
def EI(s:Bs):iv (fj s)=aA (s.map λb=>(b.toNat:Int)):=by
 induction s with
 |nil=>rfl
 |cons b s ih =>
  have:fj (b::s) = .int bK (b.toNat:Int)::fj s:=rfl;rw[this];simp only[iv,ih,dy,fJ]
def EJ(s:Bs):(s.map λb=>(b.toNat:Int)).map (λn=>UInt8.ofNat n.toNat)=s:=by
 induction s with
 |nil=>rfl
 |cons b s ih=>simp only[fJ,ih,Int.toNat_natCast];congr 1;exact UInt8.ofNat_toNat
def GY(s:Bs):(fj s).length=s.length:=by simp[fj]
def ai7(s:Bs):cC 1 (fj s)=true:=by
 unfold cC fj;simp[gV]
def aeM(l:List Int):iv (l.map λn=>aC bK n)=aA l:=by
 induction l with
 |nil=>rfl
 |cons b s ih=>simp only[iv,fJ,ih,dy]
def dY:Bs->Nat
 | []=>0
 |b::s=>b.toNat+256 * dY s
def cW:Nat->Nat->Bs
 |0,_=>[]
 |k+1,n=>UInt8.ofNat (n % 256)::cW k (n / 256)
def eK:∀k n,(cW k n).length=k
 |0,_=>rfl
 |k+1,n=>by simp[cW,eK k]
def BQ:∀s,dY s < 256 ^ s.length
 | []=>by decide
 |b::s=>by
  have h1:=BQ s;have h2:=b.toNat_lt;simp only[dY,d8,Ck];omega
def VN(c:UInt8):∀s,dY (s++[c])=dY s+c.toNat * 256 ^ s.length
 | []=>by simp[dY]
 |b::s=>by
  simp only[gI,dY,VN c s,d8,Ck,Nat.mul_add]
  have:256 * (c.toNat * 256 ^ s.length)=c.toNat * (256 ^ s.length * 256):=by
   rw[Ci 256,Nat.mul_assoc]
  omega
def F8:∀k n,n < 256 ^ k->dY (cW k n)=n
 |0,n,h=>by
  have:n=0:=by simpa using h
  subst this;rfl
 |k+1,n,h=>by
  have h1:n / 256 < 256 ^ k:=by
   rw[Ck]at h;exact Nat.div_lt_of_lt_mul (by rw[Ci];exact h)
  simp only[cW,dY,F8 k _ h1];have:(UInt8.ofNat (n % 256)).toNat=n % 256:=by simp
  omega
def Q0:∀s,cW s.length (dY s)=s
 | []=>rfl
 |b::s=>by
  have h2:=b.toNat_lt;have e1:(b.toNat+256 * dY s) % 256=b.toNat:=by omega
  have e2:(b.toNat+256 * dY s) / 256=dY s:=by omega
  simp only[dY,d8,cW,e1,e2,Q0 s];congr 1;exact UInt8.ofNat_toNat
def QZ:∀k n,cW (k+1) n=cW k n++[UInt8.ofNat (n / 256 ^ k % 256)]
 |0,n=>by simp[cW]
 |k+1,n=>by
  show UInt8.ofNat (n % 256)::cW (k+1) (n / 256)=_;rw[QZ k];simp only[cW,gI];rw[Nat.div_div_eq_div_mul,Ck,Ci 256]
def EU(i:Nat):2 ^ (8 * i)=256 ^ i:=by rw[Nat.pow_mul]
def ae1{x c i:Nat}(hx:x < 256 ^ i)(hc:c < 256)(hi:i < 8) :
  W b9 (((BitVec.ofInt (bJ b9) (x:Int) |||BitVec.ofInt (bJ b9) (W b9 (W b9 (c:Int) * 2 ^ (min (W aB (8 * (i:Int))).toNat (bJ b9))))).toNat:Nat):Int)=((x+c * 256 ^ i:Nat):Int):=by
 have e1:W aB (8 * (i:Int))=8 * (i:Int):=bd (by omega);have e2:(8 * (i:Int)).toNat=8 * i:=by omega
 have e3:min (8 * i) (bJ b9)=8 * i:=by
  have:bJ b9=64:=rfl;omega
 have hp:256 ^ i * 256<=256 ^ 8:=by
  rw[<-Ck];exact MQ (by decide) (by omega)
 have hc2:c * 256 ^ i+256 ^ i<=256 ^ i * 256:=by
  have:(c+1) * 256 ^ i<=256 * 256 ^ i:=dO _ hc;rw[my]at this;rw[Ci (256 ^ i)];exact this
 have h64:(256:Nat) ^ 8=18446744073709551616:=by decide
 rw[h64]at hp;have e4:W b9 (c:Int)=(c:Int):=lr (by omega);rw[e1,e2,e3,e4]
 have e5:(c:Int) * 2 ^ (8 * i)=((c * 256 ^ i:Nat):Int):=by
  rw[<-EU,Int.natCast_mul,Int.natCast_pow];rfl
 rw[e5];have e6:W b9 ((c * 256 ^ i:Nat):Int)=((c * 256 ^ i:Nat):Int):=lr (by omega);rw[e6]
 have e7:∀m:Nat,m < 18446744073709551616->(BitVec.ofInt (bJ b9) (m:Int)).toNat=m:=by
  intro m hm;rw[BitVec.toNat_ofInt];have:bJ b9=64:=rfl;rw[this];omega
 rw[BitVec.toNat_or,e7 x (by omega),e7 _ (by omega)]
 have e8:x |||c * 256 ^ i=x+c * 256 ^ i:=by
  have:=Nat.shiftLeft_add_eq_or_of_lt (i:=8 * i) (b:=x) (by rw[EU];exact hx) c;rw[Nat.shiftLeft_eq,EU]at this;rw[Nat.or_comm,<-this,so]
 rw[e8];exact lr (by omega)
def LN{n i:Nat}(hi:i<=8):(n:Int).fdiv (2 ^ (min (W aB (8 * (i:Int))).toNat (bJ b9)))=((n / 256 ^ i:Nat):Int):=by
 have e1:W aB (8 * (i:Int))=8 * (i:Int):=bd (by omega);have e2:(8 * (i:Int)).toNat=8 * i:=by omega
 have e3:min (8 * i) (bJ b9)=8 * i:=by
  have:bJ b9=64:=rfl;omega
 rw[e1,e2,e3];have e5:(2:Int) ^ (8 * i)=((256 ^ i:Nat):Int):=by rw[<-EU,Int.natCast_pow];rfl
 rw[e5,Wf _ (Int.natCast_nonneg _)];rfl
def nW(n:Nat):W bK (n:Int)=((n % 256:Nat):Int):=by
 have e:IntKind.signed bK=false:=rfl;have e1:bJ bK=8:=rfl;unfold W IntKind.wrap;simp only[e,e1,uz,d5,ej];omega
section
variable {P:bv}{Z:Zs}{w:bg}
def TW(P:bv)(g o:Nat)(t:aP)(fz:Nat × Nat):∀(vs:List aR) (i:Nat) (cur:Array aR) (w:bg),w.heap[g]? = aA (.cells cur t fz)->cur.size<=fz.1->o+i+vs.length<=cur.size->(∀v∈vs,v.oneCell'=aD) ->
  (storeCells ⟨g,o,aF⟩ vs i).run P w = .ok () (w.setRow g (cur.toList.take (o+i)++vs++cur.toList.drop (o+i+vs.length)).toArray)
 | [],i,cur,w,hg,_,_,_=>by
  simp only[storeCells,fR,jo,gn,lj,Ms];rw[setRow_self w g cur t fz hg];rfl
 |v::rest,i,cur,w,hg,hfz,hl,h1=>by
  have hi:o+i < cur.size:=by simp at hl;omega
  have hadd:(⟨g,o,aF⟩:Addr).add i=⟨g,o+i,aF⟩:=by unfold Addr.add;split<;>simp_all
  have hcell:w.cell? ⟨g,o+i,aF⟩=aA cur[o+i]:=by simp[World.cell?,hg,hi]
  have hfro:w.frozen? ⟨g,o+i,aF⟩=false:=by
   obtain⟨lo,hi'⟩:=fz;simp only[World.frozen?,hg,Bool.and_eq_false_iff,decide_eq_false_iff_not];left;simp only at hfz;omega
  have hst:(store ((⟨g,o,aF⟩:Addr).add i) v).run P w = .ok () (w.setRow g (cur.setIfInBounds (o+i) v)):=by
   rw[hadd,run_store P w _ v _ (h1 v (by simp)),hcell];simp[hfro,setCell_eq_setRow w g (o+i) cur t fz v hg]
  have ih:=TW P g o t fz rest (i+1) (cur.setIfInBounds (o+i) v) (w.setRow g (cur.setIfInBounds (o+i) v)) (setRow_heap w g cur _ t _ hg) (by simpa using hfz) (by simp at hl |-;omega) (λx hx=>h1 x (by simp[hx]));simp only[storeCells,Sem.run_bind,hst,Result.andThen_ok,ih,setRow_setRow];congr 3;have e:=list_seg_step cur.toList (o+i) v rest (by simp at hl |-;omega);simpa[Array.toList_setIfInBounds,ky]using e
def ail{g p:Nat}{us:Array aR}{t:aP}{fz:Nat × Nat}{vals:List aR}(hg:w.heap[g]? = aA (.cells us t fz))(hp:p+vals.length<=us.size) :
  (w.setRow g (us.toList.take p++vals++us.toList.drop (p+vals.length)).toArray).heap[g]? = aA (.cells (us.toList.take p++vals++us.toList.drop (p+vals.length)).toArray t fz) /\
  ∀o,(w.setRow g (us.toList.take p++vals++us.toList.drop (p+vals.length)).toArray).cell? ⟨g,o,aF⟩=if p<=o/\o < p+vals.length then vals[o - p]? else us[o]?:=by
 have hg':=setRow_heap w g us (us.toList.take p++vals++us.toList.drop (p+vals.length)).toArray t fz hg;refine⟨hg',λo=>?_⟩;rw[gB hg'];have hto:(us.toList.take p).length=p:=by simp;omega
 simp only[B9,c8]
 by_cases h1:o < p
 ·rw[bh (by omega),eP (by omega),kx,bc h1];simp
 ·rw[eC (by omega),hto]
  by_cases h2:o < p+vals.length
  ·rw[bc (by omega),eP (by omega)]
  ·rw[bh (by omega),eC (by omega),i6];simp only[BU];congr 1;omega
def JC:∀{a b:List V} {x y:List Int},iv a=aA x->iv b=aA y->iv (a++b)=aA (x++y)
 | [],b,x,y,h,h2=>by cases h;exact h2
 |v::a,b,x,y,h,h2=>by
  cases v with
  |int k n =>
   cases k with
   |u8 =>
    simp only[iv,omi]at h;obtain⟨x',h1,rfl⟩:=h;simp only[gI,iv,JC h1 h2,dy]
   |_=>simp[iv]at h
  |_=>simp[iv]at h
structure MR(P:bv)(f:cf)(st t e:aP):Prop where
 string:(bO P) st=aA .string
 row:(bO P) t=aA (.slice e)
 byte:(bO P) e=aA (.int bK)
 one:(aK P) e=1
 walk:∀(b:ByteArray) (n L c:Nat) (A:Option Addr) (w w2:bg) (r:aR),n<=b.size->b.size<=gq w b.size 0 e ->
  (∀ty o,o=n∨gq w b.size 0 e=n->(Builtin.copy_ #[t,t] ty #[.slice (aA ⟨w.heap.size,o,aF⟩) (b.size - n) (gq w b.size 0 e - n),.slice A L c]).run P (Lib.bytesWorld w e b) = .ok (goInt L) w2) ->
  (convert t st (.slice (aA ⟨w.heap.size,0,aF⟩) b.size (gq w b.size 0 e))).run P w2 = .ok r w2 ->
  fQ P f #[.string b,.int aB (n:Int),.slice A L c] w λe w'=>e = .returned r/\w'=w2
def ae7{f:cf}{st t e:aP}(W:MR P f st t e):iO P λf' as0=>if f'=f then yo as0 else none:=by
 intro f' as0 r h bC Z w us hzin ha;simp only at h
 by_cases hf:f'=f
 rotate_left
 ·rw[bh hf]at h;cases h
 subst hf;rw[bc rfl]at h;unfold yo at h;split at h;rotate_left
 ·cases h
 rename_i s n l;split at h;rotate_left
 ·cases h
 rename_i hc;obtain⟨hn0,hnl⟩:=hc;simp only[omi]at h;obtain⟨ns,hns,rfl⟩:=h;obtain⟨hl,hv⟩:=ha
 match us,hl,hv with
 | [u0,u1,u2],hl,hv =>
 have h0:=hv 0 (.str s) u0 rfl rfl;have h1:=hv 1 (.int aB n) u1 rfl rfl;have h2:=hv 2 (.sl l) u2 rfl rfl;obtain⟨b,rfl,rfl⟩:=h0.strInv;cases h1;obtain⟨m,rfl⟩:∃m:Nat,n=(m:Int):=⟨n.toNat,by omega⟩
 rw[bq]at hnl |-
 have hbs:b.data.toList.length=b.size:=Gg;rw[hbs]at hnl;obtain⟨q1,q2⟩:=JD hns;obtain⟨w1,hw1⟩:∃w1,w1=Lib.bytesWorld w e b:=⟨_,rfl⟩
 have hz1:bU Z w Z w1:=by
  refine .of λg o hz=>⟨hz,?_⟩
  rw[hw1];exact ji (Lib.bytesWorld_at_old w e b g (hzin g o hz)) o
 have hsz1:w1.heap.size=w.heap.size+1:=by rw[hw1];exact Lib.bytesWorld_size w e b
 have hg1:w1.heap[w.heap.size]? = aA (.cells (Lib.bytesCells w e b) e ((Lib.bytesCells w e b).size,(Lib.bytesCells w e b).size+1)):=by rw[hw1];exact Lib.bytesWorld_at_new w e b
 have hcap:=grownCap_ge w b.size 0 e
 have hcs:(Lib.bytesCells w e b).size=gq w b.size 0 e:=by
  unfold Lib.bytesCells;simp only[BV,Array.size_map,Array.size_replicate];have:b.data.size=b.size:=rfl;omega
 have s1:SR P Z w1 j0 []:=⟨λid o h=>by simp at h,λid id' o o' g h=>by simp at h,λ_ _=>rfl,λg o hz=>by have:=hzin g o hz;omega⟩
 have h2':VR Z w1 j0 (.sl l) u2:=h2.mono hz1 (bG.refl _);have hpos:0 < (aK P) e:=by rw[W.one];decide
 have hall:∀y∈l,y.cells.length=(aK P) e:=by
  intro y hy;obtain⟨k,hk⟩:=zk hy;have hkn:k < ns.length:=by rw[q1];exact(cE.1 hk).1
  have:=q2 k _ (cI hkn);rw[hk]at this;cases this;rw[W.one];rfl
 obtain⟨news,hA,hnr⟩:=GL s1 (t:=t) (tx:=t) (x:=.sl l) (by simp[nc]) W.row hpos (xs:=l) rfl hall h2';obtain⟨i,hi,his,_⟩:=vm hpos;obtain⟨A,c,rfl,_⟩:=uY s1 (x:=.sl l) (xs:=l) rfl h2';have hlen:=hA.len w1;have hsize:=hA.size;rw[W.one]at hnr hsize;rw[nR]at hsize;have hmin:Nat.min l.length (b.size - m)=l.length:=Nat.min_eq_left (by omega);have hfc:=hA.cells l.length w1 (cZ _) rfl;rw[<-his]at hfc;have his1:i.size=1:=by rw[his,W.one]
 have htk:news.take (l.length * i.size)=news:=zq (by rw[his1];omega);rw[htk]at hfc;have hpl:m+news.length<=(Lib.bytesCells w e b).size:=by omega
 have hone:∀v∈news,v.oneCell'=true:=hA.one;have hst:=TW P w.heap.size m e _ news 0 _ w1 hg1 (cZ _) (by simpa using hpl) hone;simp only[gn]at hst;obtain⟨w2,hw2⟩:∃w2,w2=w1.setRow w.heap.size ((Lib.bytesCells w e b).toList.take m++news++(Lib.bytesCells w e b).toList.drop (m+news.length)).toArray:=⟨_,rfl⟩
 obtain⟨hg2,hcell⟩:=ail (w:=w1) (p:=m) (vals:=news) hg1 hpl;rw[<-hw2]at hg2 hcell hst
 have hcopy:∀ty o,o=m∨gq w b.size 0 e=m->(Builtin.copy_ #[t,t] ty #[.slice (aA ⟨w.heap.size,o,aF⟩) (b.size - m) (gq w b.size 0 e - m),.slice A l.length c]).run P w1 = .ok (goInt l.length) w2:=by
  intro ty o ho
  have:(Builtin.copy_ #[t,t] ty #[.slice (aA ⟨w.heap.size,o,aF⟩) (b.size - m) (gq w b.size 0 e - m),.slice A l.length c]).run P w1=((storeCells ⟨w.heap.size,o,aF⟩ news).run P w1).andThen λ_ w1=>.ok (goInt l.length) w1:=by
   simp[Builtin.copy_,dP W.row,hlen,sizeOf,ij,hi,hmin,hfc]
  rw[this];rcases ho with rfl|ho
  ·rw[hst];rfl
  ·have hn0:news=[]:=wL (by omega)
   have he:w2=w1:=by
    rw[hw2,hn0];simp only[fR,jo,gn,lj,Ms];exact setRow_self w1 w.heap.size _ e _ hg1
   rw[hn0,he];rfl
 have hot:∀k,k < w.heap.size->w2.heap[k]? = w.heap[k]?:=by
  intro k hk;rw[hw2,oL w1 w.heap.size k _ (by omega),hw1,Lib.bytesWorld_at_old w e b k hk]
 have hz2:bU Z w Z w2:=.of λg o hz=>⟨hz,ji (hot g (hzin g o hz)) o⟩
 obtain⟨l2,hl2⟩:∃l2,l2=(fj (b.data.toList.take m)++l)++fj (b.data.toList.drop (m+l.length)):=⟨_,rfl⟩
 have hl2n:iv l2=aA (((b.data.toList.take m).map (λb=>(b.toNat:Int))++ns)++(b.data.toList.drop (m+l.length)).map (λb=>(b.toNat:Int))):=by
  rw[hl2];exact JC (JC (EI _) hns) (EI _)
 have hl2l:l2.length=b.size:=by
  rw[hl2];simp only[gJ,GY,jW,lh,hbs];omega
 have htext:wB P e l2=aA (.str (rl b.data.toList m (ns.map λx=>UInt8.ofNat x.toNat))):=by
  unfold wB;rw[W.byte];simp only;rw[hl2n,dy,li,li,EJ,EJ];unfold rl;rw[gm,q1]
 have hbc:∀(k:Nat) (x:V),(fj b.data.toList)[k]? = aA x->∃z:Int,x=aC bK z/\(Lib.bytesCells w e b)[k]? = aA (Value.int bK z):=by
  intro k x hx;obtain⟨c',hc',rfl⟩:=C5 hx;refine⟨_,rfl,?_⟩;have bf:k < b.data.size:=by have:=(cE.1 hc').1;simpa using this
  unfold Lib.bytesCells;rw[Mn (by simpa using bf),Gf];have:b.data[k]? = aA c':=by rw[<-hc'];simp
  rw[this];rfl
 have hel:∀(k:Nat) (y:V),l2[k]? = aA y->∃z:Int,y=aC bK z/\w2.cell? ⟨w.heap.size,k,aF⟩=aA (Value.int bK z):=by
  intro k y hy;rw[hcell,hsize];have hto:(fj (b.data.toList.take m)).length=m:=by rw[GY,jW,hbs];omega
  rw[hl2,c8]at hy
  by_cases k1:k < m
  ·rw[bh (by omega)];rw[eP (by omega)]at hy;apply hbc;rw[<-hy];unfold fj;rw[List.map_take,kx,bc k1]
  ·rw[eC (by omega),hto]at hy
   by_cases k2:k < m+l.length
   ·rw[bc (by omega)];rw[eP (by omega)]at hy;have hkn:k - m < ns.length:=by omega
    have:=q2 (k - m) _ (cI hkn);rw[hy]at this;cases this;obtain⟨_,u,hu,hvu⟩:=hnr (k - m) _ 0 _ hy rfl;rw[nR,gn]at hu;cases hvu;exact⟨_,rfl,hu⟩
   ·rw[bh (by omega)];rw[eC (by omega)]at hy;apply hbc;rw[<-hy];unfold fj;rw[List.map_drop,i6];congr 1;omega
 obtain⟨r,hr1,hr2⟩:=VC (P:=P) (Z:=Z) (w:=w2) (j:=j0) (A:=aA ⟨w.heap.size,0,aF⟩) (c:=gq w b.size 0 e) W.row W.string htext (.inr ⟨w.heap.size,0,1,rfl,Nat.one_pos,λk y hk=>by
  obtain⟨z,rfl,hz⟩:=hel k y hk;refine⟨rfl,λi x hx=>?_⟩;cases i with
  |succ i=>simp[gV]at hx
  |zero =>
   simp[gV]at hx;subst hx;exact⟨rfl,_,by simpa using hz,.int⟩⟩)
 rw[hl2l]at hr1;refine(W.walk b m l.length c A w w2 r (by omega) hcap (by rw[<-hw1];exact hcopy) hr1).mono λx w' hx=>?_
 obtain⟨rfl,rfl⟩:=hx;refine⟨r,Z,rfl,hr2,?_⟩;refine⟨?_,?_,?_,?_,λg hg=>⟨hot g hg,λ_=>Iff.rfl⟩,λg o hz=>?_,rfl,rfl⟩
 ·rw[hw2,hw1];rfl
 ·rw[hw2,hw1];rfl
 ·rw[hw2,hw1];rfl
 ·rw[hw2];simp;omega
 ·have:=hzin g o hz;rw[hw2];simp;omega
end
end Go.Lite
namespace Go.Lite
open Go Go.Sort
def iV(n:Int):V:=.int aB n
def intOf:V->Option Int
 |.int aB n=>aA n
 |_=>aF
def tg(l:List V):Option (List Int):=cD intOf l
def QL:∀l:List Int,tg (l.map iV)=aA l
 | []=>rfl
 |x::l=>by
  have:=QL l;unfold tg at this |-
  simp[cD,this,iV,intOf]
def QM:∀{l:List V} {xs:List Int},tg l=aA xs->l=xs.map iV
 | [],xs,h=>by cases h;rfl
 |v::l,xs,h=>by
  unfold tg at h;simp only[cD,obi,omi]at h;obtain⟨x,hx,ys,hy,rfl⟩:=h
  have e1:v=iV x:=by
   unfold intOf at hx;split at hx
   ·cases hx;rfl
   grind
  rw[e1,QM hy];rfl
def srt(l:List Int):List Int:=l.mergeSort λx y=>decide (x<=y)
def Ef:V->Option Nat
 |.own id=>aA id
 |.tail id off=>if off=0 then aA id else aF
 |_=>aF
def acv{P:bv}{Z:Zs}{w:bg}{j:J}{x:V}{id:Nat}{u:aR}(h:Ef x=aA id)(hv:VR Z w j x u):∃A n c sz,j id=aA ⟨.slice A n c,sz⟩/\u = .slice A n c:=by
 cases hv with
 |own hj h0 =>
  cases h;grind
 |@tail _ id' off n c sz A u hj hn hw =>
  simp only[Ef]at h;split at h;rotate_left
  ·cases h
  rename_i e;subst e;cases h;cases hw with
  |win hj' hn' hlc hcc ha =>
  grind
 |_=>cases h
def yS(e:aP):List V->List O->Option (V × List O)
 | [x],mem=>(Ef x).bind λid =>
  match mem[id]? with
  |some (.row t els 0)=>if t=e/\els.length<=16777216 then (tg els).map λxs=>(.tup [],mem.set id (.row e ((srt xs).map iV) 0)) else aF
  |_=>aF
 |_,_=>aF
structure SortW(P:bv)(f:cf):Prop where
 srt:∀(blk off cap:Nat) (zs:List Int) (w:bg),Holds (Value.int aB) w blk off zs.toArray->blk < w.heap.size->zs.length < 4611686018427387904 ->
  fQ P f #[.slice (aA ⟨blk,off,aF⟩) zs.length cap] w λe w'=>e = .returned (.tuple #[])/\∃n os,w'=grow (putRow (Value.int aB) (Sort.ahead w n) blk off (zs.mergeSort λx y=>decide (x<=y)).toArray) os
 none:∀(p:Option Addr) (cap:Nat) (w:bg),fQ P f #[.slice p 0 cap] w λe w'=>e = .returned (.tuple #[])/\w'=w
structure ajd(P:bv)(f:cf):Prop where
 cut:∀(blk off cap:Nat) (zs:List Int) (w:bg),Holds (Value.int aB) w blk off zs.toArray->zs.length<=9223372036854775807->zs.length<=cap ->
  fQ P f #[.slice (aA ⟨blk,off,aF⟩) zs.length cap] w λe w'=>e = .returned (.slice (aA ⟨blk,off,aF⟩) (Lib.compact zs).length cap)/\∃q,w'=putRow (Value.int aB) (Sort.ahead w q) blk off (Lib.compact zs++cA (zs.length - (Lib.compact zs).length) 0).toArray
 none:∀(p:Option Addr) (cap:Nat) (w:bg),fQ P f #[.slice p 0 cap] w λe w'=>e = .returned (.slice p 0 cap)/\w'=w
section
variable {P:bv}{Z:Zs}{w:bg}{j:J}{mem:List O}
def afx{n g b:Nat}{os:Array Obj}{d:Array Int}{k:Nat}(hk:k≠g):(grow (putRow (Value.int aB) (Sort.ahead w n) g b d) os).heap[k]? = (grow (Sort.ahead w n) os).heap[k]?:=by
 simp[grow,putRow,mapBlock,Sort.ahead,Array.getElem?_append,Array.getElem?_modify,Ne.symm hk]
def afy{n g b:Nat}{os:Array Obj}{cur:Array aR}{e:aP}{fr:Nat × Nat}(d:Array Int)(hb:w.heap[g]? = aA (.cells cur e fr)) :
  (grow (putRow (Value.int aB) (Sort.ahead w n) g b d) os).heap[g]? = aA (.cells (Sort.putCells (Value.int aB) b d cur) e fr):=by
 have hg:g < w.heap.size:=(gS.1 hb).1;rw[heap_grow_old _ _ (by simp_all)];simp[putRow,mapBlock,Sort.ahead,Array.getElem?_modify,hb,onCells]
def afu{cur:Array aR}{d:List Int}{k b:Nat}{x:Int}(hk:d[k]? = aA x)(hl:b+d.length<=cur.size):(Sort.putCells (Value.int aB) b d.toArray cur)[b+k]? = aA (.int aB x):=by
 have bf:k < d.length:=(cE.1 hk).1;have hx:d[k]=x:=(cE.1 hk).2;simp[Sort.putCells,bf,show b+k < cur.size by omega,hx]
def ach{g b:Nat}{us:Array aR}{e:aP}{xs:List Int}(hc1:(aK P) e=1)(hg:w.heap[g]? = aA (.cells us e (0,0)))
  (hcells:∀k x,(xs.map iV)[k]? = aA x->fX Z w j0 g (b+k * (aK P) e) x.cells):Holds (Value.int aB) w g b xs.toArray:=by
 intro k hk;have hk':k < xs.length:=by grind
 refine⟨?_,by simp[World.frozen?,hg]⟩;obtain⟨_,u,hu,hv⟩:=hcells k (iV xs[k]) (by grind) 0 (iV xs[k]) rfl;cases hv;grind
def ack{e:aP}(hc1:(aK P) e=1)(ys:List Int):∀x∈ys.map iV,x.cells.length=(aK P) e:=λx hx=>by
 obtain⟨y,_,rfl⟩:=fi.1 hx;rw[hc1];rfl
def ah2(s:SR P Z w j mem){id:Nat}{e:aP}{els:List V}(hm:mem[id]? = aA (.row e els 0)){g b n c:Nat}{us:Array aR}(hc1:(aK P) e=1)
  (hju:j id=aA ⟨.slice (aA ⟨g,b,aF⟩) n c,(aK P) e⟩) (hg:w.heap[g]? = aA (.cells us e (0,0))) (hZ:∀o,¬Z g o) {ys:List Int} (hn:ys.length=n) (hnc:n<=c) (hcm:c<=f9) (hus:b+c<=us.size) (q:Nat) (os:Array Obj)
  {v:V} {u:aR} (hv:VR Z (grow (putRow (Value.int aB) (Sort.ahead w q) g b ys.toArray) os) j v u) :
  dz P Z w j mem v (mem.set id (.row e (ys.map iV) 0)) u (grow (putRow (Value.int aB) (Sort.ahead w q) g b ys.toArray) os):=by
 obtain⟨wa,hwa⟩:∃wa,wa=grow (Sort.ahead w q) os:=⟨_,rfl⟩
 have old:∀k,k < w.heap.size->wa.heap[k]? = w.heap[k]?:=λk hk=>by rw[hwa,heap_grow_old _ _ (by simp_all)];rfl
 have sza:w.heap.size<=wa.heap.size:=by grind
 have za:bU Z w Z wa:=.of λg' o ho=>⟨ho,ji (old g' (s.zin g' o ho)) o⟩
 have sa:SR P Z wa j mem:=s.world za (λg' hg'=>⟨old g' (bT.lt s hg'),λ_=>Iff.rfl⟩) (λg' o ho=>qx (s.zin g' o ho) sza);have ta:br Z w j mem Z wa j mem:=⟨by rw[hwa];rfl,by simp_all,by rw[hwa];rfl,sza,λg' hg' _=>⟨old g' hg',λ_=>Iff.rfl⟩,λ_ _ h=>h,za,λ_ h=>⟨h,rfl⟩⟩
 obtain⟨w1,hw1⟩:∃w1,w1=grow (putRow (Value.int aB) (Sort.ahead w q) g b ys.toArray) os:=⟨_,rfl⟩
 have hg1:w1.heap[g]? = aA (.cells (Sort.putCells (Value.int aB) b ys.toArray us) e (0,0)):=by rw[hw1];exact afy _ hg
 have hot:∀k,k≠g->w1.heap[k]? = wa.heap[k]?:=λk hk=>by rw[hw1,hwa];exact afx hk
 have hsz:w1.heap.size=wa.heap.size:=by simp_all
 have z1:bU Z wa Z w1:=by
  refine .of λg' o ho=>⟨ho,?_⟩
  by_cases hgg:g'=g
  ·grind
  ·exact ji (hot g' hgg) o
 have hne:∀g',dk j id≠aA g'->g'≠g:=by
  intro g' h e';subst e';exact h (by simp[dk,hju,cO.blk])
 have hor:OR P Z w1 j id (.row e (ys.map iV) 0):=by
  refine⟨_,hju,rfl,by grind,kz _,ack hc1 ys,.inr ⟨g,b,c,_,by grind,by grind,hcm,hg1,by simp[hc1,Sort.putCells,hus],λk x hk i y hy=>?_,λo ho=>(hZ o ho).elim,λo ho=>by grind⟩⟩;rw[gy]at hk;cases hyk:ys[k]? with
  |none=>grind
  |some y0 =>
  rw[hyk]at hk;cases hk;cases i with
  |succ i=>cases hy
  |zero =>
  cases hy;refine⟨rfl,.int aB y0,?_,.int⟩;rw[gB hg1];show(Sort.putCells _ _ _ _)[b+k * (aK P) e+0]? = _;rw[hc1];simp only[nR,gn];exact afu hyk (by omega)
 rw[<-hw1]at hv |-
 refine⟨Z,j,hv,sa.set hm (λ_=>rfl) z1 (λg' hg'=>⟨hot g' (hne g' hg'),λ_=>Iff.rfl⟩) (λg' x hx=>by rw[hsz];exact sa.zin g' x hx) (λh=>by cases h) hor,?_,bG.refl _⟩;exact ta.trans (br.set hm (λ_=>rfl) rfl z1 (λg' hg'=>⟨hot g' (hne g' hg'),λ_=>Iff.rfl⟩) (by rw[hw1,hwa];rfl) (by simp_all) (by rw[hw1,hwa];rfl) (by grind))
end
def ah1{P:bv}{f:cf}{e:aP}(W:SortW P f)(hc1:(aK P) e=1):gH P λf' as0 mem=>if f'=f then yS e as0 mem else none:=by
 intro f' as0 mem r mem' h bC Z w j us s ha;simp only at h
 by_cases hf:f'=f
 rotate_left
 ·grind
 subst hf;rw[bc rfl]at h;unfold yS at h;split at h;rotate_left
 ·cases h
 rename_i x0;simp only[obi]at h;obtain⟨id,hid,h⟩:=h;split at h;rotate_left
 ·cases h
 rename_i te els hm;split at h;rotate_left
 ·cases h
 rename_i hc;obtain⟨rfl,hlen⟩:=hc;simp only[omi]at h;obtain⟨xs,hxs,h⟩:=h;have:=QM hxs;subst this;cases h;obtain⟨hl,hv⟩:=ha
 match us,hl,hv with
 | [u],hl,hv =>
 have hu:=hv 0 x0 u rfl rfl;obtain⟨h,hh,h1,h2,h3,h4,h5⟩:=s.obj id _ hm;obtain⟨A,n,c,szu,hju,rfl⟩:=acv (P:=P) hid hu;rw[hju]at hh;cases hh;simp only at h1 h2;subst h1;have hlen:xs.length<=16777216:=by grind
 rcases h5 with⟨hv1,he1⟩|⟨g,q,cc,us1,hv1,hlc,hcm,hg,hus,hcells,hz1,hz2⟩
 ·simp only at hv1;cases hv1;have hx0:xs=[]:=by grind
  subst hx0;refine(W.none aF 0 w).mono λx w' hxw=>?_
  obtain⟨rfl,rfl⟩:=hxw;refine⟨_,rfl,?_⟩;have kJ:srt []=[]:=by simp[srt]
  have:mem.set id (.row te ((srt []).map iV) 0)=mem:=by rw[kJ];exact yO hm
  rw[this];exact fB s (.tup (us:=[]) rfl (λi c u hc=>by grind))
 ·simp only at hv1;cases hv1;have hZ:∀o,¬Z g o:=λo ho=>by grind
  have hlx:(xs.map iV).length=xs.length:=by simp
  have hH:=ach (xs:=xs) hc1 hg hcells;have hC:=W.srt g q c xs w hH (gS.1 hg).1 (by omega);rw[<-hlx]at hC;refine hC.mono λx w' hxw=>?_
  obtain⟨rfl,k,os,rfl⟩:=hxw;refine⟨_,rfl,?_⟩;have hus':q+c<=us1.size:=by grind
  exact ah2 s hm hc1 hju hg hZ (ys:=srt xs) (by simp[srt]) hlc hcm hus' k os (.tup (us:=[]) rfl (λi c u hc=>by grind))
def L0(e:aP)(args:List V)(mem:List O)(k:V->List O->R):R :=
 match args with
 | [x]=>cg (Ef x) λid =>
  match mem[id]? with
  |some (.row t els fz)=>gd (t==e)<|gd (m4 fz 0)<|gd (decide (els.length<=16777216))<|cg (tg els) λxs=>k (.tup []) (mem.set id (.row e ((srt xs).map iV) 0))
  |_=>aF
 |_=>aF
def ahY{e:aP}{args:List V}{mem:List O}{k:V->List O->R}{r:d6}(h:L0 e args mem k=aA r):∃v m,yS e args mem=aA (v,m)/\k v m=aA r:=by
 unfold L0 at h;split at h
 ·rename_i x;obtain⟨id,hid,h⟩:=cS h;split at h
  ·rename_i t els fz hm;obtain⟨p1,h1⟩:=cU h;obtain⟨p2,h2⟩:=cU h1;obtain⟨p3,h3⟩:=cU h2;obtain⟨xs,hx,h4⟩:=cS h3;clear h h1 h2 h3;have p1:t=e:=by grind
   have p2:fz=0:=by simp_all
   subst p1 p2;exact⟨_,_,by simp only[yS,hid,bu,hm,bc (And.intro trivial (gb p3)),hx,dy],h4⟩
  grind
 grind
end Go.Lite
namespace Go.Lite
open Go
structure MclW(P:bv)(f:cf):Prop where
 cl:∀(b:Nat) (es:Array MapEntry) (clock:Nat) (w:bg),w.heap[b]? = aA (.map es clock)->fQ P f #[.map (aA b)] w λe w'=>e = .returned (.map (aA w.heap.size))/\w'=w.alloc (.map es clock)
def xU:List V->List O->Option (V × List O)
 | [.mp id],mem=>match mem[id]? with
  |some (.map es)=>aA (.mp mem.length,mem++[.map es])
  |_=>aF
 |_,_=>aF
def Jo(args:List V)(mem:List O)(k:V->List O->R):R :=
 match args with
 | [.mp id]=>match mem[id]? with
  |some (.map es)=>k (.mp mem.length) (mem++[.map es])
  |_=>aF
 |_=>aF
def ad2{args:List V}{mem:List O}{k:V->List O->R}{r:d6}(h:Jo args mem k=aA r):∃v m,xU args mem=aA (v,m)/\k v m=aA r:=by
 unfold Jo at h;split at h
 ·rename_i id;split at h
  ·rename_i es hm;exact⟨_,_,by simp only[xU,hm],h⟩
  ·cases h
 ·cases h
def ad6{P:bv}{f:cf}(W:MclW P f):gH P λf' as0 mem=>if f'=f then xU as0 mem else none:=by
 intro f' as0 mem r mem' h bC Z w j us s ha;simp only at h
 by_cases hf:f'=f
 rotate_left
 ·rw[bh hf]at h;cases h
 subst hf;rw[bc rfl]at h;unfold xU at h;split at h;rotate_left
 ·cases h
 rename_i id;split at h;rotate_left
 ·cases h
 rename_i es hm;cases h;obtain⟨hl,hv⟩:=ha
 match us,hl,hv with
 | [u],hl,hv =>
 have hu:=hv 0 (.mp id) u rfl rfl;obtain⟨r,es',clock,h1,h2,h3,h4,h5,h6⟩:=s.obj id _ hm;cases hu with
 |mp hj =>
 rw[h1]at hj;cases hj;refine(W.cl r es' clock w h2).mono λx w' hxw=>?_
 obtain⟨rfl,rfl⟩:=hxw;have hz:=bU.heap (Z:=Z) (w1:=w.alloc (.map es' clock)) (ob:=.map es' clock) rfl s.zin 0
 obtain⟨s1,st,je⟩:=s.push (w1:=w.alloc (.map es' clock)) (ob:=.map es' clock) rfl rfl rfl rfl 0 (h:=⟨.map (aA w.heap.size),0⟩) (by simp[cO.blk]) (o:=.map es)
  ⟨w.heap.size,es',clock,gF _ _ _,heap_alloc_new w _,h3,λi a x hi=>by
   obtain⟨e,e1,e2,e3,e4,e5⟩:=h4 i a x hi;exact⟨e,e1,e2,e3,e4.mono hz (bG.refl _),e5.mono hz (bG.refl _)⟩,λo ho=>by
   rcases ho with ho|ho
   ·have:=s.zin _ _ ho;omega
   ·omega,h6⟩
 exact⟨_,rfl,_,_,.mp (gF _ _ _),s1,st,je⟩
def G3(e:aP)(sz:Nat)(args:List V)(mem:List O):Option (V × List O):=(cD (ku mem) args).bind λas0=>(pj e sz as0).map λr=>oP aD mem r
def XC{P:bv}{f:cf}{e:aP}{sz:Nat}(hp:iO P λf' av=>if f'=f then pj e sz av else aF):gH P λf' as0 mem=>if f'=f then G3 e sz as0 mem else none:=by
 intro f' as0 mem r mem' h bC Z w j us s ha;simp only at h
 by_cases hf:f'=f
 rotate_left
 ·rw[bh hf]at h;cases h
 subst hf;rw[bc rfl]at h;have hi:gH P λ_ _ _=>none:=λ_ _ _ _ _ h=>nomatch h
 refine(GZ (cfg:={ P:=P,pure:=λ_=>aD,adopt:=λ_=>aD,pprim:=λ_=>aF,iprim:=λ_=>aF }) (call:=⟨λf'' av=>if f''=f' then pj e sz av else aF,λ_ _ _=>aF⟩) hp hi (dr:=aE) (f:=f') s ?_ ha).2;unfold G3 at h;simp only[obi,omi]at h;obtain⟨as0',h1,r',h2,h3⟩:=h
 have hl:vw r'=false:=by
  unfold pj at h2;split at h2
  ·split at h2
   ·cases h2;rfl
   ·cases h2
  ·cases h2
 unfold jw;rw[bC];simp[h1,h2,hl,h3]
end Go.Lite
namespace Go.Proofs.YtlphgcjepphhcaaGreat
open Go Go.Lite
def ES:V->Bool
 |.agg cs=>cs.length==6
 |_=>aE
def sI(l:List V):List (List V):=(l.zipIdx.map λx=>[aC aB (x.2:Int),x.1]).reverse
def C0:List V->Option (List (List V))
 | [.ref (.sl l) 0]=>if l.length<=16777216/\l.all ES=aD then aA (sI l) else aF
 |_=>aF
def we(n from0:Int):List (List V):=(eQ n.toNat).map λk:Nat=>[aC aB ((from0+(k:Int)) % n)]
def yE:List V->Option (List (List V))
 | [.ref (.ref (.agg [_,.int aB n]) 0) 0,.ref (.int aB from0) 0]=>if 0<=n/\n<=16777216/\0<=from0/\from0<=16777216 then aA (we n from0) else aF
 |_=>aF
def Kb(f:Nat):Option (List V->Option V):=if f=171 then aA (pj 9 1) else if f=173 then aA (pj 3 1) else if f=209 then aA yo else if f=158 then aA Da else aF
def J9(f:Nat):Option (List V->List O->Option (V × List O)) :=
 if f=212 then aA (td 9 1) else if f=213 then aA (td 3 1) else if f=170 then aA (qM 9) else if f=172 then aA (qM 3) else if f=88 then aA (yS 3) else if f=97 then aA xU else if f=139 then aA (G3 5 1) else aF
def Kd(f:Nat):Option (List aP × (List V->Option (List (List V)))) :=
 if f=192 then aA ([3],yE) else if f=211 then aA ([3,176],C0) else if f=210 then aA ([9,3],xj) else aF
def SY:List Nat:=[52,42,57,96,26,55,56,60,61,65,66,67,91,92,93,94,95,99,100,103,104,107,109,111,142,143,151,153,202,54,53,22,25,20,27,169,82,78,58,119,84,127,44,50,137,131,180,174,90,89,75,43,87,46,34,85,132,123,124,81,79,128,32,39,33,40,21,24,112,15,28,31]
def afL:List Nat:=[52,42,40,39,50,26,55,56,67,91,92,93,94,95,100,103,104,107,143,54,27,124,82,90,58,137,43,87,46,75,34,44,89]
def afJ:List Nat:=[139,97,88,86,133,16,17,59,141,19,212,213,170,172,98,179,136,83,36,51,37,164,177,178,68,18]
def afI(f:Nat):Bool:=afJ.contains f ||SY.contains f
def aJ:cB:={ P:=Tryz.prog,pure:=λf=>!afI f,adopt:=λf=>([117,171,173]:List Nat).contains f,pprim:=Kb,iprim:=J9,seqp:=Kd,sqj:=λf=>f==192,can:=λf=>if f=85 then aA ⟨aD,aE,aD,[3,9]⟩ else if f=132 then aA ⟨aD,aE,aD,[3,9]⟩ else if f=96 then aA ⟨aD,aE,aD,[1000192]⟩ else if SY.contains f then aA aU else if f=86 then aA ⟨aD,aE,aE,[]⟩ else if f=139 then aA ⟨aD,aE,aE,[]⟩ else aF,ro:=λf=>afL.contains f,rxf:=λf d=>([(87,7000044),(87,7000013),(89,8000003),(123,8000090),(81,8000053),(56,7000013),(56,7000047),(107,8000003),(53,8000047),(53,8000080),(54,8000011),(57,8000003),(96,8000003),(109,2000119),(65,2000117),(108,2000049),(146,2000082),(106,2000059),(106,2000039),(108,7000008),(108,7000009),(12,8000061),(3,8000113),(85,2000032),(85,2000091),(85,2000018),(85,2000147),(85,2000158),(10,2000184),(10,2000128),(10,2000099)]:List (Nat × Nat)).contains (f,d) }
def SZ(f:Nat)(args:List V)(mem:List O)(k:V->List O->R):R :=
 cond (f==212) (Ek 9 1 args mem k) (cond (f==213) (Ek 3 1 args mem k) (cond (f==170) (Dm 9 args mem k) (cond (f==172) (Dm 3 args mem k) (cond (f==88) (L0 3 args mem k) (cond (f==97) (Jo args mem k) aF)))))
def Nm:List V->Option V
 | [.sl l]=>aA (.fn 211 [.ref (.sl l) 0])
 |_=>aF
def Ea(t:aP)(cs:List V):Option (List UInt8 × Int) :=
 if t=120 then (match cs with | [.sl _,.str h,.int aB n]=>aA (h,n)|_=>aF)
 else if t=150 then (match cs with | [.sl _,.sl _,.str h,.int aB n]=>aA (h,n)|_=>aF) else aF
def IS(t:aP)(cs:List V)(w:Bool)(g:List UInt8 × Int):Option V :=
 if t=120 then (match cs with | [.sl p,.str h,.int aB _]=>aA (.ifc 120 (.agg [.sl p,.str (cond w g.1 h),.int aB g.2]))|_=>aF)
 else if t=150 then (match cs with | [.sl s,.sl k,.str h,.int aB _]=>aA (.ifc 150 (.agg [.sl s,.sl k,.str (cond w g.1 h),.int aB g.2]))|_=>aF) else aF
def IU:List V->Option V
 | [.ifc t (.agg xs),.ifc t' (.agg gs),.bool w]=>(Ea t' gs).bind λg=>IS t xs w g
 |_=>aF
def Kc(f:Nat):Option (List V->Option V):=if f=166 then aA Nm else if f=125 then aA IU else aF
def PT:FA:=⟨0,0,[],[],.skip⟩
def ja{P:bv}{r:Nat->Bool}{f:Nat}(h:(iq P r f).isSome=aD):iq P r f=aA ((iq P r f).getD PT):=by
 cases hf:iq P r f with
 |none=>rw[hf]at h;cases h
 |some x=>rfl
def yx:KC:={ cfg:=aJ,frs:=λ_=>aD,ik:=SZ }
def pZ:iL yx:=by
 refine⟨?_,λ_ _ _ _ _ _ h=>nomatch h⟩;intro f av mem k r h;rcases dm h with⟨e,h⟩|⟨_,h⟩
 ·have e:f=212:=by simpa using e
  subst e;obtain⟨v,m,h1,h2⟩:=QJ h;exact⟨v,m,xI (cfg:=aJ) (g:=td 9 1) rfl h1,h2⟩
 rcases dm h with⟨e,h⟩|⟨_,h⟩
 ·have e:f=213:=by simpa using e
  subst e;obtain⟨v,m,h1,h2⟩:=QJ h;exact⟨v,m,xI (cfg:=aJ) (g:=td 3 1) rfl h1,h2⟩
 rcases dm h with⟨e,h⟩|⟨_,h⟩
 ·have e:f=170:=by simpa using e
  subst e;obtain⟨v,m,h1,h2⟩:=NW h;exact⟨v,m,xI (cfg:=aJ) (g:=qM 9) rfl h1,h2⟩
 rcases dm h with⟨e,h⟩|⟨_,h⟩
 ·have e:f=172:=by simpa using e
  subst e;obtain⟨v,m,h1,h2⟩:=NW h;exact⟨v,m,xI (cfg:=aJ) (g:=qM 3) rfl h1,h2⟩
 rcases dm h with⟨e,h⟩|⟨_,h⟩
 ·have e:f=88:=by simpa using e
  subst e;obtain⟨v,m,h1,h2⟩:=ahY h;exact⟨v,m,xI (cfg:=aJ) (g:=yS 3) rfl h1,h2⟩
 rcases dm h with⟨e,h⟩|⟨_,h⟩
 ·have e:f=97:=by simpa using e
  subst e;obtain⟨v,m,h1,h2⟩:=ad2 h;exact⟨v,m,xI (cfg:=aJ) (g:=xU) rfl h1,h2⟩
 cases h
def PU:FA:=(iq Tryz.prog (λ_=>aE) 166).getD ⟨0,0,[],[],.skip⟩
def abp:iq aJ.P (aJ.rxf 166) 166=aA PU:=by kernel_rfl
def aa7(l:List V):nA yx aE PU [.sl l] []=aA (.done (.fn 211 [.ref (.sl l) 0])):=by kernel_rfl
def WX(l:List V):bP aJ 166 [.sl l]=aA (.fn 211 [.ref (.sl l) 0]):=pX pZ rfl abp (aa7 l) (.refl _)
def Au:FA:=(iq Tryz.prog (λ_=>aE) 125).getD ⟨0,0,[],[],.skip⟩
def sY:iq aJ.P (aJ.rxf 125) 125=aA Au:=by kernel_rfl
def Pv(p:List V)(h:List UInt8)(n:Int)(p':List V)(h':List UInt8)(n':Int)(w:Bool):nA yx aE Au [.ifc 120 (.agg [.sl p,.str h,.int aB n]),.ifc 120 (.agg [.sl p',.str h',.int aB n']),.bool w] [] =
  cond w (aA (.done (.ifc 120 (.agg [.sl p,.str h',.int aB n'])))) (aA (.done (.ifc 120 (.agg [.sl p,.str h,.int aB n'])))):=by kernel_rfl
def Pu(p:List V)(h:List UInt8)(n:Int)(s' k':List V)(h':List UInt8)(n':Int)(w:Bool):nA yx aE Au [.ifc 120 (.agg [.sl p,.str h,.int aB n]),.ifc 150 (.agg [.sl s',.sl k',.str h',.int aB n']),.bool w] [] =
  cond w (aA (.done (.ifc 120 (.agg [.sl p,.str h',.int aB n'])))) (aA (.done (.ifc 120 (.agg [.sl p,.str h,.int aB n'])))):=by kernel_rfl
def Pt(s k:List V)(h:List UInt8)(n:Int)(p':List V)(h':List UInt8)(n':Int)(w:Bool):nA yx aE Au [.ifc 150 (.agg [.sl s,.sl k,.str h,.int aB n]),.ifc 120 (.agg [.sl p',.str h',.int aB n']),.bool w] [] =
  cond w (aA (.done (.ifc 150 (.agg [.sl s,.sl k,.str h',.int aB n'])))) (aA (.done (.ifc 150 (.agg [.sl s,.sl k,.str h,.int aB n'])))):=by kernel_rfl
def Pq(s k:List V)(h:List UInt8)(n:Int)(s' k':List V)(h':List UInt8)(n':Int)(w:Bool):nA yx aE Au [.ifc 150 (.agg [.sl s,.sl k,.str h,.int aB n]),.ifc 150 (.agg [.sl s',.sl k',.str h',.int aB n']),.bool w] [] =
  cond w (aA (.done (.ifc 150 (.agg [.sl s,.sl k,.str h',.int aB n'])))) (aA (.done (.ifc 150 (.agg [.sl s,.sl k,.str h,.int aB n'])))):=by kernel_rfl
def acg{t:aP}{cs:List V}{g:List UInt8 × Int}(h:Ea t cs=aA g):(t=120/\∃p,cs=[.sl p,.str g.1,.int aB g.2])∨(t=150/\∃s k,cs=[.sl s,.sl k,.str g.1,.int aB g.2]):=by
 unfold Ea at h;split at h
 ·rename_i e;split at h
  ·cases h;exact .inl ⟨e,_,rfl⟩
  ·cases h
 ·split at h
  ·rename_i e;split at h
   ·cases h;exact .inr ⟨e,_,_,rfl⟩
   ·cases h
  ·cases h
def acd{t:aP}{cs:List V}{w:Bool}{g:List UInt8 × Int}{r:V}(h:IS t cs w g=aA r):(t=120/\∃p h n,cs=[.sl p,.str h,.int aB n]/\r = .ifc 120 (.agg [.sl p,.str (cond w g.1 h),.int aB g.2])) ∨
  (t=150/\∃s k h n,cs=[.sl s,.sl k,.str h,.int aB n]/\r = .ifc 150 (.agg [.sl s,.sl k,.str (cond w g.1 h),.int aB g.2])):=by
 unfold IS at h;split at h
 ·rename_i e;split at h
  ·cases h;exact .inl ⟨e,_,_,_,rfl,rfl⟩
  ·cases h
 ·split at h
  ·rename_i e;split at h
   ·cases h;exact .inr ⟨e,_,_,_,_,rfl,rfl⟩
   ·cases h
  ·cases h
def ace{av:List V}{r:V}(h:IU av=aA r):bP aJ 125 av=aA r:=by
 unfold IU at h;split at h
 ·rename_i t xs t' gs w;cases hg:Ea t' gs with
  |none=>rw[hg]at h;cases h
  |some g =>
   rw[hg,bu]at h;rcases acd h with⟨rfl,p,hh,n,rfl,rfl⟩|⟨rfl,s,k,hh,n,rfl,rfl⟩<;>rcases acg hg with⟨rfl,p',rfl⟩|⟨rfl,s',k',rfl⟩
   ·cases w
    ·exact pX pZ rfl sY (Pv _ _ _ _ _ _ _) (.refl _)
    ·exact pX pZ rfl sY (Pv _ _ _ _ _ _ _) (.refl _)
   ·cases w
    ·exact pX pZ rfl sY (Pu _ _ _ _ _ _ _ _) (.refl _)
    ·exact pX pZ rfl sY (Pu _ _ _ _ _ _ _ _) (.refl _)
   ·cases w
    ·exact pX pZ rfl sY (Pt _ _ _ _ _ _ _ _) (.refl _)
    ·exact pX pZ rfl sY (Pt _ _ _ _ _ _ _ _) (.refl _)
   ·cases w
    ·exact pX pZ rfl sY (Pq _ _ _ _ _ _ _ _ _) (.refl _)
    ·exact pX pZ rfl sY (Pq _ _ _ _ _ _ _ _ _) (.refl _)
 ·cases h
def afK{f:Nat}{g:List V->Option V}{av:List V}{r:V}(h:Kc f=aA g)(h2:g av=aA r):bP aJ f av=aA r:=by
 unfold Kc at h;split at h
 ·rename_i e;cases h;unfold Nm at h2;split at h2
  ·cases h2;rw[e];exact WX _
  ·cases h2
 ·split at h
  ·rename_i e;cases h;rw[e];exact ace h2
  ·cases h
def S0:KC:={ cfg:=aJ,frs:=λ_=>aD,ik:=SZ,pv:=Kc,pvok:=λ_ _ _ _ h h2=>afK h h2 }
def afH:iL S0:=⟨pZ.ik,λ_ _ _ _ _ _ h=>nomatch h⟩
abbrev tm(r n:Int)(es:List (V × V))(b:List V):List O:=[aM 128 (aI [aL 1 0 0,aC aB r]) aE,aM 140 (aI [aL 2 0 0,dJ 3]) aE,aM 192 (aI [bl 4 0,aC aB n]) aD,dI es,aN 5 b 0]
abbrev sm(n:Int)(es:List (V × V))(b:List V):List O:=[aM 140 (aI [aL 1 0 0,dJ 2]) aE,aM 192 (aI [bl 3 0,aC aB n]) aD,dI es,aN 5 b 0]
abbrev bm(n:Int)(b:List V):List O:=[aM 192 (aI [bl 1 0,aC aB n]) aD,aN 5 b 0]
abbrev cm(f t l:List UInt8)(r n:Int)(es:List (V × V))(b:List V):List O:=[aM 111 (aI [aG f,aG t,aG l]) aE,aM 128 (aI [aL 2 0 0,aC aB r]) aE,aM 140 (aI [aL 3 0 0,dJ 4]) aE,aM 192 (aI [bl 5 0,aC aB n]) aD,dI es,aN 5 b 0]
abbrev mm(r k:Int)(f t l:List UInt8)(n:Int)(es:List (V × V))(b:List V):List O:=[aM 128 (aI [aL 3 0 0,aC aB r]) aE,aM 3 (aC aB k) aE,aM 43 (V.fn 2069 [aL 4 0 0]) aE,aM 140 (aI [aL 5 0 0,dJ 6]) aE,aM 111 (aI [aG f,aG t,aG l]) aE,aM 192 (aI [bl 7 0,aC aB n]) aD,dI es,aN 5 b 0]
abbrev lm(r:Int)(sn:List (V × V))(nx bs:List V)(n:Int)(es:List (V × V))(b:List V):List O:=[aM 128 (aI [aL 2 0 0,aC aB r]) aE,aM 144 (aI [dJ 3,bl 4 0,bl 5 0]) aE,aM 140 (aI [aL 6 0 0,dJ 7]) aE,dI sn,aN 3 nx 0,aN 9 bs 0,aM 192 (aI [bl 8 0,aC aB n]) aD,dI es,aN 5 b 0]
abbrev ln(r:Int)(i j:Nat)(sn:List (V × V))(n:Int)(es:List (V × V))(b:List V):List O:=[aM 128 (aI [aL 2 0 0,aC aB r]) aE,aM 144 (aI [dJ 3,bl i 0,bl j 0]) aE,aM 140 (aI [aL 6 0 0,dJ 7]) aE,dI sn,gU,gU,aM 192 (aI [bl 8 0,aC aB n]) aD,dI es,aN 5 b 0]
abbrev fm(sn:List (V × V))(nx bs:List V):List O:=[aM 144 (aI [dJ 1,bl 2 0,bl 3 0]) aE,dI sn,aN 3 nx 0,aN 9 bs 0]
abbrev wm(r n:Int)(es:List (V × V))(b:List V):List O:=[aM 140 (aI [aL 2 0 0,dJ 3]) aE,aM 128 (aI [aL 0 0 0,aC aB r]) aE,aM 192 (aI [bl 4 0,aC aB n]) aD,dI es,aN 5 b 0]
abbrev rm(r:Int)(l b:List V):List O:=[aM 91 (aI [aL 1 0 0,aC aB r]) aE,aM 102 (aI [aL 2 0 0,bl 3 0]) aE,aM 159 (aI [bl 4 0]) aE,aN 9 l 0,aN 4 b 0]
abbrev rs(l b:List V):List O:=[aM 102 (aI [aL 1 0 0,bl 2 0]) aE,aM 159 (aI [bl 3 0]) aE,aN 9 l 0,aN 4 b 0]
abbrev rb(b:List V):List O:=[aM 159 (aI [bl 1 0]) aE,aN 4 b 0]
end Go.Proofs.YtlphgcjepphhcaaGreat
