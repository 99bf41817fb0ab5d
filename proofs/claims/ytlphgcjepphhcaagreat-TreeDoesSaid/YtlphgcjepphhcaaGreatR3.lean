/-
  Texts that the last one stands on.
-/
import Derived.Test.YtlphgcjepphhcaaGreatR2
set_option linter.all false
noncomputable section
open Go renaming Program->bv,World->bg,Oper->dU,Value->aR,setRow_other->oL,Operand->fD,TypeId->aP,maxLen->f9,FuncId->cf,Calls->fQ,findLabel->ly
open Option renaming some->aA,getD_some->uH,none->aF,bind_some->bu,isNone_iff_eq_none->Gz,map_some->dy
open Bool renaming true->aD,and_eq_true->cT,false_or->rV,false->aE,and_false->nO,not_eq_true'->mU,or_eq_false_iff->uA,or_eq_true->oT,not_true->cN,or_false->zg,and_self->qp,true_and->fP,false_eq_true->d5,false_and->uz,not_false->lQ
open List renaming getElem?_append_left->eP,getElem?_append_right->eC,getElem?_cons_zero->MC,getD_eq_getElem?_getD->Gp,mem_flatMap->jp,mem_cons->dC,getElem?_eq_none->wM,all_eq_true->e9,mem_range->Gr,mem_zipIdx_iff_getElem?->Wk,getElem?_eq_some_iff->cE,getElem?_set->Gq,getElem?_eq_getElem->cI,mem_filter->si,getElem_of_mem->mq,mem_of_getElem?->dH,mem_append->cG,mem_filterMap->wN,flatMap_cons->lc,mem_singleton->iN,ext_getElem?->uD,eq_nil_iff_forall_not_mem->Wi,getElem?_set_self->jn,getElem?_set_ne->iM,length_set->sg,any_eq_false->zj,getElem?_map->gy,drop_eq_getElem_cons->sd,append_nil->fR,append_eq_nil_iff->wJ,map_cons->fJ,replicate->cA,length_replicate->Cb,nodup_cons->nP
open Nat renaming le_refl->cZ,sub_self->nS,add_zero->gn,lt_or_ge->nQ,add_assoc->ky,add_comm->so,le_trans->qw,lt_of_lt_of_le->qx,lt_trichotomy->zr,eq_zero_or_pos->Gv,blt_eq->oY,zero_le->kz,zero_add->eW,blt->jq,le_max_left->wS,le_max_right->wT,beq->m4
open Array renaming getElem?_eq_some_iff->gS,getElem?_setIfInBounds_ne->Wb,getElem?_eq_getElem->gG,getD_eq_getD_getElem?->lP,getElem?_setIfInBounds->Mp,replicate->Gh,mapM_eq_mapM_toList->Wc
open Go.Program renaming cellsOf->aK,underlying->bO
open Go.Lite.V renaming one->fL,cells->gV,plain->o7,flat1->js,tup->aV
open Go.Lite.O renaming dead->gU
open Go.IntKind renaming i64->aB,u8->bK
namespace Go.Lite
open Go Go.MapKept
section
variable {P:bv}{Z Z':Zs}{w w':bg}{j j':J}{mem mem':List O}
def M9:∀l acc,(kD l acc).length=acc.length+l.length/\(∀k,k < acc.length->(kD l acc)[k]? = acc[k]?) /\
  ∀m o,l[m]? = aA o->∀i,i∈(kD l acc).getD (acc.length+m) []->∃e∈o.after,Region.binds .any e=aD/\(i=e.on∨(e.on < acc.length+m/\i∈(kD l acc).getD e.on [])):=by
 intro l
 induction l with
 |nil=>intro acc;exact⟨rfl,λ_ _=>rfl,λm o h=>by simp at h⟩
 |cons o l ih =>
  intro acc;simp only[kD];obtain⟨h1,h2,h3⟩:=ih (acc++[(o.after.toList.flatMap λe=>if Region.binds .any e then e.on::acc.getD e.on [] else []).eraseDups]);refine⟨by rw[h1];simp;omega,λk hk=>by rw[h2 k (by simp;omega),eP hk],λm q hq i hi=>?_⟩;cases m with
  |zero =>
   simp at hq;subst hq;have e0:=h2 acc.length (by simp);rw[eC (cZ _)]at e0;simp only[nS,MC]at e0;rw[gn,Gp,e0]at hi;simp only[uH,List.mem_eraseDups,jp]at hi;obtain⟨e,he,hi⟩:=hi;split at hi
   ·rename_i hb;refine⟨e,by simpa using he,hb,?_⟩;simp only[dC]at hi;rcases hi with rfl|hi
    ·exact .inl rfl
    ·right
     have bf:e.on < acc.length:=by
      rcases nQ e.on acc.length with h|h
      ·exact h
      ·rw[Gp,wM h]at hi;simp at hi
     refine⟨by omega,?_⟩;rw[Gp,h2 _ (by simp;omega),eP bf];exact hi
   ·simp at hi
  |succ m =>
   have:=h3 m q (by simpa using hq) i (by simpa[ky,so 1 m]using hi);simpa[ky,so 1 m]using this
def wH(ops:Array dU)(D:Nat->Bool):Prop:=∀k o,ops[k]? = aA o->D k=aD->∀e∈o.after,Region.binds .any e=aD->D e.on=aD
def Ac{ops D}(hc:wH ops D):∀k o,ops[k]? = aA o->(∀e∈o.after,Region.binds .any e=aD->D e.on=aD)->∀i,i∈(kD ops.toList []).getD k []->D i=true:=by
 intro k
 induction k using Nat.strongRecOn with
 |_ k ih =>
  intro o ho hall i hi;have:=(M9 ops.toList []).2.2 k o (by simpa using ho) i (by simpa using hi);obtain⟨e,he,hb,h⟩:=this;rcases h with rfl|⟨bf,h⟩
  ·exact hall e he hb
  ·simp at bf;have hD:=hall e he hb;cases hoe:ops[e.on]? with
   |none =>
    have hlen:=(M9 ops.toList []).1;have:=by simpa using hoe
    rw[Gp,wM (by rw[hlen];simpa using this)]at h;simp at h
   |some oe=>exact ih e.on bf oe hoe (hc e.on oe hoe hD) i h
def Yn{ops l}(h:Ah ops l=aD):(∀k o,ops[k]? = aA o->∀e∈o.after,Region.binds .any e=aD->e.on < k) /\
  ∀i k oi ok,i < k->l[i]? = aA oi->l[k]? = aA ok->jL oi ok=aD->i∈(kD ops.toList []).getD k []:=by
 simp only[Ah,cT,e9,Gr]at h;obtain⟨⟨_,h1⟩,h2⟩:=h;refine⟨λk o ho e he hb=>?_,λi k oi ok hik hi hk hc=>?_⟩
 ·have:=h1 (o,k) (by rw[Wk];simpa using ho) e (by simpa using he);simpa[hb]using this
 ·have hkl:=(cE.1 hk).1;have:=h2 k hkl i hik;simp[hi,hk,hc,rV]at this;simpa using this
def mJ(l:List bz)(k:Nat):Option Nat:=(l[k]?).bind (·.dst)
def gR(l:List bz)(k:Nat):Bool:=match l[k]? with|some o=>dN o|none=>aE
def EL(e0:List V)(l:List bz)(vs:Nat->V)(D:Nat->Bool):Nat->List V
 |0=>e0
 |k+1=>if D k then fH (EL e0 l vs D k) (mJ l k) (vs k) else EL e0 l vs D k
def ML(l:List bz)(st:Nat->S)(D:Nat->Bool):Nat->List O
 |0=>(st 0).mem
 |k+1=>if D k && gR l k then (st (k+1)).mem else ML l st D k
def U3 e d v:(fH e d v).length=e.length:=by cases d<;>simp[fH]
def wI e0 l vs D n:(EL e0 l vs D n).length=e0.length:=by
 induction n with
 |zero=>rfl
 |succ n ih=>simp[EL];split<;>simp[U3,ih]
def yN{e d v t}:(fH e d v)[t]? = if d=aA t then (if t < e.length then aA v else aF) else e[t]?:=by
 cases d with
 |none=>simp[fH]
 |some d =>
  simp[fH,Option.some.injEq];rw[Gq]
  by_cases h:d=t
  ·subst h;rfl
  ·rw[bh h,bh h]
def rW{e0 l vs D D' t}:∀n,(∀k,k < n->mJ l k=aA t->D k=D' k)->(EL e0 l vs D n)[t]? = (EL e0 l vs D' n)[t]?:=by
 intro n
 induction n with
 |zero=>intro _;rfl
 |succ n ih =>
  intro h;have ih':=ih λk hk=>h k (by omega)
  have e:∀D,(EL e0 l vs D (n+1))[t]? = if D n=aD/\mJ l n=aA t then (if t < e0.length then aA (vs n) else aF) else (EL e0 l vs D n)[t]?:=by
   intro D;simp[EL]
   by_cases hD:D n=aD
   ·rw[bc hD,yN,wI]
    by_cases hd:mJ l n=aA t
    ·have h2:D n=aD/\mJ l n=aA t:=⟨hD,hd⟩
     rw[bc hd,bc h2]
    ·rw[bh hd,bh λh=>hd h.2]
   ·rw[bh hD,bh λh=>hD h.1]
  rw[e,e]
  by_cases hd:mJ l n=aA t
  ·rw[h n (by omega) hd,ih']
  ·rw[bh λh=>hd h.2,bh λh=>hd h.2,ih']
def Cg{l st D D'}:∀n,(∀k,k < n->gR l k=aD->D k=D' k)->ML l st D n=ML l st D' n:=by
 intro n
 induction n with
 |zero=>intro _;rfl
 |succ n ih =>
  intro h;simp[ML];rw[ih λk hk=>h k (by omega)]
  by_cases hw:gR l n=aD
  ·rw[h n (by omega) hw]
  ·simp[hw]
def BZ{e0 l vs} m:∀n,m<=n->EL e0 l vs (λk=>decide (k < m)) n=EL e0 l vs (λ_=>aD) m:=by
 intro n
 induction n with
 | zero=>intro h;have:m=0:=by omega
         subst this;rfl
 |succ n ih =>
  intro h
  by_cases hm:m=n+1
  ·subst hm
   have:∀p,p<=n+1->EL e0 l vs (λk=>decide (k < n+1)) p=EL e0 l vs (λ_=>aD) p:=by
    intro p
    induction p with
    |zero=>intro _;rfl
    |succ p ihp=>intro hp;simp only[EL];rw[ihp (by omega),bc (by simp;omega)];rfl
   exact this _ (cZ _)
  ·simp[EL];rw[bh (by simp;omega)];exact ih (by omega)
def MN{l st} m:∀n,m<=n->ML l st (λk=>decide (k < m)) n=ML l st (λ_=>aD) m:=by
 intro n
 induction n with
 | zero=>intro h;have:m=0:=by omega
         subst this;rfl
 |succ n ih =>
  intro h
  by_cases hm:m=n+1
  ·subst hm
   have:∀p,p<=n+1->ML l st (λk=>decide (k < n+1)) p=ML l st (λ_=>aD) p:=by
    intro p
    induction p with
    |zero=>intro _;rfl
    |succ p ihp=>intro hp;simp[ML];rw[ihp (by omega)];simp[show p < n+1 by omega]
   exact this _ (cZ _)
  ·simp only[ML];have:decide (n < m)=false:=by simp;omega
   simp[this,ej];exact ih (by omega)
def BK{cfg call o s s' v}(h:lq cfg call o s v s'):s'.env=fH s.env o.dst v:=by
 rcases h with⟨_,_,h⟩|⟨_,_,_,h⟩<;>exact h
def L3{cfg call o s s' v}(h:lq cfg call o s v s')(hw:dN o=aE):s'.mem=s.mem:=by
 rcases h with⟨_,h,_⟩|⟨_,_,h,_⟩
 ·exact JA hw h
 ·exact h
def oU{cfg call l vs st}(htr:∀k o,l[k]? = aA o->lq cfg call o (st k) (vs k) (st (k+1))):∀m,m<=l.length->EL (st 0).env l vs (λ_=>aD) m=(st m).env/\ML l st (λ_=>aD) m=(st m).mem:=by
 intro m
 induction m with
 |zero=>intro _;exact⟨rfl,rfl⟩
 |succ m ih =>
  intro hm;obtain⟨h1,h2⟩:=ih (by omega);have ho:l[m]? = aA (l[m]'(by omega)):=cI (by omega);have hs:=htr m _ ho;refine⟨?_,?_⟩
  ·simp[EL,dv,h1,BK hs,mJ,ho,bu]
  ·simp only[ML,h2,gR,ho];split
   ·rfl
   ·rename_i hw;exact(L3 hs (by simpa using hw)).symm
def SN{ops l}(hl:nT ops ops.toList l){k:Nat}{o}(ho:ops[k]? = aA o):∃q,l[k]? = aA q/\MS ops o q:=by
 have hk:k < l.length:=by rw[hl.1];simpa using(gS.1 ho).1
 exact⟨l[k],cI hk,hl.2 k o _ (by simpa using ho) (cI hk)⟩
def ld(o:bz):Bool:=jY o ||jO o
def rU{o}(h:dN o=aD):jY o=false:=by
 unfold dN at h;unfold jY;rw[cT]at h;have h2:=h.2;cases hop:o.op<;>first|(simp[xK];done)|(rw[hop]at h2;simp[k8,gi]at h2)
def qn{o}(h:dN o=aD):jO o=false:=by
 unfold dN at h;unfold jO;rw[cT]at h;have h2:=h.2;cases hop:o.op<;>first|(simp[rG];done)|(rw[hop]at h2;simp[k8,gi]at h2;done)|skip
 rename_i c;rw[hop]at h2;cases hc:c.callee<;>simp[rG,hc,nO];rename_i b;cases b<;>simp[k8,gi,hc]at h2 |-
def Gd{o}(h:dN o=aD):ld o=false:=by unfold ld;rw[rU h,qn h];rfl
def GX{o}(h:jY o=aD):jO o=false:=by
 unfold jY at h;unfold jO;simp[cT,mU]at h;rw[h.1.2];simp
def Rt{o}(h:jO o=aD):jY o=false:=by
 cases hb:jY o with
 |false=>rfl
 |true=>rw[GX hb]at h;cases h
def ah3{a b}(hw:dN a=aD)(hn:ld b=aE):kv a b=false:=by
 unfold ld at hn;rw[uA]at hn;unfold kv;rw[rU hw,qn hw,hn.1,hn.2];simp
def ah4{a b}(hw:dN b=aD)(hn:ld a=aE):kv a b=false:=by
 unfold ld at hn;rw[uA]at hn;unfold kv;rw[rU hw,qn hw,hn.1,hn.2];simp
def mz(l:List bz)(k m d T:Nat):Prop:=(∃ty sq,l[k]? = aA ⟨aA d,.alloc T,ty,aF,aD,sq,aE⟩)/\∃x ty sq,l[m]? = aA ⟨aA d,.box T x,ty,aF,aD,sq,aE⟩
def V1{l d}:∀i,i∈writers l d↔∃q,l[i]? = aA q/\q.dst=aA d:=by
 intro i;unfold writers;simp only[si,Gr,iQ,obi];constructor
 ·rintro⟨_,q,h1,h2⟩;exact⟨q,h1,h2⟩
 ·rintro⟨q,h1,h2⟩;exact⟨(cE.1 h1).1,q,h1,h2⟩
def QY{l}(h:Er l=aD){m dst T x}{ty:Nat}{g sq rx}(hm:l[m]? = aA ⟨dst,.box T x,ty,g,aD,sq,rx⟩) :
  ∃k d,dst=aA d/\g=aF/\rx=aE/\mz l k m d T/\k < m/\∀i q,l[i]? = aA q->q.dst=aA d->i=k∨i=m:=by
 have h:=e9.1 h m (Gr.2 (cE.1 hm).1);rw[hm]at h;cases dst with
 |none=>simp at h
 |some d =>
  simp[cT,Gz,mU]at h;obtain⟨⟨rfl,rfl⟩,h⟩:=h;have hsort:(writers l d).Pairwise (· < ·):=List.Pairwise.filter _ List.pairwise_lt_range;split at h;rotate_left
  ·cases h
  rename_i k m' hw;simp[cT,iQ]at h;obtain⟨rfl,h⟩:=h;rw[hw]at hsort;have hkm:=by simpa using hsort
  have hmem:=λi q h1 h2=>by
   have:=(V1 (l:=l) (d:=d) i).2 ⟨q,h1,h2⟩;rw[hw]at this;simpa using this
  obtain⟨qk,hqk,hdk⟩:=(V1 (l:=l) (d:=d) k).1 (by rw[hw];simp);rw[hqk]at h;obtain⟨dst',op',ty',g',bx',sq',rx'⟩:=qk;subst hdk;cases op'<;>simp only at h<;>first|(cases h)|skip
  simp[cT,iQ,Gz,mU]at h;obtain⟨⟨⟨rfl,rfl⟩,rfl⟩,rfl⟩:=h;exact⟨k,d,rfl,rfl,rfl,⟨⟨_,_,hqk⟩,_,_,_,hm⟩,hkm,hmem⟩
def mz.writers{l}(h:Er l=aD){k m d T}(hp:mz l k m d T):k < m/\∀i q,l[i]? = aA q->q.dst=aA d->i=k∨i=m:=by
 obtain⟨⟨ty,sq,hk⟩,x,ty',sq',hm⟩:=hp;obtain⟨k',d',e1,_,_,_,hkm,hu⟩:=QY h hm;cases e1;rcases hu k _ hk rfl with rfl|rfl
 ·exact⟨hkm,hu⟩
 ·rw[hk]at hm;cases hm
def iA(P:bv)(n0:Nat)(Z:Zs)(w:bg)(j:J)(mem:List O)(a:Act)(d T g:Nat):Prop :=
 ∃us,a.tmps[d]? = aA (.pointer (aA ⟨g,0,aF⟩))/\n0<=g/\w.heap[g]? = aA (.cells us T (0,0))/\us.size=(aK P) T/\¬bT Z j mem g/\∀o,¬Z g o
def zt(P:bv)(l:List bz)(n0:Nat)(Z:Zs)(w:bg)(j:J)(mem:List O)(a:Act)(D:Nat->Bool):Prop :=
 (∀k m d T,mz l k m d T->D k=aD->D m=aE->∃g,iA P n0 Z w j mem a d T g) /\
 ∀k m d T k' m' d' T' g,mz l k m d T->D k=aD->D m=aE->mz l k' m' d' T'->D k'=aD->D m'=aE->d≠d'->iA P n0 Z w j mem a d T g->¬iA P n0 Z w j mem a d' T' g
def iA.step{n0 a d T g}(h:iA P n0 Z w j mem a d T g)(st:br Z w j mem Z' w' j' mem'){a'}(ha:a'.tmps[d]? = a.tmps[d]?):iA P n0 Z' w' j' mem' a' d T g:=by
 obtain⟨us,h1,h2,h3,h4,h5,h6⟩:=h;have bf:=(gS.1 h3).1;obtain⟨k1,k2⟩:=st.keep g bf h5;exact⟨us,ha.trans h1,h2,k1.trans h3,h4,λho=>h5 (st.owned g bf ho),λo ho=>h6 o ((k2 o).1 ho)⟩
def iA.same{n0 a a' d T g g' w2 Z2 j2 mem2}(h:iA P n0 Z w j mem a d T g)(ha:a'.tmps[d]? = a.tmps[d]?){T'}(h':iA P n0 Z2 w2 j2 mem2 a' d T' g'):g'=g:=by
 obtain⟨us,h1,_⟩:=h;obtain⟨us',h1',_⟩:=h';rw[ha,h1]at h1';cases h1';rfl
def J5{a:Act}{dst}{d:Nat}(h:dst≠aA d) u:(a.put dst u).tmps[d]? = a.tmps[d]?:=by
 cases dst with
 |none=>rfl
 |some e =>
  exact Wb λh'=>h (by rw[h'])
def zt.step{l:List bz}{n0:Nat}{a a':Act}{D D':Nat->Bool}(h:zt P l n0 Z w j mem a D)(st:br Z w j mem Z' w' j' mem')
  (hD:∀k m d T,mz l k m d T->D' k=aD->D' m=aE->D k=aD/\D m=aE/\a'.tmps[d]? = a.tmps[d]?):zt P l n0 Z' w' j' mem' a' D':=by
 refine⟨λk m d T hp h1 h2=>?_,λk m d T k' m' d' T' g hp h1 h2 hp' h1' h2' hne hf hf'=>?_⟩
 ·obtain⟨e1,e2,e3⟩:=hD k m d T hp h1 h2;obtain⟨g,hg⟩:=h.1 k m d T hp e1 e2;exact⟨g,hg.step st e3⟩
 ·obtain⟨e1,e2,e3⟩:=hD k m d T hp h1 h2;obtain⟨f1,f2,f3⟩:=hD k' m' d' T' hp' h1' h2';obtain⟨g1,hg1⟩:=h.1 k m d T hp e1 e2;obtain⟨g2,hg2⟩:=h.1 k' m' d' T' hp' f1 f2;have q1:=iA.same hg1 e3 hf;have q2:=iA.same hg2 f3 hf';subst q1;subst q2;exact h.2 k m d T k' m' d' T' _ hp e1 e2 hp' f1 f2 hne hg1 hg2
def adk(s:SR P Z w j mem){g T:Nat}{us:Array aR}{v:V}{u:aR}(hg:w.heap[g]? = aA (.cells us T (0,0)))(hus:us.size=(aK P) T)(hno:¬bT Z j mem g)(hnz:∀o,¬Z g o)
  (hl:v.cells.length=(aK P) T) (ho:v.cells.all fL=aD) (hpos:0 < (aK P) T) (hv:VR Z w j v u) :
  ∃w2 j2,(Instr.storeAt T (.pointer (aA ⟨g,0,aF⟩)) u).run P w = .ok () w2/\SR P Z w2 j2 (newBox P mem T v).2/\VR Z w2 j2 (newBox P mem T v).1 (.pointer (aA ⟨g,0,aF⟩))/\bG j j2/\bU Z w Z w2 /\
   (∀g',g'≠g->w2.heap[g']? = w.heap[g']?)/\w2.heap.size=w.heap.size/\w2.os=w.os/\w2.tape=w.tape/\w2.output=w.output/\(∀g',g' < w.heap.size->bT Z j2 (newBox P mem T v).2 g'->bT Z j mem g'∨g'=g):=by
 have fin:∀(v':V) (m':List O) (j':J),qH P mem T v=(v',m')->SR P Z w j' m'->br Z w j mem Z w j' m'->bG j j'->v'.cells.length=(aK P) T->v'.cells.all fL=aD->VR Z w j' v' u ->
   ∃w2 j2,(Instr.storeAt T (.pointer (aA ⟨g,0,aF⟩)) u).run P w = .ok () w2/\SR P Z w2 j2 (newBox P mem T v).2/\VR Z w2 j2 (newBox P mem T v).1 (.pointer (aA ⟨g,0,aF⟩))/\bG j j2/\bU Z w Z w2 /\
   (∀g',g'≠g->w2.heap[g']? = w.heap[g']?)/\w2.heap.size=w.heap.size/\w2.os=w.os/\w2.tape=w.tape/\w2.output=w.output/\(∀g',g' < w.heap.size->bT Z j2 (newBox P mem T v).2 g'->bT Z j mem g'∨g'=g):=by
  intro v' m' j' e s' stp je hl' ho' hv';obtain⟨hcs,hcl⟩:=hv'.cellsOf (pT ho')
  have hu1:∀c∈u.cells.toList,c.oneCell'=true:=by
   intro c hcm;obtain⟨i,hi,rfl⟩:=mq hcm;have hi':i < v'.cells.length:=by simp at hi;omega
   obtain⟨c',hc',hvr⟩:=hcl i _ (cI hi')
   have:u.cells.toList[i]=c':=by
    have:u.cells[i]? = aA u.cells.toList[i]:=by simp at hi |-
    rw[this]at hc';exact Option.some.inj hc'
   rw[this];exact hvr.oneCell (pT ho' _ (dH (cI hi')))
  have hul:u.cells.toList.length=(aK P) T:=by simp;omega
  obtain⟨q1,q2,q3⟩:=BM (w:=w) (p:=0) (vals:=u.cells.toList) hg (by omega);obtain⟨w2,hw2⟩:∃w2,w2=w.setRow g (us.toList.take 0++u.cells.toList++us.toList.drop (0+u.cells.toList.length)).toArray:=⟨_,rfl⟩
  have hot:∀k,k≠g->w2.heap[k]? = w.heap[k]?:=λk hk=>by rw[hw2];exact oL w g k _ hk
  have hrun:=Kw (P:=P) (p:=0) (t:=T) (u:=u) hg (by simpa using hul) hpos hu1 (by omega);rw[<-hw2]at q1 q3 hrun;have hz:bU Z w Z w2:=.of λg' o hz=>⟨hz,ji (hot g' λe=>hnz o (e ▸ hz)) o⟩
  have bf:g < w.heap.size:=(gS.1 hg).1;have hno':¬bT Z j' m' g:=λho=>hno (stp.owned g bf ho)
  have s2:SR P Z w2 j' m':=s'.world hz (λg' hg'=>⟨hot g' λe=>hno' (e ▸ hg'),λ_=>Iff.rfl⟩) (λg' o ho=>by rw[hw2];simpa using s'.zin g' o ho)
  have s3:=s2.add (h:=⟨.pointer (aA ⟨g,0,aF⟩),(aK P) T⟩) (o:=.box T v' aE) (λg' hg'=>by simp[cO.blk]at hg';subst hg';exact hno')
   ⟨g,_,gF _ _ _,q1,hl',by rw[q2];exact hus,λi y hy=>by
    obtain⟨c,hc,hvr⟩:=hcl i y hy;have hi:i < v'.cells.length:=(cE.1 hy).1;refine⟨pT ho' y (dH hy),c,?_,hvr.mono hz (s'.ext _)⟩;rw[q3,bc (by omega)];simpa using hc,λo ho=>(hnz o ho).elim,λh=>by cases h⟩
  refine⟨w2,fh j' m'.length ⟨.pointer (aA ⟨g,0,aF⟩),(aK P) T⟩,hrun,?_,?_,je.trans (s'.ext _),hz,hot,by rw[hw2];simp,by rw[hw2];rfl,by rw[hw2];rfl,by rw[hw2];rfl,λg' hg' ho=>?_⟩
  ·unfold newBox;rw[e];exact s3
  ·unfold newBox;rw[e];have:=VR.ptr (Z:=Z) (w:=w2) (j:=fh j' m'.length ⟨.pointer (aA ⟨g,0,aF⟩),(aK P) T⟩) (id:=m'.length) (k:=0) (off:=0) (g:=g) (b:=0) (gF _ _ _) rfl;simpa using this
  ·unfold newBox at ho;rw[e]at ho;rcases bT.add ho with ho|ho
   ·exact .inl (stp.owned g' hg' ho)
   ·simp[cO.blk]at ho;exact .inr ho.symm
 have ug:(∀cs,v≠.agg cs)->∃w2 j2,(Instr.storeAt T (.pointer (aA ⟨g,0,aF⟩)) u).run P w = .ok () w2/\SR P Z w2 j2 (newBox P mem T v).2/\VR Z w2 j2 (newBox P mem T v).1 (.pointer (aA ⟨g,0,aF⟩))/\bG j j2/\bU Z w Z w2 /\
   (∀g',g'≠g->w2.heap[g']? = w.heap[g']?)/\w2.heap.size=w.heap.size/\w2.os=w.os/\w2.tape=w.tape/\w2.output=w.output/\(∀g',g' < w.heap.size->bT Z j2 (newBox P mem T v).2 g'->bT Z j mem g'∨g'=g):=by
  intro hna
  obtain⟨j',a1,a2,a3,a4,a5,a6⟩:=C3 (P:=P) (pi P T) [v] [u] mem j s rfl (λi x z hx hz=>by
   cases i with
   |zero=>simp at hx hz;subst hx hz;exact hv
   |succ i=>simp at hx)
  have hc1:v.cells=[v]:=by cases v<;>first|rfl|exact(hna _ rfl).elim
  have h1:v.one=true:=by rw[hc1]at ho;simpa using ho
  match hb:boxed P (pi P T) [v] mem,a1,a2,a4,a5,a6 with
  |([x],m),a1,a2,a4,a5,a6 =>
   have hx1:x.one=true:=a6 (λy hy=>by simp at hy;subst hy;exact h1) x (by simp);have hxc:=lW hx1;refine fin x m j' ?_ a1 a2 a3 (by rw[hxc];rw[hc1]at hl;exact hl) (by rw[hxc];simp[hx1]) (a5 0 x u rfl rfl);unfold qH;cases v<;>first|exact(hna _ rfl).elim|(simp only[hb])
  |([],m),a1,a2,a4,a5,a6=>simp at a4
  |(_::_::_,m),a1,a2,a4,a5,a6=>simp at a4
 cases v with
 |agg cs =>
  cases hv with
  |agg hl2 hh =>
   rename_i us;obtain⟨j',a1,a2,a3,a4,a5,a6⟩:=C3 (P:=P) (pi P T) cs us mem j s hl2 hh;refine fin _ _ j' rfl a1 a2 a3 ?_ ?_ (.agg (by rw[a4];exact hl2) a5)
   ·simp only[gV]at hl |-
    rw[a4];exact hl
   ·simp only[gV,e9]at ho |-
    exact a6 ho
 |_=>exact ug (by intro cs h;cases h)
def aie{cfg}:∀{l},FZ cfg l=aD->∀i o,l[i]? = aA o->(jY o ||kQ cfg o)=aD->∀t∈jC o,∀(k:Nat) q,i<=k->l[k]? = aA q->q.dst≠aA t:=by
 intro l
 induction l with
 |nil=>intro _ i o h;simp at h
 |cons p l ih =>
  intro h i o hi ho t ht k q hik hk;simp only[FZ,cT,oT]at h;cases i with
  |zero =>
   simp at hi;subst hi;have h1:=h.1.resolve_left (by rw[ho];simp);have h2:=e9.1 h1 t ht;simp[cT,bne_iff_ne,e9]at h2;cases k with
   |zero=>simp at hk;subst hk;exact h2.1
   |succ k=>exact h2.2 q (dH (by simpa using hk))
  |succ i =>
   cases k with
   |zero=>omega
   |succ k=>exact ih h.2 i o (by simpa using hi) ho t ht k q (by omega) (by simpa using hk)
def PM{cfg call}{l:List bz}{vs:Nat->V}{st:Nat->S}(htr:∀k o,l[k]? = aA o->lq cfg call o (st k) (vs k) (st (k+1))){t}:∀d i,i+d=l.length->(∀k q,i<=k->l[k]? = aA q->q.dst≠aA t)->(st l.length).env[t]? = (st i).env[t]?:=by
 intro d
 induction d with
 |zero=>intro i h _;rw[gn]at h;rw[h]
 |succ d ih =>
  intro i h hno;rw[ih (i+1) (by omega) λk q hk=>hno k q (by omega)];have ho:l[i]? = aA (l[i]'(by omega)):=cI (by omega);rw[BK (htr i _ ho),yN,bh (hno i _ (cZ _) ho)]
def I1{e1 e2 x}(h:∀t,x = .tmp t->e1[t]? = e2[t]?):nE e1 x=nE e2 x:=by
 unfold nE;rw[u6 h]
def abK{cfg:cB}{call:dw}{l:List bz}{vs:Nat->V}{st:Nat->S}{N:Nat}(htr:∀(k:Nat) (o:bz),l[k]? = aA o->lq cfg call o (st k) (vs k) (st (k+1)))(hN:l.length=N)(hchk:s6 cfg l (st N).env=aD)
  {i n:Nat} {q ok:bz} (hq:l[i]? = aA q) (hb:jY q=aD) (bC:l[n]? = aA ok) (hfr:kQ cfg ok=aD):∀id,id∈wb (st i).env q->id∉nC (st n).env ok:=by
 subst hN;unfold s6 at hchk;have hany:l.any (kQ cfg)=true:=List.any_eq_true.2 ⟨ok,dH bC,hfr⟩;rw[hany]at hchk;simp only[cN,rV,cT]at hchk;obtain⟨_,hssa,hall⟩:=hchk
 have late:∀i o,l[i]? = aA o->(jY o ||kQ cfg o)=aD->∀t∈jC o,(st l.length).env[t]? = (st i).env[t]?:=λi o hi ho t ht =>
  PM htr (l.length - i) i (by have:=(cE.1 hi).1;omega) (aie hssa i o hi ho t ht)
 have looks:∀(o:bz) (x:fD),x∈o.op.operands->∀t,x = .tmp t->t∈jC o:=λo x hx t ht=>by
  simp only[jC,cG,wN];exact .inl ⟨x,by simpa using hx,by rw[ht]⟩
 have e1:wb (st l.length).env q=wb (st i).env q:=by
  unfold wb;cases hop:q.op<;>simp only;exact I1 λt ht=>late i q hq (by rw[hb];rfl) t (looks q _ (by rw[hop];simp[Op.operands]) t ht)
 have e2:nC (st l.length).env ok=nC (st n).env ok:=by
  unfold nC;cases hop:ok.op<;>simp only
  case store t ad x=>exact I1 λt ht=>late n ok bC (by rw[hfr];simp) t (looks ok _ (by rw[hop];simp[Op.operands]) t ht)
  rename_i c
  have:∀(as0:List fD),(∀x∈as0,x∈ok.op.operands)->as0.flatMap (nE (st l.length).env)=as0.flatMap (nE (st n).env):=by
   intro as0
   induction as0 with
   |nil=>intro _;rfl
   |cons x as0 ih =>
    intro h;rw[lc,lc,ih λy hy=>h y (by simp[hy]),I1 λt ht=>late n ok bC (by rw[hfr];simp) t (looks ok x (h x (by simp)) t ht)]
  refine this _ λx hx=>?_
  rw[hop];simp only[Op.operands,Call.operands];cases c.callee<;>simp<;>first|exact .inr (by simpa using hx)|simpa using hx
 intro id hid;rw[<-e1]at hid;rw[<-e2];have a1:=e9.1 hall ok (dH bC);rw[hfr,cN,rV]at a1;have a2:=e9.1 a1 q (dH hq);rw[hb,cN,rV]at a2;have a3:=e9.1 a2 id hid;simpa using a3
def ai0{v u}(s:SR P Z w j mem)(h:VR Z w j v u):∀id∈iw v,id < mem.length:=by
 have key:∀id∈iw v,j id≠none:=by
  cases h<;>intro id hi<;>simp[iw,iN]at hi<;>first|(cases hi;done)|(done)|(simp_all)
 intro id hi;rcases nQ id mem.length with h|h
 ·exact h
 ·exact(key id hi (s.out id h)).elim
def KI(ids:List Nat)(m m':List O):Prop:=m.length<=m'.length/\∀id∈ids,id < m.length->∀q,gP q=aD->q≠.dead->(m'[id]? = aA q↔m[id]? = aA q)
def KI.refl ids m:KI ids m m:=⟨cZ _,λ_ _ _ _ _ _=>Iff.rfl⟩
def KI.trans{ids a b c}(h:KI ids a b)(h':KI ids b c):KI ids a c :=
 ⟨qw h.1 h'.1,λid hi hl q h1 h2=>(h'.2 id hi (qx hl h.1) q h1 h2).trans (h.2 id hi hl q h1 h2)⟩
def aeZ{cfg call}:∀l s s' fs fs',jF cfg call l s fs=aA (s',fs') ->
  ∃(vs:Nat->V) (st:Nat->S),st 0=s/\st l.length=s'/\(∀k o,l[k]? = aA o->lq cfg call o (st k) (vs k) (st (k+1)))/\(∀x∈fs,x∈fs') /\
   ∀k o,l[k]? = aA o->im o=aD->nv cfg o=aE->fI (st k).env o.guard=aA aD->∀x∈nu o (st k).env (st k).mem,x∈fs':=by
 intro l
 induction l with
 |nil=>intro s s' fs fs' h;obtain⟨rfl,rfl⟩:=h;exact⟨λ_=>.junk,λ_=>s,rfl,rfl,λk o h=>by simp at h,λ_ h=>h,λk o h=>by simp at h⟩
 |cons o l ih =>
  intro s s' fs fs' h;simp only[jF]at h
  have fin:∀v s1 f1,lq cfg call o s v s1->(∀x∈fs,x∈f1)->(im o=aD->nv cfg o=aE->fI s.env o.guard=aA aD->∀x∈nu o s.env s.mem,x∈f1)->jF cfg call l s1 f1=aA (s',fs') ->
    ∃(vs:Nat->V) (st:Nat->S),st 0=s/\st (o::l).length=s'/\(∀k q,(o::l)[k]? = aA q->lq cfg call q (st k) (vs k) (st (k+1)))/\(∀x∈fs,x∈fs') /\
     ∀k q,(o::l)[k]? = aA q->im q=aD->nv cfg q=aE->fI (st k).env q.guard=aA aD->∀x∈nu q (st k).env (st k).mem,x∈fs':=by
   intro v s1 f1 h1 h2 h3 h4;obtain⟨vs,st,e0,e1,e2,e3,e4⟩:=ih s1 s' f1 fs' h4;refine⟨λk=>match k with|0=>v|k+1=>vs k,λk=>match k with|0=>s|k+1=>st k,rfl,e1,λk q hq=>?_,λx hx=>e3 x (h2 x hx),λk q hq hc hr hw x hx=>?_⟩
   ·cases k with
    |zero=>simp at hq;subst hq;simpa[e0]using h1
    |succ k=>exact e2 k q (by simpa using hq)
   ·cases k with
    |zero=>simp at hq;subst hq;exact e3 x (h3 hc hr hw x hx)
    |succ k=>exact e4 k q (by simpa using hq) hc hr hw x hx
  cases hw:fI s.env o.guard with
  |none=>simp[hw]at h
  |some b =>
   cases b
   ·simp[hw]at h;exact fin (.tup []) ⟨fH s.env o.dst (.tup []),s.mem⟩ fs (.inr ⟨hw,rfl,rfl,rfl⟩) (λ_ h=>h) (λ_ _ h=>by rw[hw]at h;cases h) h
   ·simp only[hw,dv]at h;cases ho:eB cfg call (fc aD o) o s.env s.mem with
    |none=>simp[ho]at h
    |some r =>
     obtain⟨v,m⟩:=r;simp only[ho]at h;refine fin v _ _ (.inl ⟨hw,ho,rfl⟩) (λx hx=>?_) (λhc hr _ x hx=>?_) h
     ·split
      ·exact cG.2 (.inr hx)
      ·exact hx
     ·rw[bc (by rw[hc,hr];rfl)];exact cG.2 (.inl hx)
def aid:∀{l},F0 l=aD->∀i o,l[i]? = aA o->jO o=aD->∀t∈jC o,∀(k:Nat) q,i<=k->l[k]? = aA q->q.dst≠aA t:=by
 intro l
 induction l with
 |nil=>intro _ i o h;simp at h
 |cons p l ih =>
  intro h i o hi ho t ht k q hik hk;simp only[F0,cT,oT]at h;cases i with
  |zero =>
   simp at hi;subst hi;have h1:=h.1.resolve_left (by rw[ho];simp);have h2:=e9.1 h1 t ht;simp[cT,bne_iff_ne,e9]at h2;cases k with
   |zero=>simp at hk;subst hk;exact h2.1
   |succ k=>exact h2.2 q (dH (by simpa using hk))
  |succ i =>
   cases k with
   |zero=>omega
   |succ k=>exact ih h.2 i o (by simpa using hi) ho t ht k q (by omega) (by simpa using hk)
def Rr{e1 e2 o}(h:∀x∈o.op.operands,bB e1 x=bB e2 x):mc e1 o=mc e2 o:=by
 have one:∀x∈o.op.operands,lE e1 x=lE e2 x:=λx hx=>by unfold lE;rw[h x hx]
 unfold mc;cases hop:o.op<;>simp
 case load t a=>exact one _ (by rw[hop];simp[Op.operands])
 case indexAddr t x i=>exact one _ (by rw[hop];simp[Op.operands])
 case slice t x a b c=>exact one _ (by rw[hop];simp[Op.operands])
 case call c =>
  have:∀(as0:List fD),(∀x∈as0,x∈o.op.operands)->as0.flatMap (lE e1)=as0.flatMap (lE e2):=by
   intro as0
   induction as0 with
   |nil=>intro _;rfl
   |cons x as0 ih =>
    intro h;rw[lc,lc,ih λy hy=>h y (by simp[hy]),one x (h x (by simp))]
  refine this _ λx hx=>?_
  rw[hop];simp[Op.operands,Call.operands];cases c.callee<;>simp<;>first|exact .inr (by simpa using hx)|simpa using hx
def Gi(cfg:cB)(l:List bz)(st:Nat->S):Prop :=
 ∀i q n ok,l[i]? = aA q->jO q=aD->l[n]? = aA ok->im ok=aD->Db cfg ok=aD/\(nv cfg ok=aD∨(fI (st n).env ok.guard=aA aD->∀id∈mc (st i).env q,id∉nu ok (st n).env (st n).mem))
def XU{cfg call l}{vs:Nat->V}{st fs}(htr:∀k o,l[k]? = aA o->lq cfg call o (st k) (vs k) (st (k+1)))(hc:Dc cfg l (st l.length).env fs=aD)
  (hf:∀k o,l[k]? = aA o->im o=aD->nv cfg o=aE->fI (st k).env o.guard=aA aD->∀x∈nu o (st k).env (st k).mem,x∈fs):Gi cfg l st:=by
 intro i q n ok hq hl bC hcp;simp only[Dc,cT]at hc;obtain⟨⟨hssa,hcan⟩,hall⟩:=hc;have a1:=e9.1 hcan ok (dH bC);rw[hcp,cN]at a1;refine⟨a1,?_⟩;cases hro:nv cfg ok with
 |true=>exact .inl rfl
 |false =>
 refine .inr λhw id hid hin=>?_
 have e1:=Rr λx hx=>u6 λt ht =>
  PM htr (l.length - i) i (by have:=(cE.1 hq).1;omega) (aid hssa i q hq hl t (by
   simp[jC,cG,wN];exact .inl ⟨x,by simpa using hx,by rw[ht]⟩))
 have a2:=e9.1 hall q (dH hq);rw[hl,cN,e1]at a2;have a3:=e9.1 a2 id hid;have a4:=hf n ok bC hcp hro hw id hin;rw[List.contains_iff_mem.2 a4]at a3;cases a3
def WJ{r:Option Nat}{n:Nat}{cfg:cB}{call:dw}(hp:iO cfg.P call.pc)(hi:gH cfg.P call.ic){ops:Array dU}{Q:Exit->Act->bg->Prop}{l:List bz}{vs:Nat->V}{st:Nat->S}{a0:Act}
  (hl:nT ops ops.toList l) (hd:Ah ops l=aD) (hchk:s6 cfg l (st ops.size).env=aD) (hcp:Gi cfg l st) (htr:∀(k:Nat) (o:bz),l[k]? = aA o->lq cfg call o (st k) (vs k) (st (k+1)))
  (hQ:∀a' w',ze cfg.P Z w j (st 0).mem (st ops.size) a' w'->gT l a0 a'->Q .normal a' w') :
  ∀(fuel:Nat) (listed:Array Bool) (a:Act) (w1:bg),listed.size=ops.size->listed.toList.count aE<=fuel->wH ops (λk=>listed.getD k aE) ->
   (∃Z1 j1,St Z1 w1 j1 (EL (st 0).env l vs (λk=>listed.getD k aE) ops.size) a/\SR cfg.P Z1 w1 j1 (ML l st (λk=>listed.getD k aE) ops.size)/\br Z w j (st 0).mem Z1 w1 j1 (ML l st (λk=>listed.getD k aE) ops.size)/\bG j j1/\zt cfg.P l w.heap.size Z1 w1 j1 (ML l st (λk=>listed.getD k aE) ops.size) a λk=>listed.getD k aE)->gT l a0 a ->
   wpAnyIn (FR r) n cfg.P .any ops Q fuel listed a w1:=by
 have hll:l.length=ops.size:=by have:=hl.1;simpa using this
 obtain⟨hbind,hclash⟩:=Yn hd
 have done:∀(listed:Array Bool) (a:Act) (w1:bg),listed.size=ops.size->(∀k,k < ops.size->listed.getD k aE=aD) ->
   (∃Z1 j1,St Z1 w1 j1 (EL (st 0).env l vs (λk=>listed.getD k aE) ops.size) a/\SR cfg.P Z1 w1 j1 (ML l st (λk=>listed.getD k aE) ops.size)/\br Z w j (st 0).mem Z1 w1 j1 (ML l st (λk=>listed.getD k aE) ops.size)/\bG j j1/\zt cfg.P l w.heap.size Z1 w1 j1 (ML l st (λk=>listed.getD k aE) ops.size) a λk=>listed.getD k aE)->gT l a0 a->Q .normal a w1:=by
  intro listed a w1 hsz hall ⟨Z1,j1,h1,h2,h3,h4,_⟩ hkp;obtain⟨e1,e2⟩:=oU htr ops.size (by omega)
  have eE:EL (st 0).env l vs (λk=>listed.getD k aE) ops.size=(st ops.size).env:=by
   rw[<-e1];apply uD;intro t;exact rW _ λk hk _=>hall k hk
  have eM:ML l st (λk=>listed.getD k aE) ops.size=(st ops.size).mem:=by
   rw[<-e2];exact Cg _ λk hk _=>hall k hk
  rw[eE]at h1;rw[eM]at h2 h3;exact hQ a w1 ⟨Z1,j1,h1,h2,h3,h4⟩ hkp
 have notdone:∀(listed:Array Bool),listed.size=ops.size->Region.ready .any ops listed=[]->∀k,k < ops.size->listed.getD k aE=true:=by
  intro listed hsz hr k
  induction k using Nat.strongRecOn with
  |_ k ih =>
   intro hk
   by_cases h:listed.getD k aE=aD
   ·exact h
   ·exfalso;have bC:ops[k]? = aA ops[k]:=gG hk
    have:k∈Region.ready .any ops listed:=by
     rw[mem_ready];refine⟨?_,ops[k],bC,λe he hb=>?_⟩
     ·have bf:k < listed.size:=by omega
      simp[lP,gG bf]at h |-
      exact h
     ·have h2:=hbind k _ bC e he hb;exact ih e.on h2 (by omega)
    rw[hr]at this;simp at this
 intro fuel
 induction fuel with
 |zero =>
  intro listed a w1 hsz hcnt hcl hinv hkp
  have hall:∀k,k < ops.size->listed.getD k aE=true:=by
   intro k hk;have bf:k < listed.size:=by omega
   have h0:listed.toList.count aE=0:=by omega
   have:=List.count_eq_zero.1 h0;have h2:listed[k]∈listed.toList:=by simp
   cases hb:listed[k]with
   |true=>simp[lP,gG bf,hb]
   |false=>rw[hb]at h2;exact(this h2).elim
  refine⟨?_,done listed a w1 hsz hall hinv hkp⟩;apply Wi.2;intro i hi';rw[mem_ready]at hi';obtain⟨h1,o,ho,_⟩:=hi';have bf:i < ops.size:=(gS.1 ho).1;have h2:=hall i bf;have hlt':i < listed.size:=by omega
  simp[lP,gG hlt']at h1 h2;rw[h1]at h2;cases h2
 |succ fuel ih =>
  intro listed a w1 hsz hcnt hcl hinv hkp;refine⟨λhr=>done listed a w1 hsz (notdone listed hsz hr) hinv hkp,λi hir=>?_⟩;have hir':=hir;rw[mem_ready]at hir';obtain⟨hnl,o,ho,hall⟩:=hir';have hin:i < ops.size:=(gS.1 ho).1;have bf:i < listed.size:=by omega
  have hnl':listed[i]=false:=by simpa[lP,gG bf]using hnl
  obtain⟨q,hq,hpq⟩:=SN hl ho;have hstep:=htr i _ hq;have hanc:∀k,k∈(kD ops.toList []).getD i []->listed.getD k aE=true:=Ac hcl i o ho hall;have before:∀k ok,k < i->l[k]? = aA ok->jL ok q=aD->listed.getD k aE=true:=λk ok hki hk hc=>hanc k (hclash k i ok _ hki hk hq hc)
  have oper:∀k q,l[k]? = aA q->∃ok,ops[k]? = aA ok:=λk q hk=>by
   have:k < ops.size:=by rw[<-hll];exact(cE.1 hk).1
   exact⟨ops[k],gG this⟩
  have behind:∀k ok,i < k->l[k]? = aA ok->jL q ok=aD->listed.getD k aE=false:=by
   intro k ok hik hk hc;cases hb:listed.getD k aE with
   |false=>rfl
   |true =>
    obtain⟨ok',hok'⟩:=oper k ok hk;have:=Ac hcl k ok' hok' (λe he hbb=>hcl k ok' hok' hb e he hbb) i (hclash i k _ ok hik hq hk hc);simp[lP,gG bf,hnl']at this
  have dst_of:∀k t,mJ l k=aA t->∃ok,l[k]? = aA ok/\ok.dst=aA t:=by
   intro k t hk;unfold mJ at hk;cases hlk:l[k]? with
   |none=>simp[hlk]at hk
   |some qk =>
    simp[hlk]at hk;exact⟨qk,rfl,hk⟩
  have wr_of:∀k,gR l k=aD->∃ok,l[k]? = aA ok/\dN ok=true:=by
   intro k hk;unfold gR at hk;cases hlk:l[k]? with
   |none=>simp[hlk]at hk
   |some qk =>
    simp only[hlk]at hk;exact⟨qk,rfl,hk⟩
  have sp1:∀ok:bz,dN ok=aD->ld q=aE->kv ok q=false:=λok h hn=>ah3 h hn
  have sp2:∀ok:bz,dN ok=aD->ld q=aE->kv q ok=false:=λok h hn=>ah4 h hn
  have ldw:dN q=aD->ld q=false:=λh=>Gd h
  have looks:∀t,t∈jC q->(EL (st 0).env l vs (λk=>listed.getD k aE) ops.size)[t]? = (st i).env[t]?:=by
   intro t ht;have ht':=ht;rw[<-(oU htr i (by omega)).1,<-BZ i ops.size (by omega)];refine rW _ λk hk hdk=>?_
   obtain⟨ok,bC,hdo⟩:=dst_of k t hdk;rcases zr k i with h|h|h
   ·rw[before k ok h bC (by simp only[jL,lZ,hdo];simp[ht'])];simp[h]
   ·subst h;simp[lP,gG bf,hnl']
   ·rw[behind k ok h bC (by simp only[jL,lZ,hdo];simp[ht'])];simp;omega
  have self:∀k,k=i->listed.getD k aE=decide (k < i):=by
   intro k h;subst h;simp[lP,gG bf,hnl']
  have memEq:(p8 q=aD∨dN q=aD)->ld q=aE->ML l st (λk=>listed.getD k aE) ops.size=(st i).mem:=by
   intro hrw hnl0;rw[<-(oU htr i (by omega)).2,<-MN i ops.size (by omega)];refine Cg _ λk hk hwk=>?_
   obtain⟨ok,bC,hwo⟩:=wr_of k hwk;rcases zr k i with h|h|h
   ·rw[before k ok h bC (by simp only[jL,pL,hwo,sp1 ok hwo hnl0];rcases hrw with h|h<;>simp[h])];simp[h]
   ·exact self k h
   ·rw[behind k ok h bC (by simp only[jL,pL,hwo,sp2 ok hwo hnl0];rcases hrw with h|h<;>simp[h])];simp;omega
  have hnew:∀k,(listed.setIfInBounds i aD).getD k aE=(listed.getD k aE ||decide (k=i)):=by
   intro k;simp only[lP,Mp]
   by_cases h:i=k
   ·subst h;simp[bf]
   ·have:¬k=i:=λe=>h e.symm
    simp[h,this]
  have envEq:EL (st 0).env l vs (λk=>(listed.setIfInBounds i aD).getD k aE) ops.size=fH (EL (st 0).env l vs (λk=>listed.getD k aE) ops.size) q.dst (vs i):=by
   apply uD;intro t
   by_cases hdt:q.dst=aA t
   ·have e1:(EL (st 0).env l vs (λk=>(listed.setIfInBounds i aD).getD k aE) ops.size)[t]? = (EL (st 0).env l vs (λk=>decide (k < i+1)) ops.size)[t]?:=by
     refine rW _ λk hk hdk=>?_
     obtain⟨ok,bC,hdo⟩:=dst_of k t hdk;rw[hnew];rcases zr k i with h|h|h
     ·rw[before k ok h bC (by simp only[jL,lZ,hdo];simp[hdt])];simp;omega
     ·subst h;simp
     ·rw[behind k ok h bC (by simp only[jL,lZ,hdt];simp[hdo])];have:¬k=i:=by omega
      simp[this];omega
    rw[e1,BZ (i+1) ops.size (by omega),(oU htr (i+1) (by omega)).1,BK hstep];simp only[hdt,yN,dv,wI];rw[<-(oU htr i (by omega)).1,wI]
   ·rw[yN,bh hdt];refine rW _ λk hk hdk=>?_
    rw[hnew]
    have:¬k=i:=by
     intro e;subst e;simp[mJ,hq]at hdk;exact hdt hdk
    simp[this]
  have cnt:(listed.setIfInBounds i aD).toList.count aE<=fuel:=by
   have e:(listed.setIfInBounds i aD).toList=listed.toList.set i true:=by simp
   rw[e,List.count_set]
   ·have h1:listed.toList[i]'(by simpa using bf)=false:=by simpa using hnl'
    rw[h1];have h2:((true:Bool)==aE)=false:=rfl;rw[h2,bc (gg aE),bh (by simp)];have:0 < listed.toList.count false:=List.count_pos_iff.2 (by rw[<-hnl'];simp);omega
   ·simpa using bf
  have cl:wH ops (λk=>(listed.setIfInBounds i aD).getD k aE):=by
   intro k ok bC hD e he hb;simp only[hnew]at hD |-
   by_cases h:k=i
   ·subst h;rw[ho]at bC;cases bC;simp[hall e he hb]
   ·have h2:decide (k=i)=false:=by simp[h]
    rw[h2,zg]at hD;have h3:listed.getD e.on aE=true:=hcl k ok bC hD e he hb;rw[h3,Bool.true_or]
  have memNew:dN q=aD->ML l st (λk=>(listed.setIfInBounds i aD).getD k aE) ops.size=(st (i+1)).mem:=by
   intro hw;rw[<-(oU htr (i+1) (by omega)).2,<-MN (i+1) ops.size (by omega)];refine Cg _ λk hk hwk=>?_
   obtain⟨ok,bC,hwo⟩:=wr_of k hwk;rw[hnew];rcases zr k i with h|h|h
   ·rw[before k ok h bC (by simp[jL,pL,hwo,hw,sp1 ok hwo (ldw hw)])];simp;omega
   ·subst h;simp
   ·rw[behind k ok h bC (by simp[jL,pL,hwo,hw,sp2 ok hwo (ldw hw)])];have:¬k=i:=by omega
    simp[this];omega
  have memOld:dN q=aE->ML l st (λk=>(listed.setIfInBounds i aD).getD k aE) ops.size=ML l st (λk=>listed.getD k aE) ops.size:=by
   intro hw;refine Cg _ λk hk hwk=>?_
   rw[hnew]
   have:¬k=i:=by
    intro e;subst e;simp[gR,hq,hw]at hwk
   simp[this]
  obtain⟨Z1,j1,h1,h2,h3,h4,hpend⟩:=hinv;have hsz':(listed.setIfInBounds i aD).size=ops.size:=by simpa using hsz
  unfold wpOpIn;simp only[ho]
  have hwe:fI (EL (st 0).env l vs (λk=>listed.getD k aE) ops.size) q.guard=fI (st i).env q.guard:=by
   cases hqg:q.guard with
   |none=>rfl
   |some tw =>
    simp only[fI];rw[looks tw.1 (by simp[jC,hqg])]
  have first:∀k k' ok ok',k < k'->l[k]? = aA ok->l[k']? = aA ok'->dN ok=aD->dN ok'=aD->listed.getD k' aE=aD->listed.getD k aE=true:=by
   intro k k' ok ok' hkk hk hk' hwo hwo' hd';have hin':=hclash k k' ok ok' hkk hk hk' (by simp[jL,pL,kv,hwo,hwo',rU hwo,rU hwo',qn hwo,qn hwo']);obtain⟨o',ho'⟩:=oper k' ok' hk';exact Ac hcl k' o' ho' (λe he hbb=>hcl k' o' ho' hd' e he hbb) k hin'
  obtain⟨am,hale,haML,halo,hahi⟩:∃a,a<=ops.size/\ML l st (λk=>listed.getD k aE) ops.size=(st a).mem/\(∀k ok,k < a->l[k]? = aA ok->dN ok=aD->listed.getD k aE=aD) /\
    (∀k ok,a<=k->l[k]? = aA ok->dN ok=aD->listed.getD k aE=aE):=by
   have gen:∀n,n<=ops.size->∃a,a<=n/\ML l st (λk=>listed.getD k aE) n=(st a).mem/\(∀k ok,k < a->l[k]? = aA ok->dN ok=aD->listed.getD k aE=aD) /\
     (∀k ok,a<=k->k < n->l[k]? = aA ok->dN ok=aD->listed.getD k aE=aE):=by
    intro n
    induction n with
    |zero=>intro _;exact⟨0,cZ _,rfl,λk ok hk=>by omega,λk ok h1 h2=>by omega⟩
    |succ n ihn =>
     intro hn;obtain⟨a,b1,b2,b3,b4⟩:=ihn (by omega)
     by_cases hdn:listed.getD n aE=aD/\gR l n=aD
     ·obtain⟨okn,hokn,hwn⟩:=wr_of n hdn.2;refine⟨n+1,cZ _,by simp only[ML,hdn.1,hdn.2,qp,dv],λk ok hk bC hwo=>?_,λk ok h1 h2=>by omega⟩;rcases nQ k n with q|q
      ·exact first k n ok okn q bC hokn hwo hwn hdn.1
      ·have:k=n:=by omega
       subst this;exact hdn.1
     ·refine⟨a,by omega,?_,b3,λk ok h1 h2 bC hwo=>?_⟩
      ·simp only[ML];rw[bh (by simpa[cT]using hdn)];exact b2
      ·rcases nQ k n with q|q
       ·exact b4 k ok h1 q bC hwo
       ·have:k=n:=by omega
        subst this;cases hdk:listed.getD k aE with
        |false=>rfl
        |true =>
         exact(hdn ⟨hdk,by simp only[gR,bC,hwo]⟩).elim
   obtain⟨a,b1,b2,b3,b4⟩:=gen ops.size (cZ _);exact⟨a,b1,b2,b3,λk ok h1 bC hwo=>b4 k ok h1 (by rw[<-hll];exact(cE.1 bC).1) bC hwo⟩
  have loads:jY q=aD->eB cfg call (fc aD q) q (st i).env (st i).mem=aA (vs i,(st (i+1)).mem) ->
    eB cfg call (fc aD q) q (st i).env (ML l st (λk=>listed.getD k aE) ops.size)=aA (vs i,ML l st (λk=>(listed.setIfInBounds i aD).getD k aE) ops.size):=by
   intro hbx hop;have hbxl:=hbx;simp only[jY,cT]at hbx;obtain⟨⟨⟨hrx,hbx1⟩,hsq1⟩,hld⟩:=hbx;have hsq1:q.sq=false:=by simpa using hsq1
   have hrx:q.rx=false:=by simpa using hrx
   rw[oE hrx]at hop |-
   have hwr:dN q=false:=by
    unfold dN;cases hop':q.op<;>rw[hop']at hld<;>first|(cases hld;done)|simp[k8,gi]
   have hrd:p8 q=true:=by
    unfold p8;rw[hrx];cases hop':q.op<;>rw[hop']at hld<;>first|(cases hld;done)|simp[ry,pf]
   rw[memOld hwr]
   have D1:∀k ok,k < i->l[k]? = aA ok->dN ok=aD->listed.getD k aE=aE->pY ok=true:=by
    intro k ok hki hk hwo hnd;cases hpu:pY ok with
    |true=>rfl
    |false =>
     have:=before k ok hki hk (by simp[jL,pL,kv,hwo,hrd,hpu,rU hwo,qn hwo,GX hbxl]);rw[this]at hnd;cases hnd
   have D2:∀k ok,i < k->l[k]? = aA ok->dN ok=aD->listed.getD k aE=aD->pY ok=true:=by
    intro k ok hki hk hwo hnd;cases hpu:pY ok with
    |true=>rfl
    |false =>
     have:=behind k ok hki hk (by simp[jL,pL,kv,hwo,hrd,hpu,rU hwo,qn hwo,GX hbxl]);rw[this]at hnd;cases hnd
   rw[haML]
   have stepB:∀(p:V) k ok,l[k]? = aA ok->(dN ok=aD->pY ok=aD)->(kQ cfg ok=aD->∀id kk off,p = .ptr id kk off->id∉nC (st k).env ok)->mV p (st k).mem (st (k+1)).mem:=by
    intro p k ok bC hpu hnf;have hs:=htr k _ bC
    by_cases hwo:dN ok=aD
    ·rcases hs with⟨_,hs,_⟩|⟨_,_,hs,_⟩
     ·cases hfr:kQ cfg ok with
      |false=>exact(aft (hpu hwo) hfr hs).at p
      |true =>
       obtain⟨e1,e2⟩:=abN hfr hs;exact⟨e1,λid kk off e hi t x=>by rw[e2 id hi (hnf hfr id kk off e)]⟩
     ·rw[hs];exact .refl _ _
    ·rw[L3 hs (by simpa using hwo)];exact .refl _ _
   have runB:∀(p:V) d k,k+d<=ops.size->(∀n ok,k<=n->n < k+d->l[n]? = aA ok->(dN ok=aD->pY ok=aD)/\(kQ cfg ok=aD->∀id kk off,p = .ptr id kk off->id∉nC (st n).env ok))->mV p (st k).mem (st (k+d)).mem:=by
    intro p d
    induction d with
    |zero=>intro k _ _;exact .refl _ _
    |succ d ihd =>
     intro k hk hall';refine(ihd k (by omega) λn ok h1 h2=>hall' n ok h1 (by omega)).trans ?_;have hon:l[k+d]? = aA (l[k+d]'(by omega)):=cI (by omega);obtain⟨c1,c2⟩:=hall' (k+d) _ (by omega) (by omega) hon;exact stepB p (k+d) _ hon c1 c2
   have hpE:∀x∈q.op.operands,bB (EL (st 0).env l vs (λk=>listed.getD k aE) ops.size) x=bB (st i).env x:=λx hx=>u6 λt ht=>looks t (by
    simp only[jC,cG,wN];exact .inl ⟨x,by simpa using hx,by rw[ht]⟩)
   cases hop':q.op<;>rw[hop']at hld<;>first|(cases hld;done)|skip
   rename_i t ad;simp only[da,hop']at hop |-
   cases hx:bB (st i).env ad with
   |none=>simp[hx]at hop
   |some p =>
    have hxE:bB (EL (st 0).env l vs (λk=>listed.getD k aE) ops.size) ad=aA p:=by
     rw[hpE ad (by rw[hop'];simp[Op.operands]),hx]
    obtain⟨u,hvr⟩:∃u,VR Z1 w1 j1 p u:=⟨_,h1.eval ad p hxE⟩
    have hlt1:∀id k off,p = .ptr id k off->id < (st am).mem.length:=by
     intro id k off e;subst e;rw[<-haML];cases hvr with
     |ptr hj _ =>
      rcases nQ id (ML l st (λk=>listed.getD k aE) ops.size).length with q|q
      ·exact q
      ·rw[h2.out id q]at hj;cases hj
    simp only[hx,hbx1,hsq1,be,bu,fP]at hop |-
    have hnf:∀n ok,l[n]? = aA ok->kQ cfg ok=aD->∀id kk off,p = .ptr id kk off->id∉nC (st n).env ok:=by
     intro n ok bC hfr id kk off e;have hrd2:wb (st i).env q=[id]:=by simp only[wb,hop',nE,hx,e,lH,p9,Bi,iw]
     have:=abK htr hll hchk hq hbxl bC hfr id (by rw[hrd2];simp);exact this
    cases hbp:mE (st i).mem p with
    |false=>rw[hbp]at hop;simp at hop
    |true =>
     rw[hbp]at hop;simp only[cN,d5,ej,omi]at hop;obtain⟨v,hv,he⟩:=hop;have hve:v=vs i:=di Prod.fst he
     have hlt2:∀id k off,p = .ptr id k off->id < (st i).mem.length:=by
      intro id k off e;subst e;simp only[mE]at hbp;cases hm:(st i).mem[id]? with
      |none=>rw[hm]at hbp;cases hbp
      |some _=>exact(cE.1 hm).1
     have both:mE (st am).mem p=aD/\gD cfg.P (st am).mem t p=gD cfg.P (st i).mem t p:=by
      rcases Nat.le_total am i with hai|hia
      ·have hB:mV p (st am).mem (st i).mem:=by
        have:=runB p (i - am) am (by omega) λn ok h1 h2 bC=>⟨λhwo=>D1 n ok (by omega) bC hwo (hahi n ok h1 bC hwo),hnf n ok bC⟩
        rwa [show am+(i - am)=i by omega]at this
       obtain⟨c1,c2⟩:=Nw (P:=cfg.P) (t:=t) hB hlt1;have:mE (st am).mem p=true:=by rw[<-c1,hbp]
       exact⟨this,(c2 this).symm⟩
      ·have hB:mV p (st i).mem (st am).mem:=by
        have:=runB p (am - i) i (by omega) λn ok h1 h2 bC=>⟨λhwo=>(by
         have hd':=halo n ok (by omega) bC hwo;rcases nQ i n with q|q
         ·exact D2 n ok q bC hwo hd'
         ·have:n=i:=by omega
          subst this;rw[hq]at bC;cases bC;rw[hwr]at hwo;cases hwo),hnf n ok bC⟩
        rwa [show i+(am - i)=am by omega]at this
       obtain⟨c1,c2⟩:=Nw (P:=cfg.P) (t:=t) hB hlt2;exact⟨by rw[c1,hbp],c2 hbp⟩
     rw[both.1];simp only[cN,d5,ej,both.2,hv,dy,hve]
  have loads2:jO q=aD->eB cfg call (fc aD q) q (st i).env (st i).mem=aA (vs i,(st (i+1)).mem) ->
    eB cfg call (fc aD q) q (st i).env (ML l st (λk=>listed.getD k aE) ops.size)=aA (vs i,ML l st (λk=>(listed.setIfInBounds i aD).getD k aE) ops.size):=by
   intro hls hop;have hrx:q.rx=false:=by simp only[jO,cT]at hls;simpa using hls.1.1.1
   have hwr:dN q=false:=by
    cases h:dN q with
    |false=>rfl
    |true=>rw[qn h]at hls;cases hls
   have hrd:p8 q=true:=by
    simp only[jO,cT]at hls;obtain⟨⟨⟨_,hb⟩,hs⟩,hr⟩:=hls;unfold p8;rw[hrx,hb,hs];cases hop':q.op<;>rw[hop']at hr<;>first|(cases hr;done)|(simp[ry,pf];done)|skip
    rename_i c;cases hc:c.callee<;>simp only[rG,hc]at hr<;>first|(cases hr;done)|skip
    rename_i b;cases b<;>first|(cases hr;done)|simp[ry,hc]
   have hme:=JA hwr hop;rw[oE hrx]at hop |-
   rw[hme]at hop;rw[memOld hwr,haML]
   have D1:∀k ok,k < i->l[k]? = aA ok->dN ok=aD->listed.getD k aE=aE->im ok=true:=by
    intro k ok hki hk hwo hnd;cases hpu:im ok with
    |true=>rfl
    |false =>
     have:=before k ok hki hk (by simp[jL,pL,kv,hwo,hrd,hpu,rU hwo,qn hwo,Rt hls]);rw[this]at hnd;cases hnd
   have D2:∀k ok,i < k->l[k]? = aA ok->dN ok=aD->listed.getD k aE=aD->im ok=true:=by
    intro k ok hki hk hwo hnd;cases hpu:im ok with
    |true=>rfl
    |false =>
     have:=behind k ok hki hk (by simp[jL,pL,kv,hwo,hrd,hpu,rU hwo,qn hwo,Rt hls]);rw[this]at hnd;cases hnd
   have stepK:∀k ok,l[k]? = aA ok->(dN ok=aD->im ok=aD)->KI (mc (st i).env q) (st k).mem (st (k+1)).mem:=by
    intro k ok bC hpu;have hs:=htr k _ bC
    by_cases hwo:dN ok=aD
    ·rcases hs with⟨hw1,hs,_⟩|⟨_,_,hs,_⟩
     ·obtain⟨c1,c2⟩:=hcp i q k ok hq hls bC (hpu hwo);obtain⟨⟨e1,e2⟩,e3⟩:=XV (hpu hwo) c1 hs;rcases c2 with c2|c2
      ·exact⟨e1,λid hid bf q _ _=>by rw[<-List.getElem?_take_of_lt bf,e3 c2]⟩
      ·exact⟨e1,λid hid bf=>e2 id bf (c2 hw1 id hid)⟩
     ·rw[hs];exact .refl _ _
    ·rw[L3 hs (by simpa using hwo)];exact .refl _ _
   have runK:∀d k,k+d<=ops.size->(∀n ok,k<=n->n < k+d->l[n]? = aA ok->dN ok=aD->im ok=aD)->KI (mc (st i).env q) (st k).mem (st (k+d)).mem:=by
    intro d
    induction d with
    |zero=>intro k _ _;exact .refl _ _
    |succ d ihd =>
     intro k hk hall';refine(ihd k (by omega) λn ok h1 h2=>hall' n ok h1 (by omega)).trans ?_;have hon:l[k+d]? = aA (l[k+d]'(by omega)):=cI (by omega);exact stepK (k+d) _ hon (hall' (k+d) _ (by omega) (by omega) hon)
   have hpE:∀x∈q.op.operands,bB (EL (st 0).env l vs (λk=>listed.getD k aE) ops.size) x=bB (st i).env x:=λx hx=>u6 λt ht=>looks t (by
    simp only[jC,cG,wN];exact .inl ⟨x,by simpa using hx,by rw[ht]⟩)
   have hlt0:∀id∈mc (st i).env q,id < (st am).mem.length:=by
    rw[<-Rr hpE,<-haML]
    have one:∀x,∀id∈lE (EL (st 0).env l vs (λk=>listed.getD k aE) ops.size) x,id < (ML l st (λk=>listed.getD k aE) ops.size).length:=by
     intro x id hid;unfold lE at hid;cases hx:bB (EL (st 0).env l vs (λk=>listed.getD k aE) ops.size) x with
     |none=>rw[hx]at hid;cases hid
     |some v=>rw[hx]at hid;exact ai0 h2 (h1.eval x v hx) id hid
    intro id hid;unfold mc at hid;split at hid
    ·exact one _ id hid
    ·exact one _ id hid
    ·exact one _ id hid
    ·obtain⟨x,_,hx⟩:=jp.1 hid;exact one x id hx
    ·cases hid
   have hkp:KP (mc (st i).env q) (st i).mem (st am).mem:=by
    rcases Nat.le_total am i with hai|hia
    ·have hB:KI (mc (st i).env q) (st am).mem (st i).mem:=by
      have:=runK (i - am) am (by omega) λn ok h1 h2 bC hwo=>D1 n ok (by omega) bC hwo (hahi n ok h1 bC hwo)
      rwa [show am+(i - am)=i by omega]at this
     exact λid hid o h1 h2 h3=>(hB.2 id hid (hlt0 id hid) o h1 h2).1 h3
    ·have hB:KI (mc (st i).env q) (st i).mem (st am).mem:=by
      have:=runK (am - i) i (by omega) λn ok h1 h2 bC hwo=>(by
       have hd':=halo n ok (by omega) bC hwo;rcases nQ i n with q|q
       ·exact D2 n ok q bC hwo hd'
       ·have:n=i:=by omega
        subst this;rw[hq]at bC;cases bC;rw[hwr]at hwo;cases hwo)
      rwa [show i+(am - i)=am by omega]at this
     exact λid hid o h1 h2 h3=>(hB.2 id hid (cE.1 h3).1 o h1 h2).2 h3
   exact adL hls hkp hop
  have hlz:Er l=true:=by
   unfold Ah at hd;simp only[cT]at hd;exact hd.1.1
  have hDi:∀k,k≠i->(listed.setIfInBounds i aD).getD k aE=listed.getD k false:=λk hk=>by rw[hnew];simp[hk]
  have hDi':(listed.setIfInBounds i aD).getD i aE=true:=by rw[hnew];simp
  have beside:∀k m d T,mz l k m d T->(listed.setIfInBounds i aD).getD k aE=aD->(listed.setIfInBounds i aD).getD m aE=aE->k≠i->listed.getD k aE=aD/\listed.getD m aE=aE/\q.dst≠aA d:=by
   intro k m d T hp e1 e2 hki;have hmi:m≠i:=λe=>by subst e;rw[hDi']at e2;cases e2
   refine⟨by rw[<-hDi k hki];exact e1,by rw[<-hDi m hmi];exact e2,λe=>?_⟩;rcases(mz.writers hlz hp).2 i q hq e with e|e
   ·exact hki e.symm
   ·exact hmi e.symm
  rcases hpq with hpq|⟨T,d,x,ty,sq,rx,hop0,hdst,hgd,rfl⟩
  rotate_left
  ·obtain⟨k,d',e1,_,e3,hp,hkm,hu⟩:=QY hlz hq;cases e1;subst e3
   have hkD:listed.getD k aE=true:=by
    obtain⟨⟨ty',sq',hk⟩,_⟩:=hp;exact before k _ hkm hk (by simp[jL,lZ])
   have hmD:listed.getD i aE=false:=by simpa[lP,gG bf]using hnl'
   obtain⟨g,us,f1,f2,f3,f4,f5,f6⟩:=hpend.1 k i d T hp hkD hmD;rcases hstep with⟨hw,hop,hse⟩|⟨hw,_⟩
   rotate_left
   ·cases hw
   have hwr:dN ⟨aA d,.box T x,ty,aF,aD,sq,aE⟩=true:=rfl;rw[oE rfl]at hop;have hM:=memEq (.inr hwr) (Gd hwr);have hM':=memNew hwr;simp only[da,obi]at hop;obtain⟨v,hv,hop⟩:=hop;split at hop
   ·cases hop
   rename_i hz0;split at hop;rotate_left
   ·cases hop
   rename_i hc;split at hop
   ·cases hop
   rename_i hna
   have hop:aA (newBox cfg.P (st i).mem T v)=aA (vs i,(st (i+1)).mem):=by
    have hd:fc aD ⟨aA d,.box T x,ty,aF,aD,sq,aE⟩=true:=rfl;rw[hd,fP]at hna;unfold tN at hop;cases hf:j6 T 0 (st i).mem with
    |none=>rw[hf]at hop;exact hop
    |some r=>rw[hf]at hna;simp at hna
   injection hop with hop
   have hvx:bB (EL (st 0).env l vs (λk=>listed.getD k aE) ops.size) x=aA v:=by
    rw[<-hv];exact u6 λt ht=>looks t (by simp[jC,Op.operands,ht])
   have hvr:=h1.eval x v hvx
   have hpos:0 < cfg.P.cellsOf T:=by
    rcases Gv (cfg.P.cellsOf T)with h|h
    ·exact(hz0 (by simp[h])).elim
    ·exact h
   rw[hM]at h2 f5;obtain⟨w2,j2,r1,r2,r3,r4,r5,r6,r7,r8,r9,r10,r11⟩:=adk h2 f3 f4 f5 f6 hc.1 hc.2 hpos hvr;have hev:a.eval (.tmp d) = .pointer (aA ⟨g,0,aF⟩):=by simp[Act.eval,f1,lP]
   have hwt:Region.wanted o (yielded ops a.tmps)=true:=by simp[Region.wanted,hgd]
   rw[bc hwt];refine A4 (Post:=λu w'=>w'=w2) (λc h=>by rw[hop0]at h;cases h) ?_ ?_
   ·unfold execOp;simp only[hop0,hev,Sem.run_bind,r1,Result.andThen_ok];rfl
   ·rintro u w' rfl;have e0:a.put o.dst u=a:=by rw[hdst];rfl
    rw[e0];have hm2:(newBox cfg.P (st i).mem T v).2=(st (i+1)).mem:=di Prod.snd hop;have hv2:(newBox cfg.P (st i).mem T v).1=vs i:=di Prod.fst hop;rw[hM]at h3;have hlt2:g < w1.heap.size:=(gS.1 f3).1;refine ih _ _ w' hsz' cnt cl ⟨Z1,j2,?_,?_,?_,h4.trans r4,?_⟩ hkp
    ·rw[envEq];exact(h1.mono r5 r4).fill f1 (hv2 ▸ r3)
    ·rw[hM',<-hm2];exact r2
    ·rw[hM',<-hm2]
     exact⟨r8.trans h3.os,r9.trans h3.tape,r10.trans h3.output,by rw[r7];exact h3.size,λg' hg' hn=>⟨(r6 g' (by omega)).trans (h3.keep g' hg' hn).1,(h3.keep g' hg' hn).2⟩,λg' hg' ho=>by
      rcases r11 g' (qx hg' h3.size) ho with ho|ho
      ·exact h3.owned g' hg' ho
      ·omega,h3.z.trans r5,λt h=>⟨((h3.ar t h).1).newBox _ _,(h3.ar t h).2⟩⟩
    ·rw[hM',<-hm2];rw[hM]at hpend;refine⟨λk' m' d' T' hp' e1 e2=>?_,λk' m' d' T' k'' m'' d'' T'' g' hp' e1 e2 hp'' e1' e2' hne hf hf'=>?_⟩
     ·have hki:k'≠i:=by
       rintro rfl;obtain⟨⟨_,_,hk'⟩,_⟩:=hp';rw[hq]at hk';cases hk'
      obtain⟨c1,c2,c3⟩:=beside k' m' d' T' hp' e1 e2 hki;obtain⟨g',us',p1,p2,p3,p4,p5,p6⟩:=hpend.1 k' m' d' T' hp' c1 c2
      have hgg:g'≠g:=by
       rintro rfl;exact hpend.2 k i d T k' m' d' T' g' hp hkD hmD hp' c1 c2 (λe=>c3 (by rw[e])) ⟨us,f1,f2,f3,f4,f5,f6⟩ ⟨us',p1,p2,p3,p4,p5,p6⟩
      exact⟨g',us',p1,p2,(r6 g' hgg).trans p3,p4,λho=>by
       rcases r11 g' (gS.1 p3).1 ho with ho|ho
       ·exact p5 ho
       ·exact hgg ho,p6⟩
     ·have hki:∀k' m' d' T',mz l k' m' d' T'->k'≠i:=by
       rintro k' m' d' T' hp' rfl;obtain⟨⟨_,_,hk'⟩,_⟩:=hp';rw[hq]at hk';cases hk'
      obtain⟨c1,c2,_⟩:=beside k' m' d' T' hp' e1 e2 (hki _ _ _ _ hp');obtain⟨c1',c2',_⟩:=beside k'' m'' d'' T'' hp'' e1' e2' (hki _ _ _ _ hp'');obtain⟨g1,hg1⟩:=hpend.1 k' m' d' T' hp' c1 c2;obtain⟨g2,hg2⟩:=hpend.1 k'' m'' d'' T'' hp'' c1' c2';have q1:=iA.same hg1 rfl hf;have q2:=iA.same hg2 rfl hf';subst q1;subst q2;exact hpend.2 k' m' d' T' k'' m'' d'' T'' _ hp' c1 c2 hp'' c1' c2' hne hg1 hg2
  obtain⟨g,bx,sq,rx,rfl,hg⟩:=id hpq;rcases hstep with⟨hw,hop,_⟩|⟨hw,hv,hm,_⟩
  ·have hwt:=F9 hpq h1 (hwe.trans hw);rw[bc hwt]
   have hop2:eB cfg call (fc aD ⟨o.dst,o.op,o.type,g,bx,sq,rx⟩) ⟨o.dst,o.op,o.type,g,bx,sq,rx⟩ (EL (st 0).env l vs (λk=>listed.getD k aE) ops.size) (ML l st (λk=>listed.getD k aE) ops.size)=aA (vs i,ML l st (λk=>(listed.setIfInBounds i aD).getD k aE) ops.size):=by
    rw[aeR (e2:=(st i).env) λx hx=>u6 λt ht=>looks t (by
     simp only[jC,cG,wN];exact .inl ⟨x,by simpa using hx,by rw[ht]⟩)]
    by_cases hwr:dN ⟨o.dst,o.op,o.type,g,bx,sq,rx⟩=aD
    ·rw[memEq (.inr hwr) (Gd hwr),memNew hwr];exact hop
    ·have hwr':dN ⟨o.dst,o.op,o.type,g,bx,sq,rx⟩=false:=by simpa using hwr
     have hme:=JA hwr' hop
     by_cases hrd:p8 ⟨o.dst,o.op,o.type,g,bx,sq,rx⟩=aD
     ·by_cases hbx:jY ⟨o.dst,o.op,o.type,g,bx,sq,rx⟩=aD
      ·exact loads hbx hop
      ·by_cases hls:jO ⟨o.dst,o.op,o.type,g,bx,sq,rx⟩=aD
       ·exact loads2 hls hop
       ·rw[memOld hwr',memEq (.inl hrd) (by unfold ld;rw[uA];exact⟨by simpa using hbx,by simpa using hls⟩),<-hme];rw[hme]at hop |-
        exact hop
     ·rw[memOld hwr'];exact aeE hwr' (by simpa using hrd) hop _
   by_cases hal:∃T,o.op = .alloc T/\bx=aD/\rx=aE
   ·obtain⟨T,hoT,rfl,rfl⟩:=hal;have hop3:=hop2;rw[oE rfl]at hop3;simp only[da,hoT,obi]at hop3;obtain⟨z,hz,hop3⟩:=hop3;split at hop3;rotate_left
    ·cases hop3
    rename_i hc;simp only[dv,Option.some.injEq,Prod.mk.injEq]at hop3;obtain⟨hvj,hmm⟩:=hop3;obtain⟨us,r1,r2⟩:=QX (w:=w1) hz hc.1 hc.2;refine A4 (Post:=λu w'=>u = .pointer (aA ⟨w1.heap.size,0,aF⟩)/\w'=w1.alloc (.cells us T)) (JF hop2) ?_ ?_
    ·unfold execOp;simp only[hoT];exact fe r1 ⟨rfl,rfl⟩
    ·rintro u w2 ⟨rfl,rfl⟩;have stp:=br.alloc h2 (.cells us T);have hmm':ML l st (λk=>(listed.setIfInBounds i aD).getD k aE) ops.size=ML l st (λk=>listed.getD k aE) ops.size:=hmm.symm;refine ih _ _ _ hsz' cnt cl ⟨Z1,j1,?_,by rw[hmm'];exact h2.alloc _,by rw[hmm'];exact h3.trans stp,h4,?_⟩ (hkp.put (o:=⟨o.dst,o.op,o.type,g,aD,sq,aE⟩) (dH hq) _)
     ·rw[envEq,<-hvj];exact(h1.mono stp.z (bG.refl _)).put o.dst .junk
     ·rw[hmm']
      have hold:∀k m d T',mz l k m d T'->(listed.setIfInBounds i aD).getD k aE=aD->(listed.setIfInBounds i aD).getD m aE=aE->k≠i->∃g,iA cfg.P w.heap.size Z1 w1 j1 (ML l st (λk=>listed.getD k aE) ops.size) a d T' g/\iA cfg.P w.heap.size Z1 (w1.alloc (.cells us T)) j1 (ML l st (λk=>listed.getD k aE) ops.size) (a.put o.dst (.pointer (aA ⟨w1.heap.size,0,aF⟩))) d T' g/\listed.getD k aE=aD/\listed.getD m aE=false:=by
       intro k m d T' hp e1 e2 hki;obtain⟨c1,c2,c3⟩:=beside k m d T' hp e1 e2 hki;obtain⟨g,hg⟩:=hpend.1 k m d T' hp c1 c2;exact⟨g,hg,hg.step stp (J5 c3 _),c1,c2⟩
      have hnewF:∀m d T',mz l i m d T'->iA cfg.P w.heap.size Z1 (w1.alloc (.cells us T)) j1 (ML l st (λk=>listed.getD k aE) ops.size) (a.put o.dst (.pointer (aA ⟨w1.heap.size,0,aF⟩))) d T' w1.heap.size:=by
       intro m d T' hp;obtain⟨⟨ty',sq',hk⟩,_⟩:=hp;rw[hq]at hk;simp only[Option.some.injEq,bz.mk.injEq]at hk;obtain⟨hd1,hd2,_⟩:=hk;rw[hoT]at hd2;cases hd2
       have hdl:d < a.tmps.size:=by
        have e1:=h1.len;rw[wI]at e1
        have e2:∀n,n<=ops.size->(st n).env.length=(st 0).env.length:=by
         intro n
         induction n with
         |zero=>intro _;rfl
         |succ n ihn =>
          intro hn;have hon:l[n]? = aA (l[n]'(by omega)):=cI (by omega);rw[BK (htr n _ hon),U3,ihn (by omega)]
        unfold s6 at hchk;rw[cT]at hchk;have e3:=e9.1 hchk.1 _ (dH hq);rw[hoT,hd1]at e3;simp only[qT,qp,cN,rV,uH,oY]at e3;rw[e2 ops.size (cZ _)]at e3;omega
       refine⟨us,?_,h3.size,heap_alloc_new w1 _,r2,λho=>?_,λo ho=>?_⟩
       ·rw[hd1];show(a.tmps.setIfInBounds d _)[d]? = _;rw[Array.getElem?_setIfInBounds_self_of_lt hdl]
       ·have:=bT.lt h2 ho;omega
       ·have:=h2.zin _ _ ho;omega
      refine⟨λk m d T' hp e1 e2=>?_,λk m d T' k' m' d' T'' g' hp e1 e2 hp' e1' e2' hne hf hf'=>?_⟩
      ·by_cases hki:k=i
       ·subst hki;exact⟨_,hnewF m d T' hp⟩
       ·obtain⟨g,_,hg,_⟩:=hold k m d T' hp e1 e2 hki;exact⟨g,hg⟩
      ·by_cases hki:k=i
       ·subst hki
        have hki':k'≠k:=by
         rintro rfl;obtain⟨⟨_,_,a1⟩,_⟩:=hp;obtain⟨⟨_,_,a2⟩,_⟩:=hp';rw[a1]at a2;simp only[Option.some.injEq,bz.mk.injEq]at a2;exact hne a2.1
        obtain⟨g2,hg2,hg3,_⟩:=hold k' m' d' T'' hp' e1' e2' hki';have q1:=iA.same (hnewF m d T' hp) rfl hf;have q2:=iA.same hg3 rfl hf';obtain⟨_,_,_,p3,_⟩:=hg2;have:=(gS.1 p3).1;omega
       ·by_cases hki':k'=i
        ·subst hki';obtain⟨g2,hg2,hg3,_⟩:=hold k m d T' hp e1 e2 hki;have q1:=iA.same (hnewF m' d' T'' hp') rfl hf';have q2:=iA.same hg3 rfl hf;obtain⟨_,_,_,p3,_⟩:=hg2;have:=(gS.1 p3).1;omega
        ·obtain⟨g1,hg1,hg1',c1,c2⟩:=hold k m d T' hp e1 e2 hki;obtain⟨g2,hg2,hg2',c1',c2'⟩:=hold k' m' d' T'' hp' e1' e2' hki';have q1:=iA.same hg1' rfl hf;have q2:=iA.same hg2' rfl hf';subst q1;subst q2;exact hpend.2 k m d T' k' m' d' T'' _ hp c1 c2 hp' c1' c2' hne hg1 hg2
   have noPair:∀m d T,¬mz l i m d T:=by
    rintro m d T ⟨⟨ty',sq',hk⟩,_⟩;rw[hq]at hk;simp only[Option.some.injEq,bz.mk.injEq]at hk;exact hal ⟨T,hk.2.1,hk.2.2.2.2.1,hk.2.2.2.2.2.2⟩
   have hres:=Sj hp hi h2 h1.eval hop2;refine A4 (JF hop2) hres ?_;rintro u w2 ⟨Z2,j2,q1,q2,q3,q4⟩;refine ih _ _ w2 hsz' cnt cl ⟨Z2,j2,?_,q2,h3.trans q3,h4.trans q4,hpend.step q3 λk m d T hp e1 e2=>?_⟩ (hkp.put (o:=⟨o.dst,o.op,o.type,g,bx,sq,rx⟩) (dH hq) u)
   ·rw[envEq];exact(h1.mono q3.z q4).put o.dst q1
   ·obtain⟨c1,c2,c3⟩:=beside k m d T hp e1 e2 (λe=>by subst e;exact noPair m d T hp);exact⟨c1,c2,J5 c3 _⟩
  ·have hwt:=F9 hpq h1 (hwe.trans hw);rw[bh (by rw[hwt];simp)]
   have hmm:ML l st (λk=>(listed.setIfInBounds i aD).getD k aE) ops.size=ML l st (λk=>listed.getD k aE) ops.size:=by
    by_cases hwr:dN ⟨o.dst,o.op,o.type,g,bx,sq,rx⟩=aD
    ·rw[memNew hwr,hm,memEq (.inr hwr) (Gd hwr)]
    ·exact memOld (by simpa using hwr)
   refine⟨λ_ _=>trivial,ih _ _ w1 hsz' cnt cl ⟨Z1,j1,?_,by rw[hmm];exact h2,by rw[hmm];exact h3,h4,?_⟩ (hkp.put (o:=⟨o.dst,o.op,o.type,g,bx,sq,rx⟩) (dH hq) undef)⟩
   ·rw[envEq,hv];exact h1.put o.dst (.tup (us:=[]) rfl λi c u hc=>by simp at hc)
   ·rw[hmm];refine hpend.step (br.refl _ _ _ _) λk m d T hp e1 e2=>?_
    obtain⟨c1,c2,c3⟩:=beside k m d T hp e1 e2 (λe=>by
     subst e;obtain⟨⟨ty',sq',hk⟩,_⟩:=hp;rw[hq]at hk;simp only[Option.some.injEq,bz.mk.injEq]at hk;have hg0:g=none:=hk.2.2.2.1;subst hg0;cases hw)
    exact⟨c1,c2,J5 c3 _⟩
def ae4{r n ops Q}{Inv:(Nat->Bool)->Act->bg->Prop}
  (hbind:∀k o,ops[k]? = aA o->∀e∈o.after,Region.binds .any e=aD->e.on < k)
  (hdone:∀D a w,(∀k,k < ops.size->D k=aD)->Inv D a w->Q .normal a w)
  (hstep:∀D a w i o,ops[i]? = aA o->D i=aE->wH ops D->(∀e∈o.after,Region.binds .any e=aD->D e.on=aD)->Inv D a w ->
   Region.wanted o (yielded ops a.tmps)=aD/\(∀c,o.op≠.defer c)/\m5 P (λu w'=>Inv (λk=>D k ||decide (k=i)) (a.put o.dst u) w') ((execOp a.eval o).run P w)) :
  ∀fuel listed a w1,listed.size=ops.size->listed.toList.count aE<=fuel->wH ops (λk=>listed.getD k aE)->Inv (λk=>listed.getD k aE) a w1 ->
   wpAnyIn (FR r) n P .any ops Q fuel listed a w1:=by
 have get:∀(listed:Array Bool) k h,listed.getD k aE=listed[k]:=λlisted k h=>by simp[gG h]
 have notdone:∀listed,listed.size=ops.size->Region.ready .any ops listed=[]->∀k,k < ops.size->listed.getD k aE=true:=by
  intro listed hsz hr k
  induction k using Nat.strongRecOn with
  |_ k ih =>
   intro hk
   by_cases h:listed.getD k aE=aD
   ·exact h
   ·have bC:=gG hk
    have:k∈Region.ready .any ops listed:=by
     rw[mem_ready];refine⟨?_,ops[k],bC,λe he hb=>?_⟩
     ·simpa[gG (show k < listed.size by omega)]using h
     ·have h2:=hbind k _ bC e he hb;exact ih e.on h2 (by omega)
    rw[hr]at this;simp at this
 intro fuel
 induction fuel with
 |zero =>
  intro listed a w1 hsz hcnt hcl hinv
  have hall:∀k,k < ops.size->listed.getD k aE=true:=by
   intro k hk;have bf:k < listed.size:=by omega
   have h0:listed.toList.count aE=0:=by omega
   have:=List.count_eq_zero.1 h0;have h2:listed[k]∈listed.toList:=by simp
   rw[get listed k bf];cases hb:listed[k]with
   |true=>rfl
   |false=>rw[hb]at h2;exact(this h2).elim
  refine⟨?_,hdone _ a w1 hall hinv⟩;apply Wi.2;intro i hi';rw[mem_ready]at hi';obtain⟨h1,o,ho,_⟩:=hi';have bf:=(gS.1 ho).1;have h2:=hall i bf;have hlt':i < listed.size:=by omega
  simp[gG hlt']at h1 h2;rw[h1]at h2;cases h2
 |succ fuel ih =>
  intro listed a w1 hsz hcnt hcl hinv;refine⟨λhr=>hdone _ a w1 (notdone listed hsz hr) hinv,λi hir=>?_⟩;rw[mem_ready]at hir;obtain⟨hnl,o,ho,hall⟩:=hir;have hin:=(gS.1 ho).1;have bf:i < listed.size:=by omega
  have hnl':=by simpa[gG bf]using hnl
  have hnew:(λk=>(listed.setIfInBounds i aD).getD k aE)=λk=>listed.getD k aE ||decide (k=i):=by
   funext k
   by_cases h:i=k
   ·subst h;simp[bf]
   ·have:¬k=i:=λe=>h e.symm
    simp[h,this]
  have cnt:(listed.setIfInBounds i aD).toList.count aE<=fuel:=by
   have e:(listed.setIfInBounds i aD).toList=listed.toList.set i true:=by simp
   rw[e,List.count_set]
   ·have h1:listed.toList[i]'(by simpa using bf)=false:=by simpa using hnl'
    rw[h1];have h2:(aD==aE)=false:=rfl;rw[bc (gg aE),bh (by simp)];omega
   ·simpa using bf
  have cl:wH ops (λk=>(listed.setIfInBounds i aD).getD k aE):=by
   rw[hnew];intro k ok bC hD e he hb
   by_cases h:k=i
   ·subst h;rw[ho]at bC;cases bC;simp[hall e he hb]
   ·have h2:decide (k=i)=false:=by simp[h]
    simp only[h2,zg]at hD;have h3:listed.getD e.on aE=true:=hcl k ok bC hD e he hb;show(listed.getD e.on aE ||_)=aD;rw[h3,Bool.true_or]
  obtain⟨hwt,hnd,bC⟩:=hstep _ a w1 i o ho (by rw[get listed i bf];exact hnl') hcl hall hinv;unfold wpOpIn;simp[ho];rw[bc hwt];refine A4 hnd bC λu w' hu=>ih _ _ w' (by simpa using hsz) cnt cl (by rw[hnew];exact hu)
def SR.slot(s:SR P Z w j mem){id}(hm:mem[id]? = aA .dead)(hj:j id=aF){w1 ob}(hh:w1.heap=w.heap.push ob)(hos:w1.os=w.os)(htape:w1.tape=w.tape)(hout:w1.output=w.output)
  n {h} (hb:∀g,h.blk=aA g->g=w.heap.size) {o} (ho:OR P (iP Z w.heap.size n) w1 (fh j id h) id o) (har:o.ar=none:=by rfl) :
  SR P (iP Z w.heap.size n) w1 (fh j id h) (mem.set id o)/\br Z w j mem (iP Z w.heap.size n) w1 (fh j id h) (mem.set id o)/\bG j (fh j id h):=by
 have hz:=bU.heap (Z:=Z) hh s.zin n;have iff:∀g,g < w.heap.size->∀o,iP Z w.heap.size n g o↔Z g o:=λg hg o=>⟨λh=>h.resolve_right λh=>by omega,.inl⟩
 have hsz:w1.heap.size=w.heap.size+1:=by rw[hh];simp
 have bf:=(cE.1 hm).1
 have s1:=s.world hz (λg hg=>⟨mM hh (bT.lt s hg),iff g (bT.lt s hg)⟩) (λg o h=>by
  rcases h with h|h
  ·have:=s.zin g o h;omega
  ·omega)
 have je:bG j (fh j id h):=by
  intro k x hx
  by_cases e:k=id
  ·rw[e,hj]at hx;cases hx
  ·rw[uu j h e];exact hx
 have side:∀k x g,(mem.set id o)[k]? = aA x->bY (iP Z w.heap.size n) (fh j id h) k x g->(k=id/\g=w.heap.size)∨(mem[k]? = aA x/\bY Z j k x g):=by
  intro k x g hx hg
  by_cases e:id=k
  ·subst e;rw[jn bf]at hx;cases hx;have hg:=(bY.plain har).1 hg;unfold dk at hg;rw[gF]at hg;exact .inl ⟨rfl,hb g hg⟩
  ·rw[iM e]at hx;exact .inr ⟨hx,(bY.eqA rfl).1 ((bY.jeq (uu j h (λh=>e h.symm))).1 hg)⟩
 refine⟨⟨λk x hx=>?_,λk k' x x' g hx hx' hl hl' hg hg'=>?_,λk hk=>?_,s1.zin⟩,⟨hos,htape,hout,by omega,λg hg _=>⟨mM hh hg,iff g hg⟩,λg hg ⟨k,x,hx,hl,hgb⟩=>?_,hz,λt hn=>⟨hn.set hm (λn e=>fY (har.symm.trans e) (by simp)),rfl⟩⟩,je⟩
 ·by_cases e:id=k
  ·subst e;rw[jn bf]at hx;cases hx;exact ho
  ·rw[iM e]at hx;exact(s1.obj k x hx).mono (bU.refl _ _) je (λ_ _=>⟨rfl,λ_=>Iff.rfl⟩) (λ_ _ _=>rfl)
 ·rcases side k x g hx hg with⟨rfl,e⟩|⟨h1,h2⟩<;>rcases side k' x' g hx' hg' with⟨rfl,e'⟩|⟨h1',h2'⟩
  ·rfl
  ·have:=bT.lt s ⟨k',x',h1',hl',h2'⟩;omega
  ·have:=bT.lt s ⟨k,x,h1,hl,h2⟩;omega
  ·exact s.inj k k' x x' g h1 h1' hl hl' h2 h2'
 ·rw[sg]at hk;rw[uu j h (by omega)];exact s.out k hk
 ·rcases side k x g hx hgb with⟨_,e⟩|⟨h1,h2⟩
  ·omega
  ·exact⟨k,x,h1,hl,h2⟩
def agJ(s:SR P Z w j mem){id:Nat}(hm:mem[id]? = aA .dead)(hj:j id=aF){w1:bg}{t:aP}{us:Array aR}{els:List V}{c:Nat}(hh:w1.heap=w.heap.push (.cells us t))(hos:w1.os=w.os)(htape:w1.tape=w.tape)(hout:w1.output=w.output)
  (hpos:0 < (aK P) t) (hels:∀x∈els,x.cells.length=(aK P) t) (hlc:els.length<=c) (hc:c<=f9) (hus:us.size=c * (aK P) t)
  (hcl:∀(k:Nat) (x:V) (i:Nat) (y:V),els[k]? = aA x->x.cells[i]? = aA y->y.one=aD/\∃u,us[k * (aK P) t+i]? = aA u/\VR Z w j0 y u) :
  ∃Z' h,VR Z' w1 (fh j id h) (.own id) (.slice (aA ⟨w.heap.size,0,aF⟩) els.length c)/\SR P Z' w1 (fh j id h) (mem.set id (.row t els 0))/\br Z w j mem Z' w1 (fh j id h) (mem.set id (.row t els 0))/\bG j (fh j id h):=by
 obtain⟨s1,st,je⟩:=s.slot hm hj hh hos htape hout (0 * (aK P) t) (h:=⟨.slice (aA ⟨w.heap.size,0,aF⟩) els.length c,(aK P) t⟩) (by simp[cO.blk]) (o:=.row t els 0) (TE s.zin id hh hpos hels (kz _) hlc hc hus hcl);exact⟨_,_,.own (gF _ _ _) (λa ha=>by cases ha;rfl),s1,st,je⟩
def MF(l:List bz)(st:Nat->S)(D:Nat->Bool):Nat->List O
 |0=>(st 0).mem
 |k+1=>if gR l k then MF l st D k++[if D k then ((st (k+1)).mem[(st k).mem.length]?).getD .dead else .dead] else MF l st D k
def abP{ops l}(h:D3 ops l=aD):(∀k o,ops[k]? = aA o->∀e∈o.after,Region.binds .any e=aD->e.on < k) /\
  (∀i k oi ok,i < k->l[i]? = aA oi->l[k]? = aA ok->lZ oi ok=aD->i∈(kD ops.toList []).getD k []) /\
  ∀o∈l,o.guard=aF/\o.rx=aE/\((∃x,o.op = .assign x/\o.bx=aE)∨∃t n c,o.op = .makeSlice t n c):=by
 simp only[D3,cT,e9,Gr]at h;obtain⟨⟨h0,h1⟩,h2⟩:=h;refine⟨λk o ho e he hb=>?_,λi k oi ok hik hi hk hc=>?_,λo ho=>?_⟩
 ·have:=h1 (o,k) (by rw[Wk];simpa using ho) e (by simpa using he);simpa[hb]using this
 ·have hkl:=(cE.1 hk).1;have:=h2 k hkl i hik;simp[hi,hk,hc,rV]at this;simpa using this
 ·have:=h0 o ho;simp[Gz,mU]at this;obtain⟨⟨a,b⟩,c⟩:=this;refine⟨a,b,?_⟩;cases hop:o.op<;>simp[hop]at c<;>first|(cases c)|skip
  ·exact .inl ⟨_,rfl,by simpa using c⟩
  ·exact .inr ⟨_,_,_,rfl⟩
def SR.dead(s:SR P Z w j mem):SR P Z w j (mem++[.dead])/\br Z w j mem Z w j (mem++[.dead]):=by
 have old:∀(k:Nat) x,(mem++[gU])[k]? = aA x->x.live=aD->mem[k]? = aA x:=by
  intro k x hx hl
  by_cases e:k < mem.length
  ·rwa [eP e]at hx
  ·rw[eC (by omega)]at hx;rcases Gv (k - mem.length)with e0|e0
   ·rw[e0]at hx;cases hx;cases hl
   ·rw[wM (by simp;omega)]at hx;cases hx
 refine⟨⟨λk x hx=>?_,λk k' x x' g hx hx' hl hl'=>s.inj k k' x x' g (old k x hx hl) (old k' x' hx' hl') hl hl',λk hk=>s.out k (by simp at hk;omega),s.zin⟩,
  ⟨rfl,rfl,rfl,cZ _,λ_ _ _=>⟨rfl,λ_=>Iff.rfl⟩,λ_ _ ⟨k,x,hx,hl,hg⟩=>⟨k,x,old k x hx hl,hl,hg⟩,bU.refl _ _,λt hn=>⟨hn.add rfl,rfl⟩⟩⟩
 by_cases hl:x.live=aD
 ·exact s.obj k x (old k x hx hl)
 ·cases x<;>first|exact True.intro|(simp[O.live]at hl)
def Rw{t a b v}(h:qY P mem t a b=aA (v,mem')):v = .own mem.length/\∃ob,mem'=mem++[ob]:=by
 unfold qY at h;simp[obi]at h;obtain⟨_,_,h⟩:=h;split at h
 ·split at h
  ·simp[obi,omi]at h;obtain⟨_,_,_,_,h⟩:=h;cases h;exact⟨rfl,_,rfl⟩
  ·cases h
 ·cases h
section
variable {l:List bz}{st:Nat->S}
def rZ(l:List bz)(st:Nat->S):Prop:=∀k,k < l.length->(gR l k=aD/\∃ob,(st (k+1)).mem=(st k).mem++[ob])∨(gR l k=aE/\(st (k+1)).mem=(st k).mem)
def rZ.le(h:rZ l st) n:∀d,n+d<=l.length->(st n).mem.length<=(st (n+d)).mem.length:=by
 intro d
 induction d with
 |zero=>intro _;exact cZ _
 |succ d ih =>
  intro hd;have:=ih (by omega);rcases h (n+d) (by omega)with⟨_,ob,e⟩|⟨_,e⟩<;>rw[<-ky,e]<;>simp<;>omega
def rZ.lt(h:rZ l st){i k}(hi:gR l i=aD)(hik:i < k)(hk:k<=l.length):(st i).mem.length < (st k).mem.length:=by
 have h1:=h.le (i+1) (k - (i+1)) (by omega);rw[show i+1+(k - (i+1))=k by omega]at h1;rcases h i (by omega)with⟨_,ob,e⟩|⟨e,_⟩
 ·rw[e]at h1;simp at h1;omega
 ·rw[e]at hi;cases hi
def VX{k}(h:gR l k=aD):k < l.length:=by
 unfold gR at h;split at h
 ·rename_i e;exact(cE.1 e).1
 ·cases h
def Wn(h:rZ l st) D:∀n,n<=l.length->(MF l st D n).length=(st n).mem.length:=by
 intro n
 induction n with
 |zero=>intro _;rfl
 |succ n ih =>
  intro hn;have:=ih (by omega);simp[MF];rcases h n (by omega)with⟨e1,ob,e⟩|⟨e1,e⟩<;>rw[e1,e]<;>simp[this]
def Wm(h:rZ l st){D}:∀n,n<=l.length->(∀k,k < n->D k=aD)->MF l st D n=(st n).mem:=by
 intro n
 induction n with
 |zero=>intro _ _;rfl
 |succ n ih =>
  intro hn hD;have:=ih (by omega) λk hk=>hD k (by omega)
  simp[MF,this];rcases h n (by omega)with⟨e1,ob,e⟩|⟨e1,e⟩<;>rw[e1,e]<;>simp[hD n (by omega)]
def MM{D i}(hi:gR l i=aE):∀n,MF l st (λk=>D k ||decide (k=i)) n=MF l st D n:=by
 intro n
 induction n with
 |zero=>rfl
 |succ n ih =>
  simp[MF,ih]
  by_cases e:n=i
  ·subst e;rw[hi];rfl
  ·simp[e]
def Wp(h:rZ l st){D i ob}(hi:gR l i=aD)(hD:D i=aE)(hob:(st (i+1)).mem=(st i).mem++[ob]):∀n,n<=l.length->(n<=i->MF l st (λk=>D k ||decide (k=i)) n=MF l st D n) /\
  (i < n->MF l st (λk=>D k ||decide (k=i)) n=(MF l st D n).set (st i).mem.length ob/\(MF l st D n)[(st i).mem.length]? = aA .dead):=by
 intro n
 induction n with
 |zero=>intro _;exact⟨λ_=>rfl,λh=>by omega⟩
 |succ n ih =>
  intro hn;obtain⟨h1,h2⟩:=ih (by omega);refine⟨λhle=>?_,λbf=>?_⟩
  ·have e:¬n=i:=by omega
   simp[MF,h1 (by omega)];simp[e]
  ·have hlen:=Wn h D n (by omega)
   by_cases e:n=i
   ·subst e;simp[MF,h1 (cZ _),hi,hD,hob];have e1:=hlen;simp[e1]
   ·obtain⟨h3,h4⟩:=h2 (by omega);have hl:=h.lt hi (show i < n by omega) (by omega);simp only[MF,h3];cases hw:gR l n
    ·exact⟨rfl,h4⟩
    ·simp[dv,e,decide_false,zg];have hl':(st i).mem.length < (MF l st D n).length:=by rw[hlen];exact hl
     rw[List.set_append,bc hl',eP hl'];exact⟨rfl,h4⟩
def Wo(s:SR P Z w j (st 0).mem):∀n,SR P Z w j (MF l st (λ_=>aE) n)/\br Z w j (st 0).mem Z w j (MF l st (λ_=>aE) n):=by
 intro n
 induction n with
 |zero=>exact⟨s,br.refl _ _ _ _⟩
 |succ n ih =>
  simp[MF];split
  ·exact⟨ih.1.dead.1,ih.2.trans ih.1.dead.2⟩
  ·exact ih
end
def abS{r:Option Nat}{n:Nat}{cfg:cB}{call:dw}{ops:Array dU}{Q:Exit->Act->bg->Prop}{l:List bz}{vs:Nat->V}{st:Nat->S}{a0:Act}
  (hl:nT ops ops.toList l) (hd:D3 ops l=aD) (htr:∀(k:Nat) (o:bz),l[k]? = aA o->lq cfg call o (st k) (vs k) (st (k+1)))
  (hQ:∀a' w',ze cfg.P Z w j (st 0).mem (st ops.size) a' w'->gT l a0 a'->Q .normal a' w')
  (fuel:Nat) (listed:Array Bool) (a:Act) {w1:bg} (hsz:listed.size=ops.size) (hcnt:listed.toList.count aE<=fuel) (hno:∀k,listed.getD k aE=aE)
  (hst:St Z w1 j (st 0).env a) (sr:SR cfg.P Z w1 j (st 0).mem) (stp:br Z w j (st 0).mem Z w1 j (st 0).mem) (hkp:gT l a0 a) :
   wpAnyIn (FR r) n cfg.P .any ops Q fuel listed a w1:=by
 have hll:l.length=ops.size:=by have:=hl.1;simpa using this
 obtain⟨hbind,hclash,hops⟩:=abP hd
 have wrA_mk:∀{q:bz} {t:aP} {x c:fD},q.rx=aE->q.op = .makeSlice t x c->dN q=true:=by
  intro q t x c hx hop;simp[dN,hx,hop,k8,pJ,vp,qT]
 have wrA_as:∀{q:bz} {x:fD},q.op = .assign x->dN q=false:=by
  intro q x hop;simp[dN,hop,k8,gi]
 have gr:rZ l st:=by
  intro k hk;have hq:l[k]? = aA l[k]:=cI hk;obtain⟨hg,hx,h⟩:=hops _ (dH hq);rcases htr k _ hq with⟨_,hop,_⟩|⟨hw,_⟩
  rotate_left
  ·rw[hg]at hw;simp[fI]at hw
  rw[oE hx]at hop;rcases h with⟨x,e,hb⟩|⟨t,x,c,e⟩
  ·refine .inr ⟨by simp only[gR,hq,wrA_as e],?_⟩;exact RZ (cfg:=cfg) (call:=call) (o:=l[k]) (by simp[e,k8]) (by simp[e,gi]) (by simpa[fc,e,gi]using hop)
  ·refine .inl ⟨by simp only[gR,hq,wrA_mk hx e],?_⟩;simp only[da,e,obi]at hop;obtain⟨_,_,_,_,hop⟩:=hop;exact(Rw hop).2
 have dst_of:∀k t,mJ l k=aA t->∃ok,l[k]? = aA ok/\ok.dst=aA t:=by
  intro k t hk;unfold mJ at hk;cases hlk:l[k]? with
  |none=>simp[hlk]at hk
  |some qk =>
   simp[hlk]at hk;exact⟨qk,rfl,hk⟩
 have i0:(λk=>listed.getD k aE)=λ_=>false:=funext hno
 refine ae4 (Inv:=λD a w1=>gT l a0 a/\∃Z1 j1,St Z1 w1 j1 (EL (st 0).env l vs D ops.size) a/\SR cfg.P Z1 w1 j1 (MF l st D ops.size)/\br Z w j (st 0).mem Z1 w1 j1 (MF l st D ops.size)/\bG j j1 /\
   ∀k,gR l k=aD->D k=aE->j1 (st k).mem.length=aF) hbind ?_ ?_ fuel listed a w1 hsz hcnt (λk o _ hk=>fY ((hno k).symm.trans hk) (by simp)) ?_
 ·rintro D a w1 hall ⟨hkp,Z1,j1,h1,h2,h3,h4,_⟩
  have eE:EL (st 0).env l vs D ops.size=(st ops.size).env:=by
   rw[<-(oU htr ops.size (by omega)).1];apply uD;intro t;exact rW _ λk hk _=>hall k hk
  rw[eE]at h1;rw[Wm gr _ (by omega) hall]at h2 h3;exact hQ a w1 ⟨Z1,j1,h1,h2,h3,h4⟩ hkp
 ·rintro D a w1 i o ho hDi hcl hall ⟨hkp,Z1,j1,h1,h2,h3,h4,h5⟩;have hin:i < ops.size:=(gS.1 ho).1;obtain⟨q,hq,hpq⟩:=SN hl ho;have hanc:∀k,k∈(kD ops.toList []).getD i []->D k=true:=Ac hcl i o ho hall;have before:∀k ok,k < i->l[k]? = aA ok->lZ ok q=aD->D k=true:=λk ok hki hk hc=>hanc k (hclash k i ok _ hki hk hq hc)
  have behind:∀k ok,i < k->l[k]? = aA ok->lZ q ok=aD->D k=false:=by
   intro k ok hik hk hc;cases hb:D k with
   |false=>rfl
   |true =>
    have hkl:k < ops.size:=by rw[<-hll];exact(cE.1 hk).1
    have:=Ac hcl k ops[k] (gG hkl) (λe he hbb=>hcl k _ (gG hkl) hb e he hbb) i (hclash i k _ ok hik hq hk hc);rw[hDi]at this;cases this
  have looks:∀t,t∈jC q->(EL (st 0).env l vs D ops.size)[t]? = (st i).env[t]?:=by
   intro t ht;have ht':=ht;rw[<-(oU htr i (by omega)).1,<-BZ i ops.size (by omega)];refine rW _ λk hk hdk=>?_
   obtain⟨ok,bC,hdo⟩:=dst_of k t hdk;rcases zr k i with h|h|h
   ·rw[before k ok h bC (by simp only[lZ,hdo];simp[ht'])];simp[h]
   ·subst h;simp[hDi]
   ·rw[behind k ok h bC (by simp only[lZ,hdo];simp[ht'])];simp;omega
  have hstep:=htr i _ hq
  have envEq:EL (st 0).env l vs (λk=>D k ||decide (k=i)) ops.size=fH (EL (st 0).env l vs D ops.size) q.dst (vs i):=by
   apply uD;intro t
   by_cases hdt:q.dst=aA t
   ·have e1:(EL (st 0).env l vs (λk=>D k ||decide (k=i)) ops.size)[t]? = (EL (st 0).env l vs (λk=>decide (k < i+1)) ops.size)[t]?:=by
     refine rW _ λk hk hdk=>?_
     obtain⟨ok,bC,hdo⟩:=dst_of k t hdk;rcases zr k i with h|h|h
     ·rw[before k ok h bC (by simp only[lZ,hdo];simp[hdt])];simp;omega
     ·subst h;simp
     ·rw[behind k ok h bC (by simp only[lZ,hdt];simp[hdo])];have:¬k=i:=by omega
      simp[this];omega
    rw[e1,BZ (i+1) ops.size (by omega),(oU htr (i+1) (by omega)).1,BK hstep];simp only[hdt,yN,dv,wI];rw[<-(oU htr i (by omega)).1,wI]
   ·rw[yN,bh hdt];refine rW _ λk hk hdk=>?_
    have:¬k=i:=by
     intro e;subst e;simp[mJ,hq]at hdk;exact hdt hdk
    simp[this]
  obtain⟨hg,hx,hop⟩:=hops _ (dH hq)
  have ev:∀x∈q.op.operands,bB (EL (st 0).env l vs D ops.size) x=bB (st i).env x:=λx hx=>u6 λt ht=>looks t (by
   simp only[jC,cG,wN];exact .inl ⟨x,by simpa using hx,by rw[ht]⟩)
  rcases hstep with⟨_,hrun,_⟩|⟨hw,_⟩
  rotate_left
  ·rw[hg]at hw;simp[fI]at hw
  rw[oE hx]at hrun
  have hpq':uI ops o q:=by
   rcases hpq with hpq|⟨T,d,x,ty,sq,rx,_,_,_,rfl⟩
   ·exact hpq
   ·rcases hop with⟨_,e,_⟩|⟨_,_,_,e⟩<;>cases e
  have hwt:Region.wanted o (yielded ops a.tmps)=true:=F9 hpq' h1 (b:=aD) (by rw[hg];rfl);have hml:=dH hq;obtain⟨g,bx,sq,rx,rfl,_⟩:=hpq';simp only at hg hx hop;refine⟨hwt,λc hc=>(by rcases hop with⟨_,e,_⟩|⟨_,_,_,e⟩<;>rw[hc]at e<;>cases e),?_⟩;rcases hop with⟨x,e,hb⟩|⟨t,x,c,e⟩
  ·have hv:bB (st i).env x=aA (vs i):=by
    have hrun:=R2 (cfg:=cfg) (call:=call) (o:=⟨o.dst,o.op,o.type,g,bx,sq,rx⟩) (by simp[e,k8]) (by simp[e,ry]) (by simpa[fc,e,gi]using hrun) [];simp only[da,e,hb,uz,obi]at hrun;obtain⟨v,hv,hrun⟩:=hrun;cases v<;>simp at hrun<;>rw[hv,hrun]
   have hvr:=h1.eval x (vs i) (by rw[ev x (by simp[e,Op.operands])];exact hv);have hw0:gR l i=false:=by simp only[gR,hq];exact wrA_as e
   unfold execOp;simp only[e];show _/\_;refine⟨hkp.put (o:=⟨o.dst,o.op,o.type,g,bx,sq,rx⟩) hml _,Z1,j1,?_,by rw[MM hw0];exact h2,by rw[MM hw0];exact h3,h4,λk hk hD=>h5 k hk (by simp at hD;exact hD.1)⟩;rw[envEq];exact h1.put o.dst hvr
  ·simp only[da,e,obi]at hrun;obtain⟨va,ha,vb,hb,hrun⟩:=hrun;obtain⟨hvi,ob,hob⟩:=Rw hrun;obtain⟨el,us,els,cc,hr,_,hm2,p1,p2,p3,p4,p5,p6⟩:=Rx hrun (h1.eval x va (by rw[ev x (by simp[e,Op.operands])];exact ha)) (h1.eval c vb (by rw[ev c (by simp[e,Op.operands])];exact hb));have hwi:gR l i=true:=by simp only[gR,hq];exact wrA_mk hx e
   obtain⟨m1,m2⟩:=(Wp gr hwi hDi hm2 ops.size (by omega)).2 hin;obtain⟨Z2,hh,q1,q2,q3,q4⟩:=agJ h2 m2 (h5 i hwi hDi) (w1:=w1.alloc (.cells us el)) rfl rfl rfl rfl p1 p2 p3 p4 p5 p6;unfold execOp;simp only[e];refine fe hr ⟨hkp.put (o:=⟨o.dst,o.op,o.type,g,bx,sq,rx⟩) hml _,Z2,fh j1 (st i).mem.length hh,?_,by rw[m1];exact q2,by rw[m1];exact h3.trans q3,h4.trans q4,λk hk hD=>?_⟩
   ·rw[envEq,hvi];exact(h1.mono q3.z q4).put o.dst q1
   ·simp only[uA,decide_eq_false_iff_not]at hD;rw[uu]
    ·exact h5 k hk hD.1
    ·have hkl:=VX hk;rcases nQ k i with h|h
     ·have:=gr.lt hk h (by omega);omega
     ·have:=gr.lt hwi (show i < k by omega) (by omega);omega
 ·rw[i0];obtain⟨a1,a2⟩:=Wo (l:=l) sr ops.size;refine⟨hkp,Z,j,?_,a1,stp.trans a2,bG.refl _,λk hk _=>?_⟩
  ·have eE:∀n,EL (st 0).env l vs (λ_=>aE) n=(st 0).env:=by
    intro n
    induction n with
    |zero=>rfl
    |succ n ih=>simp only[EL];exact ih
   rw[eE];exact hst
  ·have hkl:=VX hk;have:=gr.le 0 k (by omega);rw[eW]at this;exact sr.out _ this
def Yo{r:Option Nat}{n:Nat}{cfg:cB}{call:dw}(hm:cfg.P.follows .mixedOrders=aD)(hp:iO cfg.P call.pc)(hi:gH cfg.P call.ic){ops:Array dU}{Q:Exit->Act->bg->Prop}{id:Nat}{l:List bz}{env:List V}{s':S}{a:Act}
  (hd:xq ops l=aD) (hl:nT ops ops.toList l) (hchk:s6 cfg l s'.env=aD) (h:mg cfg call aD l ⟨env,mem⟩=aA s') (st:St Z w j env a) (sr:SR cfg.P Z w j mem) (hQ:∀a' w',ze cfg.P Z w j mem s' a' w'->gT l a a'->Q .normal a' w') :
  (Code.region id ops aD).wpIn (FR r) n cfg.P Q a w:=by
 have hll:l.length=ops.size:=by have:=hl.1;simpa using this
 obtain⟨vs,sts,e0,e1,htr,hcp⟩:∃(vs:Nat->V) (st:Nat->S),st 0=⟨env,mem⟩/\st l.length=s'/\(∀(k:Nat) (o:bz),l[k]? = aA o->lq cfg call o (st k) (vs k) (st (k+1)))/\Gi cfg l st:=by
  unfold mg at h;split at h;rotate_left
  ·rename_i hno;have hno:l.any im=false:=by simpa using hno
   obtain⟨vs,sts,e0,e1,htr⟩:=aiK l ⟨env,mem⟩ s' h;exact⟨vs,sts,e0,e1,htr,λi q n ok _ _ bC hc=>by have:=zj.1 hno ok (dH bC);rw[hc]at this;simp at this⟩
  ·simp only[obi]at h;obtain⟨⟨s1,fs⟩,h,hc⟩:=h;split at hc;rotate_left
   ·cases hc
   cases hc;rename_i hc;obtain⟨vs,sts,e0,e1,htr,_,hf⟩:=aeZ l ⟨env,mem⟩ _ [] fs h;exact⟨vs,sts,e0,e1,htr,XU htr (by rw[e1];exact hc) hf⟩
 refine wpIn_region_any hm ?_;have hz:bU Z w Z { w with drawn:=w.drawn+1 }:=.of λg o h=>⟨h,rfl,rfl⟩
 have no:∀k,(Gh ops.size aE).getD k aE=false:=by intro k;simp[lP,Array.getElem?_replicate];split<;>rfl
 have eE:∀n,EL (sts 0).env l vs (λk=>(Gh ops.size aE).getD k aE) n=env:=by
  intro n
  induction n with
  |zero=>simp[EL,e0]
  |succ n ih=>simp only[EL];rw[bh (by simp only[no n];simp)];exact ih
 have eM:∀n,ML l sts (λk=>(Gh ops.size aE).getD k aE) n=mem:=by
  intro n
  induction n with
  |zero=>simp[ML,e0]
  |succ n ih=>simp only[ML];rw[bh (by simp only[no n];simp)];exact ih
 unfold xq at hd;rw[oT]at hd;rcases hd with hd|hd
 rotate_left
 ·exact abS (Z:=Z) (w:=w) (j:=j) hl hd htr (by rw[<-hll,e1,e0];exact hQ) ops.size _ a (by simp) (by simp) no (by rw[e0];exact st.mono hz (bG.refl _)) (by rw[e0];exact sr.world hz (λg _=>⟨rfl,λ_=>Iff.rfl⟩) sr.zin)
   (by rw[e0];exact⟨rfl,rfl,rfl,cZ _,λ_ _ _=>⟨rfl,λ_=>Iff.rfl⟩,λ_ _ h=>h,hz,λ_ h=>⟨h,rfl⟩⟩) (gT.refl l a)
 refine WJ (Z:=Z) (w:=w) (j:=j) hp hi hl hd (by rw[<-hll,e1];exact hchk) hcp htr ?_ ops.size _ a _ (by simp) (by simp) (λk o ho hD=>by simp[no]at hD) ⟨Z,j,?_,?_,?_,bG.refl _,⟨λk m d T _ hk=>by simp[no]at hk,λk m d T _ _ _ _ _ _ hk=>by simp[no]at hk⟩⟩ (gT.refl l a)
 ·rw[<-hll,e1,e0];exact hQ
 ·rw[eE];exact st.mono hz (bG.refl _)
 ·rw[eM];exact sr.world hz (λg _=>⟨rfl,λ_=>Iff.rfl⟩) sr.zin
 ·rw[eM,e0];exact⟨rfl,rfl,rfl,cZ _,λ_ _ _=>⟨rfl,λ_=>Iff.rfl⟩,λ_ _ h=>h,hz,λ_ h=>⟨h,rfl⟩⟩
end
section
variable {P:bv}{Z Z':Zs}{w w':bg}{j j':J}{mem mem':List O}
def aiH{s:S}{a:Act}{n0:Nat}{ids:List Nat}(hn:n0<=s.mem.length)(hnd:ids.Nodup)(hge:∀i∈ids,n0<=i)(st:St Z w j s.env a)(sr:SR P Z w j s.mem) :
  St Z w (gN n0 ids j) (kw n0 ids s).env a/\SR P Z w (gN n0 ids j) (kw n0 ids s).mem/\br Z w j s.mem Z w (gN n0 ids j) (kw n0 ids s).mem/\∀id,id < n0->gN n0 ids j id=j id:=by
 obtain⟨h1,h2,h3⟩:=VE hn hnd hge sr;refine⟨⟨by simp[kw,st.len],λi v hv=>?_⟩,h1,⟨rfl,rfl,rfl,cZ _,λ_ _ _=>⟨rfl,λ_=>Iff.rfl⟩,λg _ hg=>?_,bU.refl _ _,λt hno=>⟨λk o n ho hr=>?_,rfl⟩⟩,h3⟩
 ·simp only[kw,gy,omi]at hv;obtain⟨v0,h0,rfl⟩:=hv;obtain⟨u,hu,hvr⟩:=st.val i v0 h0;exact⟨u,hu,hvr.ren2 (Kl n0 ids j)⟩
 ·obtain⟨k,o,ho,hl,hb⟩:=hg;obtain⟨i,o0,h0,hl0,ha,hji,_⟩:=h2 k o ho hl;exact⟨i,o0,h0,hl0,aiF ha hji hb⟩
 ·obtain⟨i,o0,h0,hl0,ha,_,_⟩:=h2 k o ho (o9 hr);exact hno i o0 n h0 (by rw[<-ha];exact hr)
def abH{a:Act}:∀(ts:List Nat) (env:List V),St Z w j env a->St Z w j (gL env ts) a:=by
 intro ts
 induction ts with
 |nil=>intro env h;exact h
 |cons t ts ih =>
  intro env h;refine ih _ ⟨by simp[h.len],λi v hv=>?_⟩
  by_cases e:t=i
  ·subst e;have bf:t < env.length:=by have:=(cE.1 hv).1;simpa using this
   rw[jn bf]at hv;cases hv;exact⟨a.tmps[t]'(by rw[h.len];exact bf),gG _,.junk⟩
  ·rw[iM e]at hv;exact h.val i v hv
def JK(n0:Nat)(j j':J):Prop:=∀id h,id < n0->j id=aA h->j' id=aA h
def mG{s:S}{a:Act}(n0:Nat)(f:List Nat)(st:St Z w j s.env a)(sr:SR P Z w j s.mem) :
  ∃j',St Z w j' (dK n0 f s).env a/\SR P Z w j' (dK n0 f s).mem/\br Z w j s.mem Z w j' (dK n0 f s).mem/\JK n0 j j':=by
 obtain⟨h1,h2⟩:=acw (min n0 s.mem.length) ⟨gL s.env f,s.mem⟩;obtain⟨a1,a2,a3,a4⟩:=aiH (s:=⟨gL s.env f,s.mem⟩) (Nat.min_le_right n0 s.mem.length) h1 h2 (abH f s.env st) sr;refine⟨_,a1,a2,a3,λid h hid hj=>?_⟩
 by_cases hl:id < s.mem.length
 ·rw[a4 id (by omega)];exact hj
 ·rw[sr.out id (by omega)]at hj;cases hj
end
set_option linter.unusedVariables false
section
variable {P:bv}{Z Z':Zs}{w w':bg}{j j':J}{mem mem':List O}
def JK.refl(n0:Nat)(j:J):JK n0 j j:=λ_ _ _ h=>h
def JK.trans{n0:Nat}{j1:J}(h:JK n0 j j1)(h':JK n0 j1 j'):JK n0 j j':=λid x hl e=>h' id x hl (h id x hl e)
def JK.of{n0:Nat}(h:bG j j'):JK n0 j j':=λid x _ e=>h id x e
def nF:Obj->Bool
 |.loop _=>aD
 |.deferred _=>aD
 |.mapIter _ _ _ _=>aD
 |_=>aE
def ae8(s:SR P Z w j mem){g:Nat}(h:bT Z j mem g):∃o,w.heap[g]? = aA o/\nF o=false:=by
 obtain⟨id,o,hm,hl,hb⟩:=h;have hO:=s.obj id o hm;cases o with
 |dead=>cases hl
 |row t els fz =>
  obtain⟨h,hh,_,_,_,_,h5⟩:=hO;rcases h5 with⟨hu,_⟩|⟨g',b,c,us,hu,_,_,hg,_⟩
  ·cases h;simp only at hu;subst hu;simp[bY,O.ar,dk,hh,cO.blk]at hb
  ·cases h;simp only at hu;subst hu;simp[bY,O.ar,dk,hh,cO.blk]at hb;subst hb;exact⟨_,hg,rfl⟩
 |arena t els =>
  obtain⟨k,hk,hg⟩:=hb;obtain⟨us,h1,_⟩:=hO.2 k _ g (cI hk) hg;exact⟨_,h1,rfl⟩
 |marena t ms =>
  obtain⟨k,hk,hg⟩:=hb;obtain⟨es',clock,h1,_⟩:=hO.2 k _ g (cI hk) hg;exact⟨_,h1,rfl⟩
 |box t v fz =>
  obtain⟨g',us,h1,h2,_⟩:=hO;simp[bY,O.ar,dk,h1,cO.blk]at hb;subst hb;exact⟨_,h2,rfl⟩
 |map es =>
  obtain⟨r,es',clock,h1,h2,_⟩:=hO;simp[bY,O.ar,dk,h1,cO.blk]at hb;subst hb;exact⟨_,h2,rfl⟩
def EH(s:SR P Z w j mem){g:Nat}{o:Obj}(h:w.heap[g]? = aA o)(hk:nF o=aD):¬bT Z j mem g:=by
 intro ho;obtain⟨o',h1,h2⟩:=ae8 s ho;grind
def Nr{g x:Nat}{o:Obj}(h:w.heap[g]? = aA o)(hk:nF o=aD):w.cell? ⟨g,x,aF⟩=aF/\jf w g=none:=by
 cases o<;>first|(cases hk;done)|(exact⟨by simp[World.cell?,h],by simp[jf,h]⟩)
def uQ{L:Nat}{o o':Obj}(h:w.heap[L]? = aA o)(hk:nF o=aD)(hk':nF o'=aD):bU Z w Z (w.putObj L o'):=by
 have bf:=(gS.1 h).1;refine .of λg x hz=>⟨hz,?_⟩
 by_cases e:g=L
 ·subst e;obtain⟨a,b⟩:=Nr (x:=x) h hk;obtain⟨a',b'⟩:=Nr (x:=x) (World.putObj_heap_same (o:=o') bf) hk';grind
 ·exact ji (World.putObj_heap_other e) x
def SR.book(s:SR P Z w j mem){L:Nat}{o o':Obj}(h:w.heap[L]? = aA o)(hk:nF o=aD)(hk':nF o'=aD):SR P Z (w.putObj L o') j mem :=
 s.world (uQ h hk hk') (λg hg=>⟨World.putObj_heap_other λe=>EH s h hk (e ▸ hg),λ_=>Iff.rfl⟩) (λg x hz=>by rw[World.putObj_size];exact s.zin g x hz)
def br.book{Z0:Zs}{w0:bg}{j0':J}{mem0:List O}(st:br Z0 w0 j0' mem0 Z w j mem){L:Nat}{o o':Obj}(hL:w0.heap.size<=L)(h:w.heap[L]? = aA o)(hk:nF o=aD)(hk':nF o'=aD) :
  br Z0 w0 j0' mem0 Z (w.putObj L o') j mem :=
 ⟨st.os,st.tape,st.output,by rw[World.putObj_size];grind,λg hg hno=>⟨(World.putObj_heap_other (by omega)).trans (st.keep g hg hno).1,(st.keep g hg hno).2⟩,st.owned,st.z.trans (uQ h hk hk'),st.ar⟩
def zu(w w':bg):Prop:=w'.heap=w.heap/\w'.os=w.os/\w'.tape=w.tape/\w'.output=w.output
def BG(h:zu w w'):bU Z w Z w':=.of λg x hz=>⟨hz,ji (by rw[h.1]) x⟩
def SR.same(s:SR P Z w j mem)(h:zu w w'):SR P Z w' j mem:=s.world (BG h) (λg _=>⟨by rw[h.1],λ_=>Iff.rfl⟩) (λg x hz=>by rw[h.1];exact s.zin g x hz)
def br.same{Z0:Zs}{w0:bg}{j0':J}{mem0:List O}(st:br Z0 w0 j0' mem0 Z w j mem)(h:zu w w'):br Z0 w0 j0' mem0 Z w' j mem :=
 ⟨h.2.1.trans st.os,h.2.2.1.trans st.tape,h.2.2.2.trans st.output,by rw[h.1];exact st.size,λg hg hno=>⟨by rw[h.1];exact(st.keep g hg hno).1,(st.keep g hg hno).2⟩,st.owned,st.z.trans (BG h),st.ar⟩
def AL(D:Nat):Deferred:={ target:=.collected D,args:=#[] }
def Mk(B:Nat)(w:bg)(ds ds':List Deferred):Prop:=∃Ds:List Nat,ds'=Ds.map AL++ds/\Ds.Nodup/\∀D∈Ds,B<=D/\w.heap[D]? = aA (.deferred (aA []))
structure gf(ws:List Nat)(w:bg)(a a':Act)(w':bg):Prop where
 marks:Mk w.heap.size w' a.defers a'.defers
 size:a'.tmps.size=a.tmps.size
 tmps:∀i,i∉ws->a'.tmps[i]? = a.tmps[i]?
def Mk.refl(B:Nat)(w:bg)(ds:List Deferred):Mk B w ds ds:=⟨[],rfl,.nil,λD h=>by grind⟩
def gf.refl(ws:List Nat)(w:bg)(a:Act)(w':bg):gf ws w a a w':=⟨Mk.refl _ _ _,rfl,λ_ _=>rfl⟩
def gf.of{l:List bz}{a a':Act}(h:gT l a a')(w w':bg):gf (l.filterMap (·.dst)) w a a' w' :=
 ⟨by rw[h.defs];exact Mk.refl _ _ _,h.size,λi hi=>h.tmps i λo ho e=>hi (wN.2 ⟨o,ho,e⟩)⟩
def gf.weak{ws ws':List Nat}{a a':Act}(h:gf ws w a a' w')(hs:∀i∈ws,i∈ws'):gf ws' w a a' w':=⟨h.marks,h.size,λi hi=>h.tmps i λe=>hi (hs i e)⟩
def gf.trans{ws ws':List Nat}{a a1 a2:Act}{w0 w1 w2:bg}{Z1 Z2:Zs}{j1 j2:J}{mem1 mem2:List O}(h:gf ws w0 a a1 w1)(s1:SR P Z1 w1 j1 mem1)(st:br Z1 w1 j1 mem1 Z2 w2 j2 mem2)(hs:w0.heap.size<=w1.heap.size)(h':gf ws' w1 a1 a2 w2) :
  gf (ws++ws') w0 a a2 w2:=by
 obtain⟨⟨D1,e1,n1,k1⟩,z1,t1⟩:=h;obtain⟨⟨D2,e2,n2,k2⟩,z2,t2⟩:=h';have lt1:∀D∈D1,D < w1.heap.size:=λD hD=>(gS.1 (k1 D hD).2).1
 refine⟨⟨D2++D1,by grind,?_,λD hD=>?_⟩,z2.trans z1,λi hi=>?_⟩
 ·grind
 ·rcases cG.1 hD with hD|hD
  ·grind
  ·exact⟨(k1 D hD).1,((st.keep D (lt1 D hD) (EH s1 (k1 D hD).2 rfl)).1).trans (k1 D hD).2⟩
 grind
def lO(P:bv)(n0:Nat)(Z:Zs)(w:bg)(j:J)(mem:List O)(s':S)(a:Act)(w':bg):Prop :=
 ∃Z' j',St Z' w' j' s'.env a/\SR P Z' w' j' s'.mem/\br Z w j mem Z' w' j' s'.mem/\JK n0 j j'
def lO.trans{n0:Nat}{Z1:Zs}{w1:bg}{j1:J}{mem1:List O}{s':S}{a:Act}(h:br Z w j mem Z1 w1 j1 mem1)(hj:JK n0 j j1)(h':lO P n0 Z1 w1 j1 mem1 s' a w'):lO P n0 Z w j mem s' a w' :=
 let ⟨Z2,j2,a1,a2,a3,a4⟩:=h'
 ⟨Z2,j2,a1,a2,h.trans a3,hj.trans a4⟩
def Ex.toExit:Ex->Exit
 |.norm=>.normal
 |.exit i=>.exit i
 |.ret=>.ret
def acZ{step:S->Option (Ex × S)}{Q:Ex->Prop}(hq:∀s r,step s=aA r->r.1≠.norm->Q r.1):∀(n:Nat) (s:S) (r:Ex × S),eU step n s=aA r->Q r.1/\r.1≠.norm:=by
 intro n
 induction n with
 |zero=>intro s r h;simp[eU]at h
 |succ n ih =>
  intro s r h;simp only[eU]at h;cases hs:step s with
  |none=>grind
  |some r1 =>
   grind
def PS{cfg:cB}{call:dw}{n n0:Nat}:∀(c:C) (s:S) (i:Nat) (s':S),exec cfg call n n0 c s=aA (.exit i,s')->i∈eX c:=by
 intro c
 induction c with
 |skip=>intro s i s' h;simp[exec]at h
 |ops dr l =>
  intro s i s' h;simp only[exec,obi]at h;grind
 |seq a b iha ihb =>
  intro s i s' h;simp only[exec]at h;cases h1:exec cfg call n n0 a s with
  |none=>grind
  |some r =>
   obtain⟨x,s1⟩:=r;simp only[h1,bu]at h;cases x with
   |norm=>exact cG.2 (.inr (ihb _ _ _ h))
   |exit k=>cases h;exact cG.2 (.inl (iha _ _ _ h1))
   |ret=>cases h
 |cseq f a b iha ihb =>
  intro s i s' h;simp only[exec]at h;cases h1:exec cfg call n n0 a s with
  |none=>grind
  |some r =>
   obtain⟨x,s1⟩:=r;simp only[h1,bu]at h;cases x with
   |norm=>exact cG.2 (.inr (ihb _ _ _ h))
   |exit k=>cases h;exact cG.2 (.inl (iha _ _ _ h1))
   |ret=>cases h
 |cond c a b iha ihb =>
  intro s i s' h;simp only[exec]at h;cases h1:bB s.env c with
  |none=>grind
  |some v =>
   cases v<;>simp only[h1,bu]at h<;>first|(cases h;done)|skip
   split at h
   ·exact cG.2 (.inl (iha _ _ _ h))
   ·exact cG.2 (.inr (ihb _ _ _ h))
 |block id c ih =>
  intro s i s' h;simp only[exec,omi]at h;obtain⟨⟨x,s1⟩,h1,h2⟩:=h;cases x with
  |norm=>grind
  |ret=>grind
  |exit k =>
   simp only at h2;split at h2
   ·grind
   ·cases h2;exact ih _ _ _ h1
 |loop f c ih =>
  intro s i s' h;simp only[exec,omi]at h;obtain⟨⟨x,s1⟩,h1,h2⟩:=h;cases h2;have:=acZ (Q:=λx=>∀k,x = .exit k->k∈eX c) (λs r hr _ k e=>ih _ k r.2 (by rw[<-e];exact hr)) _ _ _ h1;exact this.1 i rfl
 |exit k=>intro s i s' h;simp only[exec,Option.some.injEq,Prod.mk.injEq,Ex.exit.injEq]at h;rw[<-h.1];exact iN.2 rfl
 |ret=>intro s i s' h;simp[exec]at h
 |start g=>intro s i s' h;simp only[exec,omi]at h;grind
 |uncons g ps ws a b iha ihb =>
  intro s i s' h;simp only[exec]at h;split at h
  ·exact cG.2 (.inr (ihb _ _ _ h))
  ·split at h
   ·simp only[omi]at h;obtain⟨⟨x,s1⟩,h1,h2⟩:=h;cases h2;exact cG.2 (.inl (iha _ _ _ h1))
   grind
  grind
def aim{cfg:cB}{call:dw}{n n0:Nat}:∀(c:C),yY c=aD->∀(s:S) (x:Ex) (s':S),exec cfg call n n0 c s=aA (x,s')->x = .norm:=by
 intro c
 induction c with
 |skip=>intro _ s x s' h;simp[exec]at h;grind
 |ops dr l =>
  intro _ s x s' h;simp only[exec,obi]at h;grind
 |seq a b iha ihb =>
  intro hs s x s' h;simp only[yY,cT]at hs;simp only[exec]at h;cases h1:exec cfg call n n0 a s with
  |none=>grind
  |some r =>
   grind
 |_=>intro hs;cases hs
def abF:∀(f:List Nat) (env:List V) (i:Nat),(gL env f)[i]? = env[i]?∨(gL env f)[i]? = aA .junk:=by
 intro f
 induction f with
 |nil=>intro env i;exact .inl rfl
 |cons t f ih =>
  intro env i;simp only[gL];grind
def ID:∀(f:List Nat) (env:List V),(gL env f).length=env.length:=by
 intro f
 induction f with
 |nil=>intro env;rfl
 |cons t f ih=>intro env;simp only[gL];grind
def abG:∀(f:List Nat) (env:List V) (i:Nat) (v:V),(gL env f)[i]? = aA v->v = .junk∨(i∉f/\env[i]? = aA v):=by
 intro f
 induction f with
 |nil=>intro env i v h;exact .inr ⟨by simp,h⟩
 |cons t f ih =>
  intro env i v h;simp only[gL]at h;grind
def NM{n0:Nat}{f:List Nat}{s:S}{g:Nat}{ts:List aP}{l:List V}(h:s.env[g]? = aA (.rest ts l)):(dK n0 f s).env[g]? = aA (.rest ts l)∨(dK n0 f s).env[g]? = aA .junk:=by
 simp only[dK,VD,kw,gy];rcases abF f s.env g with e|e
 ·rw[e,h];exact .inl rfl
 ·rw[e];exact .inr rfl
end
section
variable {P:bv}{Z Z':Zs}{w w':bg}{j j':J}{mem mem':List O}
def B3(Z:Zs)(w w':bg):Prop:=w.heap.size<=w'.heap.size/\∀g o,Z g o->w'.cell? ⟨g,o,aF⟩=w.cell? ⟨g,o,aF⟩
def B3.of(hs:w.heap.size<=w'.heap.size)(h:bU Z w Z' w'):B3 Z w w':=⟨hs,λg o hz=>(h g o hz).2.1⟩
def sw(P:bv)(seqp:cf->Option (List aP × (List V->Option (List (List V))))):Prop :=
 ∀f ts h as0 rounds,seqp f=aA (ts,h)->h as0=aA rounds->∀(Z:Zs) (w:bg) (us:List aR),(∀g o,Z g o->g < w.heap.size)->gz Z w j0 as0 us ->
  (∀args w,(callFunc f args).run P w = .ok (.enter f args) w) /\
  ∃encs:List (List aR),encs.length=rounds.length/\(∀(k:Nat) (x:List V) (u:List aR),rounds[k]? = aA x->encs[k]? = aA u->gz Z w j0 x u) /\
   ∀(l:Nat) (I:Nat->bg->Prop) (Ix:bg->Prop) (W:bg),(∀k W1 W2,I k W1->zu W1 W2->I k W2)->(∀W1 W2,Ix W1->zu W1 W2->Ix W2)->(∀k W1,I k W1->B3 Z w W1) ->
    (∀(k:Nat) (u:List aR) (W1:bg),encs[k]? = aA u->I k W1->YieldAt Fence.wide 0 P l u.toArray W1 λe W2=>(e = .returned (.bool aD)/\I (k+1) W2)∨(e = .returned (.bool aE)/\Ix W2)) ->
    I 0 W->fQ P f (#[.func (.yield l) #[] #[]]++us.toArray) W λe W'=>(∃v,e = .returned v)/\(I encs.length W'∨Ix W')
def VR.tmps{env:List V}{a a':Act}(s:St Z w j env a)(h:a'.tmps=a.tmps):St Z w j env a':=⟨by rw[h];exact s.len,by rw[h];exact s.val⟩
def St.setJunk{env:List V}{a:Act}(s:St Z w j env a)(g:Nat)(v:V)(hv:∀u,VR Z w j v u):St Z w j (env.set g v) a:=by
 refine⟨by simp[s.len],λi x hx=>?_⟩
 by_cases e:g=i
 ·subst e;have bf:g < env.length:=by grind
  rw[jn bf]at hx;cases hx;exact⟨a.tmps[g]'(by rw[s.len];grind),gG _,hv _⟩
 ·rw[iM e]at hx;exact s.val i x hx
def ahD{ds:List Deferred}:∀(ps:List Nat) (vs:List V) (us:List aR) (env:List V) (T:Array aR),vs.length=ps.length->gz Z w j vs us->St Z w j env { tmps:=T,defers:=ds } ->
  St Z w j (wq env ps vs) { tmps:=(ps.zip us).foldl (λt (p,v)=>t.setIfInBounds p v) T,defers:=ds }/\((ps.zip us).foldl (λt (p,v)=>t.setIfInBounds p v) T).size=T.size /\
   ∀i,i∉ps->((ps.zip us).foldl (λt (p,v)=>t.setIfInBounds p v) T)[i]? = T[i]?:=by
 intro ps
 induction ps with
 |nil=>intro vs us env T hl hv st;cases vs<;>exact⟨st,rfl,λ_ _=>rfl⟩
 |cons p ps ih =>
  intro vs us env T hl hv st;cases vs with
  |nil=>grind
  |cons v vs =>
   cases us with
   |nil=>have:=hv.1;grind
   |cons u us =>
    have hv':gz Z w j vs us:=⟨by have:=hv.1;grind,λi x y h1 h2=>hv.2 (i+1) x y (by grind) (by grind)⟩
    have s1:St Z w j (env.set p v) { tmps:=T.setIfInBounds p u,defers:=ds }:=st.put (aA p) (hv.2 0 v u rfl rfl);obtain⟨a,b,c⟩:=ih vs us _ _ (by grind) hv' s1;refine⟨a,b.trans (by simp),λi hi=>?_⟩;simp only[dC,not_or]at hi;exact(c i hi.2).trans (Wb (Ne.symm hi.1))
def ajc(ps:Array Tmp)(us:List aR)(T:Array aR):(ps.zip us.toArray).foldl (λt (p,v)=>t.setIfInBounds p v) T=(ps.toList.zip us).foldl (λt (p,v)=>t.setIfInBounds p v) T:=by
 rw[<-Array.foldl_toList];simp_all
def A6(B:Nat):Ex->Exit
 |.exit i=>if i=B then .normal else .exit i
 |y=>y.toExit
def afQ{cfg:cB}{call:dw}(hq:sw cfg.P cfg.seqp){n n0:Nat}{g:Nat}{ps:Array Tmp}{uP body:Code}{F:List Nat}{ca cb:C}{ws:List Nat}{B:Nat}
  (hws:∀i,i∈ps.toList∨i∈dE ca∨i∈dE cb->i∈ws) (hst:yY ca=aD) (hex:B∉eX cb)
  (iha:∀(r:Nat) (s:S) (x:Ex) (s':S),exec cfg call n n0 ca s=aA (x,s')->∀(a:Act) (w:bg) (Z:Zs) (j:J),St Z w j s.env a->SR cfg.P Z w j s.mem ->
   ∀(Q:Exit->Act->bg->Prop),(∀a' w',lO cfg.P n0 Z w j s.mem s' a' w'->gf (dE ca) w a a' w'->Q x.toExit a' w')->uP.wpIn (FR (aA r)) 0 cfg.P Q a w)
  (ihb:∀(r:Nat) (s:S) (x:Ex) (s':S),exec cfg call n n0 cb s=aA (x,s')->∀(a:Act) (w:bg) (Z:Zs) (j:J),St Z w j s.env a->SR cfg.P Z w j s.mem ->
   ∀(Q:Exit->Act->bg->Prop),(∀a' w',lO cfg.P n0 Z w j s.mem s' a' w'->gf (dE cb) w a a' w'->Q x.toExit a' w')->body.wpIn (FR (aA r)) 0 cfg.P Q a w)
  {s s1:S} (h1:wy cfg g s=aA s1) {y0:Ex} {s20:S} {N:Nat} (h2:eU (λs=>exec cfg call n n0 (.uncons g ps.toList ws (.seq ca cb) (.exit B)) (dK n0 F s)) N s1=aA (y0,s20))
  {a:Act} {w:bg} {Z:Zs} {j:J} (st:St Z w j s.env a) (sr:SR cfg.P Z w j s.mem) {Q:Exit->Act->bg->Prop}
  (hQ:∀a' w',lO cfg.P n0 Z w j s.mem (dK n0 F s20) a' w'->gf [] w a a' w'->Q (A6 B y0) a' w') (m:Nat) :
  (Code.rangeFunc (.tmp g) ps uP body).wpIn (FR aF) m cfg.P Q a w:=by
 unfold wy at h1;split at h1;rotate_left
 ·grind
 rename_i f caps henv;split at h1
 ·grind
 rename_i hfb;simp only[obi,omi]at h1;obtain⟨⟨ts,hh⟩,hseq,as0,hsn,l,hl,hs1⟩:=h1;simp only at hl hs1;obtain⟨u0,hu0,hv0⟩:=st.val g _ henv;have hv1:=ahU (q:=cfg.sqj f) sr hsn hv0;obtain⟨sr1,ow1⟩:=vj (w:=w) (j:=j) (caps.flatMap (pH (cfg.sqj f) s.mem)) Z s.mem sr;obtain⟨Z1,hZ1⟩:∃Z1,Z1=dR Z (Fz cfg.P j s.mem (caps.flatMap (pH (cfg.sqj f) s.mem))):=⟨_,rfl⟩
 rw[<-hZ1]at hv1 sr1
 have stp1:br Z w j s.mem Z1 w j (freezeAll (caps.flatMap (pH (cfg.sqj f) s.mem)) s.mem):=by
  subst hZ1;exact⟨rfl,rfl,rfl,cZ _,λg' hg hno=>⟨rfl,λo=>⟨λh=>h.resolve_right fun⟨id,_,hb,ho⟩=>hno (pR sr hb ho),.inl⟩⟩,λg' _ ho=>(ow1 g').1 ho,bU.or _ _ _,λ_ h=>⟨h.freezeAll _,rfl⟩⟩
 have hz1:bU Z w Z1 w:=stp1.z
 obtain⟨us,rfl,hus⟩:∃us:List aR,u0 = .func (.func f) #[] us.toArray/\gz Z1 w j0 as0 us:=by
  cases hv1 with
  |fn hl' hh'=>exact⟨_,DY (Nat.lt_of_not_le hfb),hl',hh'⟩
 have heval:a.eval (.tmp g) = .func (.func f) #[] us.toArray:=by simp[Act.eval,hu0,lP]
 obtain⟨hin,encs,e1,e2,e3⟩:=hq f ts hh as0 l hseq hl Z1 w us sr1.zin hus;refine wpIn_rangeFunc ?_;intro fn _;obtain⟨rec,hrec⟩:∃rec:LoopState->Option Code->Loop,rec=λst pe=>{ state:=st,pending:=pe,fn,tmps:=a.tmps,params:=ps,assign:=uP,body,defers:=w.heap.size }:=⟨_,rfl⟩
 have hpend:∀st pe,(rec st pe).pending=pe:=λst pe=>by grind
 have hstate:∀st pe,(rec st pe).state=st:=λst pe=>by grind
 obtain⟨W1,hW1⟩:∃W1,(w.alloc (.deferred (aA []))).alloc (.loop (rec .ready aF))=W1:=⟨_,rfl⟩
 have hL1:W1.heap[w.heap.size+1]? = aA (.loop (rec .ready aF)):=by
  rw[<-hW1];have:=World.alloc_heap_new (w.alloc (.deferred (aA []))) (.loop (rec .ready aF));simp_all
 have hD1:W1.heap[w.heap.size]? = aA (.deferred (aA [])):=by
  rw[<-hW1];exact(mM (w:=w.alloc (.deferred (aA []))) (w1:=(w.alloc (.deferred (aA []))).alloc (.loop (rec .ready aF))) rfl (by simp_all)).trans (World.alloc_heap_new w _)
 have srW:SR cfg.P Z1 W1 j s1.mem:=by rw[<-hW1,<-hs1];exact(sr1.alloc _).alloc _
 have stpW:br Z w j s.mem Z1 W1 j s1.mem:=by
  rw[<-hW1,<-hs1];exact(stp1.trans (br.alloc sr1 _)).trans (br.alloc (sr1.alloc _) _)
 have zW:bU Z1 w Z1 W1:=by
  rw[<-hW1];exact(CW sr1.zin).trans (CW (sr1.alloc _).zin)
 have st0:St Z1 W1 j s1.env a:=by
  rw[<-hs1];exact((st.mono hz1 (bG.refl _)).mono zW (bG.refl _)).setJunk g _ (λ_=>.rest)
 obtain⟨step,hstep⟩:∃step,step=λs=>exec cfg call n n0 (.uncons g ps.toList ws (.seq ca cb) (.exit B)) (dK n0 F s):=⟨_,rfl⟩
 rw[<-hstep]at h2
 let I:Nat->bg->Prop:=λk W=>∃(Z':Zs) (j':J) (sk:S) (mm:Nat),SR cfg.P Z' W j' sk.mem/\St Z' W j' sk.env a/\br Z w j s.mem Z' W j' sk.mem/\JK n0 j j'/\bU Z1 w Z' W /\
  sk.env[g]? = aA (.rest ts ((l.drop k).map .tup))/\eU step mm sk=aA (y0,s20)/\W.heap[w.heap.size+1]? = aA (.loop (rec .ready aF))/\W.heap[w.heap.size]? = aA (.deferred (aA []))
 let Ix:bg->Prop:=λW=>∃(Z':Zs) (j':J) (c:Code),SR cfg.P Z' W j' s20.mem/\St Z' W j' s20.env a/\br Z w j s.mem Z' W j' s20.mem/\JK n0 j j' /\
  ((y0 = .ret/\c = .ret)∨∃i,y0 = .exit i/\i≠B/\c = .exit i)/\W.heap[w.heap.size+1]? = aA (.loop (rec .done (aA c)))/\W.heap[w.heap.size]? = aA (.deferred (aA []))
 have main:=e3 (w.heap.size+1) I Ix W1
  (λk A B' ⟨Z',j',sk,mm,q1,q2,q3,q4,q5,q6,q7,q8,q9⟩ hs=>⟨Z',j',sk,mm,q1.same hs,q2.mono (BG hs) (bG.refl _),q3.same hs,q4,q5.trans (BG hs),q6,q7,by rw[hs.1];grind,by rw[hs.1];grind⟩)
  (λA B' ⟨Z',j',c,q1,q2,q3,q4,q5,q6,q7⟩ hs=>⟨Z',j',c,q1.same hs,q2.mono (BG hs) (bG.refl _),q3.same hs,q4,q5,by rw[hs.1];grind,by rw[hs.1];grind⟩)
  (λk W ⟨Z',j',sk,mm,q1,q2,q3,q4,q5,_⟩=>B3.of q3.size q5)
  ?_
  ⟨Z1,j,s1,N,srW,st0,stpW,JK.refl _ _,zW,by grind,h2,hL1,hD1⟩
 ·-- entering,and behind the function
  refine⟨w.heap.size+1,[AL w.heap.size],W1,{ target:=.fn (.func f) us.toArray,args:=#[.func (.yield (w.heap.size+1)) #[] #[]] },W1,f,#[.func (.yield (w.heap.size+1)) #[] #[]]++us.toArray,W1,?_,?_,?_,?_,λh=>(by cases h),?_⟩
  ·rw[<-hW1,hrec];exact run_enterLoop_outer _ _ _ _ _
  ·simp only[resolve,heval];simp[go_sem]
  ·intro _ _;trivial
  ·simp[invoke,go_sem,hin]
  ·refine CallsIn.mono (NB (r:=aF) (n:=m - 1) main) ?_;rintro e W2 ⟨⟨v,rfl⟩,(hI|hI)⟩
   ·obtain⟨Z',j',sk,mm,q1,q2,q3,q4,q5,q6,q7,q8,q9⟩:=hI;have hend:=(run_endLoop (P:=cfg.P) q8 (by grind)).trans (di (λp=>Result.ok p (W2.putObj (w.heap.size+1) (.loop { rec .ready aF with state:=.exhausted }))) (hpend .ready aF));refine⟨aF,_,hend,?_⟩;cases mm with
    |zero=>simp[eU]at q7
    |succ mm =>
    simp only[eU]at q7;obtain⟨jc,c1,c2,c3,c4⟩:=mG n0 F q2 q1;have hrest:sk.env[g]? = aA (.rest ts []):=by grind
    have hgo:step sk=aA (.exit B,dK n0 F sk):=by
     have:step sk≠none:=by grind
     rw[hstep]at this |-
     rcases NM (n0:=n0) (f:=F) hrest with e|e
     ·simp only[exec,e]
     ·simp only[exec,e]at this;grind
    rw[hgo]at q7;simp only[bu,Option.some.injEq,Prod.mk.injEq]at q7;obtain⟨rfl,rfl⟩:=q7;have hb:nF (.loop (rec .ready aF))=true:=rfl;have c1':=c1;obtain⟨jd,d1,d2,d3,d4⟩:=mG n0 F c1 c2;have hz:=uQ (Z:=Z') (o':=.loop { rec .ready aF with state:=.exhausted }) q8 rfl rfl
    have:=hQ { a with defers:=[AL w.heap.size]++a.defers } (W2.putObj (w.heap.size+1) (.loop { rec .ready aF with state:=.exhausted }))
     ⟨Z',jd,VR.tmps (d1.mono hz (bG.refl _)) rfl,d2.book q8 rfl rfl,((q3.trans c3).trans d3).book (by omega) q8 rfl rfl,(q4.trans c4).trans d4⟩
     ⟨⟨[w.heap.size],rfl,by simp,λD hD=>by
      simp at hD;subst hD;exact⟨cZ _,(World.putObj_heap_other (by omega)).trans q9⟩⟩,rfl,λ_ _=>rfl⟩
    simp only[A6,dv]at this;grind
   ·obtain⟨Z',j',c,q1,q2,q3,q4,q5,q6,q7⟩:=hI;have hend:=(run_endLoop (P:=cfg.P) q6 (by grind)).trans (di (λp=>Result.ok p (W2.putObj (w.heap.size+1) (.loop { rec .done (aA c)with state:=.exhausted }))) (hpend .done (aA c)));obtain⟨jd,d1,d2,d3,d4⟩:=mG n0 F q2 q1;have hz:=uQ (Z:=Z') (o':=.loop { rec .done (aA c)with state:=.exhausted }) q6 rfl rfl
    have:=hQ { a with defers:=[AL w.heap.size]++a.defers } (W2.putObj (w.heap.size+1) (.loop { rec .done (aA c)with state:=.exhausted }))
     ⟨Z',jd,VR.tmps (d1.mono hz (bG.refl _)) rfl,d2.book q6 rfl rfl,(q3.trans d3).book (by omega) q6 rfl rfl,q4.trans d4⟩
     ⟨⟨[w.heap.size],rfl,by simp,λD hD=>by
      simp at hD;subst hD;exact⟨cZ _,(World.putObj_heap_other (by omega)).trans q7⟩⟩,rfl,λ_ _=>rfl⟩
    refine⟨aA c,_,hend,?_⟩;rcases q5 with⟨rfl,rfl⟩|⟨i,rfl,hi,rfl⟩
    ·exact wpIn_ret this
    ·simp only[A6,bh hi]at this;exact wpIn_exit this
 ·-- one round
  rintro k u W hku ⟨Z',j',sk,mm,q1,q2,q3,q4,q5,q6,q7,q8,q9⟩;have hkl:k < l.length:=by grind
  have hlk:l[k]? = aA l[k]:=cI hkl;generalize l[k]=x at hlk;have hvx:=e2 k x u hlk hku
  have hdrop:l.drop k=x::l.drop (k+1):=by
   rw[sd hkl];grind
  cases mm with
  |zero=>simp[eU]at q7
  |succ mm =>
  simp only[eU]at q7;obtain⟨jc,c1,c2,c3,c4⟩:=mG n0 F q2 q1;rw[hdrop]at q6;cases hgo:step sk with
  |none=>grind
  |some r1 =>
  obtain⟨y1,s'⟩:=r1;rw[hgo]at q7;simp only[bu]at q7;rw[hstep]at hgo
  have hck:(dK n0 F sk).env[g]? = aA (.rest ts (.tup x::(l.drop (k+1)).map .tup)):=by
   rcases NM (n0:=n0) (f:=F) q6 with e|e
   ·exact e
   ·simp only[exec,e]at hgo;grind
  simp only[exec,hck]at hgo;split at hgo;rotate_left
  ·grind
  rename_i hxl;simp only[omi]at hgo;obtain⟨⟨y2,t⟩,hgo,he⟩:=hgo;cases he;cases hea:exec cfg call n n0 ca ⟨wq ((dK n0 F sk).env.set g .junk) ps.toList x,(dK n0 F sk).mem⟩with
  |none=>grind
  |some ra =>
  obtain⟨xa,ta⟩:=ra;have:=aim ca hst _ _ _ hea;subst this;rw[hea]at hgo;simp only[bu]at hgo;have heb:exec cfg call n n0 cb ta=aA (y2,t):=hgo;have hus':u.length=ps.size:=by rw[<-hvx.1,hxl];simp
  have hy:=run_yield (P:=cfg.P) (args:=u.toArray) q8 (by grind);have hvx':gz Z' W jc x u:=⟨hvx.1,λi v z h1 h2=>(hvx.2 i v z h1 h2).mono q5 (bG.zero _)⟩
  obtain⟨p1,p2,p3⟩:=ahD (ds:=[]) ps.toList x u ((dK n0 F sk).env.set g .junk) a.tmps hxl hvx' (VR.tmps (c1.setJunk g .junk (λ_=>.junk)) rfl);rw[<-ajc]at p1 p2 p3;obtain⟨T0,hT0⟩:∃T0,(ps.zip u.toArray).foldl (λt (p,v)=>t.setIfInBounds p v) a.tmps=T0:=⟨_,rfl⟩
  rw[hT0]at p1 p2 p3;refine⟨fn,T0,uP,body,by grind,roundIn_of_wpIn trivial (iha (w.heap.size+1) _ _ _ hea { tmps:=T0,defers:=[] } W Z' jc p1 c2 _ ?_)⟩;intro a1 Wa ⟨Z2,j2,b1,b2,b3,b4⟩ hka;have keepA:∀(D:Nat) (o:Obj),W.heap[D]? = aA o->nF o=aD->Wa.heap[D]? = aA o:=λD o hD hk=>(b3.keep D (gS.1 hD).1 (EH c2 hD hk)).1.trans hD
  have hLa:=keepA _ _ q8 rfl;have hDa:=keepA _ _ q9 rfl;refine⟨_,run_beginRound hLa (hstate _ _),?_⟩;obtain⟨W2,hW2⟩:∃W2,Wa.putObj (w.heap.size+1) (.loop { rec .ready aF with state:=.busy })=W2:=⟨_,rfl⟩
  have hltL:w.heap.size+1 < Wa.heap.size:=(gS.1 hLa).1;have hz2:bU Z2 Wa Z2 W2:=by rw[<-hW2];exact uQ hLa rfl rfl
  have sr2:SR cfg.P Z2 W2 j2 ta.mem:=by rw[<-hW2];exact b2.book hLa rfl rfl
  have st2:br Z w j s.mem Z2 W2 j2 ta.mem:=by rw[<-hW2];exact((q3.trans c3).trans b3).book (by omega) hLa rfl rfl
  have hL2:W2.heap[w.heap.size+1]? = aA (.loop { rec .ready aF with state:=.busy }):=by rw[<-hW2];exact World.putObj_heap_same hltL
  have hD2:W2.heap[w.heap.size]? = aA (.deferred (aA [])):=by rw[<-hW2];exact(World.putObj_heap_other (by omega)).trans hDa
  rw[hW2];refine ihb (w.heap.size+1) _ _ _ heb a1 W2 Z2 j2 (b1.mono hz2 (bG.refl _)) sr2 _ ?_;intro a3 W3 ⟨Z3,j3,d1,d2,d3,d4⟩ hkb;have keepB:∀(D:Nat) (o:Obj),W2.heap[D]? = aA o->nF o=aD->W3.heap[D]? = aA o:=λD o hD hk=>(d3.keep D (gS.1 hD).1 (EH sr2 hD hk)).1.trans hD
  have hL3:=keepB _ _ hL2 rfl;have hD3:=keepB _ _ hD2 rfl;have hlt3:w.heap.size+1 < W3.heap.size:=(gS.1 hL3).1;have hsz:a3.tmps.size=a.tmps.size:=(hkb.size.trans hka.size).trans p2
  have stE:∀(V0:V),(∀u,VR Z3 W3 j3 V0 u)->St Z3 W3 j3 ((gL t.env ws).set g V0) a:=by
   intro V0 hV0;refine St.setJunk ⟨by rw[ID,<-d1.len,hsz],λi v hi=>?_⟩ g V0 hV0;rcases abG ws t.env i v hi with rfl|⟨hni,hi⟩
   ·have bf:i < a.tmps.size:=by
     have:=(cE.1 hi).1;rw[ID,<-d1.len,hsz]at this;grind
    exact⟨_,gG bf,.junk⟩
   ·obtain⟨z,hz,hvz⟩:=d1.val i v hi;refine⟨z,?_,hvz⟩;rw[<-hz];exact(((hkb.tmps i λh=>hni (hws i (.inr (.inr h)))).trans (hka.tmps i λh=>hni (hws i (.inr (.inl h))))).trans (p3 i λh=>hni (hws i (.inl h)))).symm
  have zAll:bU Z1 w Z3 W3:=((q5.trans c3.z).trans b3.z).trans (hz2.trans d3.z);have stAll:br Z w j s.mem Z3 W3 j3 t.mem:=st2.trans d3;have jAll:JK n0 j j3:=((q4.trans c4).trans b4).trans d4
  have fin:∀(jump:Option Code),(Instr.endRound (w.heap.size+1) jump).run cfg.P W3 = .ok (.bool jump.isNone) (W3.putObj (w.heap.size+1) (.loop (rec (if jump.isNone then .ready else .done) jump))) /\
    (W3.putObj (w.heap.size+1) (.loop (rec (if jump.isNone then .ready else .done) jump))).heap[w.heap.size+1]? = aA (.loop (rec (if jump.isNone then .ready else .done) jump)) /\
    (W3.putObj (w.heap.size+1) (.loop (rec (if jump.isNone then .ready else .done) jump))).heap[w.heap.size]? = aA (.deferred (aA [])) /\
    bU Z3 W3 Z3 (W3.putObj (w.heap.size+1) (.loop (rec (if jump.isNone then .ready else .done) jump))):=by
   intro jump;have:=run_endRound (P:=cfg.P) jump hL3;refine⟨by grind,World.putObj_heap_same hlt3,(World.putObj_heap_other (by omega)).trans hD3,uQ hL3 rfl rfl⟩
  cases y2 with
  |norm =>
   obtain⟨f1,f2,f3,f4⟩:=fin aF;refine⟨_,_,f1,.inl ⟨rfl,Z3,j3,⟨(gL t.env ws).set g (.rest ts ((l.drop (k+1)).map .tup)),t.mem⟩,mm,d2.book hL3 rfl rfl,(stE _ λ_=>.rest).mono f4 (bG.refl _),stAll.book (by omega) hL3 rfl rfl,jAll,zAll.trans f4,?_,q7,f2,f3⟩⟩
   have hlen:g < ((gL t.env ws).set g (.rest ts ((l.drop (k+1)).map .tup))).length:=by
    rw[sg,ID,<-d1.len,hsz];grind
   grind
  |exit i =>
   have q7':aA (Ex.exit i,(⟨(gL t.env ws).set g (.rest ts ((l.drop (k+1)).map .tup)),t.mem⟩:S))=aA (y0,s20):=q7;clear q7;cases q7';obtain⟨f1,f2,f3,f4⟩:=fin (aA (.exit i));exact⟨_,_,f1,.inr ⟨rfl,Z3,j3,_,d2.book hL3 rfl rfl,(stE _ λ_=>.rest).mono f4 (bG.refl _),stAll.book (by omega) hL3 rfl rfl,jAll,.inr ⟨i,rfl,λe=>hex (e ▸ PS _ _ _ _ heb),rfl⟩,f2,f3⟩⟩
  |ret =>
   have q7':aA (Ex.ret,(⟨(gL t.env ws).set g (.rest ts ((l.drop (k+1)).map .tup)),t.mem⟩:S))=aA (y0,s20):=q7;clear q7;cases q7';obtain⟨f1,f2,f3,f4⟩:=fin (aA .ret);exact⟨_,_,f1,.inr ⟨rfl,Z3,j3,_,d2.book hL3 rfl rfl,(stE _ λ_=>.rest).mono f4 (bG.refl _),stAll.book (by omega) hL3 rfl rfl,jAll,.inl ⟨rfl,rfl⟩,f2,f3⟩⟩
end
section
variable {P:bv}{Z Z':Zs}{w w':bg}{j j':J}{mem mem':List O}
def Bb{pr}:∀c p,dM pr c=aA p->cV p=p:=by
 intro c
 induction c with
 |skip=>intro p h;simp[dM]at h;subst h;rfl
 |region id ops draw =>
  intro p h;simp[dM,obi]at h;obtain⟨l,_,h⟩:=h;cases draw
  ·cases h;rfl
  ·simp[dv,omi]at h;obtain⟨_,_,rfl⟩:=h;rfl
 |seq a b iha ihb =>
  intro p h;simp[dM,obi,omi]at h;obtain⟨x,h1,y,h2,rfl⟩:=h;simp[cV,iha _ h1,ihb _ h2]
 |cond c a b iha ihb =>
  intro p h;simp[dM,obi,omi]at h;obtain⟨x,h1,y,h2,rfl⟩:=h;simp[cV,iha _ h1,ihb _ h2]
 |block i a iha =>
  intro p h;simp[dM,omi]at h;obtain⟨x,h1,rfl⟩:=h;simp[cV,iha _ h1]
 |loop a iha =>
  intro p h;simp[dM,omi]at h;obtain⟨x,h1,rfl⟩:=h;simp[cV,iha _ h1]
 |exit i=>intro p h;simp[dM]at h;subst h;rfl
 |ret=>intro p h;simp[dM]at h;subst h;rfl
 |rangeFunc g ps a c iha ihc =>
  intro p h;cases g<;>first|(simp[dM]at h)|skip
  simp[obi]at h;obtain⟨x,h1,y,h2,h⟩:=h;unfold E5 at h;split at h
  ·cases h;simp[cV]
  ·cases h
 |_=>intro p h;simp[dM]at h
def U2{pr nt res} c env out:iH (jk pr nt res env c out)=iH c:=by
 cases c with
 |seq a b =>
  simp[jk];cases(Ha pr b && !iH a)<;>rfl
 |_=>rfl
def JV{pr c g ps ws a b}:dM pr c≠aA (.uncons g ps ws a b):=by
 intro h;cases c with
 |skip=>cases h
 |region i ops dr =>
  simp[dM,obi]at h;split at h
  all_goals simp_all
 |seq p q =>
  simp only[dM,obi,omi]at h;grind
 |cond c p q =>
  simp only[dM,obi,omi]at h;grind
 |block i p =>
  simp only[dM,omi]at h;grind
 |loop p =>
  simp only[dM,omi]at h;grind
 |exit i=>cases h
 |ret=>cases h
 |rangeFunc g ps uP body =>
  cases g<;>first|(cases h)|skip
  simp[dM,obi]at h;unfold E5 at h
  all_goals grind
 |_=>cases h
def ahC{pr nt res}:∀c env out,cV (jk pr nt res env c out)=cV c:=by
 intro c
 induction c with
 |seq a b iha ihb =>
  intro env out;simp[jk];cases h:(Ha pr b && !iH a)with
  |false=>simp[be,cV,iha,ihb]
  |true =>
   have h2:iH a=false:=by
    grind
   simp[bn,cV,U2,h2,be,iha,ihb]
 |cseq f a b iha ihb=>intro env out;simp[jk,cV,U2,iha,ihb]
 |cond c a b iha ihb=>intro env out;simp[jk,cV,iha,ihb]
 |block i a iha=>intro env out;simp[jk,cV,iha]
 |loop f a iha=>intro env out;simp[jk,cV,iha]
 |_=>intro env out;rfl
def DT{pr:Nat->Bool}{cfg:cB}{call:dw}(hm:cfg.P.follows .mixedOrders=aD)(hp:iO cfg.P call.pc)(hi:gH cfg.P call.ic)(hsq:sw cfg.P cfg.seqp){n n0:Nat} :
  ∀(c:Code) (ro:Option Nat) (cc:C) (s:S) (x:Ex) (s':S),dM pr c=aA (cV cc)->(ro≠aF->ir cc=aE)->exec cfg call n n0 cc s=aA (x,s')->∀(a:Act) (w:bg) (Z:Zs) (j:J),St Z w j s.env a->SR cfg.P Z w j s.mem ->
   ∀(Q:Exit->Act->bg->Prop),(∀a' w',lO cfg.P n0 Z w j s.mem s' a' w'->gf (dE cc) w a a' w'->Q x.toExit a' w')->∀(m:Nat),c.wpIn (FR ro) m cfg.P Q a w:=by
 intro c
 induction c with
 |skip =>
  intro ro cc s x s' hc hns h a w Z j st sr Q hQ m;cases cc<;>simp[dM,cV]at hc;simp[exec]at h;obtain⟨rfl,rfl⟩:=h;exact wpIn_skip (hQ a w ⟨Z,j,st,sr,br.refl _ _ _ _,JK.refl _ _⟩ (gf.refl _ _ _ _))
 |region id ops draw =>
  intro ro cc s x s' hc hns h a w Z j st sr Q hQ m;simp only[dM]at hc;cases hl:cD (Ba ops) ops.toList with
  |none=>grind
  |some l =>
   simp only[hl,bu]at hc;have hpl:=afp hl;split at hc
   ·rename_i hdr;simp only[omi]at hc;obtain⟨l',ht,hc⟩:=hc;obtain⟨hpd,hd⟩:=aiO hpl _ ht;cases cc<;>simp[cV]at hc;obtain⟨rfl,rfl⟩:=hc;simp only[exec,obi]at h;obtain⟨s1,h1,h2⟩:=h;split at h2;rotate_left
    ·grind
    rename_i hchk;cases h2;simp only[cN,rV]at hchk;rw[hdr];exact Yo hm hp hi hd hpd hchk h1 st sr λa' w' ⟨Z1,j1,q1,q2,q3,q4⟩ hk=>hQ a' w' ⟨Z1,j1,q1,q2,q3,JK.of q4⟩ (gf.of hk w w')
   ·rename_i hdr;cases cc<;>simp[cV]at hc;obtain⟨rfl,rfl⟩:=hc;simp only[exec,obi]at h;obtain⟨s1,h1,h2⟩:=h;simp only[lQ,Bool.true_or,dv,Option.some.injEq,Prod.mk.injEq]at h2;obtain⟨rfl,rfl⟩:=h2;have hdr:draw=false:=by grind
    rw[hdr];exact af2 hp hi (afm pr hpl) h1 st sr λa' w' ⟨Z1,j1,q1,q2,q3,q4⟩ hk=>hQ a' w' ⟨Z1,j1,q1,q2,q3,JK.of q4⟩ (gf.of hk w w')
 |seq p q ihp ihq =>
  intro ro cc s x s' hc hns h a w Z j st sr Q hQ m;simp only[dM]at hc;cases hcp:dM pr p with
  |none=>grind
  |some cp =>
   cases hcq:dM pr q with
   |none=>grind
   |some cq =>
    cases cc<;>simp[hcp,hcq,cV]at hc;rotate_left
    ·rename_i fl ca cb;obtain⟨hc1,rfl⟩:=hc
     have hst0:iH ca=false:=by
      cases hh:iH ca with
      |false=>rfl
      |true=>rw[hh]at hc1;exact fY (hcp.trans (di aA hc1)) JV
     rw[hst0]at hc1;have hcp:dM pr p=aA (cV ca):=by grind
     simp only[exec]at h;cases h1:exec cfg call n n0 ca s with
     |none=>grind
     |some r =>
      obtain⟨x1,s1⟩:=r;simp only[h1,bu]at h;have hns':ro≠aF->ir ca=aE/\ir cb=false:=λe=>by have:=hns e;simpa[ir]using this
      refine wpIn_seq (ihp ro ca s x1 s1 hcp (λe=>(hns' e).1) h1 a w Z j st sr _ (λa1 w1 haf hk=>?_) m);cases x1 with
      |norm =>
       obtain⟨Z1,j1,q1,q2,q3,q4⟩:=haf;obtain⟨j2,t1,t2,t3,t4⟩:=mG n0 fl q1 q2;refine ihq ro cb (dK n0 fl s1) x s' hcq (λe=>(hns' e).2) h a1 w1 Z1 j2 t1 t2 Q (λa' w' h' hk'=>?_) m;obtain⟨Z2,j3,r1,r2,r3,r4⟩:=h';exact hQ a' w' ⟨Z2,j3,r1,r2,(q3.trans t3).trans r3,(q4.trans t4).trans r4⟩ (hk.trans q2 (t3.trans r3) q3.size hk')
      |exit i=>cases h;exact hQ a1 w1 haf (hk.weak λi hi=>cG.2 (.inl hi))
      |ret=>cases h;exact hQ a1 w1 haf (hk.weak λi hi=>cG.2 (.inl hi))
    rename_i ca cb;obtain⟨rfl,rfl⟩:=hc;simp only[exec]at h;cases h1:exec cfg call n n0 ca s with
    |none=>grind
    |some r =>
     obtain⟨x1,s1⟩:=r;simp only[h1,bu]at h;have hns':ro≠aF->ir ca=aE/\ir cb=false:=λe=>by have:=hns e;simpa[ir]using this
     refine wpIn_seq (ihp ro ca s x1 s1 hcp (λe=>(hns' e).1) h1 a w Z j st sr _ (λa1 w1 haf hk=>?_) m);cases x1 with
     |norm =>
      obtain⟨Z1,j1,q1,q2,q3,q4⟩:=haf;refine ihq ro cb s1 x s' hcq (λe=>(hns' e).2) h a1 w1 Z1 j1 q1 q2 Q (λa' w' h' hk'=>?_) m;obtain⟨Z2,j2,r1,r2,r3,r4⟩:=h';exact hQ a' w' ⟨Z2,j2,r1,r2,q3.trans r3,q4.trans r4⟩ (hk.trans q2 r3 q3.size hk')
     |exit i=>cases h;exact hQ a1 w1 haf (hk.weak λi hi=>cG.2 (.inl hi))
     |ret=>cases h;exact hQ a1 w1 haf (hk.weak λi hi=>cG.2 (.inl hi))
 |cond cnd p q ihp ihq =>
  intro ro cc s x s' hc hns h a w Z j st sr Q hQ m;simp only[dM]at hc;cases hcp:dM pr p with
  |none=>grind
  |some cp =>
   cases hcq:dM pr q with
   |none=>grind
   |some cq =>
    cases cc<;>simp[hcp,hcq,cV]at hc;rename_i c0 ca cb;obtain⟨rfl,rfl,rfl⟩:=hc;simp only[exec]at h;cases h1:bB s.env cnd with
    |none=>grind
    |some v =>
     have hv:=st.eval cnd v h1;cases v<;>simp only[h1,bu]at h<;>first|(cases h;done)|skip
     rename_i t;cases hu:a.eval cnd<;>rw[hu]at hv<;>cases hv;have hns':ro≠aF->ir ca=aE/\ir cb=false:=λe=>by have:=hns e;simpa[ir]using this
     cases t
     ·exact wpIn_cond hu (ihq ro cb s x s' hcq (λe=>(hns' e).2) (by grind) a w Z j st sr Q (λa' w' h1 h2=>hQ a' w' h1 (h2.weak λi hi=>cG.2 (.inr hi))) m)
     ·exact wpIn_cond hu (ihp ro ca s x s' hcp (λe=>(hns' e).1) (by grind) a w Z j st sr Q (λa' w' h1 h2=>hQ a' w' h1 (h2.weak λi hi=>cG.2 (.inl hi))) m)
 |block id p ihp =>
  intro ro cc s x s' hc hns h a w Z j st sr Q hQ m;simp only[dM,omi]at hc;obtain⟨cp0,hcp,hb⟩:=hc;cases cc<;>simp[cV]at hb;rename_i id2 cp;obtain⟨rfl,rfl⟩:=hb;simp only[exec,omi]at h;obtain⟨⟨x1,s1⟩,h1,h2⟩:=h;refine wpIn_block (ihp ro cp s x1 s1 hcp hns h1 a w Z j st sr _ (λa1 w1 haf hk=>?_) m);cases x1 with
  |norm=>cases h2;exact hQ a1 w1 haf hk
  |ret=>cases h2;exact hQ a1 w1 haf hk
  |exit i =>
   simp only at h2;show(if i=id then Q .normal a1 w1 else Q (.exit i) a1 w1);split at h2
   ·rename_i e;cases h2;rw[bc e];exact hQ a1 w1 haf hk
   ·rename_i e;cases h2;rw[bh e];exact hQ a1 w1 haf hk
 |loop p ihp =>
  intro ro cc s x s' hc hns h a w Z j st sr Q hQ m;simp only[dM,omi]at hc;obtain⟨cp0,hcp,hb⟩:=hc;cases cc<;>simp[cV]at hb;rename_i fl cp;subst hb;simp only[exec,omi]at h;obtain⟨⟨x1,s1⟩,h1,h2⟩:=h;cases h2;refine wpIn_loop_rounds n ?_
  have key:∀(k:Nat) (s:S) (x1:Ex) (s1:S),eU (λs=>exec cfg call n n0 cp (dK n0 fl s)) k s=aA (x1,s1)->∀(a:Act) (w:bg) (Z:Zs) (j:J),St Z w j s.env a->SR cfg.P Z w j s.mem ->
    (∀a' w',lO cfg.P n0 Z w j s.mem (dK n0 fl s1) a' w'->gf (dE cp) w a a' w'->Q x1.toExit a' w')->Code.roundsIn (FR ro) m cfg.P p Q k a w:=by
   intro k
   induction k with
   |zero=>intro s x1 s1 h;simp[eU]at h
   |succ k ihk =>
    intro s x1 s1 h a w Z j st sr hQ;simp only[eU]at h;obtain⟨j0',t1,t2,t3,t4⟩:=mG n0 fl st sr;cases hs:exec cfg call n n0 cp (dK n0 fl s)with
    |none=>grind
    |some r =>
     obtain⟨x2,s2⟩:=r;simp only[hs,bu]at h;rw[roundsIn_succ];refine ihp ro cp _ x2 s2 hcp hns hs a w Z j0' t1 t2 _ (λa2 w2 haf hk=>?_) m
     have fin:aA (x2,s2)=aA (x1,s1)->Q x1.toExit a2 w2:=by
      intro h;cases h;obtain⟨Z1,j1,q1,q2,q3,q4⟩:=haf;obtain⟨j2,r1,r2,r3,r4⟩:=mG n0 fl q1 q2;exact hQ a2 w2 ⟨Z1,j2,r1,r2,(t3.trans q3).trans r3,(t4.trans q4).trans r4⟩ hk
     cases x2 with
     |norm =>
      obtain⟨Z1,j1,q1,q2,q3,q4⟩:=haf;refine ihk s2 x1 s1 h a2 w2 Z1 j1 q1 q2 λa' w' h' hk'=>?_
      obtain⟨Z2,j2,r1,r2,r3,r4⟩:=h';exact hQ a' w' ⟨Z2,j2,r1,r2,(t3.trans q3).trans r3,(t4.trans q4).trans r4⟩ ((hk.trans q2 r3 q3.size hk').weak λi hi=>(cG.1 hi).elim id id)
     |exit i=>have:=fin h;cases h;exact this
     |ret=>have:=fin h;cases h;exact this
  exact key n s _ s1 h1 a w Z j st sr hQ
 |rangeFunc g ps uP body iha ihb =>
  intro ro cc s x s' hc hns h a w Z j st sr Q hQ m;cases g<;>first|(simp[dM]at hc;done)|skip
  rename_i g;simp only[dM,obi]at hc;obtain⟨pa,hpa,pc,hpc,hc⟩:=hc;unfold E5 at hc;split at hc;rotate_left
  ·grind
  rename_i hcond;simp only[cT,mU]at hcond;obtain⟨⟨⟨hst,hs1⟩,hs2⟩,hex⟩:=hcond;have hc0:=Option.some.inj hc;clear hc;cases cc<;>simp[cV]at hc0;rotate_left
  ·rename_i fl ca cb;obtain⟨hc1,_⟩:=hc0;cases hh:iH ca with
   |true=>grind
   |false =>
    rw[hh]at hc1;cases ca<;>simp[cV]at hc1;cases hh
  rename_i c1 c2;obtain⟨hc1,hc2⟩:=hc0;cases c1<;>simp[cV]at hc1;subst hc1;cases c2<;>simp[cV]at hc2;rename_i bid c3;obtain⟨rfl,hc3⟩:=hc2;cases c3<;>simp[cV]at hc3;rename_i F c4;cases c4<;>simp[cV]at hc3;rename_i g' ps' ws c5 c6;obtain⟨rfl,rfl,rfl,hc5,hc6⟩:=hc3;subst hc5 hc6
  have hro:ro=none:=by
   cases ro with
   |none=>rfl
   |some l=>have:=hns (by simp);simp[ir]at this
  subst hro;cases hsa:wy cfg g s with
  |none=>simp[exec,hsa]at h
  |some s1 =>
   have hx:exec cfg call n n0 (.block (rC g) (.loop F (.uncons g ps.toList (ps.toList++(dE pa++dE pc)) (.seq pa pc) (.exit (rC g))))) s1=aA (x,s'):=by
    rw[exec]at h;simp only[exec,hsa,dy,bu]at h |-
    exact h
   clear h;rw[exec,exec]at hx;simp only[omi]at hx;obtain⟨⟨y,s2⟩,⟨⟨y0,s20⟩,hit,hr⟩,h2⟩:=hx;have hr1:y0=y:=di Prod.fst hr;have hr2:dK n0 F s20=s2:=di Prod.snd hr;subst hr1 hr2;refine afQ (ca:=pa) (cb:=pc) hsq (λi hi=>?_) hst ?_ (λl s x s' h a w Z j st sr Q hQ=>iha (aA l) pa s x s' (hpa.trans (di aA (Bb _ _ hpa).symm)) (λ_=>hs1) h a w Z j st sr Q hQ 0) (λl s x s' h a w Z j st sr Q hQ=>ihb (aA l) pc s x s' (hpc.trans (di aA (Bb _ _ hpc).symm)) (λ_=>hs2) h a w Z j st sr Q hQ 0) hsa hit st sr (λa' w' haf hk=>?_) m
   ·grind
   ·intro hb
    have:(eX (.seq pa pc)).contains (rC g)=true:=by
     simp only[eX,List.contains_iff_mem,cG];grind
    grind
   ·have hk':=hk.weak (ws':=dE (.seq (.start g) (.block (rC g) (.loop F (.uncons g ps.toList (ps.toList++(dE pa++dE pc)) (.seq pa pc) (.exit (rC g))))))) (λi hi=>by grind);cases y0 with
    |norm=>cases h2;exact hQ a' w' haf hk'
    |ret=>cases h2;exact hQ a' w' haf hk'
    |exit i =>
     simp only at h2;show Q (A6 (rC g) (.exit i)) a' w';simp only[A6];split at h2
     ·rename_i e;cases h2;rw[bc e];exact hQ a' w' haf hk'
     ·rename_i e;cases h2;rw[bh e];exact hQ a' w' haf hk'
 |exit i =>
  intro ro cc s x s' hc hns h a w Z j st sr Q hQ m;cases cc<;>simp[dM,cV]at hc;subst hc;simp[exec]at h;obtain⟨rfl,rfl⟩:=h;exact wpIn_exit (hQ a w ⟨Z,j,st,sr,br.refl _ _ _ _,JK.refl _ _⟩ (gf.refl _ _ _ _))
 |ret =>
  intro ro cc s x s' hc hns h a w Z j st sr Q hQ m;cases cc<;>simp[dM,cV]at hc;simp[exec]at h;obtain⟨rfl,rfl⟩:=h;exact wpIn_ret (hQ a w ⟨Z,j,st,sr,br.refl _ _ _ _,JK.refl _ _⟩ (gf.refl _ _ _ _))
 |_=>intro ro cc s x s' hc;simp[dM]at hc
def jV:Ex->Exit
 |.norm=>.normal
 |.exit i=>if i < 3000000 then .exit i else .goto ((i - 3000000) / 2)
 |.ret=>.ret
def yn(l:Nat):Ex->Exit
 |.exit i=>if i=n6 l then .normal else jV (.exit i)
 |y=>jV y
def VG{x:Ex}(h:∀i,x = .exit i->i < 3000000):jV x=x.toExit:=by
 cases x with
 |exit i=>simp only[jV,bc (h i rfl)];rfl
 |_=>rfl
def VF(l:Nat):jV (.exit (mL l)) = .goto l:=by
 have h1:¬(3000000+2 * l < 3000000):=by omega
 have h2:(3000000+2 * l - 3000000) / 2=l:=by omega
 simp only[jV,mL,bh h1,h2]
def Ir{cfg:cB}{call:dw}{n n0:Nat}:∀(c:C) (s:S) (i:Nat) (s':S),exec cfg call n n0 c s=aA (.exit i,s')->i∈en c:=by
 intro c
 induction c with
 |skip=>intro s i s' h;simp[exec]at h
 |ops dr l =>
  intro s i s' h;simp only[exec,obi]at h;grind
 |seq a b iha ihb =>
  intro s i s' h;simp only[exec,obi]at h;obtain⟨⟨x,s1⟩,h1,h⟩:=h;simp only[en,cG];grind
 |cseq f a b iha ihb =>
  intro s i s' h;simp only[exec,obi]at h;obtain⟨⟨x,s1⟩,h1,h⟩:=h;simp only[en,cG];grind
 |cond c a b iha ihb =>
  intro s i s' h;simp only[exec,obi]at h;obtain⟨v,_,h⟩:=h;simp only[en,cG];grind
 |block id c ih =>
  intro s i s' h;simp only[exec,omi]at h;obtain⟨⟨x,s1⟩,h1,h⟩:=h;cases x with
  |norm=>cases h
  |ret=>cases h
  |exit e =>
   simp only at h;split at h
   ·cases h
   ·rename_i hne;cases h;simp only[en,si];grind
 |loop f c ih =>
  intro s i s' h;simp only[exec,omi]at h;obtain⟨⟨x,s1⟩,h1,h⟩:=h;simp only[en]
  have key:∀(k:Nat) (s:S) (r:Ex × S),eU (λs=>exec cfg call n n0 c (dK n0 f s)) k s=aA r->∀i,r.1 = .exit i->i∈en c:=by
   intro k
   induction k with
   |zero=>intro s r h;simp[eU]at h
   |succ k ihk =>
    intro s r h i hi;simp only[eU,obi]at h;grind
  grind
 |exit j=>intro s i s' h;simp[exec]at h;simp[en,h.1]
 |ret=>intro s i s' h;simp[exec]at h
 |start g=>intro s i s' h;simp[exec]at h
 |uncons g ps ws a b iha ihb =>
  intro s i s' h;simp only[en,cG];simp only[exec]at h;split at h
  ·grind
  ·split at h
   ·simp only[omi]at h;grind
   grind
  grind
def IH:∀(c:C),en (cV c)=en c:=by
 intro c
 induction c with
 |seq a b iha ihb=>simp only[cV,en,iha,ihb]
 |cond c a b iha ihb=>simp only[cV,en,iha,ihb]
 |block i a iha=>simp only[cV,en,iha]
 |loop f a iha=>simp only[cV,en,iha]
 |cseq f a b iha ihb =>
  simp only[cV,en,ihb];cases ha:iH a with
  |false=>grind
  |true =>
   cases a<;>simp[iH]at ha;simp only[bn,en,fR]
 |_=>rfl
def abn:∀(c:C) (i:Nat),i∈eX c->i∈eX (cV c):=by
 intro c
 induction c with
 |seq a b iha ihb=>intro i h;simp only[cV,eX,cG]at h |-;grind
 |cond c a b iha ihb=>intro i h;simp only[cV,eX,cG]at h |-;grind
 |block i a iha=>intro i h;simp only[cV,eX]at h |-;grind
 |loop f a iha=>intro i h;simp only[cV,eX]at h |-;grind
 |cseq f a b iha ihb =>
  intro i h;simp only[cV,eX,cG]at h |-
  rcases h with h|h
  ·cases ha:iH a with
   |false=>grind
   |true=>cases a<;>simp[iH]at ha;simp[eX]at h
  grind
 |_=>intro i h;exact h
def rS(F:Fence)(n:Nat)(P:bv)(c0 d:Code)(Q:Exit->Act->bg->Prop)(a:Act)(w:bg):Prop :=
 ∀(b:Frame) (k:List Item) (cs:List Frame),b.roundOf=F.round->F.fn b.fn->F.room (cs.length+1+n) ->
  ∃e a' w',Q e a' w'/\ArrivesIn (Machine.fenced P F) P (lone (b.atR a (.code d::.inScope c0::k)) cs w) b (.inScope c0::k) cs e a' w'
section
variable {F:Fence}{m:Nat}{P:bv}{c0:Code}{Q:Exit->Act->bg->Prop}{a:Act}{w:bg}
def ajb{d:Code}(h:d.wpIn F m P Q a w):rS F m P c0 d Q a w:=λb k cs hro hb hr=>h b (.inScope c0::k) cs hro hb hr
def Gc{x y:Code}(h:x.wpIn F m P (Exit.then (rS F m P c0 y Q) Q) a w):rS F m P c0 (.seq x y) Q a w:=by
 intro b k cs hro hb hr;have h0:(lone (b.atR a (.code (.seq x y)::.inScope c0::k)) cs w).fenced P F:=fenced_calm hb hr rfl;obtain⟨e,a₁,w₁,hq,harr⟩:=h b (.code y::.inScope c0::k) cs hro hb hr;cases e with
 |normal =>
  obtain⟨e₂,a₂,w₂,hq₂,harr₂⟩:=hq b k cs hro hb hr;exact⟨e₂,a₂,w₂,hq₂,.of_steps (.head h0 stepR_seq harr) harr₂⟩
 |exit id=>exact⟨_,a₁,w₁,hq,.of_steps (.one h0 stepR_seq) (.pass (x:=.code y) rfl (λ_ _=>.inl (by simp)) harr)⟩
 |goto l=>exact⟨_,a₁,w₁,hq,.of_steps (.one h0 stepR_seq) (.pass (x:=.code y) rfl (λ_ _=>.inl (by simp)) harr)⟩
 |ret=>exact⟨_,a₁,w₁,hq,.of_steps (.one h0 stepR_seq) (.pass (x:=.code y) rfl (λ_ _=>.inl (by simp)) harr)⟩
 |panic ch=>exact⟨_,a₁,w₁,hq,.of_steps (.one h0 stepR_seq) (.pass (x:=.code y) rfl (λ_ _=>.inl (by simp)) harr)⟩
 |outgrown=>exact⟨_,a₁,w₁,hq,.of_steps (.one h0 stepR_seq) (.pass (x:=.code y) rfl (λ_ _=>.inl (by simp)) harr)⟩
def aja{d rest:Code}{l:Nat}(hf:ly c0 l=aA rest)
  (h:rS F m P c0 d (λe a1 w1=>match e with |.goto l'=>if l'=l then rS F m P c0 rest Q a1 w1 else Q (.goto l') a1 w1|e=>Q e a1 w1) a w):rS F m P c0 d Q a w:=by
 intro b k cs hro hb hr;obtain⟨e,a₁,w₁,hq,harr⟩:=h b k cs hro hb hr;cases e with
 |goto l' =>
  simp only at hq;split at hq
  ·rename_i e;subst e;obtain⟨e₂,a₂,w₂,hq₂,harr₂⟩:=hq b k cs hro hb hr;have hg:gotoIn l' (.inScope c0::k)=aA (.code rest::.inScope c0::k):=by simp[gotoIn,hf]
   exact⟨e₂,a₂,w₂,hq₂,.of_steps (harr.1 _ hg) harr₂⟩
  grind
 |normal=>grind
 |exit id=>grind
 |ret=>grind
 |panic ch=>grind
 |outgrown=>grind
def yV{b:Frame}{k:List Item}{cs:List Frame}:step P (lone (b.atR a (.code (.scope c0)::k)) cs w) = .next (lone (b.atR a (.code c0::.inScope c0::k)) cs w) :=
 step_lone_go (by simp[stepG,stepG.exec,Frame.atR])
def aig{b:Frame}{k:List Item}{cs:List Frame}:step P (lone (b.atR a (.inScope c0::k)) cs w) = .next (lone (b.atR a k) cs w) :=
 step_lone_go (by simp[stepG,stepG.exec,Frame.atR])
def ai9(h:rS F m P c0 c0 (λe a1 w1=>(∀l,e≠.goto l)/\Q e a1 w1) a w):(Code.scope c0).wpIn F m P Q a w:=by
 intro b k cs hro hb hr;have h0:(lone (b.atR a (.code (.scope c0)::k)) cs w).fenced P F:=fenced_calm hb hr rfl;obtain⟨e,a₁,w₁,⟨hng,hq⟩,harr⟩:=h b k cs hro hb hr;cases e with
 |normal=>exact⟨.normal,a₁,w₁,hq,.head h0 yV (StepsIn.trans harr (.one (fenced_calm hb hr rfl) aig))⟩
 |exit id =>
  have hx:exitTo id (.inScope c0::k)=exitTo id k:=by simp[exitTo]
  exact⟨.exit id,a₁,w₁,hq,λk' hk=>.head h0 yV (harr.1 k' (by grind)),
   λhr' hk=>let ⟨k₁,h1,h2⟩:=harr.2 hr' (by grind);⟨k₁,h1,.head h0 yV h2⟩⟩
 |goto l=>grind
 |ret=>exact⟨_,a₁,w₁,hq,.of_steps (.one h0 yV) harr⟩
 |panic ch=>exact⟨_,a₁,w₁,hq,.of_steps (.one h0 yV) harr⟩
 |outgrown=>exact⟨_,a₁,w₁,hq,.of_steps (.one h0 yV) harr⟩
end
def PY{l:Nat}:∀{c:Code},l∉gw c->ly c l=none:=by
 intro c
 induction c with
 |seq a b iha ihb =>
  intro h;simp only[gw,cG,not_or]at h;simp only[ly,iha h.1,ihb h.2]
 |label l' =>
  intro h;simp only[gw,iN]at h;simp only[ly]
  all_goals grind
 |_=>intro _;rfl
def afk{pr:Nat->Bool}:∀(c:Code) (p:C),eG pr c=aA p->cV p=p:=by
 intro c
 have leaf:∀c p,((dM pr c).bind λcc=>if (eX cc).all λi=>jq i 3000000 then aA cc else aF)=aA p->cV p=p:=by
  intro c p h;simp only[obi]at h;obtain⟨cc,h1,h2⟩:=h;split at h2
  ·cases h2;exact Bb _ _ h1
  ·cases h2
 induction c with
 |seq a b iha ihb =>
  intro p h;simp only[eG]at h;split at h
  ·simp only[omi]at h;obtain⟨cb,h1,rfl⟩:=h;simp only[cV,ihb _ h1]
  ·split at h
   ·simp only[obi,omi]at h;obtain⟨ca,h1,cb,h2,rfl⟩:=h;simp only[cV,iha _ h1,ihb _ h2]
   ·cases h
 |cond c a b iha ihb =>
  intro p h;simp only[eG]at h;split at h
  ·simp only[obi,omi]at h;obtain⟨ca,h1,cb,h2,rfl⟩:=h;simp only[cV,iha _ h1,ihb _ h2]
  ·cases h
 |goto l=>intro p h;simp only[eG,Option.some.injEq]at h;subst h;rfl
 |block id a ih =>
  intro p h;simp only[eG]at h;split at h
  ·obtain⟨cp,h1,rfl⟩:=omi.1 h;simp only[cV,ih _ h1]
  ·cases h
 |_=>intro p h;simp only[eG]at h;exact leaf _ _ h
def JS{pr:Nat->Bool}{c:Code}{g:Nat}{ps ws:List Nat}{a b:C}:eG pr c≠aA (.uncons g ps ws a b):=by
 intro h;cases c with
 |seq x y =>
  simp only[eG]at h;split at h
  ·simp only[omi]at h;obtain⟨cb,_,h⟩:=h;cases h
  ·split at h
   ·simp only[obi,omi]at h;obtain⟨ca,_,cb,_,h⟩:=h;cases h
   ·cases h
 |cond t x y =>
  simp only[eG]at h;split at h
  ·simp only[obi,omi]at h;obtain⟨ca,_,cb,_,h⟩:=h;cases h
  ·cases h
 |goto l=>simp only[eG,Option.some.injEq]at h;cases h
 |block id a =>
  simp only[eG]at h;split at h
  ·obtain⟨_,_,h⟩:=omi.1 h;cases h
  ·cases h
 |_ =>
  simp only[eG,obi]at h;obtain⟨cc,h1,h2⟩:=h;split at h2
  ·cases h2;exact JV h1
  ·cases h2
def abQ:∀(c:C) (i:Nat),i∈en c->i∈eX c:=by
 intro c
 induction c with
 |seq a b iha ihb=>intro i h;simp only[eX,en,cG]at h |-;grind
 |cond c a b iha ihb=>intro i h;simp only[eX,en,cG]at h |-;grind
 |block k a iha=>intro i h;simp only[eX,en,si]at h |-;grind
 |loop f a iha=>intro i h;simp only[eX,en]at h |-;grind
 |cseq f a b iha ihb=>intro i h;simp only[eX,en,cG]at h |-;grind
 |uncons g ps ws a b iha ihb=>intro i h;simp only[eX,en,cG]at h |-;grind
 |_=>intro i h;exact h
def SL{pr:Nat->Bool}:∀(c:Code) (p:C),eG pr c=aA p->∀i∈en p,i < 3000000∨∃l,i=mL l:=by
 intro c
 have leaf:∀c p,((dM pr c).bind λcc=>if (eX cc).all λi=>jq i 3000000 then aA cc else aF)=aA p->∀i∈en p,i < 3000000∨∃l,i=mL l:=by
  intro c p h i hi;simp only[obi]at h;obtain⟨cc,h1,h2⟩:=h;split at h2
  ·rename_i hall;cases h2;have:=e9.1 hall i (abQ _ _ hi);exact .inl (by simpa[oY]using this)
  ·cases h2
 induction c with
 |seq a b iha ihb =>
  intro p h i hi;simp only[eG]at h;split at h
  ·simp only[omi]at h;obtain⟨cb,h1,rfl⟩:=h;simp only[en,si,cG,iN]at hi;obtain⟨⟨hi|hi,_⟩,h3⟩:=hi
   ·exact ihb _ h1 i hi
   ·subst hi;simp at h3
  ·split at h
   ·simp only[obi,omi]at h;obtain⟨ca,h1,cb,h2,rfl⟩:=h;simp only[en,cG]at hi;exact hi.elim (iha _ h1 i) (ihb _ h2 i)
   ·cases h
 |cond c a b iha ihb =>
  intro p h i hi;simp only[eG]at h;split at h
  ·simp only[obi,omi]at h;obtain⟨ca,h1,cb,h2,rfl⟩:=h;simp only[en,cG]at hi;exact hi.elim (iha _ h1 i) (ihb _ h2 i)
  ·cases h
 |goto l =>
  intro p h i hi;simp only[eG,Option.some.injEq]at h;subst h;simp only[en,iN]at hi;exact .inr ⟨l,hi⟩
 |block id a ih =>
  intro p h i hi;simp only[eG]at h;split at h
  ·obtain⟨cp,h1,rfl⟩:=omi.1 h;simp only[en,si]at hi;exact ih _ h1 i hi.1
  ·cases h
 |_=>intro p h;simp only[eG]at h;exact leaf _ _ h
def JM{pr:Nat->Bool}{cfg:cB}{call:dw}(hm:cfg.P.follows .mixedOrders=aD)(hp:iO cfg.P call.pc)(hi:gH cfg.P call.ic)(hsq:sw cfg.P cfg.seqp){n n0:Nat} :
  ∀(c:Code) (cc:C) (s:S) (x:Ex) (s':S),eG pr c=aA (cV cc)->gw c=[]->exec cfg call n n0 cc s=aA (x,s')->∀(a:Act) (w:bg) (Z:Zs) (j:J),St Z w j s.env a->SR cfg.P Z w j s.mem ->
   ∀(Q:Exit->Act->bg->Prop),(∀a' w',lO cfg.P n0 Z w j s.mem s' a' w'->gf (dE cc) w a a' w'->Q (jV x) a' w')->∀(m:Nat),c.wpIn (FR aF) m cfg.P Q a w:=by
 intro c
 have leaf:∀(c:Code) (cc:C) (s:S) (x:Ex) (s':S),((dM pr c).bind λcc=>if (eX cc).all λi=>jq i 3000000 then aA cc else aF)=aA (cV cc)->exec cfg call n n0 cc s=aA (x,s')->∀(a:Act) (w:bg) (Z:Zs) (j:J),St Z w j s.env a->SR cfg.P Z w j s.mem ->
   ∀(Q:Exit->Act->bg->Prop),(∀a' w',lO cfg.P n0 Z w j s.mem s' a' w'->gf (dE cc) w a a' w'->Q (jV x) a' w')->∀(m:Nat),c.wpIn (FR aF) m cfg.P Q a w:=by
  intro c cc s x s' hc h a w Z j st sr Q hQ m;simp only[obi]at hc;obtain⟨c1,h1,h2⟩:=hc;split at h2;rotate_left
  ·cases h2
  rename_i hall;have e1:c1=cV cc:=Option.some.inj h2;rw[e1]at h1 hall
  have hx:∀i,x = .exit i->i < 3000000:=λi hi=>by
   subst hi;have:=e9.1 hall i (abn _ _ (PS _ _ _ _ h));simpa[oY]using this
  refine DT hm hp hi hsq c aF cc s x s' h1 (λe=>(e rfl).elim) h a w Z j st sr Q (λa' w' g1 g2=>?_) m;rw[<-VG hx];exact hQ a' w' g1 g2
 induction c with
 |seq p q ihp ihq =>
  intro cc s x s' hc hsp h a w Z j st sr Q hQ m;simp only[gw,wJ]at hsp;simp only[eG]at hc;split at hc
  ·rename_i l hl;cases p<;>simp[En]at hl;simp[gw]at hsp
  rw[bc (by rw[hsp.1];rfl)]at hc;simp only[obi,omi]at hc;obtain⟨cp,hcp,cq,hcq,hcc⟩:=hc;cases cc<;>simp[cV]at hcc;rotate_left
  ·rename_i fl ca cb;obtain⟨hc1,rfl⟩:=hcc
   have hst0:iH ca=false:=by
    cases hh:iH ca with
    |false=>rfl
    |true=>rw[hh]at hc1;exact fY (hcp.trans (di aA hc1)) JS
   rw[hst0]at hc1;have hcp:eG pr p=aA (cV ca):=by rw[hcp,hc1];rfl
   simp only[exec]at h;cases h1:exec cfg call n n0 ca s with
   |none=>simp[h1]at h
   |some r =>
    obtain⟨x1,s1⟩:=r;simp only[h1,bu]at h;refine wpIn_seq (ihp ca s x1 s1 hcp hsp.1 h1 a w Z j st sr _ (λa1 w1 haf hk=>?_) m);cases x1 with
    |norm =>
     obtain⟨Z1,j1,q1,q2,q3,q4⟩:=haf;obtain⟨j2,t1,t2,t3,t4⟩:=mG n0 fl q1 q2;refine ihq cb (dK n0 fl s1) x s' hcq hsp.2 h a1 w1 Z1 j2 t1 t2 Q (λa' w' h' hk'=>?_) m;obtain⟨Z2,j3,r1,r2,r3,r4⟩:=h';exact hQ a' w' ⟨Z2,j3,r1,r2,(q3.trans t3).trans r3,(q4.trans t4).trans r4⟩ (hk.trans q2 (t3.trans r3) q3.size hk')
    |exit i =>
     cases h;have:=hQ a1 w1 haf (hk.weak λi hi=>cG.2 (.inl hi));simp only[jV]at this |-
     split at this<;>rename_i bf
     ·simp only[bc bf];exact this
     ·simp only[bh bf];exact this
    |ret=>cases h;exact hQ a1 w1 haf (hk.weak λi hi=>cG.2 (.inl hi))
  rename_i ca cb;obtain⟨rfl,rfl⟩:=hcc;simp only[exec]at h;cases h1:exec cfg call n n0 ca s with
  |none=>simp[h1]at h
  |some r =>
   obtain⟨x1,s1⟩:=r;simp only[h1,bu]at h;refine wpIn_seq (ihp ca s x1 s1 hcp hsp.1 h1 a w Z j st sr _ (λa1 w1 haf hk=>?_) m);cases x1 with
   |norm =>
    obtain⟨Z1,j1,q1,q2,q3,q4⟩:=haf;refine ihq cb s1 x s' hcq hsp.2 h a1 w1 Z1 j1 q1 q2 Q (λa' w' h' hk'=>?_) m;obtain⟨Z2,j2,r1,r2,r3,r4⟩:=h';exact hQ a' w' ⟨Z2,j2,r1,r2,q3.trans r3,q4.trans r4⟩ (hk.trans q2 r3 q3.size hk')
   |exit i =>
    cases h;have:=hQ a1 w1 haf (hk.weak λi hi=>cG.2 (.inl hi));simp only[jV]at this |-
    split at this<;>rename_i bf
    ·simp only[bc bf];exact this
    ·simp only[bh bf];exact this
   |ret=>cases h;exact hQ a1 w1 haf (hk.weak λi hi=>cG.2 (.inl hi))
 |cond cnd p q ihp ihq =>
  intro cc s x s' hc hsp h a w Z j st sr Q hQ m;simp only[eG]at hc;split at hc;rotate_left
  ·cases hc
  rename_i hsp;simp only[cT,List.isEmpty_iff]at hsp;simp only[obi,omi]at hc;obtain⟨cp,hcp,cq,hcq,hcc⟩:=hc;cases cc<;>simp[cV]at hcc;rename_i c0 ca cb;obtain⟨rfl,rfl,rfl⟩:=hcc;simp only[exec]at h;cases h1:bB s.env cnd with
  |none=>simp[h1]at h
  |some v =>
   have hv:=st.eval cnd v h1;cases v<;>simp only[h1,bu]at h<;>first|(cases h;done)|skip
   rename_i t;cases hu:a.eval cnd<;>rw[hu]at hv<;>cases hv;cases t
   ·exact wpIn_cond hu (ihq cb s x s' hcq hsp.2 (by simpa using h) a w Z j st sr Q (λa' w' h1 h2=>hQ a' w' h1 (h2.weak λi hi=>cG.2 (.inr hi))) m)
   ·exact wpIn_cond hu (ihp ca s x s' hcp hsp.1 (by simpa using h) a w Z j st sr Q (λa' w' h1 h2=>hQ a' w' h1 (h2.weak λi hi=>cG.2 (.inl hi))) m)
 |goto l =>
  intro cc s x s' hc hsp h a w Z j st sr Q hQ m;cases cc<;>simp[eG,cV]at hc;subst hc;simp[exec]at h;obtain⟨rfl,rfl⟩:=h;have:=hQ a w ⟨Z,j,st,sr,br.refl _ _ _ _,JK.refl _ _⟩ (gf.refl _ _ _ _);rw[VF]at this;exact wpIn_goto this
 |block id p ih =>
  intro cc s x s' hc hsp h a w Z j st sr Q hQ m;simp only[eG]at hc;split at hc;rotate_left
  ·cases hc
  rename_i hcnd;simp only[cT,List.isEmpty_iff,oY]at hcnd;obtain⟨cp0,hcp,hb⟩:=omi.1 hc;cases cc<;>simp[cV]at hb;rename_i id2 cp;obtain⟨rfl,rfl⟩:=hb;simp only[exec,omi]at h;obtain⟨⟨x1,s1⟩,h1,h2⟩:=h;refine wpIn_block (ih cp s x1 s1 hcp hcnd.1 h1 a w Z j st sr _ (λa1 w1 haf hk=>?_) m);cases x1 with
  |norm=>cases h2;exact hQ a1 w1 haf hk
  |ret=>cases h2;exact hQ a1 w1 haf hk
  |exit i =>
   simp only at h2
   by_cases bf:i < 3000000
   ·simp only[jV,bc bf];show(if i=id then Q .normal a1 w1 else Q (.exit i) a1 w1);split at h2
    ·rename_i e;cases h2;rw[bc e];exact hQ a1 w1 haf hk
    ·rename_i e;cases h2;rw[bh e];have:=hQ a1 w1 haf hk;simp only[jV,bc bf]at this;exact this
   ·rw[bh (by omega)]at h2;cases h2;have:=hQ a1 w1 haf hk;simp only[jV,bh bf]at this |-
    exact this
 |_=>intro cc s x s' hc hsp h;simp only[eG]at hc;exact leaf _ cc s x s' hc h
def ahw{pr:Nat->Bool}{cfg:cB}{call:dw}(hm:cfg.P.follows .mixedOrders=aD)(hp:iO cfg.P call.pc)(hi:gH cfg.P call.ic)(hsq:sw cfg.P cfg.seqp){n n0:Nat}{c0:Code} :
  ∀(c:Code) (cc:C) (s:S) (x:Ex) (s':S),eG pr c=aA (cV cc)->(gw c).Nodup->(∀l∈gw c,ly c0 l=ly c l)->exec cfg call n n0 cc s=aA (x,s')->∀(a:Act) (w:bg) (Z:Zs) (j:J),St Z w j s.env a->SR cfg.P Z w j s.mem ->
   ∀(Q:Exit->Act->bg->Prop),(∀a' w',lO cfg.P n0 Z w j s.mem s' a' w'->gf (dE cc) w a a' w'->Q (jV x) a' w')->∀(m:Nat),rS (FR aF) m cfg.P c0 c Q a w:=by
 intro c
 induction c with
 |seq p q _ ihq =>
  intro cc s x s' hc hnd hlab h a w Z j st sr Q hQ m;cases hl:En p with
  |none =>
   have hc0:=hc;simp only[eG,hl]at hc;split at hc;rotate_left
   ·grind
   rename_i hpe;have hpe:gw p=[]:=by grind
   simp only[obi,omi]at hc;obtain⟨cp,hcp,cq,hcq,hcc⟩:=hc;have hnd':(gw q).Nodup:=by simpa[gw,hpe]using hnd
   have hlab':∀l∈gw q,ly c0 l=ly q l:=λl hl=>by
    rw[hlab l (by simp[gw,hpe,hl])];have:ly p l=none:=PY (by grind);simp only[ly,this]
   cases cc<;>simp[cV]at hcc;rotate_left
   ·rename_i fl ca cb;obtain⟨hc1,rfl⟩:=hcc
    have hst0:iH ca=false:=by
     cases hh:iH ca with
     |false=>rfl
     |true=>rw[hh]at hc1;exact fY (hcp.trans (di aA hc1)) JS
    rw[hst0]at hc1;have hcp:eG pr p=aA (cV ca):=by grind
    simp only[exec]at h;cases h1:exec cfg call n n0 ca s with
    |none=>grind
    |some r =>
     obtain⟨x1,s1⟩:=r;simp only[h1,bu]at h;refine Gc (JM hm hp hi hsq p ca s x1 s1 hcp hpe h1 a w Z j st sr _ (λa1 w1 haf hk=>?_) m);cases x1 with
     |norm =>
      obtain⟨Z1,j1,q1,q2,q3,q4⟩:=haf;obtain⟨j2,t1,t2,t3,t4⟩:=mG n0 fl q1 q2;refine ihq cb (dK n0 fl s1) x s' hcq hnd' hlab' h a1 w1 Z1 j2 t1 t2 Q (λa' w' h' hk'=>?_) m;obtain⟨Z2,j3,r1,r2,r3,r4⟩:=h';exact hQ a' w' ⟨Z2,j3,r1,r2,(q3.trans t3).trans r3,(q4.trans t4).trans r4⟩ (hk.trans q2 (t3.trans r3) q3.size hk')
     |exit i =>
      cases h;have:=hQ a1 w1 haf (hk.weak λi hi=>cG.2 (.inl hi));simp only[jV]at this |-
      split at this<;>rename_i bf
      ·simp only[bc bf];exact this
      ·simp only[bh bf];exact this
     |ret=>cases h;exact hQ a1 w1 haf (hk.weak λi hi=>cG.2 (.inl hi))
   rename_i ca cb;obtain⟨rfl,rfl⟩:=hcc;simp only[exec]at h;cases h1:exec cfg call n n0 ca s with
   |none=>grind
   |some r =>
    obtain⟨x1,s1⟩:=r;simp only[h1,bu]at h;refine Gc (JM hm hp hi hsq p ca s x1 s1 hcp hpe h1 a w Z j st sr _ (λa1 w1 haf hk=>?_) m);cases x1 with
    |norm =>
     obtain⟨Z1,j1,q1,q2,q3,q4⟩:=haf;refine ihq cb s1 x s' hcq hnd' hlab' h a1 w1 Z1 j1 q1 q2 Q (λa' w' h' hk'=>?_) m;obtain⟨Z2,j2,r1,r2,r3,r4⟩:=h';exact hQ a' w' ⟨Z2,j2,r1,r2,q3.trans r3,q4.trans r4⟩ (hk.trans q2 r3 q3.size hk')
    |exit i =>
     cases h;have:=hQ a1 w1 haf (hk.weak λi hi=>cG.2 (.inl hi));simp only[jV]at this |-
     split at this<;>rename_i bf
     ·simp only[bc bf];exact this
     ·simp only[bh bf];exact this
    |ret=>cases h;exact hQ a1 w1 haf (hk.weak λi hi=>cG.2 (.inl hi))
  |some l =>
   simp only[eG,hl,omi]at hc;obtain⟨cq,hcq,hcc⟩:=hc;have hpl:p = .label l:=by cases p<;>simp[En]at hl;rw[hl]
   subst hpl;have hnd1:l∉gw q/\(gw q).Nodup:=by simpa[gw]using hnd
   have hlab':∀l'∈gw q,ly c0 l'=ly q l':=λl' hl'=>by
    rw[hlab l' (by simp[gw,hl'])];have:ly (.label l) l'=none:=PY (by simp[gw];grind);simp only[ly]at this |-
    grind
   have hfl:ly c0 l=aA (.seq .skip q):=by
    rw[hlab l (by simp[gw])];simp[ly]
   cases cc<;>simp[cV]at hcc;rename_i e1 c1;obtain⟨rfl,hcc⟩:=hcc;cases c1<;>simp[cV]at hcc;rename_i fl c2;cases c2<;>simp[cV]at hcc;rename_i g1 c3;obtain⟨rfl,hcc⟩:=hcc
   have shape:∃ca,eG pr q=aA (cV ca)/\(∀i,i∈dE ca->i∈dE (.block (n6 l) (.loop fl (.block (mL l) c3))))/\∀s r,exec cfg call n n0 c3 s=aA r->∃y t,exec cfg call n n0 ca s=aA (y,t) /\
     ((y = .norm/\r.1 = .exit (n6 l)/\(r.2=t∨∃f,r.2=dK n0 f t))∨(y≠.norm/\r=(y,t))):=by
    cases c3<;>simp[cV]at hcc
    ·rename_i ca cb;obtain⟨rfl,hcb⟩:=hcc;cases cb<;>simp[cV]at hcb;subst hcb;refine⟨ca,hcq,λi hi=>by simp only[dE,fR];grind,λs r hr=>?_⟩;simp only[exec,obi]at hr;grind
    ·rename_i f2 ca cb;obtain⟨hc1,hcb⟩:=hcc;cases cb<;>simp[cV]at hcb;subst hcb
     have hst0:iH ca=false:=by
      cases hh:iH ca with
      |false=>rfl
      |true=>rw[hh]at hc1;exact fY (hcq.trans (di aA hc1)) JS
     rw[hst0]at hc1;refine⟨ca,by grind,λi hi=>by simp only[dE,fR];grind,λs r hr=>?_⟩;simp only[exec,obi]at hr;grind
   obtain⟨ca,hca,hwr,hsh⟩:=shape;have hge:mL l≠n6 l:=by unfold mL n6;omega
   have key:∀(k:Nat) (s:S) (x1:Ex) (s1:S),eU (λs=>exec cfg call n n0 (.block (mL l) c3) (dK n0 fl s)) k s=aA (x1,s1)->∀(a:Act) (w:bg) (Z:Zs) (j:J),St Z w j s.env a->SR cfg.P Z w j s.mem ->
     ∀(Q:Exit->Act->bg->Prop),(∀a' w',lO cfg.P n0 Z w j s.mem (dK n0 fl s1) a' w'->gf (dE (.block (n6 l) (.loop fl (.block (mL l) c3)))) w a a' w'->Q (yn l x1) a' w')->rS (FR aF) m cfg.P c0 q Q a w:=by
    intro k
    induction k with
    |zero=>intro s x1 s1 h;simp[eU]at h
    |succ k ihk =>
     intro s x1 s1 h a w Z j st sr Q hQ;simp only[eU,obi]at h;obtain⟨⟨x2,s2⟩,hb,h⟩:=h;simp only[exec,omi]at hb;obtain⟨r,hr,hb⟩:=hb;obtain⟨y,t,hy,hcase⟩:=hsh _ _ hr;obtain⟨j0',t1,t2,t3,t4⟩:=mG n0 fl st sr;refine aja hfl (ihq ca _ y t hca hnd1.2 hlab' hy a w Z j0' t1 t2 _ (λa2 w2 haf hk=>?_) m);have hk:=hk.weak hwr
     have last:∀(t':S),(t'=t∨∃f,t'=dK n0 f t)->s1=t'->Q (yn l x1) a2 w2:=by
      intro t' ht' es;obtain⟨Z1,j1,q1,q2,q3,q4⟩:=haf
      have:∃j2,St Z1 w2 j2 t'.env a2/\SR cfg.P Z1 w2 j2 t'.mem/\br Z1 w2 j1 t.mem Z1 w2 j2 t'.mem/\JK n0 j1 j2:=by
       rcases ht' with rfl|⟨f,rfl⟩
       ·exact⟨j1,q1,q2,br.refl _ _ _ _,JK.refl _ _⟩
       ·exact mG n0 f q1 q2
      obtain⟨j2,p1,p2,p3,p4⟩:=this;obtain⟨j3,r1,r2,r3,r4⟩:=mG n0 fl p1 p2;subst es;exact hQ a2 w2 ⟨Z1,j3,r1,r2,(((t3.trans q3).trans p3).trans r3),((t4.trans q4).trans p4).trans r4⟩ hk
     rcases hcase with⟨rfl,hr1,hr2⟩|⟨hyn,rfl⟩
     ·-- to the end
      obtain⟨r1,r2⟩:=r;simp only at hr1 hr2;subst hr1;simp only at hb;rw[bh (Ne.symm hge)]at hb;cases hb;cases h;have:=last _ hr2 rfl;simp only[yn,dv]at this;exact this
     ·cases y with
      |norm=>grind
      |ret =>
       cases hb;cases h;exact last _ (.inl rfl) rfl
      |exit i =>
       simp only at hb;split at hb
       ·-- once more
        rename_i hig;subst hig;cases hb;rw[VF];simp only[dv];obtain⟨Z1,j1,q1,q2,q3,q4⟩:=haf;refine Gc (wpIn_skip (ihk _ x1 s1 h a2 w2 Z1 j1 q1 q2 Q λa' w' h' hk'=>?_));obtain⟨Z2,j2,r1,r2,r3,r4⟩:=h';exact hQ a' w' ⟨Z2,j2,r1,r2,(t3.trans q3).trans r3,(t4.trans q4).trans r4⟩ ((hk.trans q2 r3 q3.size hk').weak λi hi=>(cG.1 hi).elim id id)
       ·rename_i hig;cases hb;cases h
        by_cases hie:i=n6 l
        ·rcases SL _ _ hca i (by rw[IH];exact Ir _ _ _ _ hy)with bf|⟨l',hl'⟩
         ·unfold n6 at hie;omega
         ·unfold n6 at hie;unfold mL at hl';omega
        ·have:=last _ (.inl rfl) rfl;simp only[yn,bh hie,jV]at this;simp only[jV];split at this<;>rename_i bf
         ·grind
         ·simp only[bh bf]
          have hne:¬((i - 3000000) / 2=l):=by
           rcases SL _ _ hca i (by rw[IH];exact Ir _ _ _ _ hy)with hlt2|⟨l',hl'⟩
           ·omega
           ·unfold mL at hl' hig;omega
          simp only[bh hne];grind
   simp only[exec,omi]at h;obtain⟨⟨y,t⟩,⟨⟨x0,s0⟩,hit,hr⟩,h⟩:=h;have hr1:x0=y:=di Prod.fst hr;have hr2:dK n0 fl s0=t:=di Prod.snd hr;subst hr1 hr2;refine Gc (wpIn_label (key n s x0 s0 hit a w Z j st sr Q λa' w' haf hk=>?_));cases x0 with
   |norm=>cases h;exact hQ a' w' haf hk
   |ret=>cases h;exact hQ a' w' haf hk
   |exit i =>
    simp only at h;split at h
    ·rename_i e;cases h;simp only[yn,bc e];exact hQ a' w' haf hk
    ·rename_i e;cases h;simp only[yn,bh e];grind
 |_ =>
  intro cc s x s' hc hnd hlab h a w Z j st sr Q hQ m
  first
  |exact ajb (JM hm hp hi hsq _ cc s x s' hc rfl h a w Z j st sr Q hQ m)
  |(simp[eG,dM]at hc)
def ahv{c r c0:Code}(h:LJ c=aA (r,c0)):c = .seq r (.scope c0):=by
 unfold LJ at h;grind
def afj{pr:Nat->Bool}{c:Code}{p:C}(h:yr pr c=aA p):cV p=p:=by
 unfold yr at h;split at h
 ·simp only[obi]at h;obtain⟨cr,h1,cs,h2,h3⟩:=h;split at h3
  ·cases h3;simp only[cV,Bb _ _ h1,afk _ _ h2]
  grind
 ·exact Bb _ _ h
def W9{pr:Nat->Bool}{cfg:cB}{call:dw}(hm:cfg.P.follows .mixedOrders=aD)(hp:iO cfg.P call.pc)(hi:gH cfg.P call.ic)(hsq:sw cfg.P cfg.seqp){n n0:Nat}
  (c:Code) (cc:C) (s:S) (x:Ex) (s':S) (hc:yr pr c=aA (cV cc)) (h:exec cfg call n n0 cc s=aA (x,s')) (a:Act) (w:bg) (Z:Zs) (j:J) (st:St Z w j s.env a) (sr:SR cfg.P Z w j s.mem)
  (Q:Exit->Act->bg->Prop) (hQ:∀a' w',lO cfg.P n0 Z w j s.mem s' a' w'->gf (dE cc) w a a' w'->Q x.toExit a' w') (m:Nat):c.wpIn (FR aF) m cfg.P Q a w:=by
 unfold yr at hc;split at hc;rotate_left
 ·exact DT hm hp hi hsq c aF cc s x s' hc (λe=>(e rfl).elim) h a w Z j st sr Q hQ m
 rename_i r c0 hsc;have:=ahv hsc;subst this;simp only[obi]at hc;obtain⟨cr,hcr,cs,hcs,hc⟩:=hc;split at hc;rotate_left
 ·grind
 rename_i bC;simp only[UU,cT,mI]at bC;obtain⟨hnd,hfree⟩:=bC;have hc:=Option.some.inj hc
 have tail:∀(cb:C) (s:S) (x:Ex) (s':S),cs=cV cb->exec cfg call n n0 cb s=aA (x,s')->∀(a:Act) (w:bg) (Z:Zs) (j:J),St Z w j s.env a->SR cfg.P Z w j s.mem ->
   ∀(Q:Exit->Act->bg->Prop),(∀a' w',lO cfg.P n0 Z w j s.mem s' a' w'->gf (dE cb) w a a' w'->Q x.toExit a' w')->(Code.scope c0).wpIn (FR aF) m cfg.P Q a w:=by
  intro cb s x s' e h a w Z j st sr Q hQ
  have hx:∀i,x = .exit i->i < 3000000:=λi hi=>by
   subst hi;have h1:=Ir _ _ _ _ h;rw[<-IH,<-e]at h1;simp_all
  refine ai9 (ahw hm hp hi hsq c0 cb s x s' (hcs.trans (di aA e)) hnd (λ_ _=>rfl) h a w Z j st sr _ (λa' w' g1 g2=>?_) m);rw[VG hx];refine⟨λl e=>?_,hQ a' w' g1 g2⟩;cases x<;>cases e
 cases cc with
 |cseq fl ca cb =>
  simp only[cV,C.seq.injEq]at hc;obtain⟨hc1,hcb⟩:=hc
  have hst0:iH ca=false:=by
   cases hh:iH ca with
   |false=>rfl
   |true=>rw[hh]at hc1;exact fY (hcr.trans (di aA hc1)) JV
  rw[hst0]at hc1;have hcp:dM pr r=aA (cV ca):=by grind
  simp only[exec]at h;cases h1:exec cfg call n n0 ca s with
  |none=>grind
  |some q =>
   obtain⟨x1,s1⟩:=q;simp only[h1,bu]at h;refine wpIn_seq (DT hm hp hi hsq r aF ca s x1 s1 hcp (λe=>(e rfl).elim) h1 a w Z j st sr _ (λa1 w1 haf hk=>?_) m);cases x1 with
   |norm =>
    obtain⟨Z1,j1,q1,q2,q3,q4⟩:=haf;obtain⟨j2,t1,t2,t3,t4⟩:=mG n0 fl q1 q2;refine tail cb (dK n0 fl s1) x s' hcb h a1 w1 Z1 j2 t1 t2 Q (λa' w' h' hk'=>?_);obtain⟨Z2,j3,r1,r2,r3,r4⟩:=h';exact hQ a' w' ⟨Z2,j3,r1,r2,(q3.trans t3).trans r3,(q4.trans t4).trans r4⟩ (hk.trans q2 (t3.trans r3) q3.size hk')
   |exit i=>cases h;exact hQ a1 w1 haf (hk.weak λi hi=>cG.2 (.inl hi))
   |ret=>cases h;exact hQ a1 w1 haf (hk.weak λi hi=>cG.2 (.inl hi))
 |seq ca cb =>
  simp only[cV,C.seq.injEq]at hc;obtain⟨hca,hcb⟩:=hc;simp only[exec]at h;cases h1:exec cfg call n n0 ca s with
  |none=>grind
  |some q =>
   obtain⟨x1,s1⟩:=q;simp only[h1,bu]at h;refine wpIn_seq (DT hm hp hi hsq r aF ca s x1 s1 (hcr.trans (di aA hca)) (λe=>(e rfl).elim) h1 a w Z j st sr _ (λa1 w1 haf hk=>?_) m);cases x1 with
   |norm =>
    obtain⟨Z1,j1,q1,q2,q3,q4⟩:=haf;refine tail cb s1 x s' hcb h a1 w1 Z1 j1 q1 q2 Q (λa' w' h' hk'=>?_);obtain⟨Z2,j2,r1,r2,r3,r4⟩:=h';exact hQ a' w' ⟨Z2,j2,r1,r2,q3.trans r3,q4.trans r4⟩ (hk.trans q2 r3 q3.size hk')
   |exit i=>cases h;exact hQ a1 w1 haf (hk.weak λi hi=>cG.2 (.inl hi))
   |ret=>cases h;exact hQ a1 w1 haf (hk.weak λi hi=>cG.2 (.inl hi))
 |_=>simp[cV]at hc
def yz(a:Act):ResultVar->Sem aR
 |.tmp t=>pure (a.tmps.getD t undef)
 |.cell b t=>do loadVar t (<-asAddr (a.tmps.getD b undef))
def af8{fn:Func}{s:S}{a:Act}{vs:List V}(st:St Z w j s.env a)(sr:SR P Z w j s.mem)
  (h:cD (oH P s) (fn.results.toList.map wD)=aA vs) :
  ∃us:List aR,us.length=vs.length/\(∀(i:Nat) (v:V) (u:aR),vs[i]? = aA v->us[i]? = aA u->VR Z w j v u) /\
   (results fn a.tmps).run P w = .ok (if h:us.toArray.size=1 then us.toArray[0] else .tuple us.toArray) w:=by
 have key:∀(l:List ResultVar) (vs:List V),cD (oH P s) (l.map wD)=aA vs ->
   ∃us:List aR,us.length=vs.length/\(∀(i:Nat) (v:V) (u:aR),vs[i]? = aA v->us[i]? = aA u->VR Z w j v u) /\
    (l.mapM (m:=Sem) (yz a)).run P w = .ok us w:=by
  intro l
  induction l with
  |nil=>intro vs h;simp[cD]at h;simp_all
  |cons r l ih =>
   intro vs h;simp only[fJ,cD]at h;cases h2:cD (oH P s) (l.map wD)with
   |none=>all_goals simp_all
   |some ws =>
    obtain⟨us,e1,e2,e3⟩:=ih ws h2
    have fin:∀(v:V) (u:aR),vs=v::ws->VR Z w j v u->(yz a r).run P w = .ok u w ->
      ∃us:List aR,us.length=vs.length/\(∀(i:Nat) (v:V) (u:aR),vs[i]? = aA v->us[i]? = aA u->VR Z w j v u) /\
       ((r::l).mapM (m:=Sem) (yz a)).run P w = .ok us w:=by
     intro v u hvs hv hr;subst hvs;refine⟨u::us,by grind,λi v' u' hv' hu'=>?_,?_⟩
     ·grind
     simp_all
    cases r with
    |tmp t =>
     simp only[wD,oH]at h;cases h1:s.env[t]? with
     |none=>grind
     |some v =>
      simp[h1,h2]at h;obtain⟨u,hu,hv⟩:=st.val t v h1;exact fin v u h.symm hv (by simp[yz,lP,hu])
    |cell b t =>
     simp only[wD,oH]at h;cases h1:s.env[b]? with
     |none=>grind
     |some p =>
      cases hl:gD P s.mem t p with
      |none=>grind
      |some v =>
       simp[h1,hl,h2]at h;obtain⟨u,hu,hv⟩:=st.val b p h1;obtain⟨u',h3,h4⟩:=Rj sr hl hv;refine fin v u' h.symm h4 ?_
       have hp:∃ad,u = .pointer (aA ad):=by
        unfold gD at hl;cases hlk:f0 s.mem p with
        |none=>grind
        |some r =>
         obtain⟨x,off⟩:=r;obtain⟨g,b',hu',_⟩:=Rp sr hlk hv;grind
       obtain⟨ad,rfl⟩:=hp;simp only[Instr.loadAt,Instr.sureAddr,Sem.run_bind,Sem.run_pure,Result.andThen_ok]at h3;simp[yz,lP,hu,asAddr,h3]
 obtain⟨us,e1,e2,e3⟩:=key fn.results.toList vs h;refine⟨us,e1,e2,?_⟩;unfold results;rw[Wc];refine Eq.trans (b:=(do let vs <-List.toArray <$> List.mapM (yz a) fn.results.toList;pure (if h:vs.size=1 then vs[0] else .tuple vs):Sem aR).run P w) ?_ ?_
 ·rfl
 simp_all
def aif{args:List V}{us:List aR}{nt:Nat}(ha:gz Z w j args us):St Z w j (args++cA (nt - args.length) (.tup [])) { tmps:=us.toArray++Gh (nt - us.toArray.size) undef,defers:=[] }:=by
 refine⟨by simp[ha.1],λi v hv=>?_⟩
 by_cases hi:i < args.length
 ·rw[eP hi]at hv;have hi':i < us.length:=by rw[<-ha.1];grind
  exact⟨us[i],by grind,ha.2 i v _ hv (cI hi')⟩
 ·rw[eC (by omega)]at hv;have bf:=(cE.1 hv).1;simp only[Cb]at bf
  have e:v = .tup []:=by
   grind
  subst e;refine⟨undef,?_,.tup (us:=[]) rfl λi c u hc=>by grind⟩;have hl:=ha.1;grind
def adp{fn:Func}{a:Act}{env:List V}{R:Ending->bg->Prop}{Z0:Zs}{w0:bg}{j0':J}{mem0:List O}:∀(Ds:List Nat) (w:bg),Ds.Nodup->(∀D∈Ds,w0.heap.size<=D/\w.heap[D]? = aA (.deferred (aA []))) ->
  St Z w j env a->SR P Z w j mem->br Z0 w0 j0' mem0 Z w j mem ->
  (∀w',St Z w' j env a->SR P Z w' j mem->br Z0 w0 j0' mem0 Z w' j mem->∃v,(results fn a.tmps).run P w' = .ok v w'/\R (.returned v) w')->LeavesInM (FR aF) 0 P fn a.tmps R (Ds.map AL) .returning w:=by
 intro Ds
 induction Ds with
 |nil=>intro w _ _ st sr stp h;exact h w st sr stp
 |cons D Ds ih =>
  intro w hn hD st sr stp h;obtain⟨h1,h2⟩:=hD D (by simp);have hne:D∉Ds:=(nP.1 hn).1;refine⟨by simp,.inl ⟨D,_,rfl,run_takeDeferred h2,ih _ (nP.1 hn).2 (λD' hD'=>?_) (st.mono (uQ h2 rfl rfl) (bG.refl _)) (sr.book h2 rfl rfl) (stp.book h1 h2 rfl rfl) h⟩⟩;obtain⟨k1,k2⟩:=hD D' (by grind);exact⟨k1,(World.putObj_heap_other (by grind)).trans k2⟩
def Kv{cfg:cB}{call:dw}(hm:cfg.P.follows .mixedOrders=aD)(hp:iO cfg.P call.pc)(hi:gH cfg.P call.ic)(hsq:sw cfg.P cfg.seqp){n:Nat}{f:cf}{fa:FA}{args:List V}{us:List aR}{vs:List V}
  (hf:iq cfg.P (cfg.rxf f) f=aA fa) (h:rF cfg call n fa args mem=aA (vs,mem')) (sr:SR cfg.P Z w j mem) (ha:gz Z w j args us) :
  fQ cfg.P f us.toArray w λe w1=>∃(xs:List aR) (Z1:Zs) (j1:J),e = .returned (if h:xs.toArray.size=1 then xs.toArray[0] else .tuple xs.toArray)/\xs.length=vs.length /\
   (∀(i:Nat) (v:V) (u:aR),vs[i]? = aA v->xs[i]? = aA u->VR Z1 w1 j1 v u)/\SR cfg.P Z1 w1 j1 mem'/\br Z w j mem Z1 w1 j1 mem'/\JK mem.length j j1:=by
 unfold iq at hf;cases hfn:cfg.P.funcs[f]? with
 |none=>grind
 |some fn =>
  simp only[hfn]at hf;split at hf
  ·grind
  ·cases hb:fn.body with
   |none=>grind
   |some c =>
    simp only[hb,omi]at hf;obtain⟨cc,hcc,rfl⟩:=hf;unfold rF at h;split at h
    ·rename_i hn;obtain⟨hn1,hn2⟩:=hn;simp only at hn1 hn2;simp only at h;rw[<-hn1]at h;generalize hce:jk (cfg.rxf f) fn.ntmps (fn.results.toList.map λr=>match r with |.tmp t=>t |.cell t _=>t) [] cc []=ce at h;have hcc':yr (cfg.rxf f) c=aA (cV ce):=by rw[<-hce,ahC,afj hcc];grind
     cases hx:exec cfg call n mem.length ce ⟨args++cA (fn.ntmps - args.length) (.tup []),mem⟩with
     |none=>grind
     |some r =>
      obtain⟨x,s'⟩:=r;simp only[hx,bu]at h;have st:=aif (nt:=fn.ntmps) ha;have hex:=W9 hm hp hi hsq c ce _ x s' hcc' hx _ w Z j st sr;refine callsIn_wide.1 (callsIn_of_wp_marks (F:=Fence.wide) (n:=0) hfn hb trivial (hex _ (λa' w' haf hk=>?_) 0));obtain⟨Z1,j1,q1,q2,q3,q4⟩:=haf;have fin:(cD (oH cfg.P s') (fn.results.toList.map wD)).map (λvs=>(vs,s'.mem))=aA (vs,mem')->LeavesInM (FR aF) 0 cfg.P fn a'.tmps (λe w1=>∃(xs:List aR) (Z1:Zs) (j1:J),e = .returned (if h:xs.toArray.size=1 then xs.toArray[0] else .tuple xs.toArray)/\xs.length=vs.length /\
   (∀(i:Nat) (v:V) (u:aR),vs[i]? = aA v->xs[i]? = aA u->VR Z1 w1 j1 v u)/\SR cfg.P Z1 w1 j1 mem'/\br Z w j mem Z1 w1 j1 mem'/\JK mem.length j j1) a'.defers .returning w':=by
       intro h;simp only[omi]at h;obtain⟨vs',hv,h⟩:=h;cases h;obtain⟨Ds,hDs,hnd,hDk⟩:=hk.marks;rw[hDs,fR];refine adp Ds w' hnd hDk q1 q2 q3 λw'' t1 t2 t3=>?_
       obtain⟨xs,e1,e2,e3⟩:=af8 (fn:=fn) t1 t2 hv;grind
      cases x with
      |norm=>exact fin h
      |ret=>exact fin h
      |exit i=>cases h
    grind
def aeQ{Z1:Zs}{w1:bg}{j1:J}{xs:List aR}{vs:List V}(hl:xs.length=vs.length)(hv:∀(i:Nat) (v:V) (u:aR),vs[i]? = aA v->xs[i]? = aA u->VR Z1 w1 j1 v u) :
  VR Z1 w1 j1 (rO vs) (if h:xs.toArray.size=1 then xs.toArray[0] else .tuple xs.toArray):=by
 match vs,xs,hl with
 | [v],[u],_=>exact hv 0 v u rfl rfl
 | [],[],_=>exact .tup rfl λi c u hc=>by grind
 |v::v'::vs,u::u'::xs,hl =>
  rw[dif_neg (by simp)];exact .tup (by grind) hv
structure zh(cfg:cB):Prop where
 mixed:cfg.P.follows .mixedOrders=aD
 pp:∀f g,cfg.pprim f=aA g->iO cfg.P λf' as0=>if f'=f then g as0 else aF
 ip:∀f g,cfg.iprim f=aA g->gH cfg.P λf' as0 mem=>if f'=f then g as0 mem else aF
 seq:sw cfg.P cfg.seqp:=by exact λ_ _ _ _ _ h=>nomatch h
def acA{cfg:cB}(hc:zh cfg){call:dw}(hp:iO cfg.P call.pc)(hi:gH cfg.P call.ic)(n:Nat):gH cfg.P (pG cfg call n):=by
 intro f as0 mem r mem' h bC Z w j us sr ha;unfold pG at h;cases hpr:cfg.iprim f with
 |some g =>
  simp only[hpr]at h;exact hc.ip f g hpr f as0 mem r mem' (by grind) bC Z w j us sr ha
 |none =>
  simp only[hpr,obi,omi]at h;obtain⟨fa,hfa,⟨vs,m⟩,hrun,h⟩:=h;cases h;refine(Kv hc.mixed hp hi hc.seq hfa hrun sr ha).mono ?_;rintro e w1 ⟨xs,Z1,j1,rfl,e1,e2,e3,e4,e5⟩;refine⟨_,rfl,Z1,j1,aeQ e1 e2,e3,e4,λid x hx=>?_⟩
  by_cases bf:id < mem.length
  ·exact e5 id x bf hx
  ·rw[sr.out id (by omega)]at hx;grind
def EQ{g:Nat}:¬bT Z j [] g:=by rintro⟨id,o,h,_⟩;grind
def IP{mem:List O}{v v':V}(h:pD mem v=aA v'):ku mem v=aA v':=by
 cases v<;>first|(simp[pD]at h;done)|exact h
def vY:∀{l:List V} {i:Nat} {x:V},oF l=aD->l[i]? = aA x->x.plain=aD
 | [],i,x,_,h=>by grind
 |y::l,i,x,hp,h=>by
  simp only[oF,cT]at hp;cases i with
  |zero=>grind
  |succ i=>exact vY hp.2 (by simpa using h)
def NG{v y:V}{i:Nat}(h:v.plain=aD)(hy:v.cells[i]? = aA y):y.plain=true:=by
 have one:∀v:V,v.plain=aD->v.cells=[v]->v.cells[i]? = aA y->y.plain=true:=by
  grind
 cases v with
 |agg cs=>exact vY (l:=cs) (by simpa[o7]using h) hy
 |_=>exact one _ h rfl hy
def VR.swap{A:aP->Nat->Option Nat}{I:aP->Option Nat}{v:V}{u:aR}(h:VR Z w j v u):v.plain=aD->VR { Z with a:=A,i:=I } w j v u:=by
 induction h with
 |junk=>intro _;exact .junk
 |bool=>intro _;exact .bool
 |int=>intro _;exact .int
 |str=>intro _;exact .str
 |agg hl _ ih=>intro hp;exact .agg hl λi c u h1 h2=>ih i c u h1 h2 (vY (by simpa[o7]using hp) h1)
 |tup hl _ ih=>intro hp;exact .tup hl λi c u h1 h2=>ih i c u h1 h2 (vY (by simpa[o7]using hp) h1)
 |nilS=>intro _;exact .nilS
 |sl0=>intro _;exact .sl0
 |sl f hlc hsz hl hc _ ih =>
  intro hp;exact .sl f hlc hsz hl hc (λk x i y h1 h2=>ih k x i y h1 h2 (NG (vY (by simpa[o7]using hp) h1) h2))
 |own hj h0=>intro _;exact .own hj h0
 |win hj hn hlc hcc ha=>intro _;exact .win hj hn hlc hcc ha
 |ptr hj hs=>intro _;exact .ptr hj hs
 |ref f hc _ ih=>intro hp;exact .ref f hc (λi y h1=>ih i y h1 (NG (by simpa[o7]using hp) h1))
 |fn hl _ ih=>intro hp;exact .fn hl λi c u h1 h2=>ih i c u h1 h2 (vY (by simpa[o7]using hp) h1)
 |mp hj=>intro _;exact .mp hj
 |nilP=>intro _;exact .nilP
 |nilF=>intro _;exact .nilF
 |nilM=>intro _;exact .nilM
 |nilI=>intro _;exact .nilI
 |unk h=>intro _;exact .unk h
 |ifc _ ih=>intro hp;exact .ifc (ih (by simpa[o7]using hp))
 |hp h=>intro hp;simp[o7]at hp
 |hm h=>intro hp;simp[o7]at hp
 |rest=>intro _;exact .rest
 |tail hj hn _ ih=>intro hp;exact .tail hj hn (ih rfl)
 |lit h hk hzz ih=>intro hp;exact .lit (ih (by simpa[o7]using hp)) hk hzz
def QD:∀{l:List Nat} {k t:Nat},yl l=aD->l[k]? = aA t->lB t l=aA k
 | [],k,t,_,h=>by grind
 |x::l,k,t,hn,h=>by
  simp only[yl,cT]at hn;cases k with
  |zero=>simp at h;subst h;simp[lB]
  |succ k =>
   have h':l[k]? = aA t:=by grind
   have hne:¬x=t:=by
    grind
   simp only[lB,bh hne,QD hn.2 h',dy]
def GG(Z:Zs)(ts:List aP):Zs:={ Z with a:=λ_ _=>aF,i:=λt=>lB t ts }
def WO(P:bv)(t:aP):(z7 P t).ar=aA (t,0):=by unfold z7;split<;>rfl
def Nc{cfg:cB}{f:cf}{k:Nat}{o:O}(h:(qF cfg f)[k]? = aA o):∃t,(cfg.ars f)[k]? = aA t/\o=z7 cfg.P t:=by
 unfold qF at h;grind
def Nf{cfg:cB}{f:cf}{g:Nat}:¬bT Z j (qF cfg f) g:=by
 rintro⟨id,o,h,_,hb⟩;obtain⟨t,_,rfl⟩:=Nc h;unfold bY at hb;rw[WO]at hb;grind
def WU{cfg:cB}{f:cf}(hn:yl (cfg.ars f)=aD)(hzin:∀g o,Z g o->g < w.heap.size):SR P (GG Z (cfg.ars f)) w j0 (qF cfg f):=by
 refine⟨λid o h=>?_,λid id' o o' g h h' hl hl' hb _=>?_,λ_ _=>rfl,hzin⟩
 ·obtain⟨t,ht,rfl⟩:=Nc h;have hA:qo (GG Z (cfg.ars f)) id t 0:=⟨QD hn ht,λk hk=>by omega,λk _=>rfl,λk k' g h=>by cases h⟩
  unfold z7;split
  ·exact⟨hA,λk x g h=>by grind⟩
  ·exact⟨hA,λk x g h=>by grind⟩
 ·exact(Nf ⟨id,o,h,hl,hb⟩).elim
def afs{cfg:cB}(hc:zh cfg){call:dw}(hp:iO cfg.P call.pc)(hi:gH cfg.P call.ic)(n:Nat):iO cfg.P (pW cfg call n):=by
 intro f as0 r h bC Z w us hzin ha;unfold pW at h;cases hpr:cfg.pprim f with
 |some g =>
  simp only[hpr]at h;exact hc.pp f g hpr f as0 r (by grind) bC Z w us hzin ha
 |none =>
  simp only[hpr]at h;split at h;rotate_left
  ·cases h
  rename_i hars;simp only[obi]at h;obtain⟨fa,hfa,⟨vs,m⟩,hrun,h⟩:=h
  by_cases hem:cfg.ars f=[]
  rotate_left
  ·-- arenas of its own
   have hars:yl (cfg.ars f)=aD/\oF as0=true:=by
    unfold CY at hars;grind
   have ha':gz (GG Z (cfg.ars f)) w j0 as0 us:=⟨ha.1,λi v u h1 h2=>(ha.2 i v u h1 h2).swap (vY hars.2 h1)⟩
   refine(Kv hc.mixed hp hi hc.seq hfa hrun (WU hars.1 hzin) ha').mono ?_;rintro e w1 ⟨xs,Z1,j1,rfl,e1,e2,e3,e4,_⟩
   have hv1:∃v,vs=[v]/\v.flat1=aD/\r=v:=by
    unfold D7 at h;grind
   obtain⟨v,rfl,hfl,rfl⟩:=hv1
   match xs,e1 with
   | [u],_ =>
    have hv:=e2 0 r u rfl rfl;have hv2:VR { Z1 with a:=Z.a,i:=Z.i } w1 j0 r u:=P8 (hv.flat hfl j0) hfl;refine⟨u,{ Z1 with a:=Z.a,i:=Z.i },rfl,?_,⟨e4.os,e4.tape,e4.output,e4.size,λg hg=>e4.keep g hg Nf,e3.zin,rfl,rfl⟩⟩;cases r<;>first|exact hv2|(simp[js]at hfl)
  have hem0:qF cfg f=[]:=by unfold qF;grind
  rw[hem0]at hrun;replace h:oh cfg.P m fa.rtypes vs=aA r:=by unfold D7 at h;grind
  have sr:SR cfg.P Z w j0 []:=⟨λid o h=>by grind,λid id' o o' g h=>by grind,λ_ _=>rfl,hzin⟩
  refine(Kv hc.mixed hp hi hc.seq hfa hrun sr ha).mono ?_;rintro e w1 ⟨xs,Z1,j1,rfl,e1,e2,e3,e4,_⟩;have za:Z1.a=Z.a:=funext λt=>(e4.ar t λid o n ho=>by grind).2
  have st0:sy Z w Z1 w1:=⟨e4.os,e4.tape,e4.output,e4.size,λg hg=>e4.keep g hg EQ,e3.zin,za,e4.z.i⟩
  have young:∀g,bT Z1 j1 m g->w.heap.size<=g:=λg hg=>by
   rcases nQ g w.heap.size with bf|hge
   ·exact(EQ (e4.owned g bf hg)).elim
   grind
  have frz:∀ids:List Nat,sy Z w (dR Z1 (Fz cfg.P j1 m ids)) w1:=λids=>⟨st0.os,st0.tape,st0.output,st0.size,λg hg=>⟨(st0.keep g hg).1,λo=>⟨λh=>((st0.keep g hg).2 o).1 (h.resolve_right fun⟨id,_,hb,ho⟩=>by
    have:=young g (pR e3 hb ho);omega),λh=>.inl (((st0.keep g hg).2 o).2 h)⟩⟩,λg o h=>by
   rcases h with h|⟨id,_,hb,ho⟩
   ·exact e3.zin g o h
   ·exact bT.lt e3 (pR e3 hb ho),za,e4.z.i⟩
  have snapOne:∀(v v':V) (u:aR),pD m v=aA v'->VR Z1 w1 j1 v u->∃ids,VR (dR Z1 (Fz cfg.P j1 m ids)) w1 j0 v' u:=λv v' u hg hv=>⟨kU m v,LY e3 (IP hg) (λ_ h=>h) hv⟩
  have notTup2:∀(v v':V),iy m v=aA v'->(∀ws,v'≠.tup ws)/\(∀t els,v'≠.fr t els):=by
   intro v v' hs
   have s1:∀v v',ge m v=aA v'->(∀ws,v'≠.tup ws)/\(∀t els,v'≠.fr t els):=by
    intro v v' h1;have:=(LW h1).1;exact⟨λws e=>(by rw[e]at this;cases this),λt els e=>(by rw[e]at this;cases this)⟩
   cases v with
   |agg cs =>
    simp only[iy,omi]at hs;grind
   |ptr id k off =>
    simp only[iy,obi]at hs;obtain⟨⟨x,o⟩,_,hs⟩:=hs;cases x<;>simp only[omi]at hs<;>(grind)
   |_=>exact s1 _ _ (by simpa[iy]using hs)
  have notTup:∀(v v':V),ku m v=aA v'->(∀ws,v'≠.tup ws)/\(∀t els,v'≠.fr t els):=by
   intro v v' hs
   by_cases hf:∃f caps,v = .fn f caps
   ·obtain⟨f,caps,rfl⟩:=hf;simp only[ku,omi]at hs;grind
   ·have e0:ku m v=iy m v:=by cases v<;>first|rfl|grind
    grind
  have r1of:∀(Z2:Zs) (v':V) (u:aR),(∀t els,v'≠.fr t els)->VR Z2 w1 j0 v' u->R1 cfg.P Z2 w w1 v' u:=by
   intro Z2 v' u hn hv;cases v'<;>first|exact hv|grind
  match vs,xs,e1 with
  | [v],[u],_ =>
   have hv:=e2 0 v u rfl rfl
   have goal:∀(r':V),r=r'->∀Z2,RR cfg.P Z2 w w1 r' u->sy Z w Z2 w1->∃u' Z1,Ending.returned (if h:([u]:List aR).toArray.size=1 then ([u]:List aR).toArray[0] else .tuple ([u]:List aR).toArray) = .returned u'/\RR cfg.P Z1 w w1 r u'/\sy Z w Z1 w1:=by
    grind
   have snapG:pD m v=aA r->∃u' Z1,Ending.returned (if h:([u]:List aR).toArray.size=1 then ([u]:List aR).toArray[0] else .tuple ([u]:List aR).toArray) = .returned u'/\RR cfg.P Z1 w w1 r u'/\sy Z w Z1 w1:=by
    intro hg;obtain⟨ids,hs⟩:=snapOne v r u hg hv;obtain⟨n1,n2⟩:=notTup v r (IP hg);exact goal r rfl _ (RR.mk (r1of _ r u n2 hs) n1) (frz ids)
   have h':∃t,s9 cfg.P m t v=aA r:=by
    unfold oh at h;grind
   obtain⟨t,h⟩:=h';unfold s9 at h;split at h
   ·rename_i id _ _;cases hmm:m[id]? with
    |none=>grind
    |some o =>
     cases o<;>simp only[hmm]at h<;>first|(cases h;done)|skip
     rename_i et els fz;have hO:=e3.obj id _ hmm;obtain⟨hn,hh,hrow⟩:=hO;cases hv with
     |own hj h00 =>
      rw[hj]at hh;cases hh;split at h;rotate_left
      ·have hs:ge m (.own id)=aA (.sl els):=by simp[ge,dA,hmm]
       exact snapG (by simp[pD,ku,iy,hs];grind)
      split at h
      ·rename_i hfz;subst hfz;split at h;rotate_left
       ·cases h
       rename_i hfl;have h1:=hrow.1;simp only at h1;subst h1;refine goal _ (Option.some.inj h).symm Z1 ?_ st0;refine⟨_,_,_,rfl,hrow,λx hx y hy=>?_,λg hg=>?_,h00⟩
       ·grind
       ·have ho:bT Z1 j1 m g:=⟨id,_,hmm,rfl,(bY.plain rfl).2 (by simpa[dk,hj]using hg)⟩
        exact⟨young g ho,bT.lt e3 ho⟩
      ·have hs:ge m (.own id)=aA (.sl els):=by simp[ge,dA,hmm]
       exact snapG (by simp[pD,ku,iy,hs];grind)
   ·cases hel:gh cfg.P t with
    |none=>grind
    |some et =>
     simp only[hel,bu]at h;split at h
     ·rename_i hpos;split at h;rotate_left
      ·exact snapG (by simp[pD,ku,iy,ge];grind)
      cases hv;refine goal _ (Option.some.inj h).symm Z1 ?_ st0;exact⟨aF,0,0,rfl,⟨rfl,hpos,cZ _,by simp,.inl ⟨rfl,rfl⟩⟩,by simp,λg hg=>by simp[cO.blk]at hg,λa ha=>by grind⟩
     grind
   grind
  | [],[],_ =>
   have:r = .tup []:=by
    unfold oh at h;cases hrt:fa.rtypes<;>simp[hrt,cD]at h<;>first|grind|(rename_i ts;cases ts<;>simp[hrt,cD]at h<;>exact h.symm)
   subst this;exact⟨_,Z1,rfl,⟨[],rfl,rfl,λi v x h=>by grind⟩,st0⟩
  |v::v'::vs,u::u'::xs,hl =>
   have h':(cD (pD m) (v::v'::vs)).map aV=aA r:=by
    unfold oh at h;grind
   simp only[omi]at h';obtain⟨gs,hgs,rfl⟩:=h';obtain⟨g1,g2⟩:=kY hgs;refine⟨.tuple (u::u'::xs).toArray,dR Z1 (Fz cfg.P j1 m ((v::v'::vs).flatMap (kU m))),by grind,⟨u::u'::xs,rfl,by grind,λi y x hy hx=>?_⟩,frz _⟩;obtain⟨y0,hy0,hgy⟩:=g2 i y hy;have hsn:=IP hgy;refine r1of _ y x (notTup y0 y hsn).2 (LY e3 hsn (λk hk=>?_) (e2 i y0 x hy0 hx));grind
def Xn{cfg:cB}(hc:zh cfg):∀n,iO cfg.P (fk cfg n).pc/\gH cfg.P (fk cfg n).ic:=by
 intro n
 induction n with
 |zero=>exact⟨λf as0 r h=>by simp[fk]at h,λf as0 mem r mem' h=>by simp[fk]at h⟩
 |succ n ih=>exact⟨afs hc ih.1 ih.2 n,acA hc ih.1 ih.2 n⟩
end
end Go.Lite
namespace Go.Lite
open Go
def iK(a b:dw):Prop:=(∀f as0 r,a.pc f as0=aA r->b.pc f as0=aA r)/\∀f as0 m r,a.ic f as0 m=aA r->b.ic f as0 m=aA r
section
variable {cfg:cB}{a b:dw}
def Nz(h:iK a b){dr:Bool}{f:cf}{args:List V}{mem:List O}{r:V × List O}(hr:jw cfg a dr f args mem=aA r):jw cfg b dr f args mem=aA r:=by
 unfold jw at hr |-
 split at hr
 ·cases hr
 ·rename_i h1;rw[bh h1];split at hr
  ·rename_i h2;rw[bc h2];simp only[obi]at hr |-
   obtain⟨as0,q1,x,q2,q3⟩:=hr;exact⟨as0,q1,x,h.1 _ _ _ q2,q3⟩
  ·rename_i h2;rw[bh h2];split at hr
   ·cases hr
   ·rename_i h3;rw[bh h3];cases hcf:cfg.can f with
    |none=>rw[hcf]at hr;exact h.2 _ _ _ _ hr
    |some rd =>
     rw[hcf]at hr;obtain⟨hr,hro⟩:=Fc hr;refine Ko ?_ hro;simp only[sK,omi]at hr |-
     obtain⟨x,q1,q2⟩:=hr;exact⟨x,h.2 _ _ _ _ q1,q2⟩
def abL(h:iK a b){f:cf}{args:List V}{mem:List O}{r:V × List O}(hr:pC a f args mem=aA r):pC b f args mem=aA r:=by
 unfold pC at hr |-
 split at hr
 ·cases hr
 rename_i hna;rw[bh hna];simp only[obi]at hr |-
 obtain⟨x,h1,h2⟩:=hr;exact⟨x,h.2 _ _ _ _ h1,h2⟩
def Sd(h:iK a b){dr:Bool}{o:bz}{env:List V}{mem:List O}{r:V × List O}(hr:da cfg a dr o env mem=aA r):da cfg b dr o env mem=aA r:=by
 rcases o with⟨dst,op,ty,gu⟩
 cases op
 case call c =>
  obtain⟨callee,args,ats⟩:=c;cases callee
  case value f =>
   simp only[da,obi]at hr |-
   obtain⟨fv,q1,args,q2,q3⟩:=hr;refine⟨fv,q1,args,q2,?_⟩;cases fv<;>first|exact q3|skip
   simp only at q3 |-
   split at q3
   ·rename_i hx;rw[bc hx];split at q3
    ·cases q3
    ·rename_i hy;rw[bh hy];exact Nz h q3
   rename_i hx0;rw[bh hx0];split at q3
   ·rename_i hx;rw[bc hx];split at q3
    ·rename_i hy;rw[bc hy];exact abL h q3
    ·cases q3
   ·rename_i hx;rw[bh hx];exact Nz h q3
  all_goals exact hr
 case makeFunc fn first caps=>cases fn<;>exact hr
 case makeMap t rs=>cases rs<;>exact hr
 all_goals exact hr
def EN(h:iK a b){dr:Bool}{o:bz}{env:List V}{mem:List O}{r:V × List O}(hr:eB cfg a dr o env mem=aA r):eB cfg b dr o env mem=aA r:=by
 unfold eB at hr |-
 split at hr
 ·rename_i hx;rw[bc hx];simp only[obi]at hr |-
  obtain⟨x,q1,q2⟩:=hr;exact⟨x,Sd h q1,q2⟩
 ·rename_i hx;rw[bh hx];exact Sd h hr
def Sk(h:iK a b){dr:Bool}:∀(l:List bz) (s s':S),ib cfg a dr l s=aA s'->ib cfg b dr l s=aA s':=by
 intro l
 induction l with
 |nil=>intro s s' hr;exact hr
 |cons o l ih =>
  intro s s' hr;simp only[ib,obi]at hr |-
  obtain⟨w,q1,q2⟩:=hr;refine⟨w,q1,?_⟩;cases w
  ·exact ih _ _ q2
  ·simp only[dv,obi]at q2 |-
   obtain⟨x,q3,q4⟩:=q2;exact⟨x,EN h q3,ih _ _ q4⟩
def Sl(h:iK a b):∀(l:List bz) (s:S) (fs:List Nat) (r:S × List Nat),jF cfg a l s fs=aA r->jF cfg b l s fs=aA r:=by
 intro l
 induction l with
 |nil=>intro s fs r hr;exact hr
 |cons o l ih =>
  intro s fs r hr;simp only[jF,obi]at hr |-
  obtain⟨w,q1,q2⟩:=hr;refine⟨w,q1,?_⟩;cases w
  ·exact ih _ _ _ q2
  ·simp only[dv,obi]at q2 |-
   obtain⟨x,q3,q4⟩:=q2;exact⟨x,EN h q3,ih _ _ _ q4⟩
def aeV(h:iK a b){dr:Bool}(l:List bz)(s s':S)(hr:mg cfg a dr l s=aA s'):mg cfg b dr l s=aA s':=by
 unfold mg at hr |-
 split at hr
 ·rename_i hc;rw[bc hc];simp only[obi]at hr |-
  obtain⟨r,q1,q2⟩:=hr;exact⟨r,Sl h _ _ _ _ q1,q2⟩
 ·rename_i hc;rw[bh hc];exact Sk h _ _ _ hr
def Jb{f g:S->Option (Ex × S)}(h:∀s r,f s=aA r->g s=aA r):∀(n m:Nat) (s:S) (r:Ex × S),n<=m->eU f n s=aA r->eU g m s=aA r:=by
 intro n
 induction n with
 |zero=>intro m s r _ hr;simp[eU]at hr
 |succ n ih =>
  intro m s r hm hr;cases m with
  |zero=>omega
  |succ m =>
   simp only[eU,obi]at hr |-
   obtain⟨⟨x,s'⟩,q1,q2⟩:=hr;refine⟨(x,s'),h _ _ q1,?_⟩;cases x
   ·exact ih m s' r (by omega) q2
   ·exact q2
   ·exact q2
def u7(h:iK a b){n m n0:Nat}(hm:n<=m):∀(c:C) (s:S) (r:Ex × S),exec cfg a n n0 c s=aA r->exec cfg b m n0 c s=aA r:=by
 intro c
 induction c with
 |skip=>intro s r hr;exact hr
 |ops dr l =>
  intro s r hr;simp only[exec,obi]at hr |-
  obtain⟨s',q1,q2⟩:=hr;exact⟨s',aeV h _ _ _ q1,q2⟩
 |seq p q ihp ihq =>
  intro s r hr;simp only[exec,obi]at hr |-
  obtain⟨⟨x,s'⟩,q1,q2⟩:=hr;refine⟨(x,s'),ihp _ _ q1,?_⟩;cases x
  ·exact ihq _ _ q2
  ·exact q2
  ·exact q2
 |cond c p q ihp ihq =>
  intro s r hr;simp only[exec,obi]at hr |-
  obtain⟨v,q1,q2⟩:=hr;refine⟨v,q1,?_⟩;cases v<;>simp only at q2 |-<;>first|(cases q2;done)|skip
  split at q2
  ·rename_i t;rw[bc t];exact ihp _ _ q2
  ·rename_i t;rw[bh t];exact ihq _ _ q2
 |block id p ih =>
  intro s r hr;simp only[exec,omi]at hr |-
  obtain⟨x,q1,q2⟩:=hr;exact⟨x,ih _ _ q1,q2⟩
 |loop f p ih =>
  intro s r hr;simp only[exec,omi]at hr |-
  obtain⟨x,q1,q2⟩:=hr;exact⟨x,Jb (λs r h=>ih _ _ h) n m s x hm q1,q2⟩
 |exit i=>intro s r hr;exact hr
 |ret=>intro s r hr;exact hr
 |start g=>intro s r hr;exact hr
 |cseq f p q ihp ihq =>
  intro s r hr;simp only[exec,obi]at hr |-
  obtain⟨⟨x,s'⟩,q1,q2⟩:=hr;refine⟨(x,s'),ihp _ _ q1,?_⟩;cases x with
  |norm=>exact ihq _ _ q2
  |exit i=>exact q2
  |ret=>exact q2
 |uncons g ps ws p q ihp ihq =>
  intro s r hr;simp only[exec]at hr |-
  cases he:s.env[g]? with
  |none=>simp only[he]at hr;cases hr
  |some v =>
   simp only[he]at hr |-
   cases v<;>first|(cases hr;done)|skip
   rename_i ts l;cases l with
   |nil=>exact ihq _ _ hr
   |cons x l =>
    cases x<;>first|(cases hr;done)|skip
    try simp only at hr
    try simp only
    split at hr
    ·rename_i hc;rw[bc hc];simp only[omi]at hr |-
     obtain⟨x,q1,q2⟩:=hr;exact⟨x,ihp _ _ q1,q2⟩
    ·cases hr
def TQ(h:iK a b){n m:Nat}(hm:n<=m){fa:FA}{args:List V}{mem:List O}{r:List V × List O}(hr:rF cfg a n fa args mem=aA r):rF cfg b m fa args mem=aA r:=by
 unfold rF at hr |-
 split at hr
 ·rename_i hc;rw[bc hc];simp only[obi]at hr |-
  obtain⟨x,q1,q2⟩:=hr;exact⟨x,u7 h hm _ _ _ q1,q2⟩
 ·cases hr
def afd(h:iK a b){n m:Nat}(hm:n<=m){f:cf}{as0:List V}{r:V}(hr:pW cfg a n f as0=aA r):pW cfg b m f as0=aA r:=by
 unfold pW at hr |-
 split at hr
 ·exact hr
 ·split at hr;rotate_left
  ·cases hr
  rename_i hc;rw[bc hc];simp only[obi]at hr |-
  obtain⟨fa,q1,x,q2,q3⟩:=hr;exact⟨fa,q1,x,TQ h hm q2,q3⟩
def acu(h:iK a b){n m:Nat}(hm:n<=m){f:cf}{as0:List V}{mem:List O}{r:V × List O}(hr:pG cfg a n f as0 mem=aA r):pG cfg b m f as0 mem=aA r:=by
 unfold pG at hr |-
 split at hr
 ·exact hr
 ·simp only[obi,omi]at hr |-
  obtain⟨fa,q1,x,q2,q3⟩:=hr;exact⟨fa,q1,x,TQ h hm q2,q3⟩
def Xo(n:Nat):iK (fk cfg n) (fk cfg (n+1)):=by
 induction n with
 |zero=>exact⟨λf as0 r h=>by simp[fk]at h,λf as0 m r h=>by simp[fk]at h⟩
 |succ n ih=>exact⟨λf as0 r h=>afd ih (Nat.le_succ n) h,λf as0 m r h=>acu ih (Nat.le_succ n) h⟩
def iK.refl(a:dw):iK a a:=⟨λ_ _ _ h=>h,λ_ _ _ _ h=>h⟩
def iK.trans{c:dw}(h:iK a b)(h':iK b c):iK a c:=⟨λf as0 r q=>h'.1 f as0 r (h.1 f as0 r q),λf as0 m r q=>h'.2 f as0 m r (h.2 f as0 m r q)⟩
def nk{n m:Nat}(h:n<=m):iK (fk cfg n) (fk cfg m):=by
 induction m with
 | zero=>have:n=0:=by omega
         subst this;exact iK.refl _
 |succ m ih =>
  by_cases e:n=m+1
  ·subst e;exact iK.refl _
  ·exact(ih (by omega)).trans (Xo m)
open Classical in
def vz {α:Type} (f:Nat->Option α):Option α:=if h:∃n,(f n).isSome=aD then f (Classical.choose h) else aF
def Ch{α:Type}(f:Nat->Option α):Prop:=∀n m x,n<=m->f n=aA x->f m=aA x
def Ev{α:Type}{f:Nat->Option α}{x:α}(h:vz f=aA x):∃n,f n=aA x:=by
 unfold vz at h;split at h
 ·exact⟨_,h⟩
 ·cases h
def xQ{α:Type}{f:Nat->Option α}(hf:Ch f){n:Nat}{x:α}(h:f n=aA x):vz f=aA x:=by
 unfold vz;have he:∃n,(f n).isSome=true:=⟨n,by simp[h]⟩
 rw[dif_pos he];have h1:(f (Classical.choose he)).isSome=true:=Classical.choose_spec he;generalize Classical.choose he=k at h1;cases h2:f k with
 |none=>simp[h2]at h1
 |some y =>
  have e1:=hf k (max k n) y (wS _ _) h2;have e2:=hf n (max k n) x (wT _ _) h;rw[e1]at e2;exact e2
end
end Go.Lite
namespace Go.Lite
open Go
def bP (cfg:cB) (f:cf) (as0:List V):Option V:=vz λn=>(fk cfg n).pc f as0
def ol (cfg:cB) (f:cf) (as0:List V) (mem:List O):Option (V × List O):=vz λn=>(fk cfg n).ic f as0 mem
def jy (cfg:cB):dw:=⟨bP cfg,ol cfg⟩
def AE (step:S->Option (Ex × S)) (s:S):Option (Ex × S):=vz λn=>eU step n s
def df (cfg:cB) (n0:Nat):C->S->Option (Ex × S)
 |.skip,s=>aA (.norm,s)
 |.ops dr l,s=>(mg cfg (jy cfg) dr l s).bind λs=>if !dr ||s6 cfg l s.env then aA (.norm,s) else aF
 |.seq a b,s=>(df cfg n0 a s).bind λr =>
   match r with
   |(.norm,s')=>df cfg n0 b s'
   |(.exit i,s')=>aA (.exit i,s')
   |(.ret,s')=>aA (.ret,s')
 |.cond c a b,s=>(bB s.env c).bind λv =>
   match v with
   |.bool t=>if t then df cfg n0 a s else df cfg n0 b s
   |_=>aF
 |.block id c,s=>(df cfg n0 c s).map λr =>
   match r with
   |(.norm,s')=>(.norm,s')
   |(.exit i,s')=>if i=id then (.norm,s') else (.exit i,s')
   |(.ret,s')=>(.ret,s')
 |.loop f c,s=>(AE (λs=>df cfg n0 c (dK n0 f s)) s).map λr=>(r.1,dK n0 f r.2)
 |.exit i,s=>aA (.exit i,s)
 |.ret,s=>aA (.ret,s)
 |.start g,s=>(wy cfg g s).map λs=>(.norm,s)
 |.uncons g ps ws a b,s =>
  match s.env[g]? with
  |some (.rest _ [])=>df cfg n0 b s
  |some (.rest ts (.tup vs::l)) =>
   if vs.length=ps.length then (df cfg n0 a ⟨wq (s.env.set g .junk) ps vs,s.mem⟩).map λr=>(r.1,⟨(gL r.2.env ws).set g (.rest ts l),r.2.mem⟩) else aF
  |_=>aF
 |.cseq f a b,s=>(df cfg n0 a s).bind λr =>
   match r with
   |(.norm,s')=>df cfg n0 b (dK n0 f s')
   |(.exit i,s')=>aA (.exit i,s')
   |(.ret,s')=>aA (.ret,s')
def tY (cfg:cB) (fa:FA) (args:List V) (mem:List O):Option (List V × List O) :=
 if args.length=fa.np/\fa.np<=fa.nt then
  (df cfg mem.length fa.body ⟨args++cA (fa.nt - fa.np) (.tup []),mem⟩).bind λr =>
   match r with
   |(.exit _,_)=>aF
   |(_,s)=>(cD (oH cfg.P s) fa.results).map λvs=>(vs,s.mem)
 else aF
section
variable {cfg:cB}
def aff(f:cf)(as0:List V):Ch λn=>(fk cfg n).pc f as0:=λ_ _ _ h q=>(nk h).1 _ _ _ q
def QC(f:cf)(as0:List V)(mem:List O):Ch λn=>(fk cfg n).ic f as0 mem:=λ_ _ _ h q=>(nk h).2 _ _ _ _ q
def SG{f:cf}{as0:List V}{r:V}(h:bP cfg f as0=aA r):∃n,(fk cfg n).pc f as0=aA r:=Ev h
def IZ{f:cf}{as0:List V}{mem:List O}{r:V × List O}(h:ol cfg f as0 mem=aA r):∃n,(fk cfg n).ic f as0 mem=aA r:=Ev h
def SH{f:cf}{as0:List V}{r:V}(n:Nat)(h:(fk cfg n).pc f as0=aA r):bP cfg f as0=aA r:=xQ (aff f as0) h
def Ny{dr:Bool}{f:cf}{args:List V}{mem:List O}{r:V × List O}(hr:jw cfg (jy cfg) dr f args mem=aA r):∃n,jw cfg (fk cfg n) dr f args mem=aA r:=by
 unfold jw at hr;split at hr
 ·grind
 ·rename_i h1;split at hr
  ·rename_i h2;simp only[obi]at hr;obtain⟨as0,q1,x,q2,q3⟩:=hr;obtain⟨n,hn⟩:=SG q2;refine⟨n,?_⟩;unfold jw;grind
  ·rename_i h2;split at hr
   ·grind
   ·rename_i h3;cases hcf:cfg.can f with
    |none =>
     rw[hcf]at hr;obtain⟨n,hn⟩:=IZ hr;refine⟨n,?_⟩;unfold jw;grind
    |some rd =>
     rw[hcf]at hr;obtain⟨hr,hro⟩:=Fc hr;simp only[sK,omi]at hr;obtain⟨x,q1,q2⟩:=hr;obtain⟨n,hn⟩:=IZ q1;refine⟨n,?_⟩;unfold jw;rw[bh h1,bh h2,bh h3,hcf];refine Ko ?_ hro;simp only[sK,omi];grind
def Sb{dr:Bool}{o:bz}{env:List V}{mem:List O}{r:V × List O}(hr:da cfg (jy cfg) dr o env mem=aA r):∃n,da cfg (fk cfg n) dr o env mem=aA r:=by
 rcases o with⟨dst,op,ty,gu⟩
 cases op
 case call c =>
  obtain⟨callee,args,ats⟩:=c;cases callee
  case value f =>
   simp only[da,obi]at hr |-
   obtain⟨fv,q1,args,q2,q3⟩:=hr;cases fv
   case fn f caps =>
    simp only at q3;split at q3
    ·rename_i hx;split at q3
     ·grind
     rename_i hy;obtain⟨n,hn⟩:=Ny q3;exact⟨n,_,q1,args,q2,by grind⟩
    rename_i hx0;split at q3
    ·rename_i hx;split at q3
     ·rename_i hy;unfold pC at q3;split at q3
      ·grind
      rename_i hna;simp only[obi]at q3;obtain⟨x,h1,h2⟩:=q3;obtain⟨n,hn⟩:=IZ h1;refine⟨n,_,q1,args,q2,?_⟩;simp only;rw[bh hx0,bc hx,bc hy];unfold pC;grind
     grind
    ·rename_i hx;obtain⟨n,hn⟩:=Ny q3;exact⟨n,_,q1,args,q2,by grind⟩
   all_goals grind
  all_goals exact⟨0,hr⟩
 case makeFunc fn first caps=>cases fn<;>exact⟨0,hr⟩
 case makeMap t rs=>cases rs<;>exact⟨0,hr⟩
 all_goals exact⟨0,hr⟩
def Sg{dr:Bool}{o:bz}{env:List V}{mem:List O}{r:V × List O}(hr:eB cfg (jy cfg) dr o env mem=aA r):∃n,eB cfg (fk cfg n) dr o env mem=aA r:=by
 unfold eB at hr;split at hr
 ·rename_i hx;simp only[obi]at hr;obtain⟨x,q1,q2⟩:=hr;obtain⟨n,hn⟩:=Sb q1;refine⟨n,?_⟩;unfold eB;grind
 ·rename_i hx;obtain⟨n,hn⟩:=Sb hr;refine⟨n,?_⟩;unfold eB;grind
def aeS{dr:Bool}:∀(l:List bz) (s s':S),ib cfg (jy cfg) dr l s=aA s'->∃n,ib cfg (fk cfg n) dr l s=aA s':=by
 intro l
 induction l with
 |nil=>intro s s' hr;exact⟨0,hr⟩
 |cons o l ih =>
  intro s s' hr;simp only[ib,obi]at hr |-
  obtain⟨w,q1,q2⟩:=hr;cases w
  ·grind
  ·simp only[dv,obi]at q2;obtain⟨x,q3,q4⟩:=q2;obtain⟨n,hn⟩:=ih _ _ q4;obtain⟨m,hm⟩:=Sg q3;refine⟨max n m,aD,q1,?_⟩;simp only[dv,obi];exact⟨x,EN (nk (wT n m)) hm,Sk (nk (wS n m)) _ _ _ hn⟩
def aeY:∀(l:List bz) (s:S) (fs:List Nat) (r:S × List Nat),jF cfg (jy cfg) l s fs=aA r->∃n,jF cfg (fk cfg n) l s fs=aA r:=by
 intro l
 induction l with
 |nil=>intro s fs r hr;exact⟨0,hr⟩
 |cons o l ih =>
  intro s fs r hr;simp only[jF,obi]at hr |-
  obtain⟨w,q1,q2⟩:=hr;cases w
  ·grind
  ·simp only[dv,obi]at q2;obtain⟨x,q3,q4⟩:=q2;obtain⟨n,hn⟩:=ih _ _ _ q4;obtain⟨m,hm⟩:=Sg q3;refine⟨max n m,aD,q1,?_⟩;simp only[dv,obi];exact⟨x,EN (nk (wT n m)) hm,Sl (nk (wS n m)) _ _ _ _ hn⟩
def aeU{dr:Bool}(l:List bz)(s s':S)(hr:mg cfg (jy cfg) dr l s=aA s'):∃n,mg cfg (fk cfg n) dr l s=aA s':=by
 unfold mg at hr;split at hr
 ·rename_i hc;simp only[obi]at hr;obtain⟨r,q1,q2⟩:=hr;obtain⟨n,hn⟩:=aeY _ _ _ _ q1;exact⟨n,by unfold mg;grind⟩
 ·rename_i hc;obtain⟨n,hn⟩:=aeS _ _ _ hr;exact⟨n,by unfold mg;grind⟩
def Gk(cfg:cB)(n0:Nat)(c:C)(s:S)(r:Ex × S):Prop:=∃n,exec cfg (fk cfg n) n n0 c s=aA r
def acY{n0:Nat}{c:C}{g:S->S}{step:S->Option (Ex × S)}(h:∀s r,step s=aA r->Gk cfg n0 c (g s) r):∀(k:Nat) (s:S) (r:Ex × S),eU step k s=aA r ->
  ∃n,eU (λs=>exec cfg (fk cfg n) n n0 c (g s)) n s=aA r:=by
 intro k
 induction k with
 |zero=>intro s r hr;simp[eU]at hr
 |succ k ih =>
  intro s r hr;simp only[eU,obi]at hr;obtain⟨⟨x,s'⟩,q1,q2⟩:=hr;obtain⟨n,hn⟩:=h _ _ q1;have up:∀N,n<=N->exec cfg (fk cfg N) N n0 c (g s)=aA (x,s'):=λN hN=>u7 (nk hN) hN _ _ _ hn
  cases x with
  |norm =>
   obtain⟨m,hm⟩:=ih s' r q2;refine⟨max n m+1,?_⟩;simp only[eU,obi];refine⟨(.norm,s'),up _ (by omega),?_⟩;exact Jb (λs r q=>u7 (nk (by omega:m<=max n m+1)) (by omega) _ _ _ q) m (max n m) s' r (by omega) hm
  |exit i=>exact⟨n+1,by simp only[eU,obi];grind⟩
  |ret=>exact⟨n+1,by simp only[eU,obi];grind⟩
def abm{n0:Nat}:∀(c:C) (s:S) (r:Ex × S),df cfg n0 c s=aA r->Gk cfg n0 c s r:=by
 intro c
 induction c with
 |skip=>intro s r hr;exact⟨0,hr⟩
 |ops dr l =>
  intro s r hr;simp only[df,obi]at hr;obtain⟨s',q1,q2⟩:=hr;obtain⟨n,hn⟩:=aeU _ _ _ q1;exact⟨n,by simp only[exec,obi];grind⟩
 |seq p q ihp ihq =>
  intro s r hr;simp only[df,obi]at hr;obtain⟨⟨x,s'⟩,q1,q2⟩:=hr;obtain⟨n,hn⟩:=ihp _ _ q1;cases x with
  |norm =>
   obtain⟨m,hm⟩:=ihq _ _ q2;refine⟨max n m,?_⟩;simp only[exec,obi];exact⟨_,u7 (nk (wS n m)) (wS n m) _ _ _ hn,u7 (nk (wT n m)) (wT n m) _ _ _ hm⟩
  |exit i=>exact⟨n,by simp only[exec,obi];grind⟩
  |ret=>exact⟨n,by simp only[exec,obi];grind⟩
 |cond c p q ihp ihq =>
  intro s r hr;simp only[df,obi]at hr;obtain⟨v,q1,q2⟩:=hr;cases v<;>simp only at q2<;>first|(cases q2;done)|skip
  rename_i t;cases t
  ·obtain⟨n,hn⟩:=ihq _ _ q2;exact⟨n,by simp only[exec,obi];grind⟩
  ·obtain⟨n,hn⟩:=ihp _ _ q2;exact⟨n,by simp only[exec,obi];grind⟩
 |block id p ih =>
  intro s r hr;simp only[df,omi]at hr;obtain⟨x,q1,q2⟩:=hr;obtain⟨n,hn⟩:=ih _ _ q1;exact⟨n,by simp only[exec,omi];grind⟩
 |loop f p ih =>
  intro s r hr;simp only[df,omi]at hr;obtain⟨x,q1,q2⟩:=hr;obtain⟨k,hk⟩:=Ev q1;obtain⟨n,hn⟩:=acY (g:=dK n0 f) (λs r h=>ih _ _ h) k s x hk;exact⟨n,by simp only[exec,omi];grind⟩
 |exit i=>intro s r hr;exact⟨0,hr⟩
 |ret=>intro s r hr;exact⟨0,hr⟩
 |start g=>intro s r hr;exact⟨0,hr⟩
 |cseq f p q ihp ihq =>
  intro s r hr;simp only[df,obi]at hr;obtain⟨⟨x,s'⟩,q1,q2⟩:=hr;obtain⟨n,hn⟩:=ihp _ _ q1;cases x with
  |norm =>
   obtain⟨m,hm⟩:=ihq _ _ q2;refine⟨max n m,?_⟩;simp only[exec,obi];exact⟨_,u7 (nk (wS n m)) (wS n m) _ _ _ hn,u7 (nk (wT n m)) (wT n m) _ _ _ hm⟩
  |exit i=>exact⟨n,by simp only[exec,obi];grind⟩
  |ret=>exact⟨n,by simp only[exec,obi];grind⟩
 |uncons g ps ws p q ihp ihq =>
  intro s r hr;unfold Gk;simp only[df]at hr;simp only[exec];cases he:s.env[g]? with
  |none=>grind
  |some v =>
   simp only[he]at hr |-
   cases v<;>first|(cases hr;done)|skip
   rename_i ts l;cases l with
   |nil=>exact ihq _ _ hr
   |cons x l =>
    cases x<;>first|(cases hr;done)|skip
    try simp only at hr
    try simp only
    split at hr
    ·rename_i hc;simp only[omi]at hr;obtain⟨x,q1,q2⟩:=hr;obtain⟨n,hn⟩:=ihp _ _ q1;grind
    grind
def TR{fa:FA}{args:List V}{mem:List O}{r:List V × List O}(hr:tY cfg fa args mem=aA r):∃n,rF cfg (fk cfg n) n fa args mem=aA r:=by
 unfold tY at hr;split at hr
 ·rename_i hc;simp only[obi]at hr;obtain⟨x,q1,q2⟩:=hr;obtain⟨n,hn⟩:=abm _ _ _ q1;refine⟨n,?_⟩;unfold rF;grind
 grind
def afe{f:cf}{as0:List V}{fa:FA}{vs:List V}{mem:List O}{r:V}(hp:cfg.pprim f=aF)(hf:iq cfg.P (cfg.rxf f) f=aA fa)(hr:tY cfg fa as0 []=aA (vs,mem))(hg:oh cfg.P mem fa.rtypes vs=aA r)(ha:cfg.ars f=[]:=by rfl) :
  bP cfg f as0=aA r:=by
 obtain⟨n,hn⟩:=TR hr;apply SH (n+1);show pW cfg (fk cfg n) n f as0=aA r;unfold pW;rw[hp];have h1:CY cfg f as0=true:=by unfold CY;grind
 have h2:qF cfg f=[]:=by unfold qF;grind
 simp only[h1,h2,dv,hf,bu,hn];unfold D7;grind
def QB{f:cf}{as0:List V}{fa:FA}{vs:List V}{mem mem':List O}(hp:cfg.iprim f=aF)(hf:iq cfg.P (cfg.rxf f) f=aA fa)(hr:tY cfg fa as0 mem=aA (vs,mem')) :
  ol cfg f as0 mem=aA (rO vs,mem'):=by
 obtain⟨n,hn⟩:=TR hr;refine xQ (QC f as0 mem) (n:=n+1) ?_;show pG cfg (fk cfg n) n f as0 mem=_;unfold pG;grind
def ET{f:cf}{as0:List V}{g:List V->Option V}{r:V}(hp:cfg.pprim f=aA g)(h:g as0=aA r):bP cfg f as0=aA r:=by
 apply SH 1;show pW cfg (fk cfg 0) 0 f as0=aA r;unfold pW;grind
def xI{f:cf}{as0:List V}{mem:List O}{g:List V->List O->Option (V × List O)}{r:V × List O}(hp:cfg.iprim f=aA g)(h:g as0 mem=aA r):ol cfg f as0 mem=aA r:=by
 refine xQ (QC f as0 mem) (n:=1) ?_;show pG cfg (fk cfg 0) 0 f as0 mem=aA r;unfold pG;grind
def Ja(step:S->Option (Ex × S))(s:S):Ch λn=>eU step n s:=λn m x h q=>Jb (λ_ _ h=>h) n m s x h q
def acW{step:S->Option (Ex × S)}{s s':S}{r:Ex × S}(h:step s=aA (.norm,s'))(hr:AE step s'=aA r):AE step s=aA r:=by
 obtain⟨k,hk⟩:=Ev hr;refine xQ (Ja step s) (n:=k+1) ?_;simp only[eU,h,bu,hk]
def acV{step:S->Option (Ex × S)}{s s':S}{i:Nat}(h:step s=aA (.exit i,s')):AE step s=aA (.exit i,s'):=by
 refine xQ (Ja step s) (n:=1) ?_;simp only[eU,h,bu]
def acX{step:S->Option (Ex × S)}{s s':S}(h:step s=aA (.ret,s')):AE step s=aA (.ret,s'):=by
 refine xQ (Ja step s) (n:=1) ?_;simp only[eU,h,bu]
end
structure Wd where
 f:cf
 args:List V
 mem:List O
 res:V × List O
section
variable {cfg:cB}{T:List Wd}{U:List (cf × List V × V)}
end
def wQ(cfg:cB)(n0:Nat)(f:List Nat)(c:C)(t:S)(x:Ex)(s:S):Prop :=
 ∀s0,dK n0 f s0=t->df cfg n0 (.loop f c) s0=aA (x,s)
inductive d6 where
 |head (i:Nat) (s:S)
 |done (v:V)
 |doneM (v:V) (m:List O)
abbrev R:=Option d6
structure KC where
 cfg:cB
 frs:cf->Bool
 ik:cf->List V->List O->(V->List O->R)->R
 pv:cf->Option (List V->Option V):=λ_=>aF
 ck:CM->cf->List V->List O->(V->List O->R)->R:=λ_ _ _ _ _=>aF
 pvok:∀f g as0 r,pv f=aA g->g as0=aA r->bP cfg f as0=aA r:=by exact λ_ _ _ _ h=>nomatch h
def bW (cfg:cB) (rd:CM) (f:cf) (args:List V) (mem:List O):Option (V × List O):=(ol cfg f args mem).map λr=>jZ rd mem r.1 r.2
open Classical in
def bV {α:Type} (cfg:cB) (rd:CM) (mk:α->V × List O) (f:cf) (args:List V) (mem:List O) (k:α->R):R :=
 if h:∃L,bW cfg rd f args mem=aA (mk L) then k (Classical.choose h) else aF
def cJ {α:Type} (cfg:cB) (rd:CM) (mk:List O->α->V × List O) (f:cf) (args:List V) (mem:List O) (k:α->R):R:=bV cfg rd (mk mem) f args mem k
def Ee{α:Type}{cfg:cB}{rd:CM}{mk:α->V × List O}{f:cf}{args:List V}{mem:List O}{k:α->R}{r:d6}(h:bV cfg rd mk f args mem k=aA r):∃L,bW cfg rd f args mem=aA (mk L)/\k L=aA r:=by
 unfold bV at h;split at h
 all_goals grind
def cL{α:Type}{cfg:cB}{rd:CM}{mk:α->V × List O}{f:cf}{args:List V}{mem:List O}{k:α->R}(hi:∀L L',mk L=mk L'->L=L'){L:α}(h:bW cfg rd f args mem=aA (mk L)):bV cfg rd mk f args mem k=k L:=by
 unfold bV;have hx:∃L,bW cfg rd f args mem=aA (mk L):=⟨L,h⟩
 grind
open Classical in
def vl {α β:Type} (cfg:cB) (rd:CM) (mk:α->V × List O) (mk2:β->V × List O) (f:cf) (args:List V) (mem:List O) (k:α->R) (k2:β->R):R :=
 if ∃L,bW cfg rd f args mem=aA (mk L) then bV cfg rd mk f args mem k else bV cfg rd mk2 f args mem k2
def Qz{α β:Type}{cfg:cB}{rd:CM}{mk:α->V × List O}{mk2:β->V × List O}{f:cf}{args:List V}{mem:List O}{k:α->R}{k2:β->R}{r:d6}(h:vl cfg rd mk mk2 f args mem k k2=aA r) :
  (∃L,bW cfg rd f args mem=aA (mk L)/\k L=aA r)∨∃L,bW cfg rd f args mem=aA (mk2 L)/\k2 L=aA r:=by
 unfold vl at h;split at h
 ·exact .inl (Ee h)
 ·exact .inr (Ee h)
def acm{α β:Type}{cfg:cB}{rd:CM}{mk:α->V × List O}{mk2:β->V × List O}{f:cf}{args:List V}{mem:List O}{k:α->R}{k2:β->R}(hi:∀L L',mk L=mk L'->L=L'){L:α}(h:bW cfg rd f args mem=aA (mk L)):vl cfg rd mk mk2 f args mem k k2=k L:=by
 unfold vl;rw[bc ⟨L,h⟩,cL hi h]
def acn{α β:Type}{cfg:cB}{rd:CM}{mk:α->V × List O}{mk2:β->V × List O}{f:cf}{args:List V}{mem:List O}{k:α->R}{k2:β->R}(hi:∀L L',mk2 L=mk2 L'->L=L')(hd:∀L L',mk L≠mk2 L'){L:β}(h:bW cfg rd f args mem=aA (mk2 L)):vl cfg rd mk mk2 f args mem k k2=k2 L:=by
 unfold vl;rw[bh fun⟨L',e⟩=>hd L' L (Option.some.inj (e.symm.trans h)),cL hi h]
open Classical in
def iF {α β γ:Type} (cfg:cB) (rd:CM) (mk:α->V × List O) (mk2:β->V × List O) (mk3:γ->V × List O) (f:cf) (args:List V) (mem:List O) (k:α->R) (k2:β->R) (k3:γ->R):R :=
 if ∃L,bW cfg rd f args mem=aA (mk L) then bV cfg rd mk f args mem k else vl cfg rd mk2 mk3 f args mem k2 k3
def acs{α β γ:Type}{cfg:cB}{rd:CM}{mk:α->V × List O}{mk2:β->V × List O}{mk3:γ->V × List O}{f:cf}{args:List V}{mem:List O}{k:α->R}{k2:β->R}{k3:γ->R}{r:d6}(h:iF cfg rd mk mk2 mk3 f args mem k k2 k3=aA r) :
  (∃L,bW cfg rd f args mem=aA (mk L)/\k L=aA r)∨(∃L,bW cfg rd f args mem=aA (mk2 L)/\k2 L=aA r)∨∃L,bW cfg rd f args mem=aA (mk3 L)/\k3 L=aA r:=by
 unfold iF at h;split at h
 ·exact .inl (Ee h)
 ·exact .inr (Qz h)
section
variable {α β γ:Type}{cfg:cB}{rd:CM}{mk:α->V × List O}{mk2:β->V × List O}{mk3:γ->V × List O}{f:cf}{args:List V}{mem:List O}{k:α->R}{k2:β->R}{k3:γ->R}
def aco(hi:∀L L',mk L=mk L'->L=L'){L:α}(h:bW cfg rd f args mem=aA (mk L)):iF cfg rd mk mk2 mk3 f args mem k k2 k3=k L:=by
 unfold iF;rw[bc ⟨L,h⟩,cL hi h]
def acp(hi:∀L L',mk2 L=mk2 L'->L=L')(hd:∀L L',mk L≠mk2 L'){L:β}(h:bW cfg rd f args mem=aA (mk2 L)):iF cfg rd mk mk2 mk3 f args mem k k2 k3=k2 L:=by
 unfold iF;rw[bh fun⟨L',e⟩=>hd L' L (Option.some.inj (e.symm.trans h)),acm hi h]
def acr(hi:∀L L',mk3 L=mk3 L'->L=L')(hd:∀L L',mk L≠mk3 L')(hd2:∀L L',mk2 L≠mk3 L'){L:γ}(h:bW cfg rd f args mem=aA (mk3 L)):iF cfg rd mk mk2 mk3 f args mem k k2 k3=k3 L:=by
 unfold iF;rw[bh fun⟨L',e⟩=>hd L' L (Option.some.inj (e.symm.trans h)),acn hi hd2 h]
end
def co{α:Type}{cfg:cB}{rd:CM}{mk:List O->α->V × List O}{f:cf}{args:List V}{mem:List O}{k:α->R}(hi:∀M L L',mk M L=mk M L'->L=L'){L:α}(h:bW cfg rd f args mem=aA (mk mem L)):cJ cfg rd mk f args mem k=k L:=cL (hi mem) h
def gd(b:Bool)(k:R):R:=cond b k aF
def bk{α:Type}(l:List α)(n:Nat)(k:α->R):R:=match l[n]? with|some x=>k x|none=>aF
def kB(v:V)(k:Bool->R):R:=match v with |.bool b=>k b|_=>aF
def kI(j:IntKind)(v:V)(k:Int->R):R:=match v with |.int i n=>cond (i==j) (k n) aF|_=>aF
def kS(v:V)(k:List UInt8->R):R:=match v with |.str s=>k s|_=>aF
def kL(v:V)(k:List V->R):R:=match v with |.sl l=>k l|_=>aF
def kF(e:aP)(v:V)(k:List V->R):R:=match v with |.fr t l=>cond (t==e) (k l) aF|_=>aF
def kA(v:V)(k:List V->R):R:=match v with |.agg l=>k l|_=>aF
def kT(v:V)(k:List V->R):R:=match v with |.tup l=>k l|_=>aF
def kP(e:aP)(v:V)(k:Nat->R):R:=match v with |.hp t i o=>cond (t==e && m4 o 0) (k i) aF|_=>aF
def kM(e:aP)(v:V)(k:Nat->R):R:=match v with |.hm t i=>cond (t==e) (k i) aF|_=>aF
def cj(l:List V)(k:V->List V->R):R:=match l with|c::cs=>k c cs | []=>aF
def er(l:List V)(k:R):R:=match l with | []=>k|_=>aF
def cg{α:Type}(o:Option α)(k:α->R):R:=match o with|some x=>k x|none=>aF
def aT (cfg:cB) (f:cf) (as0:List V) (k:V->R):R:=match bP cfg f as0 with|some r=>k r|none=>aF
def J7 (kc:KC) (f:cf) (as0:List V) (k:V->R):R:=match kc.pv f with|some g=>(match g as0 with|some r=>k r|none=>aF)|none=>aT kc.cfg f as0 k
def mh(l:List V)(kn:R)(ks:V->List V->R):R:=match l with | []=>kn|x::l=>ks x l
def cC(c:Nat)(l:List V):Bool:=l.all λy=>y.cells.length==c
def mP(es:List (V × V))(key:V)(kn:R)(ks:V->R):R:=match gj es key with|some (aA v)=>ks v|some aF=>kn|none=>aF
section
variable {b:Bool}{k:R}{r:d6}{v:V}
def cU(h:gd b k=aA r):b=aD/\k=aA r:=by
 cases b
 ·cases h
 ·exact⟨rfl,h⟩
def dm{x y:R}(h:cond b x y=aA r):(b=aD/\x=aA r)∨(b=aE/\y=aA r):=by
 grind
def pI{α:Type}{l:List α}{n:Nat}{k:α->R}(h:bk l n k=aA r):∃x,l[n]? = aA x/\k x=aA r:=by
 unfold bk at h;grind
def cS{α:Type}{o:Option α}{k:α->R}(h:cg o k=aA r):∃x,o=aA x/\k x=aA r:=by
 cases o
 ·cases h
 ·exact⟨_,rfl,h⟩
def Jc{k:Bool->R}(h:kB v k=aA r):∃x,v = .bool x/\k x=aA r:=by
 cases v<;>first|(cases h;done)|exact⟨_,rfl,h⟩
def ac2{j:IntKind}{k:Int->R}(h:kI j v k=aA r):∃x,v = .int j x/\k x=aA r:=by
 cases v<;>first|(cases h;done)|skip
 rename_i i n;rcases dm h with⟨h1,h2⟩|⟨_,h2⟩
 all_goals grind
def ac5{k:List UInt8->R}(h:kS v k=aA r):∃x,v = .str x/\k x=aA r:=by
 cases v<;>first|(cases h;done)|exact⟨_,rfl,h⟩
def QP{k:List V->R}(h:kL v k=aA r):∃x,v = .sl x/\k x=aA r:=by
 cases v<;>first|(cases h;done)|exact⟨_,rfl,h⟩
def ac0{k:List V->R}(h:kA v k=aA r):∃x,v = .agg x/\k x=aA r:=by
 cases v<;>first|(cases h;done)|exact⟨_,rfl,h⟩
def QQ{k:List V->R}(h:kT v k=aA r):∃x,v = .tup x/\k x=aA r:=by
 cases v<;>first|(cases h;done)|exact⟨_,rfl,h⟩
def ac1{e:aP}{k:List V->R}(h:kF e v k=aA r):∃x,v = .fr e x/\k x=aA r:=by
 cases v<;>first|(cases h;done)|skip
 rename_i t n;rcases dm h with⟨h1,h2⟩|⟨_,h2⟩
 all_goals grind
def ac4{e:aP}{k:Nat->R}(h:kP e v k=aA r):∃i,v = .hp e i 0/\k i=aA r:=by
 cases v<;>first|(cases h;done)|skip
 rename_i t i o;rcases dm h with⟨h1,h2⟩|⟨_,h2⟩
 all_goals simp_all
def ac3{e:aP}{k:Nat->R}(h:kM e v k=aA r):∃i,v = .hm e i/\k i=aA r:=by
 cases v<;>first|(cases h;done)|skip
 rename_i t i;rcases dm h with⟨h1,h2⟩|⟨_,h2⟩
 all_goals grind
def VK{l:List V}{k:V->List V->R}(h:cj l k=aA r):∃c cs,l=c::cs/\k c cs=aA r:=by
 cases l
 ·cases h
 ·exact⟨_,_,rfl,h⟩
def VP{l:List V}(h:er l k=aA r):l=[]/\k=aA r:=by
 cases l
 ·exact⟨rfl,h⟩
 ·cases h
def afc{cfg:cB}{f:cf}{as0:List V}{k:V->R}(h:aT cfg f as0 k=aA r):∃x,bP cfg f as0=aA x/\k x=aA r:=by
 unfold aT at h;grind
def ad8{es:List (V × V)}{key:V}{kn:R}{ks:V->R}(h:mP es key kn ks=aA r):∃o,gj es key=aA o/\((o=aF/\kn=aA r)∨∃v,o=aA v/\ks v=aA r):=by
 unfold mP at h;grind
end
def tq(P:bv)(t:aP)(v:V)(k:V->R):R :=
 match (bO P) t with
 |some .bool=>kB v λb=>k (.bool b)
 |some (.int j)=>kI j v λn=>k (.int j n)
 |some .string=>kS v λs=>k (.str s)
 |some (.slice _)=>kL v λl=>k (.sl l)
 |some (.pointer e)=>kP e v λi=>k (.hp e i 0)
 |some (.map _ _)=>kM t v λi=>k (.hm t i)
 |_=>k v
def Jh(P:bv):Nat->aP->List aP
 |0,_=>[]
 |n+1,t=>match (bO P) t with
  |some (.struct fs)=>fs.toList.flatMap λf=>Jh P n f.type
  |some (.array len e)=>(cA len (Jh P n e)).flatten
  |_=>[t]
def G0(P:bv):List aP->List V->(List V->R)->R
 | [],cs,k=>er cs (k [])
 |t::ts,cs,k=>cj cs λc cs=>tq P t c λc=>G0 P ts cs λds=>k (c::ds)
def o8:Option TypeDesc->Bool
 |some (.struct _)|some (.array _ _)=>aD
 |_=>aE
def aeO:Option TypeDesc->Bool
 |some (.struct _)|some (.array _ _)|some (.pointer _)|none=>aE
 |_=>aD
def rP(P:bv)(t:aP)(v:V)(k:V->R):R :=
 cond (o8 ((bO P) t)) (kA v λcs=>G0 P (Jh P 6 t) cs λds=>k (.agg ds)) (tq P t v k)
def F6(P:bv):List aP->List V->(List V->R)->R
 | [],vs,k=>er vs (k [])
 |t::ts,vs,k=>cj vs λc cs=>rP P t c λc=>F6 P ts cs λds=>k (c::ds)
def Kh(P:bv)(fr:Bool)(ty:aP)(r:V)(k:V->R):R :=
 match (bO P) ty with
 |some (.tuple ts)=>kT r λvs=>F6 P ts.toList vs λws=>k (.tup ws)
 |some (.slice e)=>cond fr (kF e r λl=>k (.fr e l)) (kL r λl=>k (.sl l))
 |_=>rP P ty r k
section
variable {P:bv}{r:d6}
def xO{t:aP}{v:V}{k:V->R}(h:tq P t v k=aA r):k v=aA r:=by
 unfold tq at h;split at h
 ·obtain⟨x,rfl,h'⟩:=Jc h;grind
 ·obtain⟨x,rfl,h'⟩:=ac2 h;grind
 ·obtain⟨x,rfl,h'⟩:=ac5 h;grind
 ·obtain⟨x,rfl,h'⟩:=QP h;grind
 ·obtain⟨x,rfl,h'⟩:=ac4 h;grind
 ·obtain⟨x,rfl,h'⟩:=ac3 h;grind
 grind
def Xy:∀{ts:List aP} {cs:List V} {k:List V->R},G0 P ts cs k=aA r->k cs=aA r:=by
 intro ts
 induction ts with
 |nil=>intro cs k h;obtain⟨rfl,h⟩:=VP h;exact h
 |cons t ts ih=>intro cs k h;obtain⟨c,cs,rfl,h'⟩:=VK h;exact ih (k:=λds=>k (c::ds)) (xO h')
def ut{t:aP}{v:V}{k:V->R}(h:rP P t v k=aA r):k v=aA r:=by
 rcases dm h with⟨_,h⟩|⟨_,h⟩
 ·obtain⟨cs,rfl,h'⟩:=ac0 h;exact Xy h'
 ·exact xO h
def VH:∀{ts:List aP} {cs:List V} {k:List V->R},F6 P ts cs k=aA r->k cs=aA r:=by
 intro ts
 induction ts with
 |nil=>intro cs k h;obtain⟨rfl,h⟩:=VP h;exact h
 |cons t ts ih=>intro cs k h;obtain⟨c,cs,rfl,h'⟩:=VK h;exact ih (k:=λds=>k (c::ds)) (ut h')
def af6{fr:Bool}{ty:aP}{v:V}{k:V->R}(h:Kh P fr ty v k=aA r):k v=aA r:=by
 unfold Kh at h;split at h
 ·obtain⟨x,rfl,h'⟩:=QQ h;exact VH h'
 ·rcases dm h with⟨_,h⟩|⟨_,h⟩
  ·obtain⟨x,rfl,h'⟩:=ac1 h;grind
  ·obtain⟨x,rfl,h'⟩:=QP h;grind
 ·exact ut h
end
def xk(o:Option (Option V))(d:Nat)(k:Nat->R):R :=
 match o with
 |none=>k d
 |some (aA (.int _ n))=>gd (decide (0<=n)) (k n.toNat)
 |some _=>aF
def yP(o:Option (Option V))(b:Bool)(k:R):R :=
 match o with
 |none=>k
 |some _=>gd b k
def sU(mem:List O)(x:V)(k:List V->R):R :=
 match x with
 |.win id off len =>
  match mem[id]? with
  |some (.row _ els _)=>gd (decide (off+len<=els.length)) (k ((els.drop off).take len))
  |_=>aF
 |x=>cg (dA mem x) k
def DK(mem:List O)(x:V)(k:List V->R):R :=
 match x with
 |.str s=>k (fj s)
 |x=>sU mem x k
def vC{α β:Type}(f:α->(β->R)->R):List α->(List β->R)->R
 | [],k=>k []
 |x::xs,k=>f x λy=>vC f xs λys=>k (y::ys)
def yQ(mem:List O)(v:V)(k:V->R):R :=
 match v with
 |.win id off len=>sU mem (.win id off len) λl=>k (.sl l)
 |v=>cg (ge mem v) k
def yR(mem:List O)(v:V)(k:V->R):R :=
 match v with
 |.agg cs=>vC (yQ mem) cs λds=>k (.agg ds)
 |.ptr id i off=>cg (f0 mem (.ptr id i off)) λr =>
   match r.1 with
   |.agg cs=>vC (yQ mem) cs λds=>k (.ref (.agg ds) r.2)
   |x=>yQ mem x λy=>k (.ref y r.2)
 |v=>yQ mem v k
def LX(mem:List O)(v:V)(k:V->R):R :=
 match v with
 |.fn f caps=>vC (yR mem) caps λds=>k (.fn f ds)
 |v=>yR mem v k
open Classical in
def xD (a b:List O) (q:R):R:=if a=b then q else aF
def abY{a b:List O}{q:R}{r:d6}(h:xD a b q=aA r):a=b/\q=aA r:=by
 unfold xD at h;grind
def abX(a:List O)(q:R):xD a a q=q:=by unfold xD;grind
def cd (a:List O) (q:R):R:=xD a a q
def bN(a:List O)(q:R):cd a q=q:=abX a q
def roK (ro:Bool) (m mem:List O) (q:R):R:=cond ro (xD (m.take mem.length) mem q) q
def C6 (kc:KC) (dr:Bool) (f:cf) (ty:aP) (args:List V) (mem:List O) (k:V->List O->R):R :=
 gd (l9 kc.cfg.P f)<|cond (kc.cfg.pure f)
  (vC (LX mem) args λas0=>J7 kc f as0 λr=>Kh kc.cfg.P (kc.frs f) ty r λr =>
   cond (vw r)
    (cond (dr && !(args.flatMap (kU mem)).isEmpty) aF (k (oP (kc.cfg.adopt f && !dr) (freezeAll (args.flatMap (kU mem)) mem) r).1 (oP (kc.cfg.adopt f && !dr) (freezeAll (args.flatMap (kU mem)) mem) r).2))
    (k (oP (kc.cfg.adopt f && !dr) mem r).1 (oP (kc.cfg.adopt f && !dr) mem r).2))
  (cond dr aF (match kc.cfg.can f with
   |none=>kc.ik f args mem k
   |some rd=>kc.ck rd f (iS args mem).env (iS args mem).mem λv m=>roK (kc.cfg.ro f) (nr rd.row args mem v m).2 mem (k (nr rd.row args mem v m).1 (nr rd.row args mem v m).2)))
def abM(kc:KC)(f:cf)(args:List V)(mem:List O)(k:V->List O->R):R :=
 cond (IE (args.flatMap lH) mem) (kc.ik f args (keepOnly (args.flatMap lH) mem) λv m=>gd (Nat.ble mem.length m.length) (k v (tR (args.flatMap lH) mem m))) aF
def GI(P:bv)(t:aP)(s x:V)(mem:List O)(k:V->List O->R):R :=
 cg (gh P t) λe=>DK mem x λxs=>gd (cC ((aK P) e) xs)<|gd (qd P e) <|
  match s with
  |.nilS=>gd (decide (xs.length<=16777216)) (k (.own mem.length) (mem++[.row e xs 0]))
  |.own id =>
   match mem[id]? with
   |some (.row e' els fz)=>gd (e'==e)<|gd (decide (els.length+xs.length<=16777216)) (k (.own (mem.set id .dead).length) (mem.set id .dead++[.row e (els++xs) fz]))
   |_=>aF
  |.tail id off =>
   match mem[id]? with
   |some (.row e' els fz)=>gd (e'==e)<|gd (m4 fz 0 ||jq off fz)<|gd (decide ((els.drop off).length+xs.length<=16777216)) (k (.tail mem.length 0) (mem.set id .dead++[.row e (els.drop off++xs) (cond (m4 fz 0) 0 (fz - off))]))
   |_=>aF
  |.win id off len =>
   match mem[id]? with
   |some (.row e' els fz)=>gd (e'==e)<|gd (m4 fz 0)<|gd (decide (off+len<=els.length))<|gd (decide (len+xs.length<=16777216)) (k (.tail mem.length 0) (mem.set id .dead++[.row e ((els.drop off).take len++xs) 0]))
   |_=>aF
  |.lit t' l=>gd (t'==e)<|gd (decide (l.length+xs.length<=16777216))<|gd (cC ((aK P) e) l) (k (.sl (l++xs)) mem)
  |_=>aF
def GH(P:bv)(t t':aP)(s x:V)(mem:List O)(k:V->List O->R):R :=
 match (bO P) t',s,x with
 |some (.int _),.nilS,.int aB n=>cg (gh P t) λe=>gd (decide (0 < n))<|gd (decide (n.toNat<=16777216))<|gd (qd P e)<|cg (jm P e) λz=>cg (j7 z) λz=>k (.own mem.length) (mem++[.row e (cA n.toNat z) 0])
 |_,_,_=>aF
def G9(P:bv)(t:aP)(s x:V)(mem:List O)(k:V->List O->R):R :=
 cg (gh P t) λe=>DK mem x λxs=>gd (cC ((aK P) e) xs)<|cg (wx mem s) λr =>
  match mem[r.1]? with
  |some (.row e' els fz)=>gd (e'==e)<|gd (decide (fz<=r.2.1))<|gd (decide (r.2.1+r.2.2<=els.length)) <|
    k (.int aB (min xs.length r.2.2:Nat)) (mem.set r.1 (.row e' (els.take r.2.1++xs.take (min xs.length r.2.2)++els.drop (r.2.1+min xs.length r.2.2)) fz))
  |_=>aF
def G2(P:bv)(t:aP)(s:V)(mem:List O)(k:V->List O->R):R :=
 cg (gh P t) λe=>cg (wx mem s) λr =>
  match mem[r.1]? with
  |some (.row e' els fz)=>gd (e'==e)<|gd (qd P e)<|gd (decide (fz<=r.2.1))<|gd (decide (r.2.1+r.2.2<=els.length))<|cg (jm P e) λz=>cg (j7 z) λz =>
    k (.tup []) (mem.set r.1 (.row e' (els.take r.2.1++cA r.2.2 z++els.drop (r.2.1+r.2.2)) fz))
  |_=>aF
def Jn(P:bv)(t:aP)(a b:V)(mem:List O)(k:V->List O->R):R :=
 cg (gh P t) λe =>
  match a,b with
  |.int _ n,.int _ c=>gd (decide (0<=n))<|gd (decide (n<=c))<|gd (decide (c.toNat<=16777216))<|gd (qd P e)<|cg (jm P e) λz=>cg (j7 z) λz =>
    k (.own mem.length) (mem++[.row e (cA n.toNat z) 0])
  |_,_=>aF
def G7(P:bv)(mem:List O)(s d:aP)(x:V)(k:V->R):R :=
 match (bO P) s,(bO P) d,x with
 |some (.slice e),aA .string,x=>sU mem x λxs=>gd (match (bO P) e with|some (.int bK)=>aD|_=>aE)<|cg (iv xs) λns=>k (.str (ns.map λn=>UInt8.ofNat n.toNat))
 |_,_,_=>cg (po P mem s d x) k
def I5(P:bv)(mem:List O)(t:aP)(x i:V)(k:V->List O->R):R :=
 match (bO P) t,i with
 |some (.slice e),.int _ n =>
  gd (decide (0<=n)) <|
  match x with
  |.sl l=>bk l n.toNat λy=>rP P e y λy=>gd (y.cells.length==(aK P) e) (k (.ref y 0) mem)
  |.own id =>
   match mem[id]? with
   |some (.row e' els _)=>gd (e'==e)<|gd (decide (n.toNat < els.length)) (k (.ptr id n.toNat 0) mem)
   |_=>aF
  |.win id off len =>
   match mem[id]? with
   |some (.row e' els _)=>gd (e'==e)<|gd (decide (n.toNat < len))<|gd (decide (off+len<=els.length)) (k (.ptr id (off+n.toNat) 0) mem)
   |_=>aF
  |.tail id off =>
   match mem[id]? with
   |some (.row e' els _)=>gd (e'==e)<|gd (decide (n.toNat < (els.drop off).length)) (k (.ptr id (off+n.toNat) 0) mem)
   |_=>aF
  |_=>aF
 |some (.array len e),.int _ n =>
  gd (decide (0<=n))<|gd (decide (n.toNat < len))<|gd (decide (0 < (aK P) e)) <|
  match x with
  |.ref y off=>k (.ref y (off+n.toNat * (aK P) e)) mem
  |.ptr id q off=>k (.ptr id q (off+n.toNat * (aK P) e)) mem
  |_=>aF
 |_,_=>cg (j8 P mem t x i) λv=>k v mem
def SC(P:bv)(e t:aP)(x:V)(off:Nat)(k:V->R):R :=
 rP P e x λx=>cond (((x.cells.drop off).take ((aK P) t)).length==(aK P) t) (cg (pP P t ((x.cells.drop off).take ((aK P) t))) k) aF
def Iz:Option TypeDesc->Bool
 |some .bool|some (.int _)|some .string=>aD
 |_=>aE
def Jj(P:bv)(mem:List O)(t:aP)(p:V)(k:V->R):R :=
 match p with
 |.ptr id i off =>
  match mem[id]? with
  |some (.row e els _)=>bk els i λx=>SC P e t x off k
  |some (.box _ (.agg cs) _)=>cond ((aK P) t==1 && Iz ((bO P) t)) (gd (m4 i 0)<|bk cs off λc=>tq P t c k) (cg (gD P mem t p) k)
  |_=>cg (gD P mem t p) k
 |.ref (.agg cs) off=>cond ((aK P) t==1 && Iz ((bO P) t)) (bk cs off λc=>tq P t c k) (cg (gD P mem t p) k)
 |.hp e i off=>cg (j6 e 0 mem) λr=>bk r.2 i λx=>SC P e t x off k
 |_=>cg (gD P mem t p) k
def BL(P:bv)(mem:List O)(t:aP)(p v:V)(k:List O->R):R :=
 match p with
 |.ptr id i off =>
  match mem[id]? with
  |some (.row e els fz) =>
   gd (decide (v.cells.length=(aK P) t/\0 < (aK P) t/\v.cells.all fL))<|gd (decide (fz<=i))<|bk els i λx=>rP P e x λx=>cg (cD kV v.cells) λvs=>cg (putCells x off vs) λy=>k (mem.set id (.row e (els.set i y) fz))
  |_=>cg (nN P mem t p v) k
 |.hp e i off =>
  gd (decide (v.cells.length=(aK P) t/\0 < (aK P) t/\v.cells.all fL))<|cg (j6 e 0 mem) λr=>bk r.2 i λx=>rP P e x λx=>cg (cD kV v.cells) λvs=>cg (putCells x off vs) λy=>k (mem.set r.1 (.arena e (r.2.set i y)))
 |_=>cg (nN P mem t p v) k
def L5(P:bv)(mem:List O)(t:aP)(p v:V)(k:List O->R):R :=
 match p with
 |.hp _ _ _ =>
  match iG mem v with
  | []=>BL P mem t p v k
  |i::is=>yR mem v λv'=>BL P (freezeAll (i::is) mem) t p v' k
 |_=>BL P mem t p v k
def LS(P:bv)(mem:List O)(t:aP)(x:V)(lo hi mx:Option (Option V))(k:V->R):R :=
 match (bO P) t,x,mx with
 |some .string,.str s,aF=>xk lo 0 λl=>xk hi s.length λh=>yP lo (decide (l<=h))<|yP hi (decide (h<=s.length)) (k (.str ((s.take h).drop l)))
 |some (.slice e),x,aF =>
  sU mem x λxs=>gd (decide (0 < (aK P) e))<|gd (cC ((aK P) e) xs)<|xk lo 0 λl=>xk hi xs.length λh=>yP lo (decide (l<=h))<|yP hi (decide (h<=xs.length)) <|
   match x with
   |.nilS=>k .nilS
   |.sl xs=>k (.sl ((xs.take h).drop l))
   |.own id =>
    match mem[id]? with
    |some (.row e' _ _)=>cond (e'==e) (k (if hi.isNone then .tail id l else .win id l (h - l))) aF
    |_=>aF
   |.tail id off =>
    match mem[id]? with
    |some (.row e' _ _)=>cond (e'==e) (k (if hi.isNone then .tail id (off+l) else .win id (off+l) (h - l))) aF
    |_=>aF
   |.win id off _ =>
    match mem[id]? with
    |some (.row e' _ _)=>cond (e'==e) (k (.win id (off+l) (h - l))) aF
    |_=>aF
   |_=>aF
 |_,_,_=>cg (lL P mem t x lo hi mx) k
def I6(P:bv)(t:aP)(x i:V)(k:V->R):R :=
 match (bO P) t,x,i with
 |some .string,.str s,.int _ n=>gd (decide (0<=n))<|bk s n.toNat λb=>k (.int bK (b.toNat:Int))
 |some (.array len e),.agg cs,.int _ n=>gd (decide (0<=n))<|gd (decide (n.toNat < len)) <|
   cond ((aK P) e==1 && aeO ((bO P) e)) (bk cs n.toNat λc=>tq P e c k) (cg (rp P e cs (n.toNat * (aK P) e)) k)
 |_,_,_=>cg (qR P t x i) k
def GQ(P:bv)(op:BinOp)(t:aP)(x y:V)(k:V->R):R :=
 match op,x,y with
 |.quo,.int j a,.int j' b=>gd (j==j')<|gd (!decide (b=0)) (k (.int j (j.wrap (a.tdiv b))))
 |.rem,.int j a,.int j' b=>gd (j==j')<|gd (!decide (b=0)) (k (.int j (a.tmod b)))
 |.shl,.int j a,.int _ b=>gd (!decide (b < 0)) (k (.int j (j.wrap (a * 2 ^ (min b.toNat j.bits)))))
 |.shr,.int j a,.int _ b=>gd (!decide (b < 0)) (k (.int j (a.fdiv (2 ^ (min b.toNat j.bits)))))
 |.add,.str a,.str b=>gd (decide (a.length+b.length<=4611686018427387904)) (k (.str (a++b)))
 |_,_,_=>cg (nX P op t x y) k
def xS(mem:List O)(m:V)(k:List (V × V)->R):R :=
 match m with
 |.mp id =>
  match mem[id]? with
  |some (.map es)=>k es
  |_=>aF
 |.hm t i=>cg (nB t 0 mem) λr=>bk r.2 i k
 |_=>aF
def I9(P:bv)(t:aP):Bool :=
 match (bO P) t with
 |some (.interface _)|none=>aD
 |_=>aE
def I3(t:aP)(v:V)(ka:V->R)(kb:R):R :=
 match v with
 |.nilI=>kb
 |.ifc t' x=>cond (t'==t) (ka x) kb
 |_=>aF
def iI (kc:KC) (dr:Bool) (o:bz) (env:List V) (mem:List O) (k:V->List O->R):R :=
 match o.op with
 |.pick c a b=>cg (bB env c) λc=>cg (bB env a) λa=>cg (bB env b) λb=>kB c λt=>cond t (k a mem) (k b mem)
 |.load t a=>cg (bB env a) λp=>cond (o.bx && cond o.sq (nG p) (!mE mem p)) aF (Jj kc.cfg.P mem t p λv=>k v mem)
 |.nilCheck x=>cg (bB env x) λv=>cond (LZ v) (k v mem) aF
 |.store t a x=>cg (bB env a) λp=>cg (bB env x) λv=>cond (o.bx && nG p) aF<|L5 kc.cfg.P mem t p v λm=>k (.tup []) m
 |.binOp op t x y _=>cg (bB env x) λa=>cg (bB env y) λb=>GQ kc.cfg.P op t a b λv=>k v mem
 |.slice t x lo hi mx=>cg (bB env x) λa=>cond (o.bx && !o.sq && !pQ a) aF<|LS kc.cfg.P mem t a (lo.map (bB env)) (hi.map (bB env)) (mx.map (bB env)) λv=>k v mem
 |.indexAddr t x i=>cg (bB env x) λa=>cg (bB env i) λb=>cond (o.bx && !o.sq && !pQ a) aF<|I5 kc.cfg.P mem t a b k
 |.makeSlice t n c=>cg (bB env n) λa=>cg (bB env c) λb=>Jn kc.cfg.P t a b mem k
 |.typeAssert x _ t ok=>cg (bB env x) λv=>cond (I9 kc.cfg.P t) aF<|I3 t v (λx=>rP kc.cfg.P t x λx=>k (cond ok (.tup [x,.bool aD]) x) mem) (cond ok (cg (wG kc.cfg.P t) λz=>k z mem) aF)
 |.convert s d x=>cg (bB env x) λa=>G7 kc.cfg.P (cond dr [] mem) s d a λv=>k v mem
 |.index t x i=>cg (bB env x) λa=>cg (bB env i) λb=>I6 kc.cfg.P t a b λv=>k v mem
 |.lookup t m key ok=>cg (bB env m) λm=>cg (bB env key) λkey=>xS mem m λes =>
   gd (ou kc.cfg.P t key)<|cg (xT kc.cfg.P t) λe=>cg (jm kc.cfg.P e) λz =>
    mP es key (k (if ok then .tup [z,.bool aE] else z) mem) λv=>tq kc.cfg.P e v λv=>k (if ok then .tup [v,.bool aD] else v) mem
 |.mapUpdate t m key x=>cg (bB env m) λm=>cg (bB env key) λkey=>cg (bB env x) λx=>xS mem m λes =>
   gd (ou kc.cfg.P t key)<|gd x.inMap<|cg (kg es key x) λes=>k (.tup []) (tA mem m es)
 |.call c =>
  match c.callee with
  |.builtin .len=>cg (cD (bB env) c.args.toList) λargs=>cond (o.bx && !cond o.sq (tz .len args) (pd .len args)) aF <|
    match c.argTypes.toList,args with
    |t::_,.win id off len::_=>cond (match kc.cfg.P.underlying t with|some (.slice _)=>aD|_=>aE) (sU mem (.win id off len) λl=>k (.int aB (l.length:Int)) mem) aF
    |t::_,.hm t' i::_=>cond (match kc.cfg.P.underlying t with|some (.map _ _)=>aD|_=>aE) (xS mem (.hm t' i) λes=>k (.int aB (es.length:Int)) mem) aF
    |_,_=>cg (da kc.cfg (jy kc.cfg) dr o env mem) λr=>k r.1 r.2
  |.builtin .append=>cg (cD (bB env) c.args.toList) λargs=>cond (o.bx && !cond o.sq (tz .append args) (pd .append args)) aF <|
    match c.argTypes.toList,args with
    | [t,t'],[s,x]=>cond (nc kc.cfg.P t t' x) (GI kc.cfg.P t s x mem k) (GH kc.cfg.P t t' s x mem k)
    |_,_=>aF
  |.builtin .copy=>cg (cD (bB env) c.args.toList) λargs=>cond (o.bx && !cond o.sq (tz .copy args) (pd .copy args)) aF <|
    match c.argTypes.toList,args with
    | [t,t'],[s,x]=>gd (nc kc.cfg.P t t' x) (G9 kc.cfg.P t s x mem k)
    |_,_=>aF
  |.builtin .clear=>cg (cD (bB env) c.args.toList) λargs=>cond (o.bx && !cond o.sq (tz .clear args) (pd .clear args)) aF <|
    match c.argTypes.toList,args with
    | [t],[s]=>G2 kc.cfg.P t s mem k
    |_,_=>aF
  |.builtin .delete=>cg (cD (bB env) c.args.toList) λargs=>cond (o.bx && !cond o.sq (tz .delete args) (pd .delete args)) aF <|
    match c.argTypes.toList,args with
    |t::_,[m,key]=>xS mem m λes=>gd (ou kc.cfg.P t key)<|cg (nI es key) λes=>k (.tup []) (tA mem m es)
    |_,_=>aF
  |.value f=>cg (bB env f) λfv=>cg (cD (bB env) c.args.toList) λargs =>
    match fv with
    |.fn f caps=>cond (Nat.ble iU f) (cond (dr ||o.bx ||o.sq) aF (C6 kc dr (f - iU) o.type (caps++args) mem k)) (cond (o.bx && !o.sq && !kc.cfg.pure f) (cond (Ax kc.cfg o && l9 kc.cfg.P f) (abM kc f (args++caps) mem k) aF) (C6 kc dr f o.type (args++caps) mem k))
    |_=>aF
  |_=>cg (da kc.cfg (jy kc.cfg) dr o env mem) λr=>k r.1 r.2
 |_=>cg (da kc.cfg (jy kc.cfg) dr o env mem) λr=>k r.1 r.2
def vU (kc:KC) (dr:Bool) (o:bz) (env:List V) (mem:List O) (k:V->List O->R):R :=
 cond o.rx (iI kc aD o (tB env) [] λv m=>match m with | []=>k v mem|_=>cg (iy m v) λv=>k v mem) (iI kc dr o env mem k)
def rj (kc:KC) (dr:Bool):List bz->List V->List O->(List V->List O->R)->R
 | [],env,mem,k=>k env mem
 |o::rest,env,mem,k =>
  match o.guard with
  |none=>vU kc (fc dr o) o env mem λv m=>rj kc dr rest (fH env o.dst v) m k
  |some (t,want) =>
   match env[t]? with
   |some (.bool b)=>cond b
     (cond want (vU kc (fc dr o) o (env.set t (.bool aD)) mem λv m=>rj kc dr rest (fH (env.set t (.bool aD)) o.dst v) m k) (rj kc dr rest (fH (env.set t (.bool aD)) o.dst (.tup [])) mem k))
     (cond want (rj kc dr rest (fH (env.set t (.bool aE)) o.dst (.tup [])) mem k) (vU kc (fc dr o) o (env.set t (.bool aE)) mem λv m=>rj kc dr rest (fH (env.set t (.bool aE)) o.dst v) m k))
   |some (.tup [])=>rj kc dr rest (fH env o.dst (.tup [])) mem k
   |_=>aF
def rk (kc:KC):List bz->List V->List O->List Nat->(List V->List O->List Nat->R)->R
 | [],env,mem,fs,k=>k env mem fs
 |o::rest,env,mem,fs,k =>
  match o.guard with
  |none=>vU kc (fc aD o) o env mem λv m=>rk kc rest (fH env o.dst v) m (cond (im o && !nv kc.cfg o) (nu o env mem++fs) fs) k
  |some (t,want) =>
   match env[t]? with
   |some (.bool b)=>cond b
     (cond want (vU kc (fc aD o) o (env.set t (.bool aD)) mem λv m=>rk kc rest (fH (env.set t (.bool aD)) o.dst v) m (cond (im o && !nv kc.cfg o) (nu o (env.set t (.bool aD)) mem++fs) fs) k) (rk kc rest (fH (env.set t (.bool aD)) o.dst (.tup [])) mem fs k))
     (cond want (rk kc rest (fH (env.set t (.bool aE)) o.dst (.tup [])) mem fs k) (vU kc (fc aD o) o (env.set t (.bool aE)) mem λv m=>rk kc rest (fH (env.set t (.bool aE)) o.dst v) m (cond (im o && !nv kc.cfg o) (nu o (env.set t (.bool aE)) mem++fs) fs) k))
   |some (.tup [])=>rk kc rest (fH env o.dst (.tup [])) mem fs k
   |_=>aF
def JH (kc:KC) (dr:Bool) (l:List bz) (env:List V) (mem:List O) (k:List V->List O->R):R :=
 cond (dr && l.any im) (rk kc l env mem [] λenv mem fs=>cond (Dc kc.cfg l env fs) (k env mem) aF) (rj kc dr l env mem k)
def nl:C->Nat
 |.seq a b=>nl a+nl b
 |.cond _ a b=>nl a+nl b
 |.block _ c=>nl c
 |.loop _ c=>nl c+1
 |.uncons _ _ _ a b=>nl a+nl b
 |.cseq _ a b=>nl a+nl b+1
 |_=>0
def LM(env:List V)(o:fD)(b:Bool):List V :=
 match o with
 |.tmp t=>env.set t (.bool b)
 |_=>env
def iZ (kc:KC) (n0:Nat):C->Nat->S->(S->R)->(Nat->S->R)->(S->R)->R
 |.skip,_,s,kn,_,_=>kn s
 |.ops dr l,_,s,kn,_,_=>JH kc dr l s.env s.mem λenv mem=>cond (!dr ||s6 kc.cfg l env) (kn ⟨env,mem⟩) aF
 |.seq a b,i,s,kn,ke,kr=>iZ kc n0 a i s (λs=>iZ kc n0 b (i+nl a) s kn ke kr) ke kr
 |.cseq f a _,i,s,_,ke,kr=>iZ kc n0 a i s (λs=>aA (.head (i+nl a) (dK n0 f s))) ke kr
 |.cond c a b,i,s,kn,ke,kr=>cg (bB s.env c) λv=>kB v λt=>cond t (iZ kc n0 a i ⟨LM s.env c aD,s.mem⟩ kn ke kr) (iZ kc n0 b (i+nl a) ⟨LM s.env c aE,s.mem⟩ kn ke kr)
 |.block id c,i,s,kn,ke,kr=>iZ kc n0 c i s kn (λj s=>cond (j==id) (kn s) (ke j s)) kr
 |.loop f _,i,s,_,_,_=>aA (.head i (dK n0 f s))
 |.exit j,_,s,_,ke,_=>ke j s
 |.ret,_,s,_,_,kr=>kr s
 |.start g,_,s,kn,_,_ =>
  match s.env[g]? with
  |some (.fn f caps)=>cond (Nat.ble iU f) aF<|cg (kc.cfg.seqp f) λth=>cond (kc.cfg.sqj f) (cg (cD (ww aD s.mem) caps) λas0=>cg (th.2 as0) λl=>kn ⟨s.env.set g (.rest th.1 (l.map .tup)),freezeAll (caps.flatMap (pH aD s.mem)) s.mem⟩)
    (vC (yR s.mem) caps λas0=>cg (th.2 as0) λl=>kn ⟨s.env.set g (.rest th.1 (l.map .tup)),freezeAll (caps.flatMap (iG s.mem)) s.mem⟩)
  |_=>aF
 |.uncons g ps ws a b,i,s,kn,ke,kr =>
  gd (m4 (nl a) 0 && m4 (nl b) 0) <|
  match s.env[g]? with
  |some (.rest ts l)=>mh l (iZ kc n0 b i s kn ke kr) λx l=>kT x λvs=>F6 kc.cfg.P ts vs λvs=>gd (vs.length==ps.length) <|
    iZ kc n0 a i ⟨wq (s.env.set g .junk) ps vs,s.mem⟩ (λs=>kn ⟨(gL s.env ws).set g (.rest ts l),s.mem⟩) (λe s=>ke e ⟨(gL s.env ws).set g (.rest ts l),s.mem⟩) (λs=>kr ⟨(gL s.env ws).set g (.rest ts l),s.mem⟩)
  |_=>aF
def kH (kc:KC) (n0:Nat):C->Nat->Nat->S->(S->R)->(Nat->S->R)->(S->R)->R
 |.seq a b,i,j,s,kn,ke,kr=>cond (jq j (i+nl a)) (kH kc n0 a i j s (λs=>iZ kc n0 b (i+nl a) s kn ke kr) ke kr) (kH kc n0 b (i+nl a) j s kn ke kr)
 |.cseq f a b,i,j,s,kn,ke,kr=>cond (jq j (i+nl a)) (kH kc n0 a i j s (λs=>aA (.head (i+nl a) (dK n0 f s))) ke kr)
   (cond (j==i+nl a) (iZ kc n0 b (i+nl a+1) s kn ke kr) (kH kc n0 b (i+nl a+1) j s kn ke kr))
 |.cond _ a b,i,j,s,kn,ke,kr=>cond (jq j (i+nl a)) (kH kc n0 a i j s kn ke kr) (kH kc n0 b (i+nl a) j s kn ke kr)
 |.block id c,i,j,s,kn,ke,kr=>kH kc n0 c i j s kn (λj s=>cond (j==id) (kn s) (ke j s)) kr
 |.loop f c,i,j,s,_,ke,kr=>cond (j==i)
   (iZ kc n0 c (i+1) s (λs=>aA (.head i (dK n0 f s))) (λe s=>ke e (dK n0 f s)) (λs=>kr (dK n0 f s)))
   (kH kc n0 c (i+1) j s (λs=>aA (.head i (dK n0 f s))) (λe s=>ke e (dK n0 f s)) (λs=>kr (dK n0 f s)))
 |_,_,_,_,_,_,_=>aF
def IM(P:bv)(mem:List O)(t:aP)(v:V)(k:V->R):R :=
 match v with
 |.own id =>
  match mem[id]? with
  |some (.row e els fz)=>cond (IA P e) (cond (fz==0) (gd (els.all λx=>x.cells.all js) (k (.fr e els))) (k (.sl els))) (k (.sl els))
  |_=>aF
 |v=>cg (s9 P mem t v) k
def IN(P:bv)(mem:List O)(ts:List aP)(vs:List V)(k:V->R):R :=
 match ts,vs with
 | [t],[v]=>IM P mem t v k
 |ts,vs=>cg (oh P mem ts vs) k
def Av(kc:KC)(imp:Bool)(fa:FA)(s:S):R :=
 cg (cD (oH kc.cfg.P s) fa.results) λvs=>cond imp (aA (.doneM (rO vs) s.mem)) (IN kc.cfg.P s.mem fa.rtypes vs λv=>aA (.done v))
def nA (kc:KC) (imp:Bool) (fa:FA) (args:List V) (mem:List O):R :=
 gd (args.length==fa.np && Nat.ble fa.np fa.nt) (iZ kc mem.length fa.body 0 ⟨args++cA (fa.nt - fa.np) (.tup []),mem⟩ (Av kc imp fa) (λ_ _=>aF) (Av kc imp fa))
def Qq (kc:KC) (imp:Bool) (n0:Nat) (fa:FA) (j:Nat) (s:S):R :=
 kH kc n0 fa.body 0 j s (Av kc imp fa) (λ_ _=>aF) (Av kc imp fa)
end Go.Lite
