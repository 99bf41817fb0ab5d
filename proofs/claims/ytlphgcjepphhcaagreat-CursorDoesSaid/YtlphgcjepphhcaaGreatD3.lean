/-
  Texts that the last one stands on.
-/
import Derived.Test.YtlphgcjepphhcaaGreatD2
noncomputable section
open Go renaming Program->bu,World->be,Oper->dF,Operand->fi,Value->aR,setRow_other->oP,TypeId->aO,maxLen->f8,FuncId->bL,findLabel->ly
open Option renaming some->aA,getD_some->uC,none->aF,bind_some->bk,isNone_iff_eq_none->FT,map_some->du
open Bool renaming true->aC,and_eq_true->co,not_true->bK,false_or->gq,false->aD,false_and->iZ,false_eq_true->dw,true_and->dL,and_false->gP,not_eq_true'->kE,or_eq_false_iff->qu,or_eq_true->nS,or_false->j9,true_or->lh,and_self->qt,not_false->gb
open List renaming getElem?_append_left->eK,getElem?_append_right->eO,getElem?_cons_zero->Lm,getD_eq_getElem?_getD->Br,mem_flatMap->jN,mem_cons->dE,getElem?_eq_none->rY,all_eq_true->eJ,mem_range->Bw,mem_zipIdx_iff_getElem?->UB,getElem?_eq_some_iff->bX,getElem?_set->FL,getElem?_eq_getElem->cj,mem_filter->mW,getElem_of_mem->mi,mem_of_getElem?->dx,mem_append->cz,mem_filterMap->wA,flatMap_cons->nZ,mem_singleton->jO,ext_getElem?->uw,eq_nil_iff_forall_not_mem->Uz,getElem?_set_self->gR,getElem?_set_ne->ia,length_set->gS,any_eq_false->yZ,getElem?_map->fW,nodup_append->uA,drop_zero->rW,drop_eq_getElem_cons->qy,append_nil->fh,append_eq_nil_iff->ww,map_cons->d8,replicate->dh,length_replicate->Lp,nodup_cons->o5
open Nat renaming le_refl->c7,sub_self->qC,add_zero->fL,lt_or_ge->mY,add_assoc->jP,add_comm->sg,le_trans->sh,lt_of_lt_of_le->si,lt_trichotomy->y8,eq_zero_or_pos->BF,blt_eq->o7,zero_le->jQ,zero_add->fY,blt->jt,le_max_left->o8,le_max_right->o9,beq->ll
open Array renaming getElem?_eq_some_iff->hJ,getElem?_setIfInBounds_ne->K8,getElem?_eq_getElem->gH,getD_eq_getD_getElem?->jr,getElem?_setIfInBounds->Fx,replicate->FB,mapM_eq_mapM_toList->Uv
open Go.Lite.V renaming one->fq,cells->gT,plain->pj,flat1->jw,tup->aT
namespace Go.Lite
open Go Go.MapKept
section
variable {P:bu}{Z Z':Zs}{w w':be}{j j':J}{mem mem':List O}
theorem LO:∀(l:List dF) (acc:List (List Nat)),(kH l acc).length=acc.length+l.length/\(∀k,k < acc.length->(kH l acc)[k]? = acc[k]?) /\
  ∀(m:Nat) (o:dF),l[m]? = aA o->∀i,i∈(kH l acc).getD (acc.length+m) []->∃e∈o.after,Region.binds .any e=aC/\(i=e.on∨(e.on < acc.length+m/\i∈(kH l acc).getD e.on [])):=by
 intro l
 induction l with
 |nil=>intro acc;exact⟨rfl,fun _ _=>rfl,fun m o h=>by simp at h⟩
 |cons o l ih =>
  intro acc;simp only[kH];obtain⟨h1,h2,h3⟩:=ih (acc++[(o.after.toList.flatMap fun e=>if Region.binds .any e then e.on::acc.getD e.on [] else []).eraseDups]);refine⟨by rw[h1];simp;omega,fun k hk=>by rw[h2 k (by simp;omega),eK hk],fun m q hq i hi=>?_⟩;cases m with
  |zero =>
   simp at hq;subst hq;have e0:=h2 acc.length (by simp);rw[eO (c7 _)]at e0;simp only[qC,Lm]at e0;rw[fL,Br,e0]at hi;simp only[uC,List.mem_eraseDups,jN]at hi;obtain⟨e,he,hi⟩:=hi;split at hi
   ·rename_i hb;refine⟨e,by simpa using he,hb,?_⟩;simp only[dE]at hi;rcases hi with rfl|hi
    ·exact .inl rfl
    ·right
     have bd:e.on < acc.length:=by
      rcases mY e.on acc.length with h|h
      ·exact h
      ·rw[Br,rY h]at hi;simp at hi
     refine⟨by omega,?_⟩;rw[Br,h2 _ (by simp;omega),eK bd,<-Br];exact hi
   ·simp at hi
  |succ m =>
   have:=h3 m q (by simpa using hq) i (by simpa[jP,sg 1 m]using hi);simpa[jP,sg 1 m]using this
def wq(ops:Array dF)(D:Nat->Bool):Prop:=∀k o,ops[k]? = aA o->D k=aC->∀e∈o.after,Region.binds .any e=aC->D e.on=aC
theorem zI{ops:Array dF}{D:Nat->Bool}(hc:wq ops D):∀(k:Nat) (o:dF),ops[k]? = aA o->(∀e∈o.after,Region.binds .any e=aC->D e.on=aC)->∀i,i∈(kH ops.toList []).getD k []->D i=true:=by
 intro k
 induction k using Nat.strongRecOn with
 |_ k ih =>
  intro o ho hall i hi;have:=(LO ops.toList []).2.2 k o (by simpa using ho) i (by simpa using hi);obtain⟨e,he,hb,h⟩:=this;rcases h with rfl|⟨bd,h⟩
  ·exact hall e he hb
  ·simp at bd;have hD:=hall e he hb;cases hoe:ops[e.on]? with
   |none =>
    have hlen:=(LO ops.toList []).1;have:ops.size<=e.on:=by simpa using hoe
    rw[Br,rY (by rw[hlen];simpa using this)]at h;simp at h
   |some oe=>exact ih e.on bd oe hoe (hc e.on oe hoe hD) i h
theorem Ww{ops:Array dF}{l:List bj}(h:zP ops l=aC):(∀k o,ops[k]? = aA o->∀e∈o.after,Region.binds .any e=aC->e.on < k) /\
  ∀i k oi ok,i < k->l[i]? = aA oi->l[k]? = aA ok->jT oi ok=aC->i∈(kH ops.toList []).getD k []:=by
 simp only[zP,co,eJ,Bw]at h;obtain⟨⟨_,h1⟩,h2⟩:=h;refine⟨fun k o ho e he hb=>?_,fun i k oi ok hik hi hk hc=>?_⟩
 ·have:=h1 (o,k) (by rw[UB];simpa using ho) e (by simpa using he);simpa[hb]using this
 ·have hkl:k < l.length:=(bX.1 hk).1;have:=h2 k hkl i hik;simp only[hi,hk,hc,bK,gq]at this;simpa using this
def mG(l:List bj)(k:Nat):Option Nat:=(l[k]?).bind (·.dst)
def gO(l:List bj)(k:Nat):Bool:=match l[k]? with|some o=>dP o|none=>aD
def EL(e0:List V)(l:List bj)(vs:Nat->V)(D:Nat->Bool):Nat->List V
 |0=>e0
 |k+1=>if D k then fH (EL e0 l vs D k) (mG l k) (vs k) else EL e0 l vs D k
def ML(l:List bj)(st:Nat->S)(D:Nat->Bool):Nat->List O
 |0=>(st 0).mem
 |k+1=>if D k && gO l k then (st (k+1)).mem else ML l st D k
theorem Tv(e:List V)(d:Option Nat)(v:V):(fH e d v).length=e.length:=by cases d<;>simp[fH]
theorem wu(e0:List V)(l:List bj)(vs:Nat->V)(D:Nat->Bool)(n:Nat):(EL e0 l vs D n).length=e0.length:=by
 induction n with
 |zero=>rfl
 |succ n ih=>simp only[EL];split<;>simp[Tv,ih]
theorem yB{e:List V}{d:Option Nat}{v:V}{t:Nat}:(fH e d v)[t]? = if d=aA t then (if t < e.length then aA v else aF) else e[t]?:=by
 cases d with
 |none=>simp[fH]
 |some d =>
  simp only[fH,Option.some.injEq];rw[FL]
  by_cases h:d=t
  ·subst h;rfl
  ·rw[aY h,aY h]
theorem rS{e0:List V}{l:List bj}{vs:Nat->V}{D D':Nat->Bool}{t:Nat}:∀n,(∀k,k < n->mG l k=aA t->D k=D' k)->(EL e0 l vs D n)[t]? = (EL e0 l vs D' n)[t]?:=by
 intro n
 induction n with
 |zero=>intro _;rfl
 |succ n ih =>
  intro h;have ih':=ih fun k hk=>h k (by omega)
  have e:∀D,(EL e0 l vs D (n+1))[t]? = if D n=aC/\mG l n=aA t then (if t < e0.length then aA (vs n) else aF) else (EL e0 l vs D n)[t]?:=by
   intro D;simp only[EL]
   by_cases hD:D n=aC
   ·rw[aU hD,yB,wu]
    by_cases hd:mG l n=aA t
    ·have h2:D n=aC/\mG l n=aA t:=⟨hD,hd⟩
     rw[aU hd,aU h2]
    ·rw[aY hd,aY fun h=>hd h.2]
   ·rw[aY hD,aY fun h=>hD h.1]
  rw[e,e]
  by_cases hd:mG l n=aA t
  ·rw[h n (by omega) hd,ih']
  ·rw[aY fun h=>hd h.2,aY fun h=>hd h.2,ih']
theorem BD{l:List bj}{st:Nat->S}{D D':Nat->Bool}:∀n,(∀k,k < n->gO l k=aC->D k=D' k)->ML l st D n=ML l st D' n:=by
 intro n
 induction n with
 |zero=>intro _;rfl
 |succ n ih =>
  intro h;simp only[ML];rw[ih fun k hk=>h k (by omega)]
  by_cases hw:gO l n=aC
  ·rw[h n (by omega) hw]
  ·simp only[Bool.not_eq_true]at hw;simp[hw]
theorem Bo{e0:List V}{l:List bj}{vs:Nat->V}(m:Nat):∀n,m<=n->EL e0 l vs (fun k=>decide (k < m)) n=EL e0 l vs (fun _=>aC) m:=by
 intro n
 induction n with
 | zero=>intro h;have:m=0:=by omega
         subst this;rfl
 |succ n ih =>
  intro h
  by_cases hm:m=n+1
  ·subst hm
   have:∀p,p<=n+1->EL e0 l vs (fun k=>decide (k < n+1)) p=EL e0 l vs (fun _=>aC) p:=by
    intro p
    induction p with
    |zero=>intro _;rfl
    |succ p ihp=>intro hp;simp only[EL];rw[ihp (by omega),aU (by simp;omega)];rfl
   exact this _ (c7 _)
  ·simp only[EL];rw[aY (by simp;omega)];exact ih (by omega)
theorem Lt{l:List bj}{st:Nat->S}(m:Nat):∀n,m<=n->ML l st (fun k=>decide (k < m)) n=ML l st (fun _=>aC) m:=by
 intro n
 induction n with
 | zero=>intro h;have:m=0:=by omega
         subst this;rfl
 |succ n ih =>
  intro h
  by_cases hm:m=n+1
  ·subst hm
   have:∀p,p<=n+1->ML l st (fun k=>decide (k < n+1)) p=ML l st (fun _=>aC) p:=by
    intro p
    induction p with
    |zero=>intro _;rfl
    |succ p ihp=>intro hp;simp only[ML];rw[ihp (by omega)];simp[show p < n+1 by omega]
   exact this _ (c7 _)
  ·simp only[ML];have:decide (n < m)=false:=by simp;omega
   simp only[this,iZ,dw,dI];exact ih (by omega)
theorem Bb{cfg:bS}{call:de}{o:bj}{s s':S}{v:V}(h:lp cfg call o s v s'):s'.env=fH s.env o.dst v:=by
 rcases h with⟨_,_,h⟩|⟨_,_,_,h⟩<;>exact h
theorem KR{cfg:bS}{call:de}{o:bj}{s s':S}{v:V}(h:lp cfg call o s v s')(hw:dP o=aD):s'.mem=s.mem:=by
 rcases h with⟨_,h,_⟩|⟨_,_,h,_⟩
 ·exact IH hw h
 ·exact h
theorem oW{cfg:bS}{call:de}{l:List bj}{vs:Nat->V}{st:Nat->S}(htr:∀(k:Nat) (o:bj),l[k]? = aA o->lp cfg call o (st k) (vs k) (st (k+1))):∀m,m<=l.length->EL (st 0).env l vs (fun _=>aC) m=(st m).env/\ML l st (fun _=>aC) m=(st m).mem:=by
 intro m
 induction m with
 |zero=>intro _;exact⟨rfl,rfl⟩
 |succ m ih =>
  intro hm;obtain⟨h1,h2⟩:=ih (by omega);have ho:l[m]? = aA (l[m]'(by omega)):=cj (by omega);have hs:=htr m _ ho;refine⟨?_,?_⟩
  ·simp only[EL,cZ,h1,Bb hs,mG,ho,bk]
  ·simp only[ML,dL,h2,gO,ho];split
   ·rfl
   ·rename_i hw;exact(KR hs (by simpa using hw)).symm
theorem Q9{ops:Array dF}{l:List bj}(hl:n4 ops ops.toList l){k:Nat}{o:dF}(ho:ops[k]? = aA o):∃q,l[k]? = aA q/\Ly ops o q:=by
 have hk:k < l.length:=by rw[hl.1];simpa using(hJ.1 ho).1
 exact⟨l[k],cj hk,hl.2 k o _ (by simpa using ho) (cj hk)⟩
def ld(o:bj):Bool:=kg o ||jX o
theorem rR{o:bj}(h:dP o=aC):kg o=false:=by
 unfold dP at h;unfold kg;rw[co]at h;have h2:=h.2;cases hop:o.op<;>first|(simp[xv];done)|(rw[hop]at h2;simp[lc,gl]at h2)
theorem qn{o:bj}(h:dP o=aC):jX o=false:=by
 unfold dP at h;unfold jX;rw[co]at h;have h2:=h.2;cases hop:o.op<;>first|(simp[rF];done)|(rw[hop]at h2;simp[lc,gl]at h2;done)|skip;rename_i c;rw[hop]at h2;cases hc:c.callee<;>simp only[rF,hc,gP];rename_i b;cases b<;>simp[lc,gl,hc]at h2 |-
theorem Fs{o:bj}(h:dP o=aC):ld o=false:=by unfold ld;rw[rR h,qn h];rfl
theorem F9{o:bj}(h:kg o=aC):jX o=false:=by
 unfold kg at h;unfold jX;simp only[co,kE]at h;rw[h.1.2];simp
theorem P5{o:bj}(h:jX o=aC):kg o=false:=by
 cases hb:kg o with
 |false=>rfl
 |true=>rw[F9 hb]at h;cases h
theorem af7{a b:bj}(hw:dP a=aC)(hn:ld b=aD):kz a b=false:=by
 unfold ld at hn;rw[qu]at hn;unfold kz;rw[rR hw,qn hw,hn.1,hn.2];simp
theorem af8{a b:bj}(hw:dP b=aC)(hn:ld a=aD):kz a b=false:=by
 unfold ld at hn;rw[qu]at hn;unfold kz;rw[rR hw,qn hw,hn.1,hn.2];simp
def mn(l:List bj)(k m d T:Nat):Prop:=(∃ty sq,l[k]? = aA ⟨aA d,.alloc T,ty,aF,aC,sq,aD⟩)/\∃x ty sq,l[m]? = aA ⟨aA d,.box T x,ty,aF,aC,sq,aD⟩
theorem Un{l:List bj}{d:Nat}:∀i,i∈writers l d↔∃q,l[i]? = aA q/\q.dst=aA d:=by
 intro i;unfold writers;simp only[mW,Bw,iN,obi];constructor
 ·rintro⟨_,q,h1,h2⟩;exact⟨q,h1,h2⟩
 ·rintro⟨q,h1,h2⟩;exact⟨(bX.1 h1).1,q,h1,h2⟩
theorem PI{l:List bj}(h:Af l=aC){m:Nat}{dst:Option Nat}{T:Nat}{x:fi}{ty:Nat}{g:Option (Nat × Bool)}{sq rx:Bool}(hm:l[m]? = aA ⟨dst,.box T x,ty,g,aC,sq,rx⟩) :
  ∃k d,dst=aA d/\g=aF/\rx=aD/\mn l k m d T/\k < m/\∀i q,l[i]? = aA q->q.dst=aA d->i=k∨i=m:=by
 unfold Af at h;have h:=eJ.1 h m (Bw.2 (bX.1 hm).1);rw[hm]at h;cases dst with
 |none=>simp at h
 |some d =>
  simp only[co,FT,kE]at h;obtain⟨⟨rfl,rfl⟩,h⟩:=h;have hsort:(writers l d).Pairwise (· < ·):=List.Pairwise.filter _ List.pairwise_lt_range;split at h;rotate_left
  ·cases h
  rename_i k m' hw;simp only[co,iN]at h;obtain⟨rfl,h⟩:=h;rw[hw]at hsort;have hkm:k < m':=by simpa using hsort
  have hmem:∀i q,l[i]? = aA q->q.dst=aA d->i=k∨i=m':=fun i q h1 h2=>by
   have:=(Un (l:=l) (d:=d) i).2 ⟨q,h1,h2⟩;rw[hw]at this;simpa using this
  obtain⟨qk,hqk,hdk⟩:=(Un (l:=l) (d:=d) k).1 (by rw[hw];simp);rw[hqk]at h;obtain⟨dst',op',ty',g',bx',sq',rx'⟩:=qk;simp only at hdk;subst hdk;cases op'<;>simp only at h<;>first|(cases h;done)|skip;simp only[co,iN,FT,kE]at h;obtain⟨⟨⟨rfl,rfl⟩,rfl⟩,rfl⟩:=h;exact⟨k,d,rfl,rfl,rfl,⟨⟨_,_,hqk⟩,_,_,_,hm⟩,hkm,hmem⟩
theorem mn.writers{l:List bj}(h:Af l=aC){k m d T:Nat}(hp:mn l k m d T):k < m/\∀i q,l[i]? = aA q->q.dst=aA d->i=k∨i=m:=by
 obtain⟨⟨ty,sq,hk⟩,x,ty',sq',hm⟩:=hp;obtain⟨k',d',e1,_,_,_,hkm,hu⟩:=PI h hm;cases e1;rcases hu k _ hk rfl with rfl|rfl
 ·exact⟨hkm,hu⟩
 ·rw[hk]at hm;cases hm
def iB(P:bu)(n0:Nat)(Z:Zs)(w:be)(j:J)(mem:List O)(a:Act)(d T g:Nat):Prop :=
 ∃us,a.tmps[d]? = aA (.pointer (aA ⟨g,0,aF⟩))/\n0<=g/\w.heap[g]? = aA (.cells us T (0,0))/\us.size=P.cellsOf T/\¬bM Z j mem g/\∀o,¬Z g o
def y9(P:bu)(l:List bj)(n0:Nat)(Z:Zs)(w:be)(j:J)(mem:List O)(a:Act)(D:Nat->Bool):Prop :=
 (∀k m d T,mn l k m d T->D k=aC->D m=aD->∃g,iB P n0 Z w j mem a d T g) /\
 ∀k m d T k' m' d' T' g,mn l k m d T->D k=aC->D m=aD->mn l k' m' d' T'->D k'=aC->D m'=aD->d≠d'->iB P n0 Z w j mem a d T g->¬iB P n0 Z w j mem a d' T' g
theorem iB.step{n0:Nat}{a:Act}{d T g:Nat}(h:iB P n0 Z w j mem a d T g)(st:bh Z w j mem Z' w' j' mem'){a':Act}(ha:a'.tmps[d]? = a.tmps[d]?):iB P n0 Z' w' j' mem' a' d T g:=by
 obtain⟨us,h1,h2,h3,h4,h5,h6⟩:=h;have bd:=(hJ.1 h3).1;obtain⟨k1,k2⟩:=st.keep g bd h5;exact⟨us,ha.trans h1,h2,k1.trans h3,h4,fun ho=>h5 (st.owned g bd ho),fun o ho=>h6 o ((k2 o).1 ho)⟩
theorem iB.same{n0:Nat}{a a':Act}{d T g g':Nat}{w2:be}{Z2:Zs}{j2:J}{mem2:List O}(h:iB P n0 Z w j mem a d T g)(ha:a'.tmps[d]? = a.tmps[d]?){T':Nat}(h':iB P n0 Z2 w2 j2 mem2 a' d T' g'):g'=g:=by
 obtain⟨us,h1,_⟩:=h;obtain⟨us',h1',_⟩:=h';rw[ha,h1]at h1';cases h1';rfl
theorem Jf{a:Act}{dst:Option Nat}{d:Nat}(h:dst≠aA d)(u:aR):(a.put dst u).tmps[d]? = a.tmps[d]?:=by
 cases dst with
 |none=>rfl
 |some e =>
  show(a.tmps.setIfInBounds e u)[d]? = _;exact K8 fun h'=>h (by rw[h'])
theorem y9.step{l:List bj}{n0:Nat}{a a':Act}{D D':Nat->Bool}(h:y9 P l n0 Z w j mem a D)(st:bh Z w j mem Z' w' j' mem')
  (hD:∀k m d T,mn l k m d T->D' k=aC->D' m=aD->D k=aC/\D m=aD/\a'.tmps[d]? = a.tmps[d]?):y9 P l n0 Z' w' j' mem' a' D':=by
 refine⟨fun k m d T hp h1 h2=>?_,fun k m d T k' m' d' T' g hp h1 h2 hp' h1' h2' hne hf hf'=>?_⟩
 ·obtain⟨e1,e2,e3⟩:=hD k m d T hp h1 h2;obtain⟨g,hg⟩:=h.1 k m d T hp e1 e2;exact⟨g,hg.step st e3⟩
 ·obtain⟨e1,e2,e3⟩:=hD k m d T hp h1 h2;obtain⟨f1,f2,f3⟩:=hD k' m' d' T' hp' h1' h2';obtain⟨g1,hg1⟩:=h.1 k m d T hp e1 e2;obtain⟨g2,hg2⟩:=h.1 k' m' d' T' hp' f1 f2;have q1:=iB.same hg1 e3 hf;have q2:=iB.same hg2 f3 hf';subst q1;subst q2;exact h.2 k m d T k' m' d' T' _ hp e1 e2 hp' f1 f2 hne hg1 hg2
theorem abH(s:SR P Z w j mem){g T:Nat}{us:Array aR}{v:V}{u:aR}(hg:w.heap[g]? = aA (.cells us T (0,0)))(hus:us.size=P.cellsOf T)(hno:¬bM Z j mem g)(hnz:∀o,¬Z g o)
  (hl:v.cells.length=P.cellsOf T) (ho:v.cells.all fq=aC) (hpos:0 < P.cellsOf T) (hv:VR Z w j v u) :
  ∃w2 j2,(Instr.storeAt T (.pointer (aA ⟨g,0,aF⟩)) u).run P w = .ok () w2/\SR P Z w2 j2 (newBox P mem T v).2/\VR Z w2 j2 (newBox P mem T v).1 (.pointer (aA ⟨g,0,aF⟩))/\bE j j2/\bO Z w Z w2 /\
   (∀g',g'≠g->w2.heap[g']? = w.heap[g']?)/\w2.heap.size=w.heap.size/\w2.os=w.os/\w2.tape=w.tape/\w2.output=w.output/\(∀g',g' < w.heap.size->bM Z j2 (newBox P mem T v).2 g'->bM Z j mem g'∨g'=g):=by
 have fin:∀(v':V) (m':List O) (j':J),qL P mem T v=(v',m')->SR P Z w j' m'->bh Z w j mem Z w j' m'->bE j j'->v'.cells.length=P.cellsOf T->v'.cells.all fq=aC->VR Z w j' v' u ->
   ∃w2 j2,(Instr.storeAt T (.pointer (aA ⟨g,0,aF⟩)) u).run P w = .ok () w2/\SR P Z w2 j2 (newBox P mem T v).2/\VR Z w2 j2 (newBox P mem T v).1 (.pointer (aA ⟨g,0,aF⟩))/\bE j j2/\bO Z w Z w2 /\
   (∀g',g'≠g->w2.heap[g']? = w.heap[g']?)/\w2.heap.size=w.heap.size/\w2.os=w.os/\w2.tape=w.tape/\w2.output=w.output/\(∀g',g' < w.heap.size->bM Z j2 (newBox P mem T v).2 g'->bM Z j mem g'∨g'=g):=by
  intro v' m' j' e s' stp je hl' ho' hv';obtain⟨hcs,hcl⟩:=hv'.cellsOf (pU ho')
  have hu1:∀c∈u.cells.toList,c.oneCell'=true:=by
   intro c hcm;obtain⟨i,hi,rfl⟩:=mi hcm;have hi':i < v'.cells.length:=by simp at hi;omega
   obtain⟨c',hc',hvr⟩:=hcl i _ (cj hi')
   have:u.cells.toList[i]=c':=by
    have:u.cells[i]? = aA u.cells.toList[i]:=by simp at hi |-
    rw[this]at hc';exact Option.some.inj hc'
   rw[this];exact hvr.oneCell (pU ho' _ (dx (cj hi')))
  have hul:u.cells.toList.length=P.cellsOf T:=by simp;omega
  obtain⟨q1,q2,q3⟩:=Bd (w:=w) (p:=0) (vals:=u.cells.toList) hg (by omega);obtain⟨w2,hw2⟩:∃w2,w2=w.setRow g (us.toList.take 0++u.cells.toList++us.toList.drop (0+u.cells.toList.length)).toArray:=⟨_,rfl⟩
  have hot:∀k,k≠g->w2.heap[k]? = w.heap[k]?:=fun k hk=>by rw[hw2];exact oP w g k _ hk
  have hrun:=JG (P:=P) (p:=0) (t:=T) (u:=u) hg (by simpa using hul) hpos hu1 (by omega);rw[<-hw2]at q1 q3 hrun;have hz:bO Z w Z w2:=.of fun g' o hz=>⟨hz,j7 (hot g' fun e=>hnz o (e ▸ hz)) o⟩
  have bd:g < w.heap.size:=(hJ.1 hg).1;have hno':¬bM Z j' m' g:=fun ho=>hno (stp.owned g bd ho)
  have s2:SR P Z w2 j' m':=s'.world hz (fun g' hg'=>⟨hot g' fun e=>hno' (e ▸ hg'),fun _=>Iff.rfl⟩) (fun g' o ho=>by rw[hw2];simpa using s'.zin g' o ho)
  have s3:=s2.add (h:=⟨.pointer (aA ⟨g,0,aF⟩),P.cellsOf T⟩) (o:=.box T v' aD) (fun g' hg'=>by simp[cE.blk]at hg';subst hg';exact hno')
   ⟨g,_,gZ _ _ _,q1,hl',by rw[q2];exact hus,fun i y hy=>by
    obtain⟨c,hc,hvr⟩:=hcl i y hy;have hi:i < v'.cells.length:=(bX.1 hy).1;refine⟨pU ho' y (dx hy),c,?_,hvr.mono hz (s'.ext _)⟩;rw[q3,aU (by omega)];simpa using hc,fun o ho=>(hnz o ho).elim,fun h=>by cases h⟩
  refine⟨w2,fp j' m'.length ⟨.pointer (aA ⟨g,0,aF⟩),P.cellsOf T⟩,hrun,?_,?_,je.trans (s'.ext _),hz,hot,by rw[hw2];simp,by rw[hw2];rfl,by rw[hw2];rfl,by rw[hw2];rfl,fun g' hg' ho=>?_⟩
  ·unfold newBox;rw[e];exact s3
  ·unfold newBox;rw[e];have:=VR.ptr (Z:=Z) (w:=w2) (j:=fp j' m'.length ⟨.pointer (aA ⟨g,0,aF⟩),P.cellsOf T⟩) (id:=m'.length) (k:=0) (off:=0) (g:=g) (b:=0) (gZ _ _ _) rfl;simpa using this
  ·unfold newBox at ho;rw[e]at ho;rcases bM.add ho with ho|ho
   ·exact .inl (stp.owned g' hg' ho)
   ·simp[cE.blk]at ho;exact .inr ho.symm
 have tZ:(∀cs,v≠.agg cs)->∃w2 j2,(Instr.storeAt T (.pointer (aA ⟨g,0,aF⟩)) u).run P w = .ok () w2/\SR P Z w2 j2 (newBox P mem T v).2/\VR Z w2 j2 (newBox P mem T v).1 (.pointer (aA ⟨g,0,aF⟩))/\bE j j2/\bO Z w Z w2 /\
   (∀g',g'≠g->w2.heap[g']? = w.heap[g']?)/\w2.heap.size=w.heap.size/\w2.os=w.os/\w2.tape=w.tape/\w2.output=w.output/\(∀g',g' < w.heap.size->bM Z j2 (newBox P mem T v).2 g'->bM Z j mem g'∨g'=g):=by
  intro hna
  obtain⟨j',a1,a2,a3,a4,a5,a6⟩:=Ci (P:=P) (pq P T) [v] [u] mem j s rfl (fun i x z hx hz=>by
   cases i with
   |zero=>simp at hx hz;subst hx hz;exact hv
   |succ i=>simp at hx)
  have hc1:v.cells=[v]:=by cases v<;>first|rfl|exact(hna _ rfl).elim
  have h1:v.one=true:=by rw[hc1]at ho;simpa using ho
  match hb:boxed P (pq P T) [v] mem,a1,a2,a4,a5,a6 with
  |([x],m),a1,a2,a4,a5,a6 =>
   have hx1:x.one=true:=a6 (fun y hy=>by simp at hy;subst hy;exact h1) x (by simp);have hxc:=lS hx1;refine fin x m j' ?_ a1 a2 a3 (by rw[hxc];rw[hc1]at hl;exact hl) (by rw[hxc];simp[hx1]) (a5 0 x u rfl rfl);unfold qL;cases v<;>first|exact(hna _ rfl).elim|(simp only[hb])
  |([],m),a1,a2,a4,a5,a6=>simp at a4
  |(_::_::_,m),a1,a2,a4,a5,a6=>simp at a4
 cases v with
 |agg cs =>
  cases hv with
  |agg hl2 hh =>
   rename_i us;obtain⟨j',a1,a2,a3,a4,a5,a6⟩:=Ci (P:=P) (pq P T) cs us mem j s hl2 hh;refine fin _ _ j' rfl a1 a2 a3 ?_ ?_ (.agg (by rw[a4];exact hl2) a5)
   ·simp only[gT]at hl |-
    rw[a4];exact hl
   ·simp only[gT,eJ]at ho |-
    exact a6 ho
 |_=>exact tZ (by intro cs h;cases h)
theorem agh{cfg:bS}:∀{l:List bj},E6 cfg l=aC->∀i o,l[i]? = aA o->(kg o ||kO cfg o)=aC->∀t∈jE o,∀(k:Nat) (q:bj),i<=k->l[k]? = aA q->q.dst≠aA t:=by
 intro l
 induction l with
 |nil=>intro _ i o h;simp at h
 |cons p l ih =>
  intro h i o hi ho t ht k q hik hk;simp only[E6,co,nS,kE]at h;cases i with
  |zero =>
   simp at hi;subst hi;have h1:=h.1.resolve_left (by rw[ho];simp);have h2:=eJ.1 h1 t ht;simp only[co,bne_iff_ne,eJ]at h2;cases k with
   |zero=>simp at hk;subst hk;exact h2.1
   |succ k=>exact h2.2 q (dx (by simpa using hk))
  |succ i =>
   cases k with
   |zero=>omega
   |succ k=>exact ih h.2 i o (by simpa using hi) ho t ht k q (by omega) (by simpa using hk)
theorem Oc{cfg:bS}{call:de}{l:List bj}{vs:Nat->V}{st:Nat->S}(htr:∀(k:Nat) (o:bj),l[k]? = aA o->lp cfg call o (st k) (vs k) (st (k+1))){t:Nat}:∀d i,i+d=l.length->(∀k q,i<=k->l[k]? = aA q->q.dst≠aA t)->(st l.length).env[t]? = (st i).env[t]?:=by
 intro d
 induction d with
 |zero=>intro i h _;rw[fL]at h;rw[h]
 |succ d ih =>
  intro i h hno;rw[ih (i+1) (by omega) fun k q hk=>hno k q (by omega)];have ho:l[i]? = aA (l[i]'(by omega)):=cj (by omega);rw[Bb (htr i _ ho),yB,aY (hno i _ (c7 _) ho)]
theorem Ie{e1 e2:List V}{x:fi}(h:∀t,x = .tmp t->e1[t]? = e2[t]?):nD e1 x=nD e2 x:=by
 unfold nD;rw[uZ h]
theorem aaj{cfg:bS}{call:de}{l:List bj}{vs:Nat->V}{st:Nat->S}{N:Nat}(htr:∀(k:Nat) (o:bj),l[k]? = aA o->lp cfg call o (st k) (vs k) (st (k+1)))(hN:l.length=N)(hchk:s6 cfg l (st N).env=aC)
  {i n:Nat} {q ok:bj} (hq:l[i]? = aA q) (hb:kg q=aC) (bA:l[n]? = aA ok) (hfr:kO cfg ok=aC):∀id,id∈vV (st i).env q->id∉nA (st n).env ok:=by
 subst hN;unfold s6 at hchk;have hany:l.any (kO cfg)=true:=List.any_eq_true.2 ⟨ok,dx bA,hfr⟩;rw[hany]at hchk;simp only[bK,gq,co]at hchk;obtain⟨_,hssa,hall⟩:=hchk
 have late:∀i o,l[i]? = aA o->(kg o ||kO cfg o)=aC->∀t∈jE o,(st l.length).env[t]? = (st i).env[t]?:=fun i o hi ho t ht =>
  Oc htr (l.length - i) i (by have:=(bX.1 hi).1;omega) (agh hssa i o hi ho t ht)
 have looks:∀(o:bj) (x:fi),x∈o.op.operands->∀t,x = .tmp t->t∈jE o:=fun o x hx t ht=>by
  simp only[jE,cz,wA];exact .inl ⟨x,by simpa using hx,by rw[ht]⟩
 have e1:vV (st l.length).env q=vV (st i).env q:=by
  unfold vV;cases hop:q.op<;>simp only;exact Ie fun t ht=>late i q hq (by rw[hb];rfl) t (looks q _ (by rw[hop];simp[Op.operands]) t ht)
 have e2:nA (st l.length).env ok=nA (st n).env ok:=by
  unfold nA;cases hop:ok.op<;>simp only
  case store t ad x=>exact Ie fun t ht=>late n ok bA (by rw[hfr];simp) t (looks ok _ (by rw[hop];simp[Op.operands]) t ht)
  rename_i c
  have:∀(as0:List fi),(∀x∈as0,x∈ok.op.operands)->as0.flatMap (nD (st l.length).env)=as0.flatMap (nD (st n).env):=by
   intro as0
   induction as0 with
   |nil=>intro _;rfl
   |cons x as0 ih =>
    intro h;rw[nZ,nZ,ih fun y hy=>h y (by simp[hy]),Ie fun t ht=>late n ok bA (by rw[hfr];simp) t (looks ok x (h x (by simp)) t ht)]
  refine this _ fun x hx=>?_
  rw[hop];simp only[Op.operands,Call.operands];cases c.callee<;>simp<;>first|exact .inr (by simpa using hx)|simpa using hx
 intro id hid;rw[<-e1]at hid;rw[<-e2];have a1:=eJ.1 hall ok (dx bA);rw[hfr,bK,gq]at a1;have a2:=eJ.1 a1 q (dx hq);rw[hb,bK,gq]at a2;have a3:=eJ.1 a2 id hid;simpa using a3
theorem agY{v:V}{u:aR}(s:SR P Z w j mem)(h:VR Z w j v u):∀id∈iw v,id < mem.length:=by
 have key:∀id∈iw v,j id≠none:=by
  cases h<;>intro id hi<;>simp only[iw,jO]at hi<;>first|(cases hi;done)|(subst hi;rename_i hj;rw[hj];simp;done)|(subst hi;simp_all)
 intro id hi;rcases mY id mem.length with h|h
 ·exact h
 ·exact(key id hi (s.out id h)).elim
def KI(ids:List Nat)(m m':List O):Prop:=m.length<=m'.length/\∀id∈ids,id < m.length->∀q,gN q=aC->q≠.dead->(m'[id]? = aA q↔m[id]? = aA q)
theorem KI.refl(ids:List Nat)(m:List O):KI ids m m:=⟨c7 _,fun _ _ _ _ _ _=>Iff.rfl⟩
theorem KI.trans{ids:List Nat}{a b c:List O}(h:KI ids a b)(h':KI ids b c):KI ids a c :=
 ⟨sh h.1 h'.1,fun id hi hl q h1 h2=>(h'.2 id hi (si hl h.1) q h1 h2).trans (h.2 id hi hl q h1 h2)⟩
theorem adj{cfg:bS}{call:de}:∀(l:List bj) (s s':S) (fs fs':List Nat),jl cfg call l s fs=aA (s',fs') ->
  ∃(vs:Nat->V) (st:Nat->S),st 0=s/\st l.length=s'/\(∀(k:Nat) (o:bj),l[k]? = aA o->lp cfg call o (st k) (vs k) (st (k+1)))/\(∀x∈fs,x∈fs') /\
   ∀(k:Nat) (o:bj),l[k]? = aA o->ij o=aC->nk cfg o=aD->fI (st k).env o.guard=aA aC->∀x∈nj o (st k).env (st k).mem,x∈fs':=by
 intro l
 induction l with
 |nil=>intro s s' fs fs' h;simp[jl]at h;obtain⟨rfl,rfl⟩:=h;exact⟨fun _=>.junk,fun _=>s,rfl,rfl,fun k o h=>by simp at h,fun _ h=>h,fun k o h=>by simp at h⟩
 |cons o l ih =>
  intro s s' fs fs' h;simp only[jl]at h
  have fin:∀(v:V) (s1:S) (f1:List Nat),lp cfg call o s v s1->(∀x∈fs,x∈f1)->(ij o=aC->nk cfg o=aD->fI s.env o.guard=aA aC->∀x∈nj o s.env s.mem,x∈f1)->jl cfg call l s1 f1=aA (s',fs') ->
    ∃(vs:Nat->V) (st:Nat->S),st 0=s/\st (o::l).length=s'/\(∀(k:Nat) (q:bj),(o::l)[k]? = aA q->lp cfg call q (st k) (vs k) (st (k+1)))/\(∀x∈fs,x∈fs') /\
     ∀(k:Nat) (q:bj),(o::l)[k]? = aA q->ij q=aC->nk cfg q=aD->fI (st k).env q.guard=aA aC->∀x∈nj q (st k).env (st k).mem,x∈fs':=by
   intro v s1 f1 h1 h2 h3 h4;obtain⟨vs,st,e0,e1,e2,e3,e4⟩:=ih s1 s' f1 fs' h4;refine⟨fun k=>match k with|0=>v|k+1=>vs k,fun k=>match k with|0=>s|k+1=>st k,rfl,e1,fun k q hq=>?_,fun x hx=>e3 x (h2 x hx),fun k q hq hc hr hw x hx=>?_⟩
   ·cases k with
    |zero=>simp at hq;subst hq;simpa[e0]using h1
    |succ k=>exact e2 k q (by simpa using hq)
   ·cases k with
    |zero=>simp at hq;subst hq;exact e3 x (h3 hc hr hw x hx)
    |succ k=>exact e4 k q (by simpa using hq) hc hr hw x hx
  cases hw:fI s.env o.guard with
  |none=>simp[hw]at h
  |some b =>
   cases b
   ·simp[hw]at h;exact fin (.tup []) ⟨fH s.env o.dst (.tup []),s.mem⟩ fs (.inr ⟨hw,rfl,rfl,rfl⟩) (fun _ h=>h) (fun _ _ h=>by rw[hw]at h;cases h) h
   ·simp only[hw,bk,cZ]at h;cases ho:eB cfg call (fk aC o) o s.env s.mem with
    |none=>simp[ho]at h
    |some r =>
     obtain⟨v,m⟩:=r;simp only[ho,bk]at h;refine fin v _ _ (.inl ⟨hw,ho,rfl⟩) (fun x hx=>?_) (fun hc hr _ x hx=>?_) h
     ·split
      ·exact cz.2 (.inr hx)
      ·exact hx
     ·rw[aU (by rw[hc,hr];rfl)];exact cz.2 (.inl hx)
theorem agf:∀{l:List bj},E7 l=aC->∀i o,l[i]? = aA o->jX o=aC->∀t∈jE o,∀(k:Nat) (q:bj),i<=k->l[k]? = aA q->q.dst≠aA t:=by
 intro l
 induction l with
 |nil=>intro _ i o h;simp at h
 |cons p l ih =>
  intro h i o hi ho t ht k q hik hk;simp only[E7,co,nS,kE]at h;cases i with
  |zero =>
   simp at hi;subst hi;have h1:=h.1.resolve_left (by rw[ho];simp);have h2:=eJ.1 h1 t ht;simp only[co,bne_iff_ne,eJ]at h2;cases k with
   |zero=>simp at hk;subst hk;exact h2.1
   |succ k=>exact h2.2 q (dx (by simpa using hk))
  |succ i =>
   cases k with
   |zero=>omega
   |succ k=>exact ih h.2 i o (by simpa using hi) ho t ht k q (by omega) (by simpa using hk)
theorem P4{e1 e2:List V}{o:bj}(h:∀x∈o.op.operands,bv e1 x=bv e2 x):kY e1 o=kY e2 o:=by
 have one:∀x∈o.op.operands,lD e1 x=lD e2 x:=fun x hx=>by unfold lD;rw[h x hx]
 unfold kY;cases hop:o.op<;>simp only
 case load t a=>exact one _ (by rw[hop];simp[Op.operands])
 case indexAddr t x i=>exact one _ (by rw[hop];simp[Op.operands])
 case slice t x a b c=>exact one _ (by rw[hop];simp[Op.operands])
 case call c =>
  have:∀(as0:List fi),(∀x∈as0,x∈o.op.operands)->as0.flatMap (lD e1)=as0.flatMap (lD e2):=by
   intro as0
   induction as0 with
   |nil=>intro _;rfl
   |cons x as0 ih =>
    intro h;rw[nZ,nZ,ih fun y hy=>h y (by simp[hy]),one x (h x (by simp))]
  refine this _ fun x hx=>?_
  rw[hop];simp only[Op.operands,Call.operands];cases c.callee<;>simp<;>first|exact .inr (by simpa using hx)|simpa using hx
def FD(cfg:bS)(l:List bj)(st:Nat->S):Prop :=
 ∀i q n ok,l[i]? = aA q->jX q=aC->l[n]? = aA ok->ij ok=aC->Cr cfg ok=aC/\(nk cfg ok=aC∨(fI (st n).env ok.guard=aA aC->∀id∈kY (st i).env q,id∉nj ok (st n).env (st n).mem))
theorem V3{cfg:bS}{call:de}{l:List bj}{vs:Nat->V}{st:Nat->S}{fs:List Nat}(htr:∀(k:Nat) (o:bj),l[k]? = aA o->lp cfg call o (st k) (vs k) (st (k+1)))(hc:Cs cfg l (st l.length).env fs=aC)
  (hf:∀(k:Nat) (o:bj),l[k]? = aA o->ij o=aC->nk cfg o=aD->fI (st k).env o.guard=aA aC->∀x∈nj o (st k).env (st k).mem,x∈fs):FD cfg l st:=by
 intro i q n ok hq hl bA hcp;simp only[Cs,co]at hc;obtain⟨⟨hssa,hcan⟩,hall⟩:=hc;have a1:=eJ.1 hcan ok (dx bA);rw[hcp,bK,gq]at a1;refine⟨a1,?_⟩;cases hro:nk cfg ok with
 |true=>exact .inl rfl
 |false =>
 refine .inr fun hw id hid hin=>?_
 have e1:kY (st l.length).env q=kY (st i).env q:=P4 fun x hx=>uZ fun t ht =>
  Oc htr (l.length - i) i (by have:=(bX.1 hq).1;omega) (agf hssa i q hq hl t (by
   simp only[jE,cz,wA];exact .inl ⟨x,by simpa using hx,by rw[ht]⟩))
 have a2:=eJ.1 hall q (dx hq);rw[hl,bK,gq,e1]at a2;have a3:=eJ.1 a2 id hid;have a4:=hf n ok bA hcp hro hw id hin;rw[List.contains_iff_mem.2 a4]at a3;cases a3
theorem US{r:Option Nat}{n:Nat}{cfg:bS}{call:de}(hp:i5 cfg.P call.pc)(hi:iK cfg.P call.ic){ops:Array dF}{Q:Exit->Act->be->Prop}{l:List bj}{vs:Nat->V}{st:Nat->S}{a0:Act}
  (hl:n4 ops ops.toList l) (hd:zP ops l=aC) (hchk:s6 cfg l (st ops.size).env=aC) (hcp:FD cfg l st) (htr:∀(k:Nat) (o:bj),l[k]? = aA o->lp cfg call o (st k) (vs k) (st (k+1)))
  (hQ:∀a' w',yW cfg.P Z w j (st 0).mem (st ops.size) a' w'->gQ l a0 a'->Q .normal a' w') :
  ∀(fuel:Nat) (listed:Array Bool) (a:Act) (w1:be),listed.size=ops.size->listed.toList.count aD<=fuel->wq ops (fun k=>listed.getD k aD) ->
   (∃Z1 j1,St Z1 w1 j1 (EL (st 0).env l vs (fun k=>listed.getD k aD) ops.size) a/\SR cfg.P Z1 w1 j1 (ML l st (fun k=>listed.getD k aD) ops.size)/\bh Z w j (st 0).mem Z1 w1 j1 (ML l st (fun k=>listed.getD k aD) ops.size)/\bE j j1/\y9 cfg.P l w.heap.size Z1 w1 j1 (ML l st (fun k=>listed.getD k aD) ops.size) a fun k=>listed.getD k aD)->gQ l a0 a ->
   wpAnyIn (FR r) n cfg.P .any ops Q fuel listed a w1:=by
 have hll:l.length=ops.size:=by have:=hl.1;simpa using this
 obtain⟨hbind,hclash⟩:=Ww hd
 have done:∀(listed:Array Bool) (a:Act) (w1:be),listed.size=ops.size->(∀k,k < ops.size->listed.getD k aD=aC) ->
   (∃Z1 j1,St Z1 w1 j1 (EL (st 0).env l vs (fun k=>listed.getD k aD) ops.size) a/\SR cfg.P Z1 w1 j1 (ML l st (fun k=>listed.getD k aD) ops.size)/\bh Z w j (st 0).mem Z1 w1 j1 (ML l st (fun k=>listed.getD k aD) ops.size)/\bE j j1/\y9 cfg.P l w.heap.size Z1 w1 j1 (ML l st (fun k=>listed.getD k aD) ops.size) a fun k=>listed.getD k aD)->gQ l a0 a->Q .normal a w1:=by
  intro listed a w1 hsz hall ⟨Z1,j1,h1,h2,h3,h4,_⟩ hkp;obtain⟨e1,e2⟩:=oW htr ops.size (by omega)
  have eE:EL (st 0).env l vs (fun k=>listed.getD k aD) ops.size=(st ops.size).env:=by
   rw[<-e1];apply uw;intro t;exact rS _ fun k hk _=>hall k hk
  have eM:ML l st (fun k=>listed.getD k aD) ops.size=(st ops.size).mem:=by
   rw[<-e2];exact BD _ fun k hk _=>hall k hk
  rw[eE]at h1;rw[eM]at h2 h3;exact hQ a w1 ⟨Z1,j1,h1,h2,h3,h4⟩ hkp
 have notdone:∀(listed:Array Bool),listed.size=ops.size->Region.ready .any ops listed=[]->∀k,k < ops.size->listed.getD k aD=true:=by
  intro listed hsz hr k
  induction k using Nat.strongRecOn with
  |_ k ih =>
   intro hk
   by_cases h:listed.getD k aD=aC
   ·exact h
   ·exfalso;have bA:ops[k]? = aA ops[k]:=gH hk
    have:k∈Region.ready .any ops listed:=by
     rw[mem_ready];refine⟨?_,ops[k],bA,fun e he hb=>?_⟩
     ·have bd:k < listed.size:=by omega
      simp[jr,gH bd]at h |-
      exact h
     ·have h2:=hbind k _ bA e he hb;exact ih e.on h2 (by omega)
    rw[hr]at this;simp at this
 intro fuel
 induction fuel with
 |zero =>
  intro listed a w1 hsz hcnt hcl hinv hkp
  have hall:∀k,k < ops.size->listed.getD k aD=true:=by
   intro k hk;have bd:k < listed.size:=by omega
   have h0:listed.toList.count aD=0:=by omega
   have:=List.count_eq_zero.1 h0;have h2:listed[k]∈listed.toList:=by simp
   cases hb:listed[k]with
   |true=>simp[jr,gH bd,hb]
   |false=>rw[hb]at h2;exact(this h2).elim
  refine⟨?_,done listed a w1 hsz hall hinv hkp⟩;apply Uz.2;intro i hi';rw[mem_ready]at hi';obtain⟨h1,o,ho,_⟩:=hi';have bd:i < ops.size:=(hJ.1 ho).1;have h2:=hall i bd;have hlt':i < listed.size:=by omega
  simp[jr,gH hlt']at h1 h2;rw[h1]at h2;cases h2
 |succ fuel ih =>
  intro listed a w1 hsz hcnt hcl hinv hkp;refine⟨fun hr=>done listed a w1 hsz (notdone listed hsz hr) hinv hkp,fun i hir=>?_⟩;have hir':=hir;rw[mem_ready]at hir';obtain⟨hnl,o,ho,hall⟩:=hir';have hin:i < ops.size:=(hJ.1 ho).1;have bd:i < listed.size:=by omega
  have hnl':listed[i]=false:=by simpa[jr,gH bd]using hnl
  obtain⟨q,hq,hpq⟩:=Q9 hl ho;have hstep:=htr i _ hq;have hanc:∀k,k∈(kH ops.toList []).getD i []->listed.getD k aD=true:=zI hcl i o ho hall;have before:∀k ok,k < i->l[k]? = aA ok->jT ok q=aC->listed.getD k aD=true:=fun k ok hki hk hc=>hanc k (hclash k i ok _ hki hk hq hc)
  have oper:∀k q,l[k]? = aA q->∃ok,ops[k]? = aA ok:=fun k q hk=>by
   have:k < ops.size:=by rw[<-hll];exact(bX.1 hk).1
   exact⟨ops[k],gH this⟩
  have behind:∀k ok,i < k->l[k]? = aA ok->jT q ok=aC->listed.getD k aD=false:=by
   intro k ok hik hk hc;cases hb:listed.getD k aD with
   |false=>rfl
   |true =>
    obtain⟨ok',hok'⟩:=oper k ok hk;have:=zI hcl k ok' hok' (fun e he hbb=>hcl k ok' hok' hb e he hbb) i (hclash i k _ ok hik hq hk hc);simp[jr,gH bd,hnl']at this
  have dst_of:∀k t,mG l k=aA t->∃ok,l[k]? = aA ok/\ok.dst=aA t:=by
   intro k t hk;unfold mG at hk;cases hlk:l[k]? with
   |none=>simp[hlk]at hk
   |some qk =>
    simp[hlk]at hk;exact⟨qk,rfl,hk⟩
  have wr_of:∀k,gO l k=aC->∃ok,l[k]? = aA ok/\dP ok=true:=by
   intro k hk;unfold gO at hk;cases hlk:l[k]? with
   |none=>simp[hlk]at hk
   |some qk =>
    simp only[hlk]at hk;exact⟨qk,rfl,hk⟩
  have sp1:∀ok:bj,dP ok=aC->ld q=aD->kz ok q=false:=fun ok h hn=>af7 h hn
  have sp2:∀ok:bj,dP ok=aC->ld q=aD->kz q ok=false:=fun ok h hn=>af8 h hn
  have ldw:dP q=aC->ld q=false:=fun h=>Fs h
  have looks:∀t,t∈jE q->(EL (st 0).env l vs (fun k=>listed.getD k aD) ops.size)[t]? = (st i).env[t]?:=by
   intro t ht;have ht':=ht;rw[<-(oW htr i (by omega)).1,<-Bo i ops.size (by omega)];refine rS _ fun k hk hdk=>?_
   obtain⟨ok,bA,hdo⟩:=dst_of k t hdk;rcases y8 k i with h|h|h
   ·rw[before k ok h bA (by simp only[jT,lV,hdo];simp[ht'])];simp[h]
   ·subst h;simp[jr,gH bd,hnl']
   ·rw[behind k ok h bA (by simp only[jT,lV,hdo];simp[ht'])];simp;omega
  have self:∀k,k=i->listed.getD k aD=decide (k < i):=by
   intro k h;subst h;simp[jr,gH bd,hnl']
  have memEq:(p8 q=aC∨dP q=aC)->ld q=aD->ML l st (fun k=>listed.getD k aD) ops.size=(st i).mem:=by
   intro hrw hnl0;rw[<-(oW htr i (by omega)).2,<-Lt i ops.size (by omega)];refine BD _ fun k hk hwk=>?_
   obtain⟨ok,bA,hwo⟩:=wr_of k hwk;rcases y8 k i with h|h|h
   ·rw[before k ok h bA (by simp only[jT,pN,hwo,sp1 ok hwo hnl0];rcases hrw with h|h<;>simp[h])];simp[h]
   ·exact self k h
   ·rw[behind k ok h bA (by simp only[jT,pN,hwo,sp2 ok hwo hnl0];rcases hrw with h|h<;>simp[h])];simp;omega
  have hnew:∀k,(listed.setIfInBounds i aC).getD k aD=(listed.getD k aD ||decide (k=i)):=by
   intro k;simp only[jr,Fx]
   by_cases h:i=k
   ·subst h;simp[bd]
   ·have:¬k=i:=fun e=>h e.symm
    simp[h,this]
  have envEq:EL (st 0).env l vs (fun k=>(listed.setIfInBounds i aC).getD k aD) ops.size=fH (EL (st 0).env l vs (fun k=>listed.getD k aD) ops.size) q.dst (vs i):=by
   apply uw;intro t
   by_cases hdt:q.dst=aA t
   ·have e1:(EL (st 0).env l vs (fun k=>(listed.setIfInBounds i aC).getD k aD) ops.size)[t]? = (EL (st 0).env l vs (fun k=>decide (k < i+1)) ops.size)[t]?:=by
     refine rS _ fun k hk hdk=>?_
     obtain⟨ok,bA,hdo⟩:=dst_of k t hdk;rw[hnew];rcases y8 k i with h|h|h
     ·rw[before k ok h bA (by simp only[jT,lV,hdo];simp[hdt])];simp;omega
     ·subst h;simp
     ·rw[behind k ok h bA (by simp only[jT,lV,hdt];simp[hdo])];have:¬k=i:=by omega
      simp[this];omega
    rw[e1,Bo (i+1) ops.size (by omega),(oW htr (i+1) (by omega)).1,Bb hstep];simp only[hdt,yB,cZ,wu];rw[<-(oW htr i (by omega)).1,wu]
   ·rw[yB,aY hdt];refine rS _ fun k hk hdk=>?_
    rw[hnew]
    have:¬k=i:=by
     intro e;subst e;simp[mG,hq]at hdk;exact hdt hdk
    simp[this]
  have cnt:(listed.setIfInBounds i aC).toList.count aD<=fuel:=by
   have e:(listed.setIfInBounds i aC).toList=listed.toList.set i true:=by simp
   rw[e,List.count_set]
   ·have h1:listed.toList[i]'(by simpa using bd)=false:=by simpa using hnl'
    rw[h1];have h2:((true:Bool)==aD)=false:=rfl;rw[h2,aU (fj aD),aY (by simp)];have:0 < listed.toList.count false:=List.count_pos_iff.2 (by rw[<-hnl'];simp);omega
   ·simpa using bd
  have cl:wq ops (fun k=>(listed.setIfInBounds i aC).getD k aD):=by
   intro k ok bA hD e he hb;simp only[hnew]at hD |-
   by_cases h:k=i
   ·subst h;rw[ho]at bA;cases bA;simp[hall e he hb]
   ·have h2:decide (k=i)=false:=by simp[h]
    rw[h2,j9]at hD;have h3:listed.getD e.on aD=true:=hcl k ok bA hD e he hb;rw[h3,lh]
  have memNew:dP q=aC->ML l st (fun k=>(listed.setIfInBounds i aC).getD k aD) ops.size=(st (i+1)).mem:=by
   intro hw;rw[<-(oW htr (i+1) (by omega)).2,<-Lt (i+1) ops.size (by omega)];refine BD _ fun k hk hwk=>?_
   obtain⟨ok,bA,hwo⟩:=wr_of k hwk;rw[hnew];rcases y8 k i with h|h|h
   ·rw[before k ok h bA (by simp[jT,pN,hwo,hw,sp1 ok hwo (ldw hw)])];simp;omega
   ·subst h;simp
   ·rw[behind k ok h bA (by simp[jT,pN,hwo,hw,sp2 ok hwo (ldw hw)])];have:¬k=i:=by omega
    simp[this];omega
  have memOld:dP q=aD->ML l st (fun k=>(listed.setIfInBounds i aC).getD k aD) ops.size=ML l st (fun k=>listed.getD k aD) ops.size:=by
   intro hw;refine BD _ fun k hk hwk=>?_
   rw[hnew]
   have:¬k=i:=by
    intro e;subst e;simp[gO,hq,hw]at hwk
   simp[this]
  obtain⟨Z1,j1,h1,h2,h3,h4,hpend⟩:=hinv;have hsz':(listed.setIfInBounds i aC).size=ops.size:=by simpa using hsz
  unfold wpOpIn;simp only[ho]
  have hwe:fI (EL (st 0).env l vs (fun k=>listed.getD k aD) ops.size) q.guard=fI (st i).env q.guard:=by
   cases hqg:q.guard with
   |none=>rfl
   |some tw =>
    simp only[fI];rw[looks tw.1 (by simp[jE,hqg])]
  have first:∀k k' ok ok',k < k'->l[k]? = aA ok->l[k']? = aA ok'->dP ok=aC->dP ok'=aC->listed.getD k' aD=aC->listed.getD k aD=true:=by
   intro k k' ok ok' hkk hk hk' hwo hwo' hd';have hin':=hclash k k' ok ok' hkk hk hk' (by simp[jT,pN,kz,hwo,hwo',rR hwo,rR hwo',qn hwo,qn hwo']);obtain⟨o',ho'⟩:=oper k' ok' hk';exact zI hcl k' o' ho' (fun e he hbb=>hcl k' o' ho' hd' e he hbb) k hin'
  obtain⟨am,hale,haML,halo,hahi⟩:∃a,a<=ops.size/\ML l st (fun k=>listed.getD k aD) ops.size=(st a).mem/\(∀k ok,k < a->l[k]? = aA ok->dP ok=aC->listed.getD k aD=aC) /\
    (∀k ok,a<=k->l[k]? = aA ok->dP ok=aC->listed.getD k aD=aD):=by
   have gen:∀n,n<=ops.size->∃a,a<=n/\ML l st (fun k=>listed.getD k aD) n=(st a).mem/\(∀k ok,k < a->l[k]? = aA ok->dP ok=aC->listed.getD k aD=aC) /\
     (∀k ok,a<=k->k < n->l[k]? = aA ok->dP ok=aC->listed.getD k aD=aD):=by
    intro n
    induction n with
    |zero=>intro _;exact⟨0,c7 _,rfl,fun k ok hk=>by omega,fun k ok h1 h2=>by omega⟩
    |succ n ihn =>
     intro hn;obtain⟨a,b1,b2,b3,b4⟩:=ihn (by omega)
     by_cases hdn:listed.getD n aD=aC/\gO l n=aC
     ·obtain⟨okn,hokn,hwn⟩:=wr_of n hdn.2;refine⟨n+1,c7 _,by simp only[ML,hdn.1,hdn.2,qt,cZ],fun k ok hk bA hwo=>?_,fun k ok h1 h2=>by omega⟩;rcases mY k n with q|q
      ·exact first k n ok okn q bA hokn hwo hwn hdn.1
      ·have:k=n:=by omega
       subst this;exact hdn.1
     ·refine⟨a,by omega,?_,b3,fun k ok h1 h2 bA hwo=>?_⟩
      ·simp only[ML];rw[aY (by simpa[co]using hdn)];exact b2
      ·rcases mY k n with q|q
       ·exact b4 k ok h1 q bA hwo
       ·have:k=n:=by omega
        subst this;cases hdk:listed.getD k aD with
        |false=>rfl
        |true =>
         exact(hdn ⟨hdk,by simp only[gO,bA,hwo]⟩).elim
   obtain⟨a,b1,b2,b3,b4⟩:=gen ops.size (c7 _);exact⟨a,b1,b2,b3,fun k ok h1 bA hwo=>b4 k ok h1 (by rw[<-hll];exact(bX.1 bA).1) bA hwo⟩
  have loads:kg q=aC->eB cfg call (fk aC q) q (st i).env (st i).mem=aA (vs i,(st (i+1)).mem) ->
    eB cfg call (fk aC q) q (st i).env (ML l st (fun k=>listed.getD k aD) ops.size)=aA (vs i,ML l st (fun k=>(listed.setIfInBounds i aC).getD k aD) ops.size):=by
   intro hbx hop;have hbxl:=hbx;simp only[kg,co]at hbx;obtain⟨⟨⟨hrx,hbx1⟩,hsq1⟩,hld⟩:=hbx;have hsq1:q.sq=false:=by simpa using hsq1
   have hrx:q.rx=false:=by simpa using hrx
   rw[oJ hrx]at hop |-
   have hwr:dP q=false:=by
    unfold dP;cases hop':q.op<;>rw[hop']at hld<;>first|(cases hld;done)|simp[lc,gl]
   have hrd:p8 q=true:=by
    unfold p8;rw[hrx];cases hop':q.op<;>rw[hop']at hld<;>first|(cases hld;done)|simp[rv,po]
   rw[memOld hwr]
   have D1:∀k ok,k < i->l[k]? = aA ok->dP ok=aC->listed.getD k aD=aD->pY ok=true:=by
    intro k ok hki hk hwo hnd;cases hpu:pY ok with
    |true=>rfl
    |false =>
     have:=before k ok hki hk (by simp[jT,pN,kz,hwo,hrd,hpu,rR hwo,qn hwo,F9 hbxl]);rw[this]at hnd;cases hnd
   have D2:∀k ok,i < k->l[k]? = aA ok->dP ok=aC->listed.getD k aD=aC->pY ok=true:=by
    intro k ok hki hk hwo hnd;cases hpu:pY ok with
    |true=>rfl
    |false =>
     have:=behind k ok hki hk (by simp[jT,pN,kz,hwo,hrd,hpu,rR hwo,qn hwo,F9 hbxl]);rw[this]at hnd;cases hnd
   rw[haML]
   have stepB:∀(p:V) k ok,l[k]? = aA ok->(dP ok=aC->pY ok=aC)->(kO cfg ok=aC->∀id kk off,p = .ptr id kk off->id∉nA (st k).env ok)->mU p (st k).mem (st (k+1)).mem:=by
    intro p k ok bA hpu hnf;have hs:=htr k _ bA
    by_cases hwo:dP ok=aC
    ·rcases hs with⟨_,hs,_⟩|⟨_,_,hs,_⟩
     ·cases hfr:kO cfg ok with
      |false=>exact(adI (hpu hwo) hfr hs).at p
      |true =>
       obtain⟨e1,e2⟩:=aam hfr hs;exact⟨e1,fun id kk off e hi t x=>by rw[e2 id hi (hnf hfr id kk off e)]⟩
     ·rw[hs];exact .refl _ _
    ·rw[KR hs (by simpa using hwo)];exact .refl _ _
   have runB:∀(p:V) d k,k+d<=ops.size->(∀n ok,k<=n->n < k+d->l[n]? = aA ok->(dP ok=aC->pY ok=aC)/\(kO cfg ok=aC->∀id kk off,p = .ptr id kk off->id∉nA (st n).env ok))->mU p (st k).mem (st (k+d)).mem:=by
    intro p d
    induction d with
    |zero=>intro k _ _;exact .refl _ _
    |succ d ihd =>
     intro k hk hall';refine(ihd k (by omega) fun n ok h1 h2=>hall' n ok h1 (by omega)).trans ?_;have hon:l[k+d]? = aA (l[k+d]'(by omega)):=cj (by omega);obtain⟨c1,c2⟩:=hall' (k+d) _ (by omega) (by omega) hon;exact stepB p (k+d) _ hon c1 c2
   have hpE:∀x∈q.op.operands,bv (EL (st 0).env l vs (fun k=>listed.getD k aD) ops.size) x=bv (st i).env x:=fun x hx=>uZ fun t ht=>looks t (by
    simp only[jE,cz,wA];exact .inl ⟨x,by simpa using hx,by rw[ht]⟩)
   cases hop':q.op<;>rw[hop']at hld<;>first|(cases hld;done)|skip;rename_i t ad;simp only[c8,hop']at hop |-
   cases hx:bv (st i).env ad with
   |none=>simp[hx]at hop
   |some p =>
    have hxE:bv (EL (st 0).env l vs (fun k=>listed.getD k aD) ops.size) ad=aA p:=by
     rw[hpE ad (by rw[hop'];simp[Op.operands]),hx]
    obtain⟨u,hvr⟩:∃u,VR Z1 w1 j1 p u:=⟨_,h1.eval ad p hxE⟩
    have hlt1:∀id k off,p = .ptr id k off->id < (st am).mem.length:=by
     intro id k off e;subst e;rw[<-haML];cases hvr with
     |ptr hj _ =>
      rcases mY id (ML l st (fun k=>listed.getD k aD) ops.size).length with q|q
      ·exact q
      ·rw[h2.out id q]at hj;cases hj
    simp only[hx,hbx1,hsq1,aP,bk,dL]at hop |-
    have hnf:∀n ok,l[n]? = aA ok->kO cfg ok=aC->∀id kk off,p = .ptr id kk off->id∉nA (st n).env ok:=by
     intro n ok bA hfr id kk off e;have hrd2:vV (st i).env q=[id]:=by simp only[vV,hop',nD,hx,e,lG,p9,AJ,iw]
     have:=aaj htr hll hchk hq hbxl bA hfr id (by rw[hrd2];simp);exact this
    cases hbp:mB (st i).mem p with
    |false=>rw[hbp]at hop;simp at hop
    |true =>
     rw[hbp]at hop;simp only[bK,dw,dI,omi]at hop;obtain⟨v,hv,he⟩:=hop;have hve:v=vs i:=ef Prod.fst he
     have hlt2:∀id k off,p = .ptr id k off->id < (st i).mem.length:=by
      intro id k off e;subst e;simp only[mB]at hbp;cases hm:(st i).mem[id]? with
      |none=>rw[hm]at hbp;cases hbp
      |some _=>exact(bX.1 hm).1
     have both:mB (st am).mem p=aC/\gE cfg.P (st am).mem t p=gE cfg.P (st i).mem t p:=by
      rcases Nat.le_total am i with hai|hia
      ·have hB:mU p (st am).mem (st i).mem:=by
        have:=runB p (i - am) am (by omega) fun n ok h1 h2 bA=>⟨fun hwo=>D1 n ok (by omega) bA hwo (hahi n ok h1 bA hwo),hnf n ok bA⟩
        rwa [show am+(i - am)=i by omega]at this
       obtain⟨c1,c2⟩:=Mc (P:=cfg.P) (t:=t) hB hlt1;have:mB (st am).mem p=true:=by rw[<-c1,hbp]
       exact⟨this,(c2 this).symm⟩
      ·have hB:mU p (st i).mem (st am).mem:=by
        have:=runB p (am - i) i (by omega) fun n ok h1 h2 bA=>⟨fun hwo=>(by
         have hd':=halo n ok (by omega) bA hwo;rcases mY i n with q|q
         ·exact D2 n ok q bA hwo hd'
         ·have:n=i:=by omega
          subst this;rw[hq]at bA;cases bA;rw[hwr]at hwo;cases hwo),hnf n ok bA⟩
        rwa [show i+(am - i)=am by omega]at this
       obtain⟨c1,c2⟩:=Mc (P:=cfg.P) (t:=t) hB hlt2;exact⟨by rw[c1,hbp],c2 hbp⟩
     rw[both.1];simp only[bK,dw,dI,both.2,hv,du,hve]
  have loads2:jX q=aC->eB cfg call (fk aC q) q (st i).env (st i).mem=aA (vs i,(st (i+1)).mem) ->
    eB cfg call (fk aC q) q (st i).env (ML l st (fun k=>listed.getD k aD) ops.size)=aA (vs i,ML l st (fun k=>(listed.setIfInBounds i aC).getD k aD) ops.size):=by
   intro hls hop;have hrx:q.rx=false:=by simp only[jX,co]at hls;simpa using hls.1.1.1
   have hwr:dP q=false:=by
    cases h:dP q with
    |false=>rfl
    |true=>rw[qn h]at hls;cases hls
   have hrd:p8 q=true:=by
    simp only[jX,co]at hls;obtain⟨⟨⟨_,hb⟩,hs⟩,hr⟩:=hls;unfold p8;rw[hrx,hb,hs];cases hop':q.op<;>rw[hop']at hr<;>first|(cases hr;done)|(simp[rv,po];done)|skip;rename_i c;cases hc:c.callee<;>simp only[rF,hc]at hr<;>first|(cases hr;done)|skip;rename_i b;cases b<;>first|(cases hr;done)|simp[rv,hc]
   have hme:=IH hwr hop;rw[oJ hrx]at hop |-
   rw[hme]at hop;rw[memOld hwr,haML]
   have D1:∀k ok,k < i->l[k]? = aA ok->dP ok=aC->listed.getD k aD=aD->ij ok=true:=by
    intro k ok hki hk hwo hnd;cases hpu:ij ok with
    |true=>rfl
    |false =>
     have:=before k ok hki hk (by simp[jT,pN,kz,hwo,hrd,hpu,rR hwo,qn hwo,P5 hls]);rw[this]at hnd;cases hnd
   have D2:∀k ok,i < k->l[k]? = aA ok->dP ok=aC->listed.getD k aD=aC->ij ok=true:=by
    intro k ok hki hk hwo hnd;cases hpu:ij ok with
    |true=>rfl
    |false =>
     have:=behind k ok hki hk (by simp[jT,pN,kz,hwo,hrd,hpu,rR hwo,qn hwo,P5 hls]);rw[this]at hnd;cases hnd
   have stepK:∀k ok,l[k]? = aA ok->(dP ok=aC->ij ok=aC)->KI (kY (st i).env q) (st k).mem (st (k+1)).mem:=by
    intro k ok bA hpu;have hs:=htr k _ bA
    by_cases hwo:dP ok=aC
    ·rcases hs with⟨hw1,hs,_⟩|⟨_,_,hs,_⟩
     ·obtain⟨c1,c2⟩:=hcp i q k ok hq hls bA (hpu hwo);obtain⟨⟨e1,e2⟩,e3⟩:=V4 (hpu hwo) c1 hs;rcases c2 with c2|c2
      ·exact⟨e1,fun id hid bd q _ _=>by rw[<-List.getElem?_take_of_lt bd,e3 c2]⟩
      ·exact⟨e1,fun id hid bd=>e2 id bd (c2 hw1 id hid)⟩
     ·rw[hs];exact .refl _ _
    ·rw[KR hs (by simpa using hwo)];exact .refl _ _
   have runK:∀d k,k+d<=ops.size->(∀n ok,k<=n->n < k+d->l[n]? = aA ok->dP ok=aC->ij ok=aC)->KI (kY (st i).env q) (st k).mem (st (k+d)).mem:=by
    intro d
    induction d with
    |zero=>intro k _ _;exact .refl _ _
    |succ d ihd =>
     intro k hk hall';refine(ihd k (by omega) fun n ok h1 h2=>hall' n ok h1 (by omega)).trans ?_;have hon:l[k+d]? = aA (l[k+d]'(by omega)):=cj (by omega);exact stepK (k+d) _ hon (hall' (k+d) _ (by omega) (by omega) hon)
   have hpE:∀x∈q.op.operands,bv (EL (st 0).env l vs (fun k=>listed.getD k aD) ops.size) x=bv (st i).env x:=fun x hx=>uZ fun t ht=>looks t (by
    simp only[jE,cz,wA];exact .inl ⟨x,by simpa using hx,by rw[ht]⟩)
   have hlt0:∀id∈kY (st i).env q,id < (st am).mem.length:=by
    rw[<-P4 hpE,<-haML]
    have one:∀x,∀id∈lD (EL (st 0).env l vs (fun k=>listed.getD k aD) ops.size) x,id < (ML l st (fun k=>listed.getD k aD) ops.size).length:=by
     intro x id hid;unfold lD at hid;cases hx:bv (EL (st 0).env l vs (fun k=>listed.getD k aD) ops.size) x with
     |none=>rw[hx]at hid;cases hid
     |some v=>rw[hx]at hid;exact agY h2 (h1.eval x v hx) id hid
    intro id hid;unfold kY at hid;split at hid
    ·exact one _ id hid
    ·exact one _ id hid
    ·exact one _ id hid
    ·obtain⟨x,_,hx⟩:=jN.1 hid;exact one x id hx
    ·cases hid
   have hkp:KP (kY (st i).env q) (st i).mem (st am).mem:=by
    rcases Nat.le_total am i with hai|hia
    ·have hB:KI (kY (st i).env q) (st am).mem (st i).mem:=by
      have:=runK (i - am) am (by omega) fun n ok h1 h2 bA hwo=>D1 n ok (by omega) bA hwo (hahi n ok h1 bA hwo)
      rwa [show am+(i - am)=i by omega]at this
     exact fun id hid o h1 h2 h3=>(hB.2 id hid (hlt0 id hid) o h1 h2).1 h3
    ·have hB:KI (kY (st i).env q) (st i).mem (st am).mem:=by
      have:=runK (am - i) i (by omega) fun n ok h1 h2 bA hwo=>(by
       have hd':=halo n ok (by omega) bA hwo;rcases mY i n with q|q
       ·exact D2 n ok q bA hwo hd'
       ·have:n=i:=by omega
        subst this;rw[hq]at bA;cases bA;rw[hwr]at hwo;cases hwo)
      rwa [show i+(am - i)=am by omega]at this
     exact fun id hid o h1 h2 h3=>(hB.2 id hid (bX.1 h3).1 o h1 h2).2 h3
   exact ab2 hls hkp hop
  have hlz:Af l=true:=by
   unfold zP at hd;simp only[co]at hd;exact hd.1.1
  have hDi:∀k,k≠i->(listed.setIfInBounds i aC).getD k aD=listed.getD k false:=fun k hk=>by rw[hnew];simp[hk]
  have hDi':(listed.setIfInBounds i aC).getD i aD=true:=by rw[hnew];simp
  have beside:∀k m d T,mn l k m d T->(listed.setIfInBounds i aC).getD k aD=aC->(listed.setIfInBounds i aC).getD m aD=aD->k≠i->listed.getD k aD=aC/\listed.getD m aD=aD/\q.dst≠aA d:=by
   intro k m d T hp e1 e2 hki;have hmi:m≠i:=fun e=>by subst e;rw[hDi']at e2;cases e2
   refine⟨by rw[<-hDi k hki];exact e1,by rw[<-hDi m hmi];exact e2,fun e=>?_⟩;rcases(mn.writers hlz hp).2 i q hq e with e|e
   ·exact hki e.symm
   ·exact hmi e.symm
  rcases hpq with hpq|⟨T,d,x,ty,sq,rx,hop0,hdst,hgd,rfl⟩
  rotate_left
  ·obtain⟨k,d',e1,_,e3,hp,hkm,hu⟩:=PI hlz hq;cases e1;subst e3
   have hkD:listed.getD k aD=true:=by
    obtain⟨⟨ty',sq',hk⟩,_⟩:=hp;exact before k _ hkm hk (by simp[jT,lV])
   have hmD:listed.getD i aD=false:=by simpa[jr,gH bd]using hnl'
   obtain⟨g,us,f1,f2,f3,f4,f5,f6⟩:=hpend.1 k i d T hp hkD hmD;rcases hstep with⟨hw,hop,hse⟩|⟨hw,_⟩
   rotate_left
   ·cases hw
   have hwr:dP ⟨aA d,.box T x,ty,aF,aC,sq,aD⟩=true:=rfl;rw[oJ rfl]at hop;have hM:=memEq (.inr hwr) (Fs hwr);have hM':=memNew hwr;simp only[c8,obi]at hop;obtain⟨v,hv,hop⟩:=hop;split at hop
   ·cases hop
   rename_i hz0;split at hop;rotate_left
   ·cases hop
   rename_i hc;split at hop
   ·cases hop
   rename_i hna
   have hop:aA (newBox cfg.P (st i).mem T v)=aA (vs i,(st (i+1)).mem):=by
    have hd:fk aC ⟨aA d,.box T x,ty,aF,aC,sq,aD⟩=true:=rfl;rw[hd,dL]at hna;unfold tJ at hop;cases hf:kj T 0 (st i).mem with
    |none=>rw[hf]at hop;exact hop
    |some r=>rw[hf]at hna;simp at hna
   injection hop with hop
   have hvx:bv (EL (st 0).env l vs (fun k=>listed.getD k aD) ops.size) x=aA v:=by
    rw[<-hv];exact uZ fun t ht=>looks t (by simp[jE,Op.operands,ht])
   have hvr:=h1.eval x v hvx
   have hpos:0 < cfg.P.cellsOf T:=by
    rcases BF (cfg.P.cellsOf T)with h|h
    ·exact(hz0 (by simp[h])).elim
    ·exact h
   rw[hM]at h2 f5;obtain⟨w2,j2,r1,r2,r3,r4,r5,r6,r7,r8,r9,r10,r11⟩:=abH h2 f3 f4 f5 f6 hc.1 hc.2 hpos hvr;have hev:a.eval (.tmp d) = .pointer (aA ⟨g,0,aF⟩):=by simp[Act.eval,f1,jr]
   have hwt:Region.wanted o (yielded ops a.tmps)=true:=by simp[Region.wanted,hgd]
   rw[aU hwt];refine Az (Post:=fun u w'=>w'=w2) (fun c h=>by rw[hop0]at h;cases h) ?_ ?_
   ·unfold execOp;simp only[hop0,hev,Sem.run_bind,r1,Result.andThen_ok];rfl
   ·rintro u w' rfl;have e0:a.put o.dst u=a:=by rw[hdst];rfl
    rw[e0];have hm2:(newBox cfg.P (st i).mem T v).2=(st (i+1)).mem:=ef Prod.snd hop;have hv2:(newBox cfg.P (st i).mem T v).1=vs i:=ef Prod.fst hop;rw[hM]at h3;have hlt2:g < w1.heap.size:=(hJ.1 f3).1;refine ih _ _ w' hsz' cnt cl ⟨Z1,j2,?_,?_,?_,h4.trans r4,?_⟩ hkp
    ·rw[envEq];exact(h1.mono r5 r4).fill f1 (hv2 ▸ r3)
    ·rw[hM',<-hm2];exact r2
    ·rw[hM',<-hm2]
     exact⟨r8.trans h3.os,r9.trans h3.tape,r10.trans h3.output,by rw[r7];exact h3.size,fun g' hg' hn=>⟨(r6 g' (by omega)).trans (h3.keep g' hg' hn).1,(h3.keep g' hg' hn).2⟩,fun g' hg' ho=>by
      rcases r11 g' (si hg' h3.size) ho with ho|ho
      ·exact h3.owned g' hg' ho
      ·omega,h3.z.trans r5,fun t h=>⟨((h3.ar t h).1).newBox _ _,(h3.ar t h).2⟩⟩
    ·rw[hM',<-hm2];rw[hM]at hpend;refine⟨fun k' m' d' T' hp' e1 e2=>?_,fun k' m' d' T' k'' m'' d'' T'' g' hp' e1 e2 hp'' e1' e2' hne hf hf'=>?_⟩
     ·have hki:k'≠i:=by
       rintro rfl;obtain⟨⟨_,_,hk'⟩,_⟩:=hp';rw[hq]at hk';cases hk'
      obtain⟨c1,c2,c3⟩:=beside k' m' d' T' hp' e1 e2 hki;obtain⟨g',us',p1,p2,p3,p4,p5,p6⟩:=hpend.1 k' m' d' T' hp' c1 c2
      have hgg:g'≠g:=by
       rintro rfl;exact hpend.2 k i d T k' m' d' T' g' hp hkD hmD hp' c1 c2 (fun e=>c3 (by rw[e])) ⟨us,f1,f2,f3,f4,f5,f6⟩ ⟨us',p1,p2,p3,p4,p5,p6⟩
      exact⟨g',us',p1,p2,(r6 g' hgg).trans p3,p4,fun ho=>by
       rcases r11 g' (hJ.1 p3).1 ho with ho|ho
       ·exact p5 ho
       ·exact hgg ho,p6⟩
     ·have hki:∀k' m' d' T',mn l k' m' d' T'->k'≠i:=by
       rintro k' m' d' T' hp' rfl;obtain⟨⟨_,_,hk'⟩,_⟩:=hp';rw[hq]at hk';cases hk'
      obtain⟨c1,c2,_⟩:=beside k' m' d' T' hp' e1 e2 (hki _ _ _ _ hp');obtain⟨c1',c2',_⟩:=beside k'' m'' d'' T'' hp'' e1' e2' (hki _ _ _ _ hp'');obtain⟨g1,hg1⟩:=hpend.1 k' m' d' T' hp' c1 c2;obtain⟨g2,hg2⟩:=hpend.1 k'' m'' d'' T'' hp'' c1' c2';have q1:=iB.same hg1 rfl hf;have q2:=iB.same hg2 rfl hf';subst q1;subst q2;exact hpend.2 k' m' d' T' k'' m'' d'' T'' _ hp' c1 c2 hp'' c1' c2' hne hg1 hg2
  obtain⟨g,bx,sq,rx,rfl,hg⟩:=id hpq;rcases hstep with⟨hw,hop,_⟩|⟨hw,hv,hm,_⟩
  ·have hwt:=Fl hpq h1 (hwe.trans hw);rw[aU hwt]
   have hop2:eB cfg call (fk aC ⟨o.dst,o.op,o.type,g,bx,sq,rx⟩) ⟨o.dst,o.op,o.type,g,bx,sq,rx⟩ (EL (st 0).env l vs (fun k=>listed.getD k aD) ops.size) (ML l st (fun k=>listed.getD k aD) ops.size)=aA (vs i,ML l st (fun k=>(listed.setIfInBounds i aC).getD k aD) ops.size):=by
    rw[ada (e2:=(st i).env) fun x hx=>uZ fun t ht=>looks t (by
     simp only[jE,cz,wA];exact .inl ⟨x,by simpa using hx,by rw[ht]⟩)]
    by_cases hwr:dP ⟨o.dst,o.op,o.type,g,bx,sq,rx⟩=aC
    ·rw[memEq (.inr hwr) (Fs hwr),memNew hwr];exact hop
    ·have hwr':dP ⟨o.dst,o.op,o.type,g,bx,sq,rx⟩=false:=by simpa using hwr
     have hme:=IH hwr' hop
     by_cases hrd:p8 ⟨o.dst,o.op,o.type,g,bx,sq,rx⟩=aC
     ·by_cases hbx:kg ⟨o.dst,o.op,o.type,g,bx,sq,rx⟩=aC
      ·exact loads hbx hop
      ·by_cases hls:jX ⟨o.dst,o.op,o.type,g,bx,sq,rx⟩=aC
       ·exact loads2 hls hop
       ·rw[memOld hwr',memEq (.inl hrd) (by unfold ld;rw[qu];exact⟨by simpa using hbx,by simpa using hls⟩),<-hme];rw[hme]at hop |-
        exact hop
     ·rw[memOld hwr'];exact acX hwr' (by simpa using hrd) hop _
   by_cases hal:∃T,o.op = .alloc T/\bx=aC/\rx=aD
   ·obtain⟨T,hoT,rfl,rfl⟩:=hal;have hop3:=hop2;rw[oJ rfl]at hop3;simp only[c8,hoT,obi]at hop3;obtain⟨z,hz,hop3⟩:=hop3;split at hop3;rotate_left
    ·cases hop3
    rename_i hc;simp only[cZ,Option.some.injEq,Prod.mk.injEq]at hop3;obtain⟨hvj,hmm⟩:=hop3;obtain⟨us,r1,r2⟩:=PH (w:=w1) hz hc.1 hc.2;refine Az (Post:=fun u w'=>u = .pointer (aA ⟨w1.heap.size,0,aF⟩)/\w'=w1.alloc (.cells us T)) (IP hop2) ?_ ?_
    ·unfold execOp;simp only[hoT];exact fo r1 ⟨rfl,rfl⟩
    ·rintro u w2 ⟨rfl,rfl⟩;have stp:=bh.alloc h2 (.cells us T);have hmm':ML l st (fun k=>(listed.setIfInBounds i aC).getD k aD) ops.size=ML l st (fun k=>listed.getD k aD) ops.size:=hmm.symm;refine ih _ _ _ hsz' cnt cl ⟨Z1,j1,?_,by rw[hmm'];exact h2.alloc _,by rw[hmm'];exact h3.trans stp,h4,?_⟩ (hkp.put (o:=⟨o.dst,o.op,o.type,g,aC,sq,aD⟩) (dx hq) _)
     ·rw[envEq,<-hvj];exact(h1.mono stp.z (bE.refl _)).put o.dst .junk
     ·rw[hmm']
      have hold:∀k m d T',mn l k m d T'->(listed.setIfInBounds i aC).getD k aD=aC->(listed.setIfInBounds i aC).getD m aD=aD->k≠i->∃g,iB cfg.P w.heap.size Z1 w1 j1 (ML l st (fun k=>listed.getD k aD) ops.size) a d T' g/\iB cfg.P w.heap.size Z1 (w1.alloc (.cells us T)) j1 (ML l st (fun k=>listed.getD k aD) ops.size) (a.put o.dst (.pointer (aA ⟨w1.heap.size,0,aF⟩))) d T' g/\listed.getD k aD=aC/\listed.getD m aD=false:=by
       intro k m d T' hp e1 e2 hki;obtain⟨c1,c2,c3⟩:=beside k m d T' hp e1 e2 hki;obtain⟨g,hg⟩:=hpend.1 k m d T' hp c1 c2;exact⟨g,hg,hg.step stp (Jf c3 _),c1,c2⟩
      have hnewF:∀m d T',mn l i m d T'->iB cfg.P w.heap.size Z1 (w1.alloc (.cells us T)) j1 (ML l st (fun k=>listed.getD k aD) ops.size) (a.put o.dst (.pointer (aA ⟨w1.heap.size,0,aF⟩))) d T' w1.heap.size:=by
       intro m d T' hp;obtain⟨⟨ty',sq',hk⟩,_⟩:=hp;rw[hq]at hk;simp only[Option.some.injEq,bj.mk.injEq]at hk;obtain⟨hd1,hd2,_⟩:=hk;rw[hoT]at hd2;cases hd2
       have hdl:d < a.tmps.size:=by
        have e1:=h1.len;rw[wu]at e1
        have e2:∀n,n<=ops.size->(st n).env.length=(st 0).env.length:=by
         intro n
         induction n with
         |zero=>intro _;rfl
         |succ n ihn =>
          intro hn;have hon:l[n]? = aA (l[n]'(by omega)):=cj (by omega);rw[Bb (htr n _ hon),Tv,ihn (by omega)]
        unfold s6 at hchk;rw[co]at hchk;have e3:=eJ.1 hchk.1 _ (dx hq);rw[hoT,hd1]at e3;simp only[qU,qt,bK,gq,uC,o7]at e3;rw[e2 ops.size (c7 _)]at e3;omega
       refine⟨us,?_,h3.size,heap_alloc_new w1 _,r2,fun ho=>?_,fun o ho=>?_⟩
       ·rw[hd1];show(a.tmps.setIfInBounds d _)[d]? = _;rw[Array.getElem?_setIfInBounds_self_of_lt hdl]
       ·have:=bM.lt h2 ho;omega
       ·have:=h2.zin _ _ ho;omega
      refine⟨fun k m d T' hp e1 e2=>?_,fun k m d T' k' m' d' T'' g' hp e1 e2 hp' e1' e2' hne hf hf'=>?_⟩
      ·by_cases hki:k=i
       ·subst hki;exact⟨_,hnewF m d T' hp⟩
       ·obtain⟨g,_,hg,_⟩:=hold k m d T' hp e1 e2 hki;exact⟨g,hg⟩
      ·by_cases hki:k=i
       ·subst hki
        have hki':k'≠k:=by
         rintro rfl;obtain⟨⟨_,_,a1⟩,_⟩:=hp;obtain⟨⟨_,_,a2⟩,_⟩:=hp';rw[a1]at a2;simp only[Option.some.injEq,bj.mk.injEq]at a2;exact hne a2.1
        obtain⟨g2,hg2,hg3,_⟩:=hold k' m' d' T'' hp' e1' e2' hki';have q1:=iB.same (hnewF m d T' hp) rfl hf;have q2:=iB.same hg3 rfl hf';obtain⟨_,_,_,p3,_⟩:=hg2;have:=(hJ.1 p3).1;omega
       ·by_cases hki':k'=i
        ·subst hki';obtain⟨g2,hg2,hg3,_⟩:=hold k m d T' hp e1 e2 hki;have q1:=iB.same (hnewF m' d' T'' hp') rfl hf';have q2:=iB.same hg3 rfl hf;obtain⟨_,_,_,p3,_⟩:=hg2;have:=(hJ.1 p3).1;omega
        ·obtain⟨g1,hg1,hg1',c1,c2⟩:=hold k m d T' hp e1 e2 hki;obtain⟨g2,hg2,hg2',c1',c2'⟩:=hold k' m' d' T'' hp' e1' e2' hki';have q1:=iB.same hg1' rfl hf;have q2:=iB.same hg2' rfl hf';subst q1;subst q2;exact hpend.2 k m d T' k' m' d' T'' _ hp c1 c2 hp' c1' c2' hne hg1 hg2
   have noPair:∀m d T,¬mn l i m d T:=by
    rintro m d T ⟨⟨ty',sq',hk⟩,_⟩;rw[hq]at hk;simp only[Option.some.injEq,bj.mk.injEq]at hk;exact hal ⟨T,hk.2.1,hk.2.2.2.2.1,hk.2.2.2.2.2.2⟩
   have hres:=QJ hp hi h2 h1.eval hop2;refine Az (IP hop2) hres ?_;rintro u w2 ⟨Z2,j2,q1,q2,q3,q4⟩;refine ih _ _ w2 hsz' cnt cl ⟨Z2,j2,?_,q2,h3.trans q3,h4.trans q4,hpend.step q3 fun k m d T hp e1 e2=>?_⟩ (hkp.put (o:=⟨o.dst,o.op,o.type,g,bx,sq,rx⟩) (dx hq) u)
   ·rw[envEq];exact(h1.mono q3.z q4).put o.dst q1
   ·obtain⟨c1,c2,c3⟩:=beside k m d T hp e1 e2 (fun e=>by subst e;exact noPair m d T hp);exact⟨c1,c2,Jf c3 _⟩
  ·have hwt:=Fl hpq h1 (hwe.trans hw);rw[aY (by rw[hwt];simp)]
   have hmm:ML l st (fun k=>(listed.setIfInBounds i aC).getD k aD) ops.size=ML l st (fun k=>listed.getD k aD) ops.size:=by
    by_cases hwr:dP ⟨o.dst,o.op,o.type,g,bx,sq,rx⟩=aC
    ·rw[memNew hwr,hm,memEq (.inr hwr) (Fs hwr)]
    ·exact memOld (by simpa using hwr)
   refine⟨fun _ _=>trivial,ih _ _ w1 hsz' cnt cl ⟨Z1,j1,?_,by rw[hmm];exact h2,by rw[hmm];exact h3,h4,?_⟩ (hkp.put (o:=⟨o.dst,o.op,o.type,g,bx,sq,rx⟩) (dx hq) undef)⟩
   ·rw[envEq,hv];exact h1.put o.dst (.tup (us:=[]) rfl fun i c u hc=>by simp at hc)
   ·rw[hmm];refine hpend.step (bh.refl _ _ _ _) fun k m d T hp e1 e2=>?_
    obtain⟨c1,c2,c3⟩:=beside k m d T hp e1 e2 (fun e=>by
     subst e;obtain⟨⟨ty',sq',hk⟩,_⟩:=hp;rw[hq]at hk;simp only[Option.some.injEq,bj.mk.injEq]at hk;have hg0:g=none:=hk.2.2.2.1;subst hg0;cases hw)
    exact⟨c1,c2,Jf c3 _⟩
theorem ado{r:Option Nat}{n:Nat}{ops:Array dF}{Q:Exit->Act->be->Prop}{Inv:(Nat->Bool)->Act->be->Prop}
  (hbind:∀k o,ops[k]? = aA o->∀e∈o.after,Region.binds .any e=aC->e.on < k)
  (hdone:∀D a w,(∀k,k < ops.size->D k=aC)->Inv D a w->Q .normal a w)
  (hstep:∀D a w i o,ops[i]? = aA o->D i=aD->wq ops D->(∀e∈o.after,Region.binds .any e=aC->D e.on=aC)->Inv D a w ->
   Region.wanted o (yielded ops a.tmps)=aC/\(∀c,o.op≠.defer c)/\m4 P (fun u w'=>Inv (fun k=>D k ||decide (k=i)) (a.put o.dst u) w') ((execOp a.eval o).run P w)) :
  ∀(fuel:Nat) (listed:Array Bool) (a:Act) (w1:be),listed.size=ops.size->listed.toList.count aD<=fuel->wq ops (fun k=>listed.getD k aD)->Inv (fun k=>listed.getD k aD) a w1 ->
   wpAnyIn (FR r) n P .any ops Q fuel listed a w1:=by
 have get:∀(listed:Array Bool) k (h:k < listed.size),listed.getD k aD=listed[k]:=fun listed k h=>by simp[jr,gH h]
 have notdone:∀(listed:Array Bool),listed.size=ops.size->Region.ready .any ops listed=[]->∀k,k < ops.size->listed.getD k aD=true:=by
  intro listed hsz hr k
  induction k using Nat.strongRecOn with
  |_ k ih =>
   intro hk
   by_cases h:listed.getD k aD=aC
   ·exact h
   ·exfalso;have bA:ops[k]? = aA ops[k]:=gH hk
    have:k∈Region.ready .any ops listed:=by
     rw[mem_ready];refine⟨?_,ops[k],bA,fun e he hb=>?_⟩
     ·rw[get listed k (by omega)]at h;simpa[jr,gH (show k < listed.size by omega)]using h
     ·have h2:=hbind k _ bA e he hb;exact ih e.on h2 (by omega)
    rw[hr]at this;simp at this
 intro fuel
 induction fuel with
 |zero =>
  intro listed a w1 hsz hcnt hcl hinv
  have hall:∀k,k < ops.size->listed.getD k aD=true:=by
   intro k hk;have bd:k < listed.size:=by omega
   have h0:listed.toList.count aD=0:=by omega
   have:=List.count_eq_zero.1 h0;have h2:listed[k]∈listed.toList:=by simp
   rw[get listed k bd];cases hb:listed[k]with
   |true=>rfl
   |false=>rw[hb]at h2;exact(this h2).elim
  refine⟨?_,hdone _ a w1 hall hinv⟩;apply Uz.2;intro i hi';rw[mem_ready]at hi';obtain⟨h1,o,ho,_⟩:=hi';have bd:i < ops.size:=(hJ.1 ho).1;have h2:=hall i bd;have hlt':i < listed.size:=by omega
  simp[jr,gH hlt']at h1 h2;rw[h1]at h2;cases h2
 |succ fuel ih =>
  intro listed a w1 hsz hcnt hcl hinv;refine⟨fun hr=>hdone _ a w1 (notdone listed hsz hr) hinv,fun i hir=>?_⟩;rw[mem_ready]at hir;obtain⟨hnl,o,ho,hall⟩:=hir;have hin:i < ops.size:=(hJ.1 ho).1;have bd:i < listed.size:=by omega
  have hnl':listed[i]=false:=by simpa[jr,gH bd]using hnl
  have hnew:(fun k=>(listed.setIfInBounds i aC).getD k aD)=fun k=>listed.getD k aD ||decide (k=i):=by
   funext k;simp only[jr,Fx]
   by_cases h:i=k
   ·subst h;simp[bd]
   ·have:¬k=i:=fun e=>h e.symm
    simp[h,this]
  have cnt:(listed.setIfInBounds i aC).toList.count aD<=fuel:=by
   have e:(listed.setIfInBounds i aC).toList=listed.toList.set i true:=by simp
   rw[e,List.count_set]
   ·have h1:listed.toList[i]'(by simpa using bd)=false:=by simpa using hnl'
    rw[h1];have h2:((true:Bool)==aD)=false:=rfl;rw[h2,aU (fj aD),aY (by simp)];have:0 < listed.toList.count false:=List.count_pos_iff.2 (by rw[<-hnl'];simp);omega
   ·simpa using bd
  have cl:wq ops (fun k=>(listed.setIfInBounds i aC).getD k aD):=by
   rw[hnew];intro k ok bA hD e he hb
   by_cases h:k=i
   ·subst h;rw[ho]at bA;cases bA;simp[hall e he hb]
   ·have h2:decide (k=i)=false:=by simp[h]
    simp only[h2,j9]at hD;have h3:listed.getD e.on aD=true:=hcl k ok bA hD e he hb;show(listed.getD e.on aD ||_)=aC;rw[h3,lh]
  obtain⟨hwt,hnd,bA⟩:=hstep _ a w1 i o ho (by rw[get listed i bd];exact hnl') hcl hall hinv;unfold wpOpIn;simp only[ho];rw[aU hwt];refine Az hnd bA fun u w' hu=>ih _ _ w' (by simpa using hsz) cnt cl (by rw[hnew];exact hu)
theorem SR.slot(s:SR P Z w j mem){id:Nat}(hm:mem[id]? = aA .dead)(hj:j id=aF){w1:be}{ob:Obj}(hh:w1.heap=w.heap.push ob)(hos:w1.os=w.os)(htape:w1.tape=w.tape)(hout:w1.output=w.output)
  (n:Nat) {h:cE} (hb:∀g,h.blk=aA g->g=w.heap.size) {o:O} (ho:OR P (iC Z w.heap.size n) w1 (fp j id h) id o) (har:o.ar=none:=by rfl) :
  SR P (iC Z w.heap.size n) w1 (fp j id h) (mem.set id o)/\bh Z w j mem (iC Z w.heap.size n) w1 (fp j id h) (mem.set id o)/\bE j (fp j id h):=by
 have hz:=bO.heap (Z:=Z) hh s.zin n;have iff:∀g,g < w.heap.size->∀o,iC Z w.heap.size n g o↔Z g o:=fun g hg o=>⟨fun h=>h.resolve_right fun h=>by omega,.inl⟩
 have hsz:w1.heap.size=w.heap.size+1:=by rw[hh];simp
 have bd:id < mem.length:=(bX.1 hm).1
 have s1:SR P (iC Z w.heap.size n) w1 j mem:=s.world hz (fun g hg=>⟨mM hh (bM.lt s hg),iff g (bM.lt s hg)⟩) (fun g o h=>by
  rcases h with h|h
  ·have:=s.zin g o h;omega
  ·omega)
 have je:bE j (fp j id h):=by
  intro k x hx
  by_cases e:k=id
  ·rw[e,hj]at hx;cases hx
  ·rw[ug j h e];exact hx
 have side:∀(k:Nat) (x:O) (g:Nat),(mem.set id o)[k]? = aA x->bQ (iC Z w.heap.size n) (fp j id h) k x g->(k=id/\g=w.heap.size)∨(mem[k]? = aA x/\bQ Z j k x g):=by
  intro k x g hx hg
  by_cases e:id=k
  ·subst e;rw[gR bd]at hx;cases hx;have hg:=(bQ.plain har).1 hg;unfold dj at hg;rw[gZ]at hg;exact .inl ⟨rfl,hb g hg⟩
  ·rw[ia e]at hx;exact .inr ⟨hx,(bQ.eqA rfl).1 ((bQ.jeq (ug j h (fun h=>e h.symm))).1 hg)⟩
 refine⟨⟨fun k x hx=>?_,fun k k' x x' g hx hx' hl hl' hg hg'=>?_,fun k hk=>?_,s1.zin⟩,⟨hos,htape,hout,by omega,fun g hg _=>⟨mM hh hg,iff g hg⟩,fun g hg ⟨k,x,hx,hl,hgb⟩=>?_,hz,fun t hn=>⟨hn.set hm (fun n e=>gU (har.symm.trans e) (by simp)),rfl⟩⟩,je⟩
 ·by_cases e:id=k
  ·subst e;rw[gR bd]at hx;cases hx;exact ho
  ·rw[ia e]at hx;exact(s1.obj k x hx).mono (bO.refl _ _) je (fun _ _=>⟨rfl,fun _=>Iff.rfl⟩) (fun _ _ _=>rfl)
 ·rcases side k x g hx hg with⟨rfl,e⟩|⟨h1,h2⟩<;>rcases side k' x' g hx' hg' with⟨rfl,e'⟩|⟨h1',h2'⟩
  ·rfl
  ·have:=bM.lt s ⟨k',x',h1',hl',h2'⟩;omega
  ·have:=bM.lt s ⟨k,x,h1,hl,h2⟩;omega
  ·exact s.inj k k' x x' g h1 h1' hl hl' h2 h2'
 ·rw[gS]at hk;rw[ug j h (by omega)];exact s.out k hk
 ·rcases side k x g hx hgb with⟨_,e⟩|⟨h1,h2⟩
  ·omega
  ·exact⟨k,x,h1,hl,h2⟩
theorem aeY(s:SR P Z w j mem){id:Nat}(hm:mem[id]? = aA .dead)(hj:j id=aF){w1:be}{t:aO}{us:Array aR}{els:List V}{c:Nat}(hh:w1.heap=w.heap.push (.cells us t))(hos:w1.os=w.os)(htape:w1.tape=w.tape)(hout:w1.output=w.output)
  (hpos:0 < P.cellsOf t) (hels:∀x∈els,x.cells.length=P.cellsOf t) (hlc:els.length<=c) (hc:c<=f8) (hus:us.size=c * P.cellsOf t)
  (hcl:∀(k:Nat) (x:V) (i:Nat) (y:V),els[k]? = aA x->x.cells[i]? = aA y->y.one=aC/\∃u,us[k * P.cellsOf t+i]? = aA u/\VR Z w j0 y u) :
  ∃Z' h,VR Z' w1 (fp j id h) (.own id) (.slice (aA ⟨w.heap.size,0,aF⟩) els.length c)/\SR P Z' w1 (fp j id h) (mem.set id (.row t els 0))/\bh Z w j mem Z' w1 (fp j id h) (mem.set id (.row t els 0))/\bE j (fp j id h):=by
 obtain⟨s1,st,je⟩:=s.slot hm hj hh hos htape hout (0 * P.cellsOf t) (h:=⟨.slice (aA ⟨w.heap.size,0,aF⟩) els.length c,P.cellsOf t⟩) (by simp[cE.blk]) (o:=.row t els 0) (R7 s.zin id hh hpos hels (jQ _) hlc hc hus hcl);exact⟨_,_,.own (gZ _ _ _) (fun a ha=>by cases ha;rfl),s1,st,je⟩
def MF(l:List bj)(st:Nat->S)(D:Nat->Bool):Nat->List O
 |0=>(st 0).mem
 |k+1=>if gO l k then MF l st D k++[if D k then ((st (k+1)).mem[(st k).mem.length]?).getD .dead else .dead] else MF l st D k
theorem aao{ops:Array dF}{l:List bj}(h:C4 ops l=aC):(∀k o,ops[k]? = aA o->∀e∈o.after,Region.binds .any e=aC->e.on < k) /\
  (∀i k oi ok,i < k->l[i]? = aA oi->l[k]? = aA ok->lV oi ok=aC->i∈(kH ops.toList []).getD k []) /\
  ∀o∈l,o.guard=aF/\o.rx=aD/\((∃x,o.op = .assign x/\o.bx=aD)∨∃t n c,o.op = .makeSlice t n c):=by
 simp only[C4,co,eJ,Bw]at h;obtain⟨⟨h0,h1⟩,h2⟩:=h;refine⟨fun k o ho e he hb=>?_,fun i k oi ok hik hi hk hc=>?_,fun o ho=>?_⟩
 ·have:=h1 (o,k) (by rw[UB];simpa using ho) e (by simpa using he);simpa[hb]using this
 ·have hkl:k < l.length:=(bX.1 hk).1;have:=h2 k hkl i hik;simp only[hi,hk,hc,bK,gq]at this;simpa using this
 ·have:=h0 o ho;simp only[FT,kE]at this;obtain⟨⟨a,b⟩,c⟩:=this;refine⟨a,b,?_⟩;cases hop:o.op<;>simp only[hop]at c<;>first|(cases c;done)|skip
  ·exact .inl ⟨_,rfl,by simpa using c⟩
  ·exact .inr ⟨_,_,_,rfl⟩
theorem SR.dead(s:SR P Z w j mem):SR P Z w j (mem++[.dead])/\bh Z w j mem Z w j (mem++[.dead]):=by
 have old:∀(k:Nat) (x:O),(mem++[O.dead])[k]? = aA x->x.live=aC->mem[k]? = aA x:=by
  intro k x hx hl
  by_cases e:k < mem.length
  ·rwa [eK e]at hx
  ·rw[eO (by omega)]at hx;rcases BF (k - mem.length)with e0|e0
   ·rw[e0]at hx;cases hx;cases hl
   ·rw[rY (by simp;omega)]at hx;cases hx
 refine⟨⟨fun k x hx=>?_,fun k k' x x' g hx hx' hl hl'=>s.inj k k' x x' g (old k x hx hl) (old k' x' hx' hl') hl hl',fun k hk=>s.out k (by simp at hk;omega),s.zin⟩,
  ⟨rfl,rfl,rfl,c7 _,fun _ _ _=>⟨rfl,fun _=>Iff.rfl⟩,fun _ _ ⟨k,x,hx,hl,hg⟩=>⟨k,x,old k x hx hl,hl,hg⟩,bO.refl _ _,fun t hn=>⟨hn.add rfl,rfl⟩⟩⟩
 by_cases hl:x.live=aC
 ·exact s.obj k x (old k x hx hl)
 ·cases x<;>first|exact True.intro|(simp[O.live]at hl)
theorem P9{t:aO}{a b v:V}(h:qX P mem t a b=aA (v,mem')):v = .own mem.length/\∃ob,mem'=mem++[ob]:=by
 unfold qX at h;simp only[obi]at h;obtain⟨_,_,h⟩:=h;split at h
 ·split at h
  ·simp only[obi,omi]at h;obtain⟨_,_,_,_,h⟩:=h;cases h;exact⟨rfl,_,rfl⟩
  ·cases h
 ·cases h
section
variable {l:List bj}{st:Nat->S}
def rU(l:List bj)(st:Nat->S):Prop:=∀k,k < l.length->(gO l k=aC/\∃ob,(st (k+1)).mem=(st k).mem++[ob])∨(gO l k=aD/\(st (k+1)).mem=(st k).mem)
theorem rU.le(h:rU l st)(n:Nat):∀d,n+d<=l.length->(st n).mem.length<=(st (n+d)).mem.length:=by
 intro d
 induction d with
 |zero=>intro _;exact c7 _
 |succ d ih =>
  intro hd;have:=ih (by omega);rcases h (n+d) (by omega)with⟨_,ob,e⟩|⟨_,e⟩<;>rw[<-jP,e]<;>simp<;>omega
theorem rU.lt(h:rU l st){i k:Nat}(hi:gO l i=aC)(hik:i < k)(hk:k<=l.length):(st i).mem.length < (st k).mem.length:=by
 have h1:=h.le (i+1) (k - (i+1)) (by omega);rw[show i+1+(k - (i+1))=k by omega]at h1;rcases h i (by omega)with⟨_,ob,e⟩|⟨e,_⟩
 ·rw[e]at h1;simp at h1;omega
 ·rw[e]at hi;cases hi
theorem Ul{k:Nat}(h:gO l k=aC):k < l.length:=by
 unfold gO at h;split at h
 ·rename_i e;exact(bX.1 e).1
 ·cases h
theorem UD(h:rU l st)(D:Nat->Bool):∀n,n<=l.length->(MF l st D n).length=(st n).mem.length:=by
 intro n
 induction n with
 |zero=>intro _;rfl
 |succ n ih =>
  intro hn;have:=ih (by omega);simp only[MF];rcases h n (by omega)with⟨e1,ob,e⟩|⟨e1,e⟩<;>rw[e1,e]<;>simp[this]
theorem UC(h:rU l st){D:Nat->Bool}:∀n,n<=l.length->(∀k,k < n->D k=aC)->MF l st D n=(st n).mem:=by
 intro n
 induction n with
 |zero=>intro _ _;rfl
 |succ n ih =>
  intro hn hD;have:=ih (by omega) fun k hk=>hD k (by omega)
  simp only[MF,this];rcases h n (by omega)with⟨e1,ob,e⟩|⟨e1,e⟩<;>rw[e1,e]<;>simp[hD n (by omega)]
theorem Lr{D:Nat->Bool}{i:Nat}(hi:gO l i=aD):∀n,MF l st (fun k=>D k ||decide (k=i)) n=MF l st D n:=by
 intro n
 induction n with
 |zero=>rfl
 |succ n ih =>
  simp only[MF,ih]
  by_cases e:n=i
  ·subst e;rw[hi];rfl
  ·simp[e]
theorem UF(h:rU l st){D:Nat->Bool}{i:Nat}{ob:O}(hi:gO l i=aC)(hD:D i=aD)(hob:(st (i+1)).mem=(st i).mem++[ob]):∀n,n<=l.length->(n<=i->MF l st (fun k=>D k ||decide (k=i)) n=MF l st D n) /\
  (i < n->MF l st (fun k=>D k ||decide (k=i)) n=(MF l st D n).set (st i).mem.length ob/\(MF l st D n)[(st i).mem.length]? = aA .dead):=by
 intro n
 induction n with
 |zero=>intro _;exact⟨fun _=>rfl,fun h=>by omega⟩
 |succ n ih =>
  intro hn;obtain⟨h1,h2⟩:=ih (by omega);refine⟨fun hle=>?_,fun bd=>?_⟩
  ·have e:¬n=i:=by omega
   simp only[MF,h1 (by omega)];simp[e]
  ·have hlen:=UD h D n (by omega)
   by_cases e:n=i
   ·subst e;simp only[MF,h1 (c7 _),hi,hD,cZ,hob];have e1:(MF l st D n).length=(st n).mem.length:=hlen;simp[e1]
   ·obtain⟨h3,h4⟩:=h2 (by omega);have hl:=h.lt hi (show i < n by omega) (by omega);simp only[MF,h3];cases hw:gO l n
    ·exact⟨rfl,h4⟩
    ·simp only[cZ,e,decide_false,j9];have hl':(st i).mem.length < (MF l st D n).length:=by rw[hlen];exact hl
     rw[List.set_append,aU hl',eK hl'];exact⟨rfl,h4⟩
theorem UE(s:SR P Z w j (st 0).mem):∀n,SR P Z w j (MF l st (fun _=>aD) n)/\bh Z w j (st 0).mem Z w j (MF l st (fun _=>aD) n):=by
 intro n
 induction n with
 |zero=>exact⟨s,bh.refl _ _ _ _⟩
 |succ n ih =>
  simp only[MF];split
  ·exact⟨ih.1.dead.1,ih.2.trans ih.1.dead.2⟩
  ·exact ih
end
theorem aar{r:Option Nat}{n:Nat}{cfg:bS}{call:de}{ops:Array dF}{Q:Exit->Act->be->Prop}{l:List bj}{vs:Nat->V}{st:Nat->S}{a0:Act}
  (hl:n4 ops ops.toList l) (hd:C4 ops l=aC) (htr:∀(k:Nat) (o:bj),l[k]? = aA o->lp cfg call o (st k) (vs k) (st (k+1)))
  (hQ:∀a' w',yW cfg.P Z w j (st 0).mem (st ops.size) a' w'->gQ l a0 a'->Q .normal a' w')
  (fuel:Nat) (listed:Array Bool) (a:Act) {w1:be} (hsz:listed.size=ops.size) (hcnt:listed.toList.count aD<=fuel) (hno:∀k,listed.getD k aD=aD)
  (hst:St Z w1 j (st 0).env a) (sr:SR cfg.P Z w1 j (st 0).mem) (stp:bh Z w j (st 0).mem Z w1 j (st 0).mem) (hkp:gQ l a0 a) :
   wpAnyIn (FR r) n cfg.P .any ops Q fuel listed a w1:=by
 have hll:l.length=ops.size:=by have:=hl.1;simpa using this
 obtain⟨hbind,hclash,hops⟩:=aao hd
 have wrA_mk:∀{q:bj} {t:aO} {x c:fi},q.rx=aD->q.op = .makeSlice t x c->dP q=true:=by
  intro q t x c hx hop;simp[dP,hx,hop,lc,pL,vj,qU]
 have wrA_as:∀{q:bj} {x:fi},q.op = .assign x->dP q=false:=by
  intro q x hop;simp[dP,hop,lc,gl]
 have gr:rU l st:=by
  intro k hk;have hq:l[k]? = aA l[k]:=cj hk;obtain⟨hg,hx,h⟩:=hops _ (dx hq);rcases htr k _ hq with⟨_,hop,_⟩|⟨hw,_⟩
  rotate_left
  ·rw[hg]at hw;simp[fI]at hw
  rw[oJ hx]at hop;rcases h with⟨x,e,hb⟩|⟨t,x,c,e⟩
  ·refine .inr ⟨by simp only[gO,hq,wrA_as e],?_⟩;exact Qr (cfg:=cfg) (call:=call) (o:=l[k]) (by simp[e,lc]) (by simp[e,gl]) (by simpa[fk,e,gl]using hop)
  ·refine .inl ⟨by simp only[gO,hq,wrA_mk hx e],?_⟩;simp only[c8,e,obi]at hop;obtain⟨_,_,_,_,hop⟩:=hop;exact(P9 hop).2
 have dst_of:∀k t,mG l k=aA t->∃ok,l[k]? = aA ok/\ok.dst=aA t:=by
  intro k t hk;unfold mG at hk;cases hlk:l[k]? with
  |none=>simp[hlk]at hk
  |some qk =>
   simp[hlk]at hk;exact⟨qk,rfl,hk⟩
 have i0:(fun k=>listed.getD k aD)=fun _=>false:=funext hno
 refine ado (Inv:=fun D a w1=>gQ l a0 a/\∃Z1 j1,St Z1 w1 j1 (EL (st 0).env l vs D ops.size) a/\SR cfg.P Z1 w1 j1 (MF l st D ops.size)/\bh Z w j (st 0).mem Z1 w1 j1 (MF l st D ops.size)/\bE j j1 /\
   ∀k,gO l k=aC->D k=aD->j1 (st k).mem.length=aF) hbind ?_ ?_ fuel listed a w1 hsz hcnt (fun k o _ hk=>gU ((hno k).symm.trans hk) (by simp)) ?_
 ·rintro D a w1 hall ⟨hkp,Z1,j1,h1,h2,h3,h4,_⟩
  have eE:EL (st 0).env l vs D ops.size=(st ops.size).env:=by
   rw[<-(oW htr ops.size (by omega)).1];apply uw;intro t;exact rS _ fun k hk _=>hall k hk
  rw[eE]at h1;rw[UC gr _ (by omega) hall]at h2 h3;exact hQ a w1 ⟨Z1,j1,h1,h2,h3,h4⟩ hkp
 ·rintro D a w1 i o ho hDi hcl hall ⟨hkp,Z1,j1,h1,h2,h3,h4,h5⟩;have hin:i < ops.size:=(hJ.1 ho).1;obtain⟨q,hq,hpq⟩:=Q9 hl ho;have hanc:∀k,k∈(kH ops.toList []).getD i []->D k=true:=zI hcl i o ho hall;have before:∀k ok,k < i->l[k]? = aA ok->lV ok q=aC->D k=true:=fun k ok hki hk hc=>hanc k (hclash k i ok _ hki hk hq hc)
  have behind:∀k ok,i < k->l[k]? = aA ok->lV q ok=aC->D k=false:=by
   intro k ok hik hk hc;cases hb:D k with
   |false=>rfl
   |true =>
    have hkl:k < ops.size:=by rw[<-hll];exact(bX.1 hk).1
    have:=zI hcl k ops[k] (gH hkl) (fun e he hbb=>hcl k _ (gH hkl) hb e he hbb) i (hclash i k _ ok hik hq hk hc);rw[hDi]at this;cases this
  have looks:∀t,t∈jE q->(EL (st 0).env l vs D ops.size)[t]? = (st i).env[t]?:=by
   intro t ht;have ht':=ht;rw[<-(oW htr i (by omega)).1,<-Bo i ops.size (by omega)];refine rS _ fun k hk hdk=>?_
   obtain⟨ok,bA,hdo⟩:=dst_of k t hdk;rcases y8 k i with h|h|h
   ·rw[before k ok h bA (by simp only[lV,hdo];simp[ht'])];simp[h]
   ·subst h;simp[hDi]
   ·rw[behind k ok h bA (by simp only[lV,hdo];simp[ht'])];simp;omega
  have hstep:=htr i _ hq
  have envEq:EL (st 0).env l vs (fun k=>D k ||decide (k=i)) ops.size=fH (EL (st 0).env l vs D ops.size) q.dst (vs i):=by
   apply uw;intro t
   by_cases hdt:q.dst=aA t
   ·have e1:(EL (st 0).env l vs (fun k=>D k ||decide (k=i)) ops.size)[t]? = (EL (st 0).env l vs (fun k=>decide (k < i+1)) ops.size)[t]?:=by
     refine rS _ fun k hk hdk=>?_
     obtain⟨ok,bA,hdo⟩:=dst_of k t hdk;rcases y8 k i with h|h|h
     ·rw[before k ok h bA (by simp only[lV,hdo];simp[hdt])];simp;omega
     ·subst h;simp
     ·rw[behind k ok h bA (by simp only[lV,hdt];simp[hdo])];have:¬k=i:=by omega
      simp[this];omega
    rw[e1,Bo (i+1) ops.size (by omega),(oW htr (i+1) (by omega)).1,Bb hstep];simp only[hdt,yB,cZ,wu];rw[<-(oW htr i (by omega)).1,wu]
   ·rw[yB,aY hdt];refine rS _ fun k hk hdk=>?_
    have:¬k=i:=by
     intro e;subst e;simp[mG,hq]at hdk;exact hdt hdk
    simp[this]
  obtain⟨hg,hx,hop⟩:=hops _ (dx hq)
  have ev:∀x∈q.op.operands,bv (EL (st 0).env l vs D ops.size) x=bv (st i).env x:=fun x hx=>uZ fun t ht=>looks t (by
   simp only[jE,cz,wA];exact .inl ⟨x,by simpa using hx,by rw[ht]⟩)
  rcases hstep with⟨_,hrun,_⟩|⟨hw,_⟩
  rotate_left
  ·rw[hg]at hw;simp[fI]at hw
  rw[oJ hx]at hrun
  have hpq':uD ops o q:=by
   rcases hpq with hpq|⟨T,d,x,ty,sq,rx,_,_,_,rfl⟩
   ·exact hpq
   ·rcases hop with⟨_,e,_⟩|⟨_,_,_,e⟩<;>cases e
  have hwt:Region.wanted o (yielded ops a.tmps)=true:=Fl hpq' h1 (b:=aC) (by rw[hg];rfl);have hml:=dx hq;obtain⟨g,bx,sq,rx,rfl,_⟩:=hpq';simp only at hg hx hop;refine⟨hwt,fun c hc=>(by rcases hop with⟨_,e,_⟩|⟨_,_,_,e⟩<;>rw[hc]at e<;>cases e),?_⟩;rcases hop with⟨x,e,hb⟩|⟨t,x,c,e⟩
  ·have hv:bv (st i).env x=aA (vs i):=by
    have hrun:=Qs (cfg:=cfg) (call:=call) (o:=⟨o.dst,o.op,o.type,g,bx,sq,rx⟩) (by simp[e,lc]) (by simp[e,rv]) (by simpa[fk,e,gl]using hrun) [];simp only[c8,e,hb,iZ,obi]at hrun;obtain⟨v,hv,hrun⟩:=hrun;cases v<;>simp at hrun<;>rw[hv,hrun]
   have hvr:=h1.eval x (vs i) (by rw[ev x (by simp[e,Op.operands])];exact hv);have hw0:gO l i=false:=by simp only[gO,hq];exact wrA_as e
   unfold execOp;simp only[e];show _/\_;refine⟨hkp.put (o:=⟨o.dst,o.op,o.type,g,bx,sq,rx⟩) hml _,Z1,j1,?_,by rw[Lr hw0];exact h2,by rw[Lr hw0];exact h3,h4,fun k hk hD=>h5 k hk (by simp at hD;exact hD.1)⟩;rw[envEq];exact h1.put o.dst hvr
  ·simp only[c8,e,obi]at hrun;obtain⟨va,ha,vb,hb,hrun⟩:=hrun;obtain⟨hvi,ob,hob⟩:=P9 hrun;obtain⟨el,us,els,cc,hr,_,hm2,p1,p2,p3,p4,p5,p6⟩:=Qa hrun (h1.eval x va (by rw[ev x (by simp[e,Op.operands])];exact ha)) (h1.eval c vb (by rw[ev c (by simp[e,Op.operands])];exact hb));have hwi:gO l i=true:=by simp only[gO,hq];exact wrA_mk hx e
   obtain⟨m1,m2⟩:=(UF gr hwi hDi hm2 ops.size (by omega)).2 hin;obtain⟨Z2,hh,q1,q2,q3,q4⟩:=aeY h2 m2 (h5 i hwi hDi) (w1:=w1.alloc (.cells us el)) rfl rfl rfl rfl p1 p2 p3 p4 p5 p6;unfold execOp;simp only[e];refine fo hr ⟨hkp.put (o:=⟨o.dst,o.op,o.type,g,bx,sq,rx⟩) hml _,Z2,fp j1 (st i).mem.length hh,?_,by rw[m1];exact q2,by rw[m1];exact h3.trans q3,h4.trans q4,fun k hk hD=>?_⟩
   ·rw[envEq,hvi];exact(h1.mono q3.z q4).put o.dst q1
   ·simp only[qu,decide_eq_false_iff_not]at hD;rw[ug]
    ·exact h5 k hk hD.1
    ·have hkl:=Ul hk;rcases mY k i with h|h
     ·have:=gr.lt hk h (by omega);omega
     ·have:=gr.lt hwi (show i < k by omega) (by omega);omega
 ·rw[i0];obtain⟨a1,a2⟩:=UE (l:=l) sr ops.size;refine⟨hkp,Z,j,?_,a1,stp.trans a2,bE.refl _,fun k hk _=>?_⟩
  ·have eE:∀n,EL (st 0).env l vs (fun _=>aD) n=(st 0).env:=by
    intro n
    induction n with
    |zero=>rfl
    |succ n ih=>simp only[EL];exact ih
   rw[eE];exact hst
  ·have hkl:=Ul hk;have:=gr.le 0 k (by omega);rw[fY]at this;exact sr.out _ this
theorem Wx{r:Option Nat}{n:Nat}{cfg:bS}{call:de}(hm:cfg.P.follows .mixedOrders=aC)(hp:i5 cfg.P call.pc)(hi:iK cfg.P call.ic){ops:Array dF}{Q:Exit->Act->be->Prop}{id:Nat}{l:List bj}{env:List V}{s':S}{a:Act}
  (hd:w7 ops l=aC) (hl:n4 ops ops.toList l) (hchk:s6 cfg l s'.env=aC) (h:mc cfg call aC l ⟨env,mem⟩=aA s') (st:St Z w j env a) (sr:SR cfg.P Z w j mem) (hQ:∀a' w',yW cfg.P Z w j mem s' a' w'->gQ l a a'->Q .normal a' w') :
  (Code.region id ops aC).wpIn (FR r) n cfg.P Q a w:=by
 have hll:l.length=ops.size:=by have:=hl.1;simpa using this
 obtain⟨vs,sts,e0,e1,htr,hcp⟩:∃(vs:Nat->V) (st:Nat->S),st 0=⟨env,mem⟩/\st l.length=s'/\(∀(k:Nat) (o:bj),l[k]? = aA o->lp cfg call o (st k) (vs k) (st (k+1)))/\FD cfg l st:=by
  unfold mc at h;split at h;rotate_left
  ·rename_i hno;have hno:l.any ij=false:=by simpa using hno
   obtain⟨vs,sts,e0,e1,htr⟩:=agL l ⟨env,mem⟩ s' h;exact⟨vs,sts,e0,e1,htr,fun i q n ok _ _ bA hc=>by have:=yZ.1 hno ok (dx bA);rw[hc]at this;simp at this⟩
  ·simp only[obi]at h;obtain⟨⟨s1,fs⟩,h,hc⟩:=h;split at hc;rotate_left
   ·cases hc
   cases hc;rename_i hc;obtain⟨vs,sts,e0,e1,htr,_,hf⟩:=adj l ⟨env,mem⟩ _ [] fs h;exact⟨vs,sts,e0,e1,htr,V3 htr (by rw[e1];exact hc) hf⟩
 refine wpIn_region_any hm ?_;have hz:bO Z w Z { w with drawn:=w.drawn+1 }:=.of fun g o h=>⟨h,rfl,rfl⟩
 have no:∀k,(FB ops.size aD).getD k aD=false:=by intro k;simp[jr,Array.getElem?_replicate];split<;>rfl
 have eE:∀n,EL (sts 0).env l vs (fun k=>(FB ops.size aD).getD k aD) n=env:=by
  intro n
  induction n with
  |zero=>simp[EL,e0]
  |succ n ih=>simp only[EL];rw[aY (by simp only[no n];simp)];exact ih
 have eM:∀n,ML l sts (fun k=>(FB ops.size aD).getD k aD) n=mem:=by
  intro n
  induction n with
  |zero=>simp[ML,e0]
  |succ n ih=>simp only[ML];rw[aY (by simp only[no n];simp)];exact ih
 unfold w7 at hd;rw[nS]at hd;rcases hd with hd|hd
 rotate_left
 ·exact aar (Z:=Z) (w:=w) (j:=j) hl hd htr (by rw[<-hll,e1,e0];exact hQ) ops.size _ a (by simp) (by simp) no (by rw[e0];exact st.mono hz (bE.refl _)) (by rw[e0];exact sr.world hz (fun g _=>⟨rfl,fun _=>Iff.rfl⟩) sr.zin)
   (by rw[e0];exact⟨rfl,rfl,rfl,c7 _,fun _ _ _=>⟨rfl,fun _=>Iff.rfl⟩,fun _ _ h=>h,hz,fun _ h=>⟨h,rfl⟩⟩) (gQ.refl l a)
 refine US (Z:=Z) (w:=w) (j:=j) hp hi hl hd (by rw[<-hll,e1];exact hchk) hcp htr ?_ ops.size _ a _ (by simp) (by simp) (fun k o ho hD=>by simp[no]at hD) ⟨Z,j,?_,?_,?_,bE.refl _,⟨fun k m d T _ hk=>by simp[no]at hk,fun k m d T _ _ _ _ _ _ hk=>by simp[no]at hk⟩⟩ (gQ.refl l a)
 ·rw[<-hll,e1,e0];exact hQ
 ·rw[eE];exact st.mono hz (bE.refl _)
 ·rw[eM];exact sr.world hz (fun g _=>⟨rfl,fun _=>Iff.rfl⟩) sr.zin
 ·rw[eM,e0];exact⟨rfl,rfl,rfl,c7 _,fun _ _ _=>⟨rfl,fun _=>Iff.rfl⟩,fun _ _ h=>h,hz,fun _ h=>⟨h,rfl⟩⟩
end
section
variable {P:bu}{Z Z':Zs}{w w':be}{j j':J}{mem mem':List O}
theorem agI{s:S}{a:Act}{n0:Nat}{ids:List Nat}(hn:n0<=s.mem.length)(hnd:ids.Nodup)(hge:∀i∈ids,n0<=i)(st:St Z w j s.env a)(sr:SR P Z w j s.mem) :
  St Z w (gK n0 ids j) (kD n0 ids s).env a/\SR P Z w (gK n0 ids j) (kD n0 ids s).mem/\bh Z w j s.mem Z w (gK n0 ids j) (kD n0 ids s).mem/\∀id,id < n0->gK n0 ids j id=j id:=by
 obtain⟨h1,h2,h3⟩:=T4 hn hnd hge sr;refine⟨⟨by simp[kD,st.len],fun i v hv=>?_⟩,h1,⟨rfl,rfl,rfl,c7 _,fun _ _ _=>⟨rfl,fun _=>Iff.rfl⟩,fun g _ hg=>?_,bO.refl _ _,fun t hno=>⟨fun k o n ho hr=>?_,rfl⟩⟩,h3⟩
 ·simp only[kD,fW,omi]at hv;obtain⟨v0,h0,rfl⟩:=hv;obtain⟨u,hu,hvr⟩:=st.val i v0 h0;exact⟨u,hu,hvr.ren2 (Jv n0 ids j)⟩
 ·obtain⟨k,o,ho,hl,hb⟩:=hg;obtain⟨i,o0,h0,hl0,ha,hji,_⟩:=h2 k o ho hl;exact⟨i,o0,h0,hl0,agG ha hji hb⟩
 ·obtain⟨i,o0,h0,hl0,ha,_,_⟩:=h2 k o ho (pm hr);exact hno i o0 n h0 (by rw[<-ha];exact hr)
theorem aai{a:Act}:∀(ts:List Nat) (env:List V),St Z w j env a->St Z w j (gJ env ts) a:=by
 intro ts
 induction ts with
 |nil=>intro env h;exact h
 |cons t ts ih =>
  intro env h;refine ih _ ⟨by simp[h.len],fun i v hv=>?_⟩
  by_cases e:t=i
  ·subst e;have bd:t < env.length:=by have:=(bX.1 hv).1;simpa using this
   rw[gR bd]at hv;cases hv;exact⟨a.tmps[t]'(by rw[h.len];exact bd),gH _,.junk⟩
  ·rw[ia e]at hv;exact h.val i v hv
def JK(n0:Nat)(j j':J):Prop:=∀id h,id < n0->j id=aA h->j' id=aA h
theorem mD{s:S}{a:Act}(n0:Nat)(f:List Nat)(st:St Z w j s.env a)(sr:SR P Z w j s.mem) :
  ∃j',St Z w j' (dO n0 f s).env a/\SR P Z w j' (dO n0 f s).mem/\bh Z w j s.mem Z w j' (dO n0 f s).mem/\JK n0 j j':=by
 obtain⟨h1,h2⟩:=aaV (min n0 s.mem.length) ⟨gJ s.env f,s.mem⟩;obtain⟨a1,a2,a3,a4⟩:=agI (s:=⟨gJ s.env f,s.mem⟩) (Nat.min_le_right n0 s.mem.length) h1 h2 (aai f s.env st) sr;refine⟨_,a1,a2,a3,fun id h hid hj=>?_⟩
 by_cases hl:id < s.mem.length
 ·rw[a4 id (by omega)];exact hj
 ·rw[sr.out id (by omega)]at hj;cases hj
end
set_option linter.unusedVariables false
section
variable {P:bu}{Z Z':Zs}{w w':be}{j j':J}{mem mem':List O}
theorem JK.refl(n0:Nat)(j:J):JK n0 j j:=fun _ _ _ h=>h
theorem JK.trans{n0:Nat}{j1:J}(h:JK n0 j j1)(h':JK n0 j1 j'):JK n0 j j':=fun id x hl e=>h' id x hl (h id x hl e)
theorem JK.of{n0:Nat}(h:bE j j'):JK n0 j j':=fun id x _ e=>h id x e
def nE:Obj->Bool
 |.loop _=>aC
 |.deferred _=>aC
 |.mapIter _ _ _ _=>aC
 |_=>aD
theorem ads(s:SR P Z w j mem){g:Nat}(h:bM Z j mem g):∃o,w.heap[g]? = aA o/\nE o=false:=by
 obtain⟨id,o,hm,hl,hb⟩:=h;have hO:=s.obj id o hm;cases o with
 |dead=>cases hl
 |row t els fz =>
  obtain⟨h,hh,_,_,_,_,h5⟩:=hO;rcases h5 with⟨hu,_⟩|⟨g',b,c,us,hu,_,_,hg,_⟩
  ·cases h;simp only at hu;subst hu;simp[bQ,O.ar,dj,hh,cE.blk]at hb
  ·cases h;simp only at hu;subst hu;simp[bQ,O.ar,dj,hh,cE.blk]at hb;subst hb;exact⟨_,hg,rfl⟩
 |arena t els =>
  obtain⟨k,hk,hg⟩:=hb;obtain⟨us,h1,_⟩:=hO.2 k _ g (cj hk) hg;exact⟨_,h1,rfl⟩
 |marena t ms =>
  obtain⟨k,hk,hg⟩:=hb;obtain⟨es',clock,h1,_⟩:=hO.2 k _ g (cj hk) hg;exact⟨_,h1,rfl⟩
 |box t v fz =>
  obtain⟨g',us,h1,h2,_⟩:=hO;simp[bQ,O.ar,dj,h1,cE.blk]at hb;subst hb;exact⟨_,h2,rfl⟩
 |map es =>
  obtain⟨r,es',clock,h1,h2,_⟩:=hO;simp[bQ,O.ar,dj,h1,cE.blk]at hb;subst hb;exact⟨_,h2,rfl⟩
theorem DL(s:SR P Z w j mem){g:Nat}{o:Obj}(h:w.heap[g]? = aA o)(hk:nE o=aC):¬bM Z j mem g:=by
 intro ho;obtain⟨o',h1,h2⟩:=ads s ho;rw[h]at h1;cases h1;rw[hk]at h2;cases h2
theorem L6{g x:Nat}{o:Obj}(h:w.heap[g]? = aA o)(hk:nE o=aC):w.cell? ⟨g,x,aF⟩=aF/\jg w g=none:=by
 cases o<;>first|(cases hk;done)|(exact⟨by simp[World.cell?,h],by simp[jg,h]⟩)
theorem uM{L:Nat}{o o':Obj}(h:w.heap[L]? = aA o)(hk:nE o=aC)(hk':nE o'=aC):bO Z w Z (w.putObj L o'):=by
 have bd:=(hJ.1 h).1;refine .of fun g x hz=>⟨hz,?_⟩
 by_cases e:g=L
 ·subst e;obtain⟨a,b⟩:=L6 (x:=x) h hk;obtain⟨a',b'⟩:=L6 (x:=x) (World.putObj_heap_same (o:=o') bd) hk';exact⟨a'.trans a.symm,b'.trans b.symm⟩
 ·exact j7 (World.putObj_heap_other e) x
theorem SR.book(s:SR P Z w j mem){L:Nat}{o o':Obj}(h:w.heap[L]? = aA o)(hk:nE o=aC)(hk':nE o'=aC):SR P Z (w.putObj L o') j mem :=
 s.world (uM h hk hk') (fun g hg=>⟨World.putObj_heap_other fun e=>DL s h hk (e ▸ hg),fun _=>Iff.rfl⟩) (fun g x hz=>by rw[World.putObj_size];exact s.zin g x hz)
theorem bh.book{Z0:Zs}{w0:be}{j0':J}{mem0:List O}(st:bh Z0 w0 j0' mem0 Z w j mem){L:Nat}{o o':Obj}(hL:w0.heap.size<=L)(h:w.heap[L]? = aA o)(hk:nE o=aC)(hk':nE o'=aC) :
  bh Z0 w0 j0' mem0 Z (w.putObj L o') j mem :=
 ⟨st.os,st.tape,st.output,by rw[World.putObj_size];exact st.size,fun g hg hno=>⟨(World.putObj_heap_other (by omega)).trans (st.keep g hg hno).1,(st.keep g hg hno).2⟩,st.owned,st.z.trans (uM h hk hk'),st.ar⟩
def zb(w w':be):Prop:=w'.heap=w.heap/\w'.os=w.os/\w'.tape=w.tape/\w'.output=w.output
theorem A6(h:zb w w'):bO Z w Z w':=.of fun g x hz=>⟨hz,j7 (by rw[h.1]) x⟩
theorem SR.same(s:SR P Z w j mem)(h:zb w w'):SR P Z w' j mem:=s.world (A6 h) (fun g _=>⟨by rw[h.1],fun _=>Iff.rfl⟩) (fun g x hz=>by rw[h.1];exact s.zin g x hz)
theorem bh.same{Z0:Zs}{w0:be}{j0':J}{mem0:List O}(st:bh Z0 w0 j0' mem0 Z w j mem)(h:zb w w'):bh Z0 w0 j0' mem0 Z w' j mem :=
 ⟨h.2.1.trans st.os,h.2.2.1.trans st.tape,h.2.2.2.trans st.output,by rw[h.1];exact st.size,fun g hg hno=>⟨by rw[h.1];exact(st.keep g hg hno).1,(st.keep g hg hno).2⟩,st.owned,st.z.trans (A6 h),st.ar⟩
def Aj(D:Nat):Deferred:={ target:=.collected D,args:=#[] }
def Mk(B:Nat)(w:be)(ds ds':List Deferred):Prop:=∃Ds:List Nat,ds'=Ds.map Aj++ds/\Ds.Nodup/\∀D∈Ds,B<=D/\w.heap[D]? = aA (.deferred (aA []))
structure gf(ws:List Nat)(w:be)(a a':Act)(w':be):Prop where
 marks:Mk w.heap.size w' a.defers a'.defers
 size:a'.tmps.size=a.tmps.size
 tmps:∀i,i∉ws->a'.tmps[i]? = a.tmps[i]?
theorem Mk.refl(B:Nat)(w:be)(ds:List Deferred):Mk B w ds ds:=⟨[],rfl,.nil,fun D h=>by simp at h⟩
theorem gf.refl(ws:List Nat)(w:be)(a:Act)(w':be):gf ws w a a w':=⟨Mk.refl _ _ _,rfl,fun _ _=>rfl⟩
theorem gf.of{l:List bj}{a a':Act}(h:gQ l a a')(w w':be):gf (l.filterMap (·.dst)) w a a' w' :=
 ⟨by rw[h.defs];exact Mk.refl _ _ _,h.size,fun i hi=>h.tmps i fun o ho e=>hi (wA.2 ⟨o,ho,e⟩)⟩
theorem gf.weak{ws ws':List Nat}{a a':Act}(h:gf ws w a a' w')(hs:∀i∈ws,i∈ws'):gf ws' w a a' w':=⟨h.marks,h.size,fun i hi=>h.tmps i fun e=>hi (hs i e)⟩
theorem gf.trans{ws ws':List Nat}{a a1 a2:Act}{w0 w1 w2:be}{Z1 Z2:Zs}{j1 j2:J}{mem1 mem2:List O}(h:gf ws w0 a a1 w1)(s1:SR P Z1 w1 j1 mem1)(st:bh Z1 w1 j1 mem1 Z2 w2 j2 mem2)(hs:w0.heap.size<=w1.heap.size)(h':gf ws' w1 a1 a2 w2) :
  gf (ws++ws') w0 a a2 w2:=by
 obtain⟨⟨D1,e1,n1,k1⟩,z1,t1⟩:=h;obtain⟨⟨D2,e2,n2,k2⟩,z2,t2⟩:=h';have lt1:∀D∈D1,D < w1.heap.size:=fun D hD=>(hJ.1 (k1 D hD).2).1
 refine⟨⟨D2++D1,by rw[e2,e1];simp,?_,fun D hD=>?_⟩,z2.trans z1,fun i hi=>?_⟩
 ·rw[uA];refine⟨n2,n1,fun x hx y hy e=>?_⟩;have:=(k2 x hx).1;have:=lt1 y hy;omega
 ·rcases cz.1 hD with hD|hD
  ·exact⟨sh hs (k2 D hD).1,(k2 D hD).2⟩
  ·exact⟨(k1 D hD).1,((st.keep D (lt1 D hD) (DL s1 (k1 D hD).2 rfl)).1).trans (k1 D hD).2⟩
 ·simp only[cz,not_or]at hi;exact(t2 i hi.2).trans (t1 i hi.1)
def lN(P:bu)(n0:Nat)(Z:Zs)(w:be)(j:J)(mem:List O)(s':S)(a:Act)(w':be):Prop :=
 ∃Z' j',St Z' w' j' s'.env a/\SR P Z' w' j' s'.mem/\bh Z w j mem Z' w' j' s'.mem/\JK n0 j j'
theorem lN.trans{n0:Nat}{Z1:Zs}{w1:be}{j1:J}{mem1:List O}{s':S}{a:Act}(h:bh Z w j mem Z1 w1 j1 mem1)(hj:JK n0 j j1)(h':lN P n0 Z1 w1 j1 mem1 s' a w'):lN P n0 Z w j mem s' a w' :=
 let ⟨Z2,j2,a1,a2,a3,a4⟩:=h'
 ⟨Z2,j2,a1,a2,h.trans a3,hj.trans a4⟩
def Ex.toExit:Ex->Exit
 |.norm=>.normal
 |.exit i=>.exit i
 |.ret=>.ret
theorem abo{step:S->Option (Ex × S)}{Q:Ex->Prop}(hq:∀s r,step s=aA r->r.1≠.norm->Q r.1):∀(n:Nat) (s:S) (r:Ex × S),eX step n s=aA r->Q r.1/\r.1≠.norm:=by
 intro n
 induction n with
 |zero=>intro s r h;simp[eX]at h
 |succ n ih =>
  intro s r h;simp only[eX]at h;cases hs:step s with
  |none=>simp[hs]at h
  |some r1 =>
   obtain⟨x,s1⟩:=r1;simp only[hs,bk]at h;cases x with
   |norm=>exact ih _ _ h
   |exit i=>cases h;exact⟨hq _ _ hs (by simp),by simp⟩
   |ret=>cases h;exact⟨hq _ _ hs (by simp),by simp⟩
theorem Og{cfg:bS}{call:de}{n n0:Nat}:∀(c:C) (s:S) (i:Nat) (s':S),exec cfg call n n0 c s=aA (.exit i,s')->i∈fd c:=by
 intro c
 induction c with
 |skip=>intro s i s' h;simp[exec]at h
 |ops dr l =>
  intro s i s' h;simp only[exec,obi]at h;obtain⟨_,_,h⟩:=h;split at h<;>cases h
 |seq a b iha ihb =>
  intro s i s' h;simp only[exec]at h;cases h1:exec cfg call n n0 a s with
  |none=>simp[h1]at h
  |some r =>
   obtain⟨x,s1⟩:=r;simp only[h1,bk]at h;cases x with
   |norm=>exact cz.2 (.inr (ihb _ _ _ h))
   |exit k=>cases h;exact cz.2 (.inl (iha _ _ _ h1))
   |ret=>cases h
 |cseq f a b iha ihb =>
  intro s i s' h;simp only[exec]at h;cases h1:exec cfg call n n0 a s with
  |none=>simp[h1]at h
  |some r =>
   obtain⟨x,s1⟩:=r;simp only[h1,bk]at h;cases x with
   |norm=>exact cz.2 (.inr (ihb _ _ _ h))
   |exit k=>cases h;exact cz.2 (.inl (iha _ _ _ h1))
   |ret=>cases h
 |cond c a b iha ihb =>
  intro s i s' h;simp only[exec]at h;cases h1:bv s.env c with
  |none=>simp[h1]at h
  |some v =>
   cases v<;>simp only[h1,bk]at h<;>first|(cases h;done)|skip;split at h
   ·exact cz.2 (.inl (iha _ _ _ h))
   ·exact cz.2 (.inr (ihb _ _ _ h))
 |block id c ih =>
  intro s i s' h;simp only[exec,omi]at h;obtain⟨⟨x,s1⟩,h1,h2⟩:=h;cases x with
  |norm=>cases h2
  |ret=>cases h2
  |exit k =>
   simp only at h2;split at h2
   ·cases h2
   ·cases h2;exact ih _ _ _ h1
 |loop f c ih =>
  intro s i s' h;simp only[exec,omi]at h;obtain⟨⟨x,s1⟩,h1,h2⟩:=h;cases h2;have:=abo (Q:=fun x=>∀k,x = .exit k->k∈fd c) (fun s r hr _ k e=>ih _ k r.2 (by rw[<-e];exact hr)) _ _ _ h1;exact this.1 i rfl
 |exit k=>intro s i s' h;simp only[exec,Option.some.injEq,Prod.mk.injEq,Ex.exit.injEq]at h;rw[<-h.1];exact jO.2 rfl
 |ret=>intro s i s' h;simp[exec]at h
 |start g=>intro s i s' h;simp only[exec,omi]at h;obtain⟨_,_,h⟩:=h;cases h
 |uncons g ps ws a b iha ihb =>
  intro s i s' h;simp only[exec]at h;split at h
  ·exact cz.2 (.inr (ihb _ _ _ h))
  ·split at h
   ·simp only[omi]at h;obtain⟨⟨x,s1⟩,h1,h2⟩:=h;cases h2;exact cz.2 (.inl (iha _ _ _ h1))
   ·cases h
  ·cases h
theorem agp{cfg:bS}{call:de}{n n0:Nat}:∀(c:C),yK c=aC->∀(s:S) (x:Ex) (s':S),exec cfg call n n0 c s=aA (x,s')->x = .norm:=by
 intro c
 induction c with
 |skip=>intro _ s x s' h;simp[exec]at h;exact h.1.symm
 |ops dr l =>
  intro _ s x s' h;simp only[exec,obi]at h;obtain⟨_,_,h⟩:=h;split at h<;>cases h;rfl
 |seq a b iha ihb =>
  intro hs s x s' h;simp only[yK,co]at hs;simp only[exec]at h;cases h1:exec cfg call n n0 a s with
  |none=>simp[h1]at h
  |some r =>
   obtain⟨x1,s1⟩:=r;have:=iha hs.1 _ _ _ h1;subst this;simp only[h1,bk]at h;exact ihb hs.2 _ _ _ h
 |_=>intro hs;cases hs
theorem aag:∀(f:List Nat) (env:List V) (i:Nat),(gJ env f)[i]? = env[i]?∨(gJ env f)[i]? = aA .junk:=by
 intro f
 induction f with
 |nil=>intro env i;exact .inl rfl
 |cons t f ih =>
  intro env i;simp only[gJ];rcases ih (env.set t .junk) i with h|h
  ·rw[h]
   by_cases e:t=i
   ·subst e
    by_cases hl:t < env.length
    ·exact .inr (gR hl)
    ·left;rw[List.set_eq_of_length_le (by omega)]
   ·exact .inl (ia e)
  ·exact .inr h
theorem HV:∀(f:List Nat) (env:List V),(gJ env f).length=env.length:=by
 intro f
 induction f with
 |nil=>intro env;rfl
 |cons t f ih=>intro env;simp only[gJ];rw[ih,gS]
theorem aah:∀(f:List Nat) (env:List V) (i:Nat) (v:V),(gJ env f)[i]? = aA v->v = .junk∨(i∉f/\env[i]? = aA v):=by
 intro f
 induction f with
 |nil=>intro env i v h;exact .inr ⟨by simp,h⟩
 |cons t f ih =>
  intro env i v h;simp only[gJ]at h;rcases ih _ i v h with e|⟨h1,h2⟩
  ·exact .inl e
  ·by_cases e:t=i
   ·subst e;have bd:t < env.length:=by have:=(bX.1 h2).1;simpa using this
    rw[gR bd]at h2;exact .inl (Option.some.inj h2).symm
   ·rw[ia e]at h2;exact .inr ⟨by simp[h1,Ne.symm e],h2⟩
theorem Mr{n0:Nat}{f:List Nat}{s:S}{g:Nat}{ts:List aO}{l:List V}(h:s.env[g]? = aA (.rest ts l)):(dO n0 f s).env[g]? = aA (.rest ts l)∨(dO n0 f s).env[g]? = aA .junk:=by
 simp only[dO,T3,kD,fW];rcases aag f s.env g with e|e
 ·rw[e,h];exact .inl rfl
 ·rw[e];exact .inr rfl
end
section
variable {P:bu}{Z Z':Zs}{w w':be}{j j':J}{mem mem':List O}
def Bp(Z:Zs)(w w':be):Prop:=w.heap.size<=w'.heap.size/\∀g o,Z g o->w'.cell? ⟨g,o,aF⟩=w.cell? ⟨g,o,aF⟩
theorem Bp.of(hs:w.heap.size<=w'.heap.size)(h:bO Z w Z' w'):Bp Z w w':=⟨hs,fun g o hz=>(h g o hz).2.1⟩
def sj(P:bu)(seqp:bL->Option (List aO × (List V->Option (List (List V))))):Prop :=
 ∀f ts h as0 rounds,seqp f=aA (ts,h)->h as0=aA rounds->∀(Z:Zs) (w:be) (us:List aR),(∀g o,Z g o->g < w.heap.size)->gB Z w j0 as0 us ->
  (∀args w,(callFunc f args).run P w = .ok (.enter f args) w) /\
  ∃encs:List (List aR),encs.length=rounds.length/\(∀(k:Nat) (x:List V) (u:List aR),rounds[k]? = aA x->encs[k]? = aA u->gB Z w j0 x u) /\
   ∀(l:Nat) (I:Nat->be->Prop) (Ix:be->Prop) (W:be),(∀k W1 W2,I k W1->zb W1 W2->I k W2)->(∀W1 W2,Ix W1->zb W1 W2->Ix W2)->(∀k W1,I k W1->Bp Z w W1) ->
    (∀(k:Nat) (u:List aR) (W1:be),encs[k]? = aA u->I k W1->YieldAt Fence.wide 0 P l u.toArray W1 fun e W2=>(e = .returned (.bool aC)/\I (k+1) W2)∨(e = .returned (.bool aD)/\Ix W2)) ->
    I 0 W->Calls P f (#[.func (.yield l) #[] #[]]++us.toArray) W fun e W'=>(∃v,e = .returned v)/\(I encs.length W'∨Ix W')
theorem VR.tmps{env:List V}{a a':Act}(s:St Z w j env a)(h:a'.tmps=a.tmps):St Z w j env a':=⟨by rw[h];exact s.len,by rw[h];exact s.val⟩
theorem St.setJunk{env:List V}{a:Act}(s:St Z w j env a)(g:Nat)(v:V)(hv:∀u,VR Z w j v u):St Z w j (env.set g v) a:=by
 refine⟨by simp[s.len],fun i x hx=>?_⟩
 by_cases e:g=i
 ·subst e;have bd:g < env.length:=by have:=(bX.1 hx).1;simpa using this
  rw[gR bd]at hx;cases hx;exact⟨a.tmps[g]'(by rw[s.len];exact bd),gH _,hv _⟩
 ·rw[ia e]at hx;exact s.val i x hx
theorem afP{ds:List Deferred}:∀(ps:List Nat) (vs:List V) (us:List aR) (env:List V) (T:Array aR),vs.length=ps.length->gB Z w j vs us->St Z w j env { tmps:=T,defers:=ds } ->
  St Z w j (v5 env ps vs) { tmps:=(ps.zip us).foldl (fun t (p,v)=>t.setIfInBounds p v) T,defers:=ds }/\((ps.zip us).foldl (fun t (p,v)=>t.setIfInBounds p v) T).size=T.size /\
   ∀i,i∉ps->((ps.zip us).foldl (fun t (p,v)=>t.setIfInBounds p v) T)[i]? = T[i]?:=by
 intro ps
 induction ps with
 |nil=>intro vs us env T hl hv st;cases vs<;>exact⟨st,rfl,fun _ _=>rfl⟩
 |cons p ps ih =>
  intro vs us env T hl hv st;cases vs with
  |nil=>simp at hl
  |cons v vs =>
   cases us with
   |nil=>have:=hv.1;simp at this
   |cons u us =>
    have hv':gB Z w j vs us:=⟨by have:=hv.1;simpa using this,fun i x y h1 h2=>hv.2 (i+1) x y (by simpa using h1) (by simpa using h2)⟩
    have s1:St Z w j (env.set p v) { tmps:=T.setIfInBounds p u,defers:=ds }:=st.put (aA p) (hv.2 0 v u rfl rfl);obtain⟨a,b,c⟩:=ih vs us _ _ (by simpa using hl) hv' s1;refine⟨a,b.trans (by simp),fun i hi=>?_⟩;simp only[dE,not_or]at hi;exact(c i hi.2).trans (K8 (Ne.symm hi.1))
theorem ahc(ps:Array Tmp)(us:List aR)(T:Array aR):(ps.zip us.toArray).foldl (fun t (p,v)=>t.setIfInBounds p v) T=(ps.toList.zip us).foldl (fun t (p,v)=>t.setIfInBounds p v) T:=by
 rw[<-Array.foldl_toList];congr 1;simp
def AA(B:Nat):Ex->Exit
 |.exit i=>if i=B then .normal else .exit i
 |y=>y.toExit
theorem ad5{cfg:bS}{call:de}(hq:sj cfg.P cfg.seqp){n n0:Nat}{g:Nat}{ps:Array Tmp}{uL body:Code}{F:List Nat}{ca cb:C}{ws:List Nat}{B:Nat}
  (hws:∀i,i∈ps.toList∨i∈dD ca∨i∈dD cb->i∈ws) (hst:yK ca=aC) (hex:B∉fd cb)
  (iha:∀(r:Nat) (s:S) (x:Ex) (s':S),exec cfg call n n0 ca s=aA (x,s')->∀(a:Act) (w:be) (Z:Zs) (j:J),St Z w j s.env a->SR cfg.P Z w j s.mem ->
   ∀(Q:Exit->Act->be->Prop),(∀a' w',lN cfg.P n0 Z w j s.mem s' a' w'->gf (dD ca) w a a' w'->Q x.toExit a' w')->uL.wpIn (FR (aA r)) 0 cfg.P Q a w)
  (ihb:∀(r:Nat) (s:S) (x:Ex) (s':S),exec cfg call n n0 cb s=aA (x,s')->∀(a:Act) (w:be) (Z:Zs) (j:J),St Z w j s.env a->SR cfg.P Z w j s.mem ->
   ∀(Q:Exit->Act->be->Prop),(∀a' w',lN cfg.P n0 Z w j s.mem s' a' w'->gf (dD cb) w a a' w'->Q x.toExit a' w')->body.wpIn (FR (aA r)) 0 cfg.P Q a w)
  {s s1:S} (h1:v9 cfg g s=aA s1) {y0:Ex} {s20:S} {N:Nat} (h2:eX (fun s=>exec cfg call n n0 (.uncons g ps.toList ws (.seq ca cb) (.exit B)) (dO n0 F s)) N s1=aA (y0,s20))
  {a:Act} {w:be} {Z:Zs} {j:J} (st:St Z w j s.env a) (sr:SR cfg.P Z w j s.mem) {Q:Exit->Act->be->Prop}
  (hQ:∀a' w',lN cfg.P n0 Z w j s.mem (dO n0 F s20) a' w'->gf [] w a a' w'->Q (AA B y0) a' w') (m:Nat) :
  (Code.rangeFunc (.tmp g) ps uL body).wpIn (FR aF) m cfg.P Q a w:=by
 unfold v9 at h1;split at h1;rotate_left
 ·cases h1
 rename_i f caps henv;split at h1
 ·cases h1
 rename_i hfb;simp only[obi,omi]at h1;obtain⟨⟨ts,hh⟩,hseq,as0,hsn,l,hl,hs1⟩:=h1;simp only at hl hs1;obtain⟨u0,hu0,hv0⟩:=st.val g _ henv;have hv1:=af5 (q:=cfg.sqj f) sr hsn hv0;obtain⟨sr1,ow1⟩:=ve (w:=w) (j:=j) (caps.flatMap (pI (cfg.sqj f) s.mem)) Z s.mem sr;obtain⟨Z1,hZ1⟩:∃Z1,Z1=dV Z (Fz cfg.P j s.mem (caps.flatMap (pI (cfg.sqj f) s.mem))):=⟨_,rfl⟩
 rw[<-hZ1]at hv1 sr1
 have stp1:bh Z w j s.mem Z1 w j (freezeAll (caps.flatMap (pI (cfg.sqj f) s.mem)) s.mem):=by
  subst hZ1;exact⟨rfl,rfl,rfl,c7 _,fun g' hg hno=>⟨rfl,fun o=>⟨fun h=>h.resolve_right fun⟨id,_,hb,ho⟩=>hno (pS sr hb ho),.inl⟩⟩,fun g' _ ho=>(ow1 g').1 ho,bO.or _ _ _,fun _ h=>⟨h.freezeAll _,rfl⟩⟩
 have hz1:bO Z w Z1 w:=stp1.z
 obtain⟨us,rfl,hus⟩:∃us:List aR,u0 = .func (.func f) #[] us.toArray/\gB Z1 w j0 as0 us:=by
  cases hv1 with
  |fn hl' hh'=>exact⟨_,C2 (Nat.lt_of_not_le hfb),hl',hh'⟩
 have heval:a.eval (.tmp g) = .func (.func f) #[] us.toArray:=by simp[Act.eval,hu0,jr]
 obtain⟨hin,encs,e1,e2,e3⟩:=hq f ts hh as0 l hseq hl Z1 w us sr1.zin hus;refine wpIn_rangeFunc ?_;intro fn _;obtain⟨rec,hrec⟩:∃rec:LoopState->Option Code->Loop,rec=fun st pe=>{ state:=st,pending:=pe,fn,tmps:=a.tmps,params:=ps,assign:=uL,body,defers:=w.heap.size }:=⟨_,rfl⟩
 have hpend:∀st pe,(rec st pe).pending=pe:=fun st pe=>by rw[hrec]
 have hstate:∀st pe,(rec st pe).state=st:=fun st pe=>by rw[hrec]
 obtain⟨W1,hW1⟩:∃W1,(w.alloc (.deferred (aA []))).alloc (.loop (rec .ready aF))=W1:=⟨_,rfl⟩
 have hL1:W1.heap[w.heap.size+1]? = aA (.loop (rec .ready aF)):=by
  rw[<-hW1];have:=World.alloc_heap_new (w.alloc (.deferred (aA []))) (.loop (rec .ready aF));rwa [World.size_alloc]at this
 have hD1:W1.heap[w.heap.size]? = aA (.deferred (aA [])):=by
  rw[<-hW1];exact(mM (w:=w.alloc (.deferred (aA []))) (w1:=(w.alloc (.deferred (aA []))).alloc (.loop (rec .ready aF))) rfl (by rw[World.size_alloc];omega)).trans (World.alloc_heap_new w _)
 have srW:SR cfg.P Z1 W1 j s1.mem:=by rw[<-hW1,<-hs1];exact(sr1.alloc _).alloc _
 have stpW:bh Z w j s.mem Z1 W1 j s1.mem:=by
  rw[<-hW1,<-hs1];exact(stp1.trans (bh.alloc sr1 _)).trans (bh.alloc (sr1.alloc _) _)
 have zW:bO Z1 w Z1 W1:=by
  rw[<-hW1];exact(Cb sr1.zin).trans (Cb (sr1.alloc _).zin)
 have st0:St Z1 W1 j s1.env a:=by
  rw[<-hs1];exact((st.mono hz1 (bE.refl _)).mono zW (bE.refl _)).setJunk g _ (fun _=>.rest)
 obtain⟨step,hstep⟩:∃step,step=fun s=>exec cfg call n n0 (.uncons g ps.toList ws (.seq ca cb) (.exit B)) (dO n0 F s):=⟨_,rfl⟩
 rw[<-hstep]at h2
 let I:Nat->be->Prop:=fun k W=>∃(Z':Zs) (j':J) (sk:S) (mm:Nat),SR cfg.P Z' W j' sk.mem/\St Z' W j' sk.env a/\bh Z w j s.mem Z' W j' sk.mem/\JK n0 j j'/\bO Z1 w Z' W /\
  sk.env[g]? = aA (.rest ts ((l.drop k).map .tup))/\eX step mm sk=aA (y0,s20)/\W.heap[w.heap.size+1]? = aA (.loop (rec .ready aF))/\W.heap[w.heap.size]? = aA (.deferred (aA []))
 let Ix:be->Prop:=fun W=>∃(Z':Zs) (j':J) (c:Code),SR cfg.P Z' W j' s20.mem/\St Z' W j' s20.env a/\bh Z w j s.mem Z' W j' s20.mem/\JK n0 j j' /\
  ((y0 = .ret/\c = .ret)∨∃i,y0 = .exit i/\i≠B/\c = .exit i)/\W.heap[w.heap.size+1]? = aA (.loop (rec .done (aA c)))/\W.heap[w.heap.size]? = aA (.deferred (aA []))
 have main:=e3 (w.heap.size+1) I Ix W1
  (fun k A B' ⟨Z',j',sk,mm,q1,q2,q3,q4,q5,q6,q7,q8,q9⟩ hs=>⟨Z',j',sk,mm,q1.same hs,q2.mono (A6 hs) (bE.refl _),q3.same hs,q4,q5.trans (A6 hs),q6,q7,by rw[hs.1];exact q8,by rw[hs.1];exact q9⟩)
  (fun A B' ⟨Z',j',c,q1,q2,q3,q4,q5,q6,q7⟩ hs=>⟨Z',j',c,q1.same hs,q2.mono (A6 hs) (bE.refl _),q3.same hs,q4,q5,by rw[hs.1];exact q6,by rw[hs.1];exact q7⟩)
  (fun k W ⟨Z',j',sk,mm,q1,q2,q3,q4,q5,_⟩=>Bp.of q3.size q5)
  ?_
  ⟨Z1,j,s1,N,srW,st0,stpW,JK.refl _ _,zW,by rw[<-hs1];simp only[rW];exact gR (bX.1 henv).1,h2,hL1,hD1⟩
 ·-- entering,and behind the function
  refine⟨w.heap.size+1,[Aj w.heap.size],W1,{ target:=.fn (.func f) us.toArray,args:=#[.func (.yield (w.heap.size+1)) #[] #[]] },W1,f,#[.func (.yield (w.heap.size+1)) #[] #[]]++us.toArray,W1,?_,?_,?_,?_,fun h=>(by cases h),?_⟩
  ·rw[<-hW1,hrec];exact run_enterLoop_outer _ _ _ _ _
  ·simp only[resolve,heval];simp[go_sem]
  ·intro _ _;trivial
  ·simp[invoke,go_sem,hin]
  ·refine CallsIn.mono (Mj (r:=aF) (n:=m - 1) main) ?_;rintro e W2 ⟨⟨v,rfl⟩,(hI|hI)⟩
   ·obtain⟨Z',j',sk,mm,q1,q2,q3,q4,q5,q6,q7,q8,q9⟩:=hI;have hend:=(run_endLoop (P:=cfg.P) q8 (by rw[hstate];simp)).trans (ef (fun p=>Result.ok p (W2.putObj (w.heap.size+1) (.loop { rec .ready aF with state:=.exhausted }))) (hpend .ready aF));refine⟨aF,_,hend,?_⟩;cases mm with
    |zero=>simp[eX]at q7
    |succ mm =>
    simp only[eX]at q7;obtain⟨jc,c1,c2,c3,c4⟩:=mD n0 F q2 q1;have hrest:sk.env[g]? = aA (.rest ts []):=by rw[q6,e1,List.drop_length];rfl
    have hgo:step sk=aA (.exit B,dO n0 F sk):=by
     have:step sk≠none:=by intro e;rw[e]at q7;cases q7
     rw[hstep]at this |-
     rcases Mr (n0:=n0) (f:=F) hrest with e|e
     ·simp only[exec,e]
     ·simp only[exec,e]at this;exact(this rfl).elim
    rw[hgo]at q7;simp only[bk,Option.some.injEq,Prod.mk.injEq]at q7;obtain⟨rfl,rfl⟩:=q7;have hb:nE (.loop (rec .ready aF))=true:=rfl;have c1':=c1;obtain⟨jd,d1,d2,d3,d4⟩:=mD n0 F c1 c2;have hz:=uM (Z:=Z') (o':=.loop { rec .ready aF with state:=.exhausted }) q8 rfl rfl
    have:=hQ { a with defers:=[Aj w.heap.size]++a.defers } (W2.putObj (w.heap.size+1) (.loop { rec .ready aF with state:=.exhausted }))
     ⟨Z',jd,VR.tmps (d1.mono hz (bE.refl _)) rfl,d2.book q8 rfl rfl,((q3.trans c3).trans d3).book (by omega) q8 rfl rfl,(q4.trans c4).trans d4⟩
     ⟨⟨[w.heap.size],rfl,by simp,fun D hD=>by
      simp at hD;subst hD;exact⟨c7 _,(World.putObj_heap_other (by omega)).trans q9⟩⟩,rfl,fun _ _=>rfl⟩
    simp only[AA,cZ]at this;exact this
   ·obtain⟨Z',j',c,q1,q2,q3,q4,q5,q6,q7⟩:=hI;have hend:=(run_endLoop (P:=cfg.P) q6 (by rw[hstate];simp)).trans (ef (fun p=>Result.ok p (W2.putObj (w.heap.size+1) (.loop { rec .done (aA c)with state:=.exhausted }))) (hpend .done (aA c)));obtain⟨jd,d1,d2,d3,d4⟩:=mD n0 F q2 q1;have hz:=uM (Z:=Z') (o':=.loop { rec .done (aA c)with state:=.exhausted }) q6 rfl rfl
    have:=hQ { a with defers:=[Aj w.heap.size]++a.defers } (W2.putObj (w.heap.size+1) (.loop { rec .done (aA c)with state:=.exhausted }))
     ⟨Z',jd,VR.tmps (d1.mono hz (bE.refl _)) rfl,d2.book q6 rfl rfl,(q3.trans d3).book (by omega) q6 rfl rfl,q4.trans d4⟩
     ⟨⟨[w.heap.size],rfl,by simp,fun D hD=>by
      simp at hD;subst hD;exact⟨c7 _,(World.putObj_heap_other (by omega)).trans q7⟩⟩,rfl,fun _ _=>rfl⟩
    refine⟨aA c,_,hend,?_⟩;rcases q5 with⟨rfl,rfl⟩|⟨i,rfl,hi,rfl⟩
    ·exact wpIn_ret this
    ·simp only[AA,aY hi]at this;exact wpIn_exit this
 ·-- one round
  rintro k u W hku ⟨Z',j',sk,mm,q1,q2,q3,q4,q5,q6,q7,q8,q9⟩;have hkl:k < l.length:=by rw[<-e1];exact(bX.1 hku).1
  have hlk:l[k]? = aA l[k]:=cj hkl;generalize l[k]=x at hlk;have hvx:=e2 k x u hlk hku
  have hdrop:l.drop k=x::l.drop (k+1):=by
   rw[qy hkl];congr 1;rw[cj hkl]at hlk;exact Option.some.inj hlk
  cases mm with
  |zero=>simp[eX]at q7
  |succ mm =>
  simp only[eX]at q7;obtain⟨jc,c1,c2,c3,c4⟩:=mD n0 F q2 q1;rw[hdrop]at q6;cases hgo:step sk with
  |none=>rw[hgo]at q7;cases q7
  |some r1 =>
  obtain⟨y1,s'⟩:=r1;rw[hgo]at q7;simp only[bk]at q7;rw[hstep]at hgo
  have hck:(dO n0 F sk).env[g]? = aA (.rest ts (.tup x::(l.drop (k+1)).map .tup)):=by
   rcases Mr (n0:=n0) (f:=F) q6 with e|e
   ·exact e
   ·simp only[exec,e]at hgo;cases hgo
  simp only[exec,hck]at hgo;split at hgo;rotate_left
  ·cases hgo
  rename_i hxl;simp only[omi]at hgo;obtain⟨⟨y2,t⟩,hgo,he⟩:=hgo;cases he;cases hea:exec cfg call n n0 ca ⟨v5 ((dO n0 F sk).env.set g .junk) ps.toList x,(dO n0 F sk).mem⟩with
  |none=>rw[hea]at hgo;cases hgo
  |some ra =>
  obtain⟨xa,ta⟩:=ra;have:=agp ca hst _ _ _ hea;subst this;rw[hea]at hgo;simp only[bk]at hgo;have heb:exec cfg call n n0 cb ta=aA (y2,t):=hgo;have hus':u.length=ps.size:=by rw[<-hvx.1,hxl];simp
  have hy:=run_yield (P:=cfg.P) (args:=u.toArray) q8 (by rw[hrec];simpa using hus');have hvx':gB Z' W jc x u:=⟨hvx.1,fun i v z h1 h2=>(hvx.2 i v z h1 h2).mono q5 (bE.zero _)⟩
  obtain⟨p1,p2,p3⟩:=afP (ds:=[]) ps.toList x u ((dO n0 F sk).env.set g .junk) a.tmps hxl hvx' (VR.tmps (c1.setJunk g .junk (fun _=>.junk)) rfl);rw[<-ahc]at p1 p2 p3;obtain⟨T0,hT0⟩:∃T0,(ps.zip u.toArray).foldl (fun t (p,v)=>t.setIfInBounds p v) a.tmps=T0:=⟨_,rfl⟩
  rw[hT0]at p1 p2 p3;refine⟨fn,T0,uL,body,by rw[hrec]at hy;rw[<-hT0];exact hy,roundIn_of_wpIn trivial (iha (w.heap.size+1) _ _ _ hea { tmps:=T0,defers:=[] } W Z' jc p1 c2 _ ?_)⟩;intro a1 Wa ⟨Z2,j2,b1,b2,b3,b4⟩ hka;have keepA:∀(D:Nat) (o:Obj),W.heap[D]? = aA o->nE o=aC->Wa.heap[D]? = aA o:=fun D o hD hk=>(b3.keep D (hJ.1 hD).1 (DL c2 hD hk)).1.trans hD
  have hLa:=keepA _ _ q8 rfl;have hDa:=keepA _ _ q9 rfl;refine⟨_,run_beginRound hLa (hstate _ _),?_⟩;obtain⟨W2,hW2⟩:∃W2,Wa.putObj (w.heap.size+1) (.loop { rec .ready aF with state:=.busy })=W2:=⟨_,rfl⟩
  have hltL:w.heap.size+1 < Wa.heap.size:=(hJ.1 hLa).1;have hz2:bO Z2 Wa Z2 W2:=by rw[<-hW2];exact uM hLa rfl rfl
  have sr2:SR cfg.P Z2 W2 j2 ta.mem:=by rw[<-hW2];exact b2.book hLa rfl rfl
  have st2:bh Z w j s.mem Z2 W2 j2 ta.mem:=by rw[<-hW2];exact((q3.trans c3).trans b3).book (by omega) hLa rfl rfl
  have hL2:W2.heap[w.heap.size+1]? = aA (.loop { rec .ready aF with state:=.busy }):=by rw[<-hW2];exact World.putObj_heap_same hltL
  have hD2:W2.heap[w.heap.size]? = aA (.deferred (aA [])):=by rw[<-hW2];exact(World.putObj_heap_other (by omega)).trans hDa
  rw[hW2];refine ihb (w.heap.size+1) _ _ _ heb a1 W2 Z2 j2 (b1.mono hz2 (bE.refl _)) sr2 _ ?_;intro a3 W3 ⟨Z3,j3,d1,d2,d3,d4⟩ hkb;have keepB:∀(D:Nat) (o:Obj),W2.heap[D]? = aA o->nE o=aC->W3.heap[D]? = aA o:=fun D o hD hk=>(d3.keep D (hJ.1 hD).1 (DL sr2 hD hk)).1.trans hD
  have hL3:=keepB _ _ hL2 rfl;have hD3:=keepB _ _ hD2 rfl;have hlt3:w.heap.size+1 < W3.heap.size:=(hJ.1 hL3).1;have hsz:a3.tmps.size=a.tmps.size:=(hkb.size.trans hka.size).trans p2
  have stE:∀(V0:V),(∀u,VR Z3 W3 j3 V0 u)->St Z3 W3 j3 ((gJ t.env ws).set g V0) a:=by
   intro V0 hV0;refine St.setJunk ⟨by rw[HV,<-d1.len,hsz],fun i v hi=>?_⟩ g V0 hV0;rcases aah ws t.env i v hi with rfl|⟨hni,hi⟩
   ·have bd:i < a.tmps.size:=by
     have:=(bX.1 hi).1;rw[HV,<-d1.len,hsz]at this;exact this
    exact⟨_,gH bd,.junk⟩
   ·obtain⟨z,hz,hvz⟩:=d1.val i v hi;refine⟨z,?_,hvz⟩;rw[<-hz];exact(((hkb.tmps i fun h=>hni (hws i (.inr (.inr h)))).trans (hka.tmps i fun h=>hni (hws i (.inr (.inl h))))).trans (p3 i fun h=>hni (hws i (.inl h)))).symm
  have zAll:bO Z1 w Z3 W3:=((q5.trans c3.z).trans b3.z).trans (hz2.trans d3.z);have stAll:bh Z w j s.mem Z3 W3 j3 t.mem:=st2.trans d3;have jAll:JK n0 j j3:=((q4.trans c4).trans b4).trans d4
  have fin:∀(jump:Option Code),(Instr.endRound (w.heap.size+1) jump).run cfg.P W3 = .ok (.bool jump.isNone) (W3.putObj (w.heap.size+1) (.loop (rec (if jump.isNone then .ready else .done) jump))) /\
    (W3.putObj (w.heap.size+1) (.loop (rec (if jump.isNone then .ready else .done) jump))).heap[w.heap.size+1]? = aA (.loop (rec (if jump.isNone then .ready else .done) jump)) /\
    (W3.putObj (w.heap.size+1) (.loop (rec (if jump.isNone then .ready else .done) jump))).heap[w.heap.size]? = aA (.deferred (aA [])) /\
    bO Z3 W3 Z3 (W3.putObj (w.heap.size+1) (.loop (rec (if jump.isNone then .ready else .done) jump))):=by
   intro jump;have:=run_endRound (P:=cfg.P) jump hL3;refine⟨by rw[hrec]at this |-;exact this,World.putObj_heap_same hlt3,(World.putObj_heap_other (by omega)).trans hD3,uM hL3 rfl rfl⟩
  cases y2 with
  |norm =>
   obtain⟨f1,f2,f3,f4⟩:=fin aF;refine⟨_,_,f1,.inl ⟨rfl,Z3,j3,⟨(gJ t.env ws).set g (.rest ts ((l.drop (k+1)).map .tup)),t.mem⟩,mm,d2.book hL3 rfl rfl,(stE _ fun _=>.rest).mono f4 (bE.refl _),stAll.book (by omega) hL3 rfl rfl,jAll,zAll.trans f4,?_,q7,f2,f3⟩⟩
   have hlen:g < ((gJ t.env ws).set g (.rest ts ((l.drop (k+1)).map .tup))).length:=by
    rw[gS,HV,<-d1.len,hsz];exact(hJ.1 hu0).1
   rw[gS]at hlen;exact gR hlen
  |exit i =>
   have q7':aA (Ex.exit i,(⟨(gJ t.env ws).set g (.rest ts ((l.drop (k+1)).map .tup)),t.mem⟩:S))=aA (y0,s20):=q7;clear q7;cases q7';obtain⟨f1,f2,f3,f4⟩:=fin (aA (.exit i));exact⟨_,_,f1,.inr ⟨rfl,Z3,j3,_,d2.book hL3 rfl rfl,(stE _ fun _=>.rest).mono f4 (bE.refl _),stAll.book (by omega) hL3 rfl rfl,jAll,.inr ⟨i,rfl,fun e=>hex (e ▸ Og _ _ _ _ heb),rfl⟩,f2,f3⟩⟩
  |ret =>
   have q7':aA (Ex.ret,(⟨(gJ t.env ws).set g (.rest ts ((l.drop (k+1)).map .tup)),t.mem⟩:S))=aA (y0,s20):=q7;clear q7;cases q7';obtain⟨f1,f2,f3,f4⟩:=fin (aA .ret);exact⟨_,_,f1,.inr ⟨rfl,Z3,j3,_,d2.book hL3 rfl rfl,(stE _ fun _=>.rest).mono f4 (bE.refl _),stAll.book (by omega) hL3 rfl rfl,jAll,.inl ⟨rfl,rfl⟩,f2,f3⟩⟩
end
section
variable {P:bu}{Z Z':Zs}{w w':be}{j j':J}{mem mem':List O}
theorem AE{pr:Nat->Bool}:∀(c:Code) (p:C),dN pr c=aA p->cL p=p:=by
 intro c
 induction c with
 |skip=>intro p h;simp[dN]at h;subst h;rfl
 |region id ops draw =>
  intro p h;simp only[dN,obi]at h;obtain⟨l,_,h⟩:=h;cases draw
  ·simp only[dw,dI]at h;cases h;rfl
  ·simp only[cZ,omi]at h;obtain⟨_,_,rfl⟩:=h;rfl
 |seq a b iha ihb =>
  intro p h;simp only[dN,obi,omi]at h;obtain⟨x,h1,y,h2,rfl⟩:=h;simp only[cL,iha _ h1,ihb _ h2]
 |cond c a b iha ihb =>
  intro p h;simp only[dN,obi,omi]at h;obtain⟨x,h1,y,h2,rfl⟩:=h;simp only[cL,iha _ h1,ihb _ h2]
 |block i a iha =>
  intro p h;simp only[dN,omi]at h;obtain⟨x,h1,rfl⟩:=h;simp only[cL,iha _ h1]
 |loop a iha =>
  intro p h;simp only[dN,omi]at h;obtain⟨x,h1,rfl⟩:=h;simp only[cL,iha _ h1]
 |exit i=>intro p h;simp[dN]at h;subst h;rfl
 |ret=>intro p h;simp[dN]at h;subst h;rfl
 |rangeFunc g ps a c iha ihc =>
  intro p h;cases g<;>first|(simp[dN]at h;done)|skip;simp only[dN,obi]at h;obtain⟨x,h1,y,h2,h⟩:=h;unfold Ea at h;split at h
  ·cases h;simp only[cL]
  ·cases h
 |_=>intro p h;simp[dN]at h
theorem Tu{pr:Nat->Bool}{nt:Nat}{res:List Nat}(c:C)(env:List (Nat × List Nat))(out:List Nat):iG (jm pr nt res env c out)=iG c:=by
 cases c with
 |seq a b =>
  simp only[jm];cases(Gn pr b && !iG a)<;>rfl
 |_=>rfl
theorem I5{pr:Nat->Bool}{c:Code}{g:Nat}{ps ws:List Nat}{a b:C}:dN pr c≠aA (.uncons g ps ws a b):=by
 intro h;cases c with
 |skip=>cases h
 |region i ops dr =>
  simp only[dN,obi]at h;obtain⟨l,_,h⟩:=h;split at h
  all_goals simp_all
 |seq p q =>
  simp only[dN,obi,omi]at h;grind
 |cond c p q =>
  simp only[dN,obi,omi]at h;grind
 |block i p =>
  simp only[dN,omi]at h;grind
 |loop p =>
  simp only[dN,omi]at h;grind
 |exit i=>cases h
 |ret=>cases h
 |rangeFunc g ps uL body =>
  cases g<;>first|(cases h;done)|skip;simp only[dN,obi]at h;obtain⟨_,_,_,_,h⟩:=h;unfold Ea at h
  all_goals grind
 |_=>cases h
theorem afO{pr:Nat->Bool}{nt:Nat}{res:List Nat}:∀(c:C) (env:List (Nat × List Nat)) (out:List Nat),cL (jm pr nt res env c out)=cL c:=by
 intro c
 induction c with
 |seq a b iha ihb =>
  intro env out;simp only[jm];cases h:(Gn pr b && !iG a)with
  |false=>simp only[aP,cL,iha,ihb]
  |true =>
   have h2:iG a=false:=by
    grind
   simp only[aZ,cL,Tu,h2,aP,iha,ihb]
 |cseq f a b iha ihb=>intro env out;simp only[jm,cL,Tu,iha,ihb]
 |cond c a b iha ihb=>intro env out;simp only[jm,cL,iha,ihb]
 |block i a iha=>intro env out;simp only[jm,cL,iha]
 |loop f a iha=>intro env out;simp only[jm,cL,iha]
 |_=>intro env out;rfl
theorem CX{pr:Nat->Bool}{cfg:bS}{call:de}(hm:cfg.P.follows .mixedOrders=aC)(hp:i5 cfg.P call.pc)(hi:iK cfg.P call.ic)(hsq:sj cfg.P cfg.seqp){n n0:Nat} :
  ∀(c:Code) (ro:Option Nat) (cc:C) (s:S) (x:Ex) (s':S),dN pr c=aA (cL cc)->(ro≠aF->im cc=aD)->exec cfg call n n0 cc s=aA (x,s')->∀(a:Act) (w:be) (Z:Zs) (j:J),St Z w j s.env a->SR cfg.P Z w j s.mem ->
   ∀(Q:Exit->Act->be->Prop),(∀a' w',lN cfg.P n0 Z w j s.mem s' a' w'->gf (dD cc) w a a' w'->Q x.toExit a' w')->∀(m:Nat),c.wpIn (FR ro) m cfg.P Q a w:=by
 intro c
 induction c with
 |skip =>
  intro ro cc s x s' hc hns h a w Z j st sr Q hQ m;cases cc<;>simp[dN,cL]at hc;simp[exec]at h;obtain⟨rfl,rfl⟩:=h;exact wpIn_skip (hQ a w ⟨Z,j,st,sr,bh.refl _ _ _ _,JK.refl _ _⟩ (gf.refl _ _ _ _))
 |region id ops draw =>
  intro ro cc s x s' hc hns h a w Z j st sr Q hQ m;simp only[dN]at hc;cases hl:cC (AD ops) ops.toList with
  |none=>grind
  |some l =>
   simp only[hl,bk]at hc;have hpl:=adE hl;split at hc
   ·rename_i hdr;simp only[omi]at hc;obtain⟨l',ht,hc⟩:=hc;obtain⟨hpd,hd⟩:=agN hpl _ ht;cases cc<;>simp[cL]at hc;obtain⟨rfl,rfl⟩:=hc;simp only[exec,obi]at h;obtain⟨s1,h1,h2⟩:=h;split at h2;rotate_left
    ·grind
    rename_i hchk;cases h2;simp only[bK,gq]at hchk;rw[hdr];exact Wx hm hp hi hd hpd hchk h1 st sr fun a' w' ⟨Z1,j1,q1,q2,q3,q4⟩ hk=>hQ a' w' ⟨Z1,j1,q1,q2,q3,JK.of q4⟩ (gf.of hk w w')
   ·rename_i hdr;cases cc<;>simp[cL]at hc;obtain⟨rfl,rfl⟩:=hc;simp only[exec,obi]at h;obtain⟨s1,h1,h2⟩:=h;simp only[gb,lh,cZ,Option.some.injEq,Prod.mk.injEq]at h2;obtain⟨rfl,rfl⟩:=h2;have hdr:draw=false:=by grind
    rw[hdr];exact aeh hp hi (adB pr hpl) h1 st sr fun a' w' ⟨Z1,j1,q1,q2,q3,q4⟩ hk=>hQ a' w' ⟨Z1,j1,q1,q2,q3,JK.of q4⟩ (gf.of hk w w')
 |seq p q ihp ihq =>
  intro ro cc s x s' hc hns h a w Z j st sr Q hQ m;simp only[dN]at hc;cases hcp:dN pr p with
  |none=>grind
  |some cp =>
   cases hcq:dN pr q with
   |none=>grind
   |some cq =>
    cases cc<;>simp[hcp,hcq,cL]at hc;rotate_left
    ·rename_i fl ca cb;obtain⟨hc1,rfl⟩:=hc
     have hst0:iG ca=false:=by
      cases hh:iG ca with
      |false=>rfl
      |true=>rw[hh]at hc1;exact gU (hcp.trans (ef aA hc1)) I5
     rw[hst0]at hc1;have hcp:dN pr p=aA (cL ca):=by grind
     simp only[exec]at h;cases h1:exec cfg call n n0 ca s with
     |none=>grind
     |some r =>
      obtain⟨x1,s1⟩:=r;simp only[h1,bk]at h;have hns':ro≠aF->im ca=aD/\im cb=false:=fun e=>by have:=hns e;simpa[im]using this
      refine wpIn_seq (ihp ro ca s x1 s1 hcp (fun e=>(hns' e).1) h1 a w Z j st sr _ (fun a1 w1 haf hk=>?_) m);cases x1 with
      |norm =>
       obtain⟨Z1,j1,q1,q2,q3,q4⟩:=haf;obtain⟨j2,t1,t2,t3,t4⟩:=mD n0 fl q1 q2;refine ihq ro cb (dO n0 fl s1) x s' hcq (fun e=>(hns' e).2) h a1 w1 Z1 j2 t1 t2 Q (fun a' w' h' hk'=>?_) m;obtain⟨Z2,j3,r1,r2,r3,r4⟩:=h';exact hQ a' w' ⟨Z2,j3,r1,r2,(q3.trans t3).trans r3,(q4.trans t4).trans r4⟩ (hk.trans q2 (t3.trans r3) q3.size hk')
      |exit i=>cases h;exact hQ a1 w1 haf (hk.weak fun i hi=>cz.2 (.inl hi))
      |ret=>cases h;exact hQ a1 w1 haf (hk.weak fun i hi=>cz.2 (.inl hi))
    rename_i ca cb;obtain⟨rfl,rfl⟩:=hc;simp only[exec]at h;cases h1:exec cfg call n n0 ca s with
    |none=>grind
    |some r =>
     obtain⟨x1,s1⟩:=r;simp only[h1,bk]at h;have hns':ro≠aF->im ca=aD/\im cb=false:=fun e=>by have:=hns e;simpa[im]using this
     refine wpIn_seq (ihp ro ca s x1 s1 hcp (fun e=>(hns' e).1) h1 a w Z j st sr _ (fun a1 w1 haf hk=>?_) m);cases x1 with
     |norm =>
      obtain⟨Z1,j1,q1,q2,q3,q4⟩:=haf;refine ihq ro cb s1 x s' hcq (fun e=>(hns' e).2) h a1 w1 Z1 j1 q1 q2 Q (fun a' w' h' hk'=>?_) m;obtain⟨Z2,j2,r1,r2,r3,r4⟩:=h';exact hQ a' w' ⟨Z2,j2,r1,r2,q3.trans r3,q4.trans r4⟩ (hk.trans q2 r3 q3.size hk')
     |exit i=>cases h;exact hQ a1 w1 haf (hk.weak fun i hi=>cz.2 (.inl hi))
     |ret=>cases h;exact hQ a1 w1 haf (hk.weak fun i hi=>cz.2 (.inl hi))
 |cond cnd p q ihp ihq =>
  intro ro cc s x s' hc hns h a w Z j st sr Q hQ m;simp only[dN]at hc;cases hcp:dN pr p with
  |none=>grind
  |some cp =>
   cases hcq:dN pr q with
   |none=>grind
   |some cq =>
    cases cc<;>simp[hcp,hcq,cL]at hc;rename_i c0 ca cb;obtain⟨rfl,rfl,rfl⟩:=hc;simp only[exec]at h;cases h1:bv s.env cnd with
    |none=>grind
    |some v =>
     have hv:=st.eval cnd v h1;cases v<;>simp only[h1,bk]at h<;>first|(cases h;done)|skip;rename_i t;cases hu:a.eval cnd<;>rw[hu]at hv<;>cases hv;have hns':ro≠aF->im ca=aD/\im cb=false:=fun e=>by have:=hns e;simpa[im]using this
     cases t
     ·exact wpIn_cond hu (ihq ro cb s x s' hcq (fun e=>(hns' e).2) (by grind) a w Z j st sr Q (fun a' w' h1 h2=>hQ a' w' h1 (h2.weak fun i hi=>cz.2 (.inr hi))) m)
     ·exact wpIn_cond hu (ihp ro ca s x s' hcp (fun e=>(hns' e).1) (by grind) a w Z j st sr Q (fun a' w' h1 h2=>hQ a' w' h1 (h2.weak fun i hi=>cz.2 (.inl hi))) m)
 |block id p ihp =>
  intro ro cc s x s' hc hns h a w Z j st sr Q hQ m;simp only[dN,omi]at hc;obtain⟨cp0,hcp,hb⟩:=hc;cases cc<;>simp[cL]at hb;rename_i id2 cp;obtain⟨rfl,rfl⟩:=hb;simp only[exec,omi]at h;obtain⟨⟨x1,s1⟩,h1,h2⟩:=h;refine wpIn_block (ihp ro cp s x1 s1 hcp hns h1 a w Z j st sr _ (fun a1 w1 haf hk=>?_) m);cases x1 with
  |norm=>cases h2;exact hQ a1 w1 haf hk
  |ret=>cases h2;exact hQ a1 w1 haf hk
  |exit i =>
   simp only at h2;show(if i=id then Q .normal a1 w1 else Q (.exit i) a1 w1);split at h2
   ·rename_i e;cases h2;rw[aU e];exact hQ a1 w1 haf hk
   ·rename_i e;cases h2;rw[aY e];exact hQ a1 w1 haf hk
 |loop p ihp =>
  intro ro cc s x s' hc hns h a w Z j st sr Q hQ m;simp only[dN,omi]at hc;obtain⟨cp0,hcp,hb⟩:=hc;cases cc<;>simp[cL]at hb;rename_i fl cp;subst hb;simp only[exec,omi]at h;obtain⟨⟨x1,s1⟩,h1,h2⟩:=h;cases h2;refine wpIn_loop_rounds n ?_
  have key:∀(k:Nat) (s:S) (x1:Ex) (s1:S),eX (fun s=>exec cfg call n n0 cp (dO n0 fl s)) k s=aA (x1,s1)->∀(a:Act) (w:be) (Z:Zs) (j:J),St Z w j s.env a->SR cfg.P Z w j s.mem ->
    (∀a' w',lN cfg.P n0 Z w j s.mem (dO n0 fl s1) a' w'->gf (dD cp) w a a' w'->Q x1.toExit a' w')->Code.roundsIn (FR ro) m cfg.P p Q k a w:=by
   intro k
   induction k with
   |zero=>intro s x1 s1 h;simp[eX]at h
   |succ k ihk =>
    intro s x1 s1 h a w Z j st sr hQ;simp only[eX]at h;obtain⟨j0',t1,t2,t3,t4⟩:=mD n0 fl st sr;cases hs:exec cfg call n n0 cp (dO n0 fl s)with
    |none=>grind
    |some r =>
     obtain⟨x2,s2⟩:=r;simp only[hs,bk]at h;rw[roundsIn_succ];refine ihp ro cp _ x2 s2 hcp hns hs a w Z j0' t1 t2 _ (fun a2 w2 haf hk=>?_) m
     have fin:aA (x2,s2)=aA (x1,s1)->Q x1.toExit a2 w2:=by
      intro h;cases h;obtain⟨Z1,j1,q1,q2,q3,q4⟩:=haf;obtain⟨j2,r1,r2,r3,r4⟩:=mD n0 fl q1 q2;exact hQ a2 w2 ⟨Z1,j2,r1,r2,(t3.trans q3).trans r3,(t4.trans q4).trans r4⟩ hk
     cases x2 with
     |norm =>
      obtain⟨Z1,j1,q1,q2,q3,q4⟩:=haf;refine ihk s2 x1 s1 h a2 w2 Z1 j1 q1 q2 fun a' w' h' hk'=>?_
      obtain⟨Z2,j2,r1,r2,r3,r4⟩:=h';exact hQ a' w' ⟨Z2,j2,r1,r2,(t3.trans q3).trans r3,(t4.trans q4).trans r4⟩ ((hk.trans q2 r3 q3.size hk').weak fun i hi=>(cz.1 hi).elim id id)
     |exit i=>have:=fin h;cases h;exact this
     |ret=>have:=fin h;cases h;exact this
  exact key n s _ s1 h1 a w Z j st sr hQ
 |rangeFunc g ps uL body iha ihb =>
  intro ro cc s x s' hc hns h a w Z j st sr Q hQ m;cases g<;>first|(simp[dN]at hc;done)|skip;rename_i g;simp only[dN,obi]at hc;obtain⟨pa,hpa,pc,hpc,hc⟩:=hc;unfold Ea at hc;split at hc;rotate_left
  ·grind
  rename_i hcond;simp only[co,kE]at hcond;obtain⟨⟨⟨hst,hs1⟩,hs2⟩,hex⟩:=hcond;have hc0:=Option.some.inj hc;clear hc;cases cc<;>simp[cL]at hc0;rotate_left
  ·rename_i fl ca cb;obtain⟨hc1,_⟩:=hc0;cases hh:iG ca with
   |true=>grind
   |false =>
    rw[hh]at hc1;cases ca<;>simp[cL]at hc1;cases hh
  rename_i c1 c2;obtain⟨hc1,hc2⟩:=hc0;cases c1<;>simp[cL]at hc1;subst hc1;cases c2<;>simp[cL]at hc2;rename_i bid c3;obtain⟨rfl,hc3⟩:=hc2;cases c3<;>simp[cL]at hc3;rename_i F c4;cases c4<;>simp[cL]at hc3;rename_i g' ps' ws c5 c6;obtain⟨rfl,rfl,rfl,hc5,hc6⟩:=hc3;subst hc5 hc6
  have hro:ro=none:=by
   cases ro with
   |none=>rfl
   |some l=>have:=hns (by simp);simp[im]at this
  subst hro;cases hsa:v9 cfg g s with
  |none=>simp[exec,hsa]at h
  |some s1 =>
   have hx:exec cfg call n n0 (.block (ry g) (.loop F (.uncons g ps.toList (ps.toList++(dD pa++dD pc)) (.seq pa pc) (.exit (ry g))))) s1=aA (x,s'):=by
    rw[exec]at h;simp only[exec,hsa,du,bk]at h |-
    exact h
   clear h;rw[exec,exec]at hx;simp only[omi]at hx;obtain⟨⟨y,s2⟩,⟨⟨y0,s20⟩,hit,hr⟩,h2⟩:=hx;have hr1:y0=y:=ef Prod.fst hr;have hr2:dO n0 F s20=s2:=ef Prod.snd hr;subst hr1 hr2;refine ad5 (ca:=pa) (cb:=pc) hsq (fun i hi=>?_) hst ?_ (fun l s x s' h a w Z j st sr Q hQ=>iha (aA l) pa s x s' (hpa.trans (ef aA (AE _ _ hpa).symm)) (fun _=>hs1) h a w Z j st sr Q hQ 0) (fun l s x s' h a w Z j st sr Q hQ=>ihb (aA l) pc s x s' (hpc.trans (ef aA (AE _ _ hpc).symm)) (fun _=>hs2) h a w Z j st sr Q hQ 0) hsa hit st sr (fun a' w' haf hk=>?_) m
   ·grind
   ·intro hb
    have:(fd (.seq pa pc)).contains (ry g)=true:=by
     simp only[fd,List.contains_iff_mem,cz];grind
    grind
   ·have hk':=hk.weak (ws':=dD (.seq (.start g) (.block (ry g) (.loop F (.uncons g ps.toList (ps.toList++(dD pa++dD pc)) (.seq pa pc) (.exit (ry g))))))) (fun i hi=>by grind);cases y0 with
    |norm=>cases h2;exact hQ a' w' haf hk'
    |ret=>cases h2;exact hQ a' w' haf hk'
    |exit i =>
     simp only at h2;show Q (AA (ry g) (.exit i)) a' w';simp only[AA];split at h2
     ·rename_i e;cases h2;rw[aU e];exact hQ a' w' haf hk'
     ·rename_i e;cases h2;rw[aY e];exact hQ a' w' haf hk'
 |exit i =>
  intro ro cc s x s' hc hns h a w Z j st sr Q hQ m;cases cc<;>simp[dN,cL]at hc;subst hc;simp[exec]at h;obtain⟨rfl,rfl⟩:=h;exact wpIn_exit (hQ a w ⟨Z,j,st,sr,bh.refl _ _ _ _,JK.refl _ _⟩ (gf.refl _ _ _ _))
 |ret =>
  intro ro cc s x s' hc hns h a w Z j st sr Q hQ m;cases cc<;>simp[dN,cL]at hc;simp[exec]at h;obtain⟨rfl,rfl⟩:=h;exact wpIn_ret (hQ a w ⟨Z,j,st,sr,bh.refl _ _ _ _,JK.refl _ _⟩ (gf.refl _ _ _ _))
 |_=>intro ro cc s x s' hc;simp[dN]at hc
def j8:Ex->Exit
 |.norm=>.normal
 |.exit i=>if i < 3000000 then .exit i else .goto ((i - 3000000) / 2)
 |.ret=>.ret
def yd(l:Nat):Ex->Exit
 |.exit i=>if i=od l then .normal else j8 (.exit i)
 |y=>j8 y
theorem T6{x:Ex}(h:∀i,x = .exit i->i < 3000000):j8 x=x.toExit:=by
 cases x with
 |exit i=>simp only[j8,aU (h i rfl)];rfl
 |_=>rfl
theorem T5(l:Nat):j8 (.exit (mK l)) = .goto l:=by
 have h1:¬(3000000+2 * l < 3000000):=by omega
 have h2:(3000000+2 * l - 3000000) / 2=l:=by omega
 simp only[j8,mK,aY h1,h2]
theorem HJ{cfg:bS}{call:de}{n n0:Nat}:∀(c:C) (s:S) (i:Nat) (s':S),exec cfg call n n0 c s=aA (.exit i,s')->i∈en c:=by
 intro c
 induction c with
 |skip=>intro s i s' h;simp[exec]at h
 |ops dr l =>
  intro s i s' h;simp only[exec,obi]at h;grind
 |seq a b iha ihb =>
  intro s i s' h;simp only[exec,obi]at h;obtain⟨⟨x,s1⟩,h1,h⟩:=h;simp only[en,cz];grind
 |cseq f a b iha ihb =>
  intro s i s' h;simp only[exec,obi]at h;obtain⟨⟨x,s1⟩,h1,h⟩:=h;simp only[en,cz];grind
 |cond c a b iha ihb =>
  intro s i s' h;simp only[exec,obi]at h;obtain⟨v,_,h⟩:=h;simp only[en,cz];grind
 |block id c ih =>
  intro s i s' h;simp only[exec,omi]at h;obtain⟨⟨x,s1⟩,h1,h⟩:=h;cases x with
  |norm=>cases h
  |ret=>cases h
  |exit e =>
   simp only at h;split at h
   ·cases h
   ·rename_i hne;cases h;simp only[en,mW];grind
 |loop f c ih =>
  intro s i s' h;simp only[exec,omi]at h;obtain⟨⟨x,s1⟩,h1,h⟩:=h;simp only[en]
  have key:∀(k:Nat) (s:S) (r:Ex × S),eX (fun s=>exec cfg call n n0 c (dO n0 f s)) k s=aA r->∀i,r.1 = .exit i->i∈en c:=by
   intro k
   induction k with
   |zero=>intro s r h;simp[eX]at h
   |succ k ihk =>
    intro s r h i hi;simp only[eX,obi]at h;grind
  grind
 |exit j=>intro s i s' h;simp[exec]at h;simp[en,h.1]
 |ret=>intro s i s' h;simp[exec]at h
 |start g=>intro s i s' h;simp[exec]at h
 |uncons g ps ws a b iha ihb =>
  intro s i s' h;simp only[en,cz];simp only[exec]at h;split at h
  ·grind
  ·split at h
   ·simp only[omi]at h;grind
   grind
  grind
theorem HX:∀(c:C),en (cL c)=en c:=by
 intro c
 induction c with
 |seq a b iha ihb=>simp only[cL,en,iha,ihb]
 |cond c a b iha ihb=>simp only[cL,en,iha,ihb]
 |block i a iha=>simp only[cL,en,iha]
 |loop f a iha=>simp only[cL,en,iha]
 |cseq f a b iha ihb =>
  simp only[cL,en,ihb];cases ha:iG a with
  |false=>grind
  |true =>
   cases a<;>simp[iG]at ha;simp only[aZ,en,fh]
 |_=>rfl
theorem ZK:∀(c:C) (i:Nat),i∈fd c->i∈fd (cL c):=by
 intro c
 induction c with
 |seq a b iha ihb=>intro i h;simp only[cL,fd,cz]at h |-;grind
 |cond c a b iha ihb=>intro i h;simp only[cL,fd,cz]at h |-;grind
 |block i a iha=>intro i h;simp only[cL,fd]at h |-;grind
 |loop f a iha=>intro i h;simp only[cL,fd]at h |-;grind
 |cseq f a b iha ihb =>
  intro i h;simp only[cL,fd,cz]at h |-
  rcases h with h|h
  ·cases ha:iG a with
   |false=>grind
   |true=>cases a<;>simp[iG]at ha;simp[fd]at h
  grind
 |_=>intro i h;exact h
def rQ(F:Fence)(n:Nat)(P:bu)(c0 d:Code)(Q:Exit->Act->be->Prop)(a:Act)(w:be):Prop :=
 ∀(b:Frame) (k:List Item) (cs:List Frame),b.roundOf=F.round->F.fn b.fn->F.room (cs.length+1+n) ->
  ∃e a' w',Q e a' w'/\ArrivesIn (Machine.fenced P F) P (lone (b.atR a (.code d::.inScope c0::k)) cs w) b (.inScope c0::k) cs e a' w'
section
variable {F:Fence}{m:Nat}{P:bu}{c0:Code}{Q:Exit->Act->be->Prop}{a:Act}{w:be}
theorem aha{d:Code}(h:d.wpIn F m P Q a w):rQ F m P c0 d Q a w:=fun b k cs hro hb hr=>h b (.inScope c0::k) cs hro hb hr
theorem Fq{x y:Code}(h:x.wpIn F m P (Exit.then (rQ F m P c0 y Q) Q) a w):rQ F m P c0 (.seq x y) Q a w:=by
 intro b k cs hro hb hr;have h0:(lone (b.atR a (.code (.seq x y)::.inScope c0::k)) cs w).fenced P F:=fenced_calm hb hr rfl;obtain⟨e,a₁,w₁,hq,harr⟩:=h b (.code y::.inScope c0::k) cs hro hb hr;cases e with
 |normal =>
  obtain⟨e₂,a₂,w₂,hq₂,harr₂⟩:=hq b k cs hro hb hr;exact⟨e₂,a₂,w₂,hq₂,.of_steps (.head h0 stepR_seq harr) harr₂⟩
 |exit id=>exact⟨_,a₁,w₁,hq,.of_steps (.one h0 stepR_seq) (.pass (x:=.code y) rfl (fun _ _=>.inl (by simp)) harr)⟩
 |goto l=>exact⟨_,a₁,w₁,hq,.of_steps (.one h0 stepR_seq) (.pass (x:=.code y) rfl (fun _ _=>.inl (by simp)) harr)⟩
 |ret=>exact⟨_,a₁,w₁,hq,.of_steps (.one h0 stepR_seq) (.pass (x:=.code y) rfl (fun _ _=>.inl (by simp)) harr)⟩
 |panic ch=>exact⟨_,a₁,w₁,hq,.of_steps (.one h0 stepR_seq) (.pass (x:=.code y) rfl (fun _ _=>.inl (by simp)) harr)⟩
 |outgrown=>exact⟨_,a₁,w₁,hq,.of_steps (.one h0 stepR_seq) (.pass (x:=.code y) rfl (fun _ _=>.inl (by simp)) harr)⟩
theorem ag9{d rest:Code}{l:Nat}(hf:ly c0 l=aA rest)
  (h:rQ F m P c0 d (fun e a1 w1=>match e with |.goto l'=>if l'=l then rQ F m P c0 rest Q a1 w1 else Q (.goto l') a1 w1|e=>Q e a1 w1) a w):rQ F m P c0 d Q a w:=by
 intro b k cs hro hb hr;obtain⟨e,a₁,w₁,hq,harr⟩:=h b k cs hro hb hr;cases e with
 |goto l' =>
  simp only at hq;split at hq
  ·rename_i e;subst e;obtain⟨e₂,a₂,w₂,hq₂,harr₂⟩:=hq b k cs hro hb hr;have hg:gotoIn l' (.inScope c0::k)=aA (.code rest::.inScope c0::k):=by simp[gotoIn,hf]
   exact⟨e₂,a₂,w₂,hq₂,.of_steps (harr.1 _ hg) harr₂⟩
  grind
 |normal=>grind
 |exit id=>grind
 |ret=>grind
 |panic ch=>grind
 |outgrown=>grind
theorem yH{b:Frame}{k:List Item}{cs:List Frame}:step P (lone (b.atR a (.code (.scope c0)::k)) cs w) = .next (lone (b.atR a (.code c0::.inScope c0::k)) cs w) :=
 step_lone_go (by simp[stepG,stepG.exec,Frame.atR])
theorem agj{b:Frame}{k:List Item}{cs:List Frame}:step P (lone (b.atR a (.inScope c0::k)) cs w) = .next (lone (b.atR a k) cs w) :=
 step_lone_go (by simp[stepG,stepG.exec,Frame.atR])
theorem ag8(h:rQ F m P c0 c0 (fun e a1 w1=>(∀l,e≠.goto l)/\Q e a1 w1) a w):(Code.scope c0).wpIn F m P Q a w:=by
 intro b k cs hro hb hr;have h0:(lone (b.atR a (.code (.scope c0)::k)) cs w).fenced P F:=fenced_calm hb hr rfl;obtain⟨e,a₁,w₁,⟨hng,hq⟩,harr⟩:=h b k cs hro hb hr;cases e with
 |normal=>exact⟨.normal,a₁,w₁,hq,.head h0 yH (StepsIn.trans harr (.one (fenced_calm hb hr rfl) agj))⟩
 |exit id =>
  have hx:exitTo id (.inScope c0::k)=exitTo id k:=by simp[exitTo]
  exact⟨.exit id,a₁,w₁,hq,fun k' hk=>.head h0 yH (harr.1 k' (by grind)),
   fun hr' hk=>let ⟨k₁,h1,h2⟩:=harr.2 hr' (by grind);⟨k₁,h1,.head h0 yH h2⟩⟩
 |goto l=>grind
 |ret=>exact⟨_,a₁,w₁,hq,.of_steps (.one h0 yH) harr⟩
 |panic ch=>exact⟨_,a₁,w₁,hq,.of_steps (.one h0 yH) harr⟩
 |outgrown=>exact⟨_,a₁,w₁,hq,.of_steps (.one h0 yH) harr⟩
end
theorem On{l:Nat}:∀{c:Code},l∉gy c->ly c l=none:=by
 intro c
 induction c with
 |seq a b iha ihb =>
  intro h;simp only[gy,cz,not_or]at h;simp only[ly,iha h.1,ihb h.2]
 |label l' =>
  intro h;simp only[gy,jO]at h;simp only[ly]
  all_goals grind
 |_=>intro _;rfl
theorem adz{pr:Nat->Bool}:∀(c:Code) (p:C),eG pr c=aA p->cL p=p:=by
 intro c
 have leaf:∀c p,((dN pr c).bind fun cc=>if (fd cc).all fun i=>jt i 3000000 then aA cc else aF)=aA p->cL p=p:=by
  intro c p h;simp only[obi]at h;obtain⟨cc,h1,h2⟩:=h;split at h2
  ·cases h2;exact AE _ _ h1
  ·cases h2
 induction c with
 |seq a b iha ihb =>
  intro p h;simp only[eG]at h;split at h
  ·simp only[omi]at h;obtain⟨cb,h1,rfl⟩:=h;simp only[cL,ihb _ h1]
  ·split at h
   ·simp only[obi,omi]at h;obtain⟨ca,h1,cb,h2,rfl⟩:=h;simp only[cL,iha _ h1,ihb _ h2]
   ·cases h
 |cond c a b iha ihb =>
  intro p h;simp only[eG]at h;split at h
  ·simp only[obi,omi]at h;obtain⟨ca,h1,cb,h2,rfl⟩:=h;simp only[cL,iha _ h1,ihb _ h2]
  ·cases h
 |goto l=>intro p h;simp only[eG,Option.some.injEq]at h;subst h;rfl
 |block id a ih =>
  intro p h;simp only[eG]at h;split at h
  ·obtain⟨cp,h1,rfl⟩:=omi.1 h;simp only[cL,ih _ h1]
  ·cases h
 |_=>intro p h;simp only[eG]at h;exact leaf _ _ h
theorem I4{pr:Nat->Bool}{c:Code}{g:Nat}{ps ws:List Nat}{a b:C}:eG pr c≠aA (.uncons g ps ws a b):=by
 intro h;cases c with
 |seq x y =>
  simp only[eG]at h;split at h
  ·simp only[omi]at h;obtain⟨cb,_,h⟩:=h;cases h
  ·split at h
   ·simp only[obi,omi]at h;obtain⟨ca,_,cb,_,h⟩:=h;cases h
   ·cases h
 |cond t x y =>
  simp only[eG]at h;split at h
  ·simp only[obi,omi]at h;obtain⟨ca,_,cb,_,h⟩:=h;cases h
  ·cases h
 |goto l=>simp only[eG,Option.some.injEq]at h;cases h
 |block id a =>
  simp only[eG]at h;split at h
  ·obtain⟨_,_,h⟩:=omi.1 h;cases h
  ·cases h
 |_ =>
  simp only[eG,obi]at h;obtain⟨cc,h1,h2⟩:=h;split at h2
  ·cases h2;exact I5 h1
  ·cases h2
theorem aap:∀(c:C) (i:Nat),i∈en c->i∈fd c:=by
 intro c
 induction c with
 |seq a b iha ihb=>intro i h;simp only[fd,en,cz]at h |-;grind
 |cond c a b iha ihb=>intro i h;simp only[fd,en,cz]at h |-;grind
 |block k a iha=>intro i h;simp only[fd,en,mW]at h |-;grind
 |loop f a iha=>intro i h;simp only[fd,en]at h |-;grind
 |cseq f a b iha ihb=>intro i h;simp only[fd,en,cz]at h |-;grind
 |uncons g ps ws a b iha ihb=>intro i h;simp only[fd,en,cz]at h |-;grind
 |_=>intro i h;exact h
theorem Q8{pr:Nat->Bool}:∀(c:Code) (p:C),eG pr c=aA p->∀i∈en p,i < 3000000∨∃l,i=mK l:=by
 intro c
 have leaf:∀c p,((dN pr c).bind fun cc=>if (fd cc).all fun i=>jt i 3000000 then aA cc else aF)=aA p->∀i∈en p,i < 3000000∨∃l,i=mK l:=by
  intro c p h i hi;simp only[obi]at h;obtain⟨cc,h1,h2⟩:=h;split at h2
  ·rename_i hall;cases h2;have:=eJ.1 hall i (aap _ _ hi);exact .inl (by simpa[o7]using this)
  ·cases h2
 induction c with
 |seq a b iha ihb =>
  intro p h i hi;simp only[eG]at h;split at h
  ·simp only[omi]at h;obtain⟨cb,h1,rfl⟩:=h;simp only[en,mW,cz,jO]at hi;obtain⟨⟨hi|hi,_⟩,h3⟩:=hi
   ·exact ihb _ h1 i hi
   ·subst hi;simp at h3
  ·split at h
   ·simp only[obi,omi]at h;obtain⟨ca,h1,cb,h2,rfl⟩:=h;simp only[en,cz]at hi;exact hi.elim (iha _ h1 i) (ihb _ h2 i)
   ·cases h
 |cond c a b iha ihb =>
  intro p h i hi;simp only[eG]at h;split at h
  ·simp only[obi,omi]at h;obtain⟨ca,h1,cb,h2,rfl⟩:=h;simp only[en,cz]at hi;exact hi.elim (iha _ h1 i) (ihb _ h2 i)
  ·cases h
 |goto l =>
  intro p h i hi;simp only[eG,Option.some.injEq]at h;subst h;simp only[en,jO]at hi;exact .inr ⟨l,hi⟩
 |block id a ih =>
  intro p h i hi;simp only[eG]at h;split at h
  ·obtain⟨cp,h1,rfl⟩:=omi.1 h;simp only[en,mW]at hi;exact ih _ h1 i hi.1
  ·cases h
 |_=>intro p h;simp only[eG]at h;exact leaf _ _ h
theorem IY{pr:Nat->Bool}{cfg:bS}{call:de}(hm:cfg.P.follows .mixedOrders=aC)(hp:i5 cfg.P call.pc)(hi:iK cfg.P call.ic)(hsq:sj cfg.P cfg.seqp){n n0:Nat} :
  ∀(c:Code) (cc:C) (s:S) (x:Ex) (s':S),eG pr c=aA (cL cc)->gy c=[]->exec cfg call n n0 cc s=aA (x,s')->∀(a:Act) (w:be) (Z:Zs) (j:J),St Z w j s.env a->SR cfg.P Z w j s.mem ->
   ∀(Q:Exit->Act->be->Prop),(∀a' w',lN cfg.P n0 Z w j s.mem s' a' w'->gf (dD cc) w a a' w'->Q (j8 x) a' w')->∀(m:Nat),c.wpIn (FR aF) m cfg.P Q a w:=by
 intro c
 have leaf:∀(c:Code) (cc:C) (s:S) (x:Ex) (s':S),((dN pr c).bind fun cc=>if (fd cc).all fun i=>jt i 3000000 then aA cc else aF)=aA (cL cc)->exec cfg call n n0 cc s=aA (x,s')->∀(a:Act) (w:be) (Z:Zs) (j:J),St Z w j s.env a->SR cfg.P Z w j s.mem ->
   ∀(Q:Exit->Act->be->Prop),(∀a' w',lN cfg.P n0 Z w j s.mem s' a' w'->gf (dD cc) w a a' w'->Q (j8 x) a' w')->∀(m:Nat),c.wpIn (FR aF) m cfg.P Q a w:=by
  intro c cc s x s' hc h a w Z j st sr Q hQ m;simp only[obi]at hc;obtain⟨c1,h1,h2⟩:=hc;split at h2;rotate_left
  ·cases h2
  rename_i hall;have e1:c1=cL cc:=Option.some.inj h2;rw[e1]at h1 hall
  have hx:∀i,x = .exit i->i < 3000000:=fun i hi=>by
   subst hi;have:=eJ.1 hall i (ZK _ _ (Og _ _ _ _ h));simpa[o7]using this
  refine CX hm hp hi hsq c aF cc s x s' h1 (fun e=>(e rfl).elim) h a w Z j st sr Q (fun a' w' g1 g2=>?_) m;rw[<-T6 hx];exact hQ a' w' g1 g2
 induction c with
 |seq p q ihp ihq =>
  intro cc s x s' hc hsp h a w Z j st sr Q hQ m;simp only[gy,ww]at hsp;simp only[eG]at hc;split at hc
  ·rename_i l hl;cases p<;>simp[Do]at hl;simp[gy]at hsp
  rw[aU (by rw[hsp.1];rfl)]at hc;simp only[obi,omi]at hc;obtain⟨cp,hcp,cq,hcq,hcc⟩:=hc;cases cc<;>simp[cL]at hcc;rotate_left
  ·rename_i fl ca cb;obtain⟨hc1,rfl⟩:=hcc
   have hst0:iG ca=false:=by
    cases hh:iG ca with
    |false=>rfl
    |true=>rw[hh]at hc1;exact gU (hcp.trans (ef aA hc1)) I4
   rw[hst0]at hc1;have hcp:eG pr p=aA (cL ca):=by rw[hcp,hc1];rfl
   simp only[exec]at h;cases h1:exec cfg call n n0 ca s with
   |none=>simp[h1]at h
   |some r =>
    obtain⟨x1,s1⟩:=r;simp only[h1,bk]at h;refine wpIn_seq (ihp ca s x1 s1 hcp hsp.1 h1 a w Z j st sr _ (fun a1 w1 haf hk=>?_) m);cases x1 with
    |norm =>
     obtain⟨Z1,j1,q1,q2,q3,q4⟩:=haf;obtain⟨j2,t1,t2,t3,t4⟩:=mD n0 fl q1 q2;refine ihq cb (dO n0 fl s1) x s' hcq hsp.2 h a1 w1 Z1 j2 t1 t2 Q (fun a' w' h' hk'=>?_) m;obtain⟨Z2,j3,r1,r2,r3,r4⟩:=h';exact hQ a' w' ⟨Z2,j3,r1,r2,(q3.trans t3).trans r3,(q4.trans t4).trans r4⟩ (hk.trans q2 (t3.trans r3) q3.size hk')
    |exit i =>
     cases h;have:=hQ a1 w1 haf (hk.weak fun i hi=>cz.2 (.inl hi));simp only[j8]at this |-
     split at this<;>rename_i bd
     ·simp only[aU bd];exact this
     ·simp only[aY bd];exact this
    |ret=>cases h;exact hQ a1 w1 haf (hk.weak fun i hi=>cz.2 (.inl hi))
  rename_i ca cb;obtain⟨rfl,rfl⟩:=hcc;simp only[exec]at h;cases h1:exec cfg call n n0 ca s with
  |none=>simp[h1]at h
  |some r =>
   obtain⟨x1,s1⟩:=r;simp only[h1,bk]at h;refine wpIn_seq (ihp ca s x1 s1 hcp hsp.1 h1 a w Z j st sr _ (fun a1 w1 haf hk=>?_) m);cases x1 with
   |norm =>
    obtain⟨Z1,j1,q1,q2,q3,q4⟩:=haf;refine ihq cb s1 x s' hcq hsp.2 h a1 w1 Z1 j1 q1 q2 Q (fun a' w' h' hk'=>?_) m;obtain⟨Z2,j2,r1,r2,r3,r4⟩:=h';exact hQ a' w' ⟨Z2,j2,r1,r2,q3.trans r3,q4.trans r4⟩ (hk.trans q2 r3 q3.size hk')
   |exit i =>
    cases h;have:=hQ a1 w1 haf (hk.weak fun i hi=>cz.2 (.inl hi));simp only[j8]at this |-
    split at this<;>rename_i bd
    ·simp only[aU bd];exact this
    ·simp only[aY bd];exact this
   |ret=>cases h;exact hQ a1 w1 haf (hk.weak fun i hi=>cz.2 (.inl hi))
 |cond cnd p q ihp ihq =>
  intro cc s x s' hc hsp h a w Z j st sr Q hQ m;simp only[eG]at hc;split at hc;rotate_left
  ·cases hc
  rename_i hsp;simp only[co,List.isEmpty_iff]at hsp;simp only[obi,omi]at hc;obtain⟨cp,hcp,cq,hcq,hcc⟩:=hc;cases cc<;>simp[cL]at hcc;rename_i c0 ca cb;obtain⟨rfl,rfl,rfl⟩:=hcc;simp only[exec]at h;cases h1:bv s.env cnd with
  |none=>simp[h1]at h
  |some v =>
   have hv:=st.eval cnd v h1;cases v<;>simp only[h1,bk]at h<;>first|(cases h;done)|skip;rename_i t;cases hu:a.eval cnd<;>rw[hu]at hv<;>cases hv;cases t
   ·exact wpIn_cond hu (ihq cb s x s' hcq hsp.2 (by simpa using h) a w Z j st sr Q (fun a' w' h1 h2=>hQ a' w' h1 (h2.weak fun i hi=>cz.2 (.inr hi))) m)
   ·exact wpIn_cond hu (ihp ca s x s' hcp hsp.1 (by simpa using h) a w Z j st sr Q (fun a' w' h1 h2=>hQ a' w' h1 (h2.weak fun i hi=>cz.2 (.inl hi))) m)
 |goto l =>
  intro cc s x s' hc hsp h a w Z j st sr Q hQ m;cases cc<;>simp[eG,cL]at hc;subst hc;simp[exec]at h;obtain⟨rfl,rfl⟩:=h;have:=hQ a w ⟨Z,j,st,sr,bh.refl _ _ _ _,JK.refl _ _⟩ (gf.refl _ _ _ _);rw[T5]at this;exact wpIn_goto this
 |block id p ih =>
  intro cc s x s' hc hsp h a w Z j st sr Q hQ m;simp only[eG]at hc;split at hc;rotate_left
  ·cases hc
  rename_i hcnd;simp only[co,List.isEmpty_iff,o7]at hcnd;obtain⟨cp0,hcp,hb⟩:=omi.1 hc;cases cc<;>simp[cL]at hb;rename_i id2 cp;obtain⟨rfl,rfl⟩:=hb;simp only[exec,omi]at h;obtain⟨⟨x1,s1⟩,h1,h2⟩:=h;refine wpIn_block (ih cp s x1 s1 hcp hcnd.1 h1 a w Z j st sr _ (fun a1 w1 haf hk=>?_) m);cases x1 with
  |norm=>cases h2;exact hQ a1 w1 haf hk
  |ret=>cases h2;exact hQ a1 w1 haf hk
  |exit i =>
   simp only at h2
   by_cases bd:i < 3000000
   ·simp only[j8,aU bd];show(if i=id then Q .normal a1 w1 else Q (.exit i) a1 w1);split at h2
    ·rename_i e;cases h2;rw[aU e];exact hQ a1 w1 haf hk
    ·rename_i e;cases h2;rw[aY e];have:=hQ a1 w1 haf hk;simp only[j8,aU bd]at this;exact this
   ·rw[aY (by omega)]at h2;cases h2;have:=hQ a1 w1 haf hk;simp only[j8,aY bd]at this |-
    exact this
 |_=>intro cc s x s' hc hsp h;simp only[eG]at hc;exact leaf _ cc s x s' hc h
theorem afH{pr:Nat->Bool}{cfg:bS}{call:de}(hm:cfg.P.follows .mixedOrders=aC)(hp:i5 cfg.P call.pc)(hi:iK cfg.P call.ic)(hsq:sj cfg.P cfg.seqp){n n0:Nat}{c0:Code} :
  ∀(c:Code) (cc:C) (s:S) (x:Ex) (s':S),eG pr c=aA (cL cc)->(gy c).Nodup->(∀l∈gy c,ly c0 l=ly c l)->exec cfg call n n0 cc s=aA (x,s')->∀(a:Act) (w:be) (Z:Zs) (j:J),St Z w j s.env a->SR cfg.P Z w j s.mem ->
   ∀(Q:Exit->Act->be->Prop),(∀a' w',lN cfg.P n0 Z w j s.mem s' a' w'->gf (dD cc) w a a' w'->Q (j8 x) a' w')->∀(m:Nat),rQ (FR aF) m cfg.P c0 c Q a w:=by
 intro c
 induction c with
 |seq p q _ ihq =>
  intro cc s x s' hc hnd hlab h a w Z j st sr Q hQ m;cases hl:Do p with
  |none =>
   have hc0:=hc;simp only[eG,hl]at hc;split at hc;rotate_left
   ·grind
   rename_i hpe;have hpe:gy p=[]:=by grind
   simp only[obi,omi]at hc;obtain⟨cp,hcp,cq,hcq,hcc⟩:=hc;have hnd':(gy q).Nodup:=by simpa[gy,hpe]using hnd
   have hlab':∀l∈gy q,ly c0 l=ly q l:=fun l hl=>by
    rw[hlab l (by simp[gy,hpe,hl])];have:ly p l=none:=On (by grind);simp only[ly,this]
   cases cc<;>simp[cL]at hcc;rotate_left
   ·rename_i fl ca cb;obtain⟨hc1,rfl⟩:=hcc
    have hst0:iG ca=false:=by
     cases hh:iG ca with
     |false=>rfl
     |true=>rw[hh]at hc1;exact gU (hcp.trans (ef aA hc1)) I4
    rw[hst0]at hc1;have hcp:eG pr p=aA (cL ca):=by grind
    simp only[exec]at h;cases h1:exec cfg call n n0 ca s with
    |none=>grind
    |some r =>
     obtain⟨x1,s1⟩:=r;simp only[h1,bk]at h;refine Fq (IY hm hp hi hsq p ca s x1 s1 hcp hpe h1 a w Z j st sr _ (fun a1 w1 haf hk=>?_) m);cases x1 with
     |norm =>
      obtain⟨Z1,j1,q1,q2,q3,q4⟩:=haf;obtain⟨j2,t1,t2,t3,t4⟩:=mD n0 fl q1 q2;refine ihq cb (dO n0 fl s1) x s' hcq hnd' hlab' h a1 w1 Z1 j2 t1 t2 Q (fun a' w' h' hk'=>?_) m;obtain⟨Z2,j3,r1,r2,r3,r4⟩:=h';exact hQ a' w' ⟨Z2,j3,r1,r2,(q3.trans t3).trans r3,(q4.trans t4).trans r4⟩ (hk.trans q2 (t3.trans r3) q3.size hk')
     |exit i =>
      cases h;have:=hQ a1 w1 haf (hk.weak fun i hi=>cz.2 (.inl hi));simp only[j8]at this |-
      split at this<;>rename_i bd
      ·simp only[aU bd];exact this
      ·simp only[aY bd];exact this
     |ret=>cases h;exact hQ a1 w1 haf (hk.weak fun i hi=>cz.2 (.inl hi))
   rename_i ca cb;obtain⟨rfl,rfl⟩:=hcc;simp only[exec]at h;cases h1:exec cfg call n n0 ca s with
   |none=>grind
   |some r =>
    obtain⟨x1,s1⟩:=r;simp only[h1,bk]at h;refine Fq (IY hm hp hi hsq p ca s x1 s1 hcp hpe h1 a w Z j st sr _ (fun a1 w1 haf hk=>?_) m);cases x1 with
    |norm =>
     obtain⟨Z1,j1,q1,q2,q3,q4⟩:=haf;refine ihq cb s1 x s' hcq hnd' hlab' h a1 w1 Z1 j1 q1 q2 Q (fun a' w' h' hk'=>?_) m;obtain⟨Z2,j2,r1,r2,r3,r4⟩:=h';exact hQ a' w' ⟨Z2,j2,r1,r2,q3.trans r3,q4.trans r4⟩ (hk.trans q2 r3 q3.size hk')
    |exit i =>
     cases h;have:=hQ a1 w1 haf (hk.weak fun i hi=>cz.2 (.inl hi));simp only[j8]at this |-
     split at this<;>rename_i bd
     ·simp only[aU bd];exact this
     ·simp only[aY bd];exact this
    |ret=>cases h;exact hQ a1 w1 haf (hk.weak fun i hi=>cz.2 (.inl hi))
  |some l =>
   simp only[eG,hl,omi]at hc;obtain⟨cq,hcq,hcc⟩:=hc;have hpl:p = .label l:=by cases p<;>simp[Do]at hl;rw[hl]
   subst hpl;have hnd1:l∉gy q/\(gy q).Nodup:=by simpa[gy]using hnd
   have hlab':∀l'∈gy q,ly c0 l'=ly q l':=fun l' hl'=>by
    rw[hlab l' (by simp[gy,hl'])];have:ly (.label l) l'=none:=On (by simp[gy];grind);simp only[ly]at this |-
    grind
   have hfl:ly c0 l=aA (.seq .skip q):=by
    rw[hlab l (by simp[gy])];simp[ly]
   cases cc<;>simp[cL]at hcc;rename_i e1 c1;obtain⟨rfl,hcc⟩:=hcc;cases c1<;>simp[cL]at hcc;rename_i fl c2;cases c2<;>simp[cL]at hcc;rename_i g1 c3;obtain⟨rfl,hcc⟩:=hcc
   have shape:∃ca,eG pr q=aA (cL ca)/\(∀i,i∈dD ca->i∈dD (.block (od l) (.loop fl (.block (mK l) c3))))/\∀s r,exec cfg call n n0 c3 s=aA r->∃y t,exec cfg call n n0 ca s=aA (y,t) /\
     ((y = .norm/\r.1 = .exit (od l)/\(r.2=t∨∃f,r.2=dO n0 f t))∨(y≠.norm/\r=(y,t))):=by
    cases c3<;>simp[cL]at hcc
    ·rename_i ca cb;obtain⟨rfl,hcb⟩:=hcc;cases cb<;>simp[cL]at hcb;subst hcb;refine⟨ca,hcq,fun i hi=>by simp only[dD,fh];grind,fun s r hr=>?_⟩;simp only[exec,obi]at hr;grind
    ·rename_i f2 ca cb;obtain⟨hc1,hcb⟩:=hcc;cases cb<;>simp[cL]at hcb;subst hcb
     have hst0:iG ca=false:=by
      cases hh:iG ca with
      |false=>rfl
      |true=>rw[hh]at hc1;exact gU (hcq.trans (ef aA hc1)) I4
     rw[hst0]at hc1;refine⟨ca,by grind,fun i hi=>by simp only[dD,fh];grind,fun s r hr=>?_⟩;simp only[exec,obi]at hr;grind
   obtain⟨ca,hca,hwr,hsh⟩:=shape;have hge:mK l≠od l:=by unfold mK od;omega
   have key:∀(k:Nat) (s:S) (x1:Ex) (s1:S),eX (fun s=>exec cfg call n n0 (.block (mK l) c3) (dO n0 fl s)) k s=aA (x1,s1)->∀(a:Act) (w:be) (Z:Zs) (j:J),St Z w j s.env a->SR cfg.P Z w j s.mem ->
     ∀(Q:Exit->Act->be->Prop),(∀a' w',lN cfg.P n0 Z w j s.mem (dO n0 fl s1) a' w'->gf (dD (.block (od l) (.loop fl (.block (mK l) c3)))) w a a' w'->Q (yd l x1) a' w')->rQ (FR aF) m cfg.P c0 q Q a w:=by
    intro k
    induction k with
    |zero=>intro s x1 s1 h;simp[eX]at h
    |succ k ihk =>
     intro s x1 s1 h a w Z j st sr Q hQ;simp only[eX,obi]at h;obtain⟨⟨x2,s2⟩,hb,h⟩:=h;simp only[exec,omi]at hb;obtain⟨r,hr,hb⟩:=hb;obtain⟨y,t,hy,hcase⟩:=hsh _ _ hr;obtain⟨j0',t1,t2,t3,t4⟩:=mD n0 fl st sr;refine ag9 hfl (ihq ca _ y t hca hnd1.2 hlab' hy a w Z j0' t1 t2 _ (fun a2 w2 haf hk=>?_) m);have hk:=hk.weak hwr
     have last:∀(t':S),(t'=t∨∃f,t'=dO n0 f t)->s1=t'->Q (yd l x1) a2 w2:=by
      intro t' ht' es;obtain⟨Z1,j1,q1,q2,q3,q4⟩:=haf
      have:∃j2,St Z1 w2 j2 t'.env a2/\SR cfg.P Z1 w2 j2 t'.mem/\bh Z1 w2 j1 t.mem Z1 w2 j2 t'.mem/\JK n0 j1 j2:=by
       rcases ht' with rfl|⟨f,rfl⟩
       ·exact⟨j1,q1,q2,bh.refl _ _ _ _,JK.refl _ _⟩
       ·exact mD n0 f q1 q2
      obtain⟨j2,p1,p2,p3,p4⟩:=this;obtain⟨j3,r1,r2,r3,r4⟩:=mD n0 fl p1 p2;subst es;exact hQ a2 w2 ⟨Z1,j3,r1,r2,(((t3.trans q3).trans p3).trans r3),((t4.trans q4).trans p4).trans r4⟩ hk
     rcases hcase with⟨rfl,hr1,hr2⟩|⟨hyn,rfl⟩
     ·-- to the end
      obtain⟨r1,r2⟩:=r;simp only at hr1 hr2;subst hr1;simp only at hb;rw[aY (Ne.symm hge)]at hb;cases hb;cases h;have:=last _ hr2 rfl;simp only[yd,cZ]at this;exact this
     ·cases y with
      |norm=>grind
      |ret =>
       cases hb;cases h;exact last _ (.inl rfl) rfl
      |exit i =>
       simp only at hb;split at hb
       ·-- once more
        rename_i hig;subst hig;cases hb;rw[T5];simp only[cZ];obtain⟨Z1,j1,q1,q2,q3,q4⟩:=haf;refine Fq (wpIn_skip (ihk _ x1 s1 h a2 w2 Z1 j1 q1 q2 Q fun a' w' h' hk'=>?_));obtain⟨Z2,j2,r1,r2,r3,r4⟩:=h';exact hQ a' w' ⟨Z2,j2,r1,r2,(t3.trans q3).trans r3,(t4.trans q4).trans r4⟩ ((hk.trans q2 r3 q3.size hk').weak fun i hi=>(cz.1 hi).elim id id)
       ·rename_i hig;cases hb;cases h
        by_cases hie:i=od l
        ·rcases Q8 _ _ hca i (by rw[HX];exact HJ _ _ _ _ hy)with bd|⟨l',hl'⟩
         ·unfold od at hie;omega
         ·unfold od at hie;unfold mK at hl';omega
        ·have:=last _ (.inl rfl) rfl;simp only[yd,aY hie,j8]at this;simp only[j8];split at this<;>rename_i bd
         ·grind
         ·simp only[aY bd]
          have hne:¬((i - 3000000) / 2=l):=by
           rcases Q8 _ _ hca i (by rw[HX];exact HJ _ _ _ _ hy)with hlt2|⟨l',hl'⟩
           ·omega
           ·unfold mK at hl' hig;omega
          simp only[aY hne];grind
   simp only[exec,omi]at h;obtain⟨⟨y,t⟩,⟨⟨x0,s0⟩,hit,hr⟩,h⟩:=h;have hr1:x0=y:=ef Prod.fst hr;have hr2:dO n0 fl s0=t:=ef Prod.snd hr;subst hr1 hr2;refine Fq (wpIn_label (key n s x0 s0 hit a w Z j st sr Q fun a' w' haf hk=>?_));cases x0 with
   |norm=>cases h;exact hQ a' w' haf hk
   |ret=>cases h;exact hQ a' w' haf hk
   |exit i =>
    simp only at h;split at h
    ·rename_i e;cases h;simp only[yd,aU e];exact hQ a' w' haf hk
    ·rename_i e;cases h;simp only[yd,aY e];grind
 |_ =>
  intro cc s x s' hc hnd hlab h a w Z j st sr Q hQ m
  first
  |exact aha (IY hm hp hi hsq _ cc s x s' hc rfl h a w Z j st sr Q hQ m)
  |(simp[eG,dN]at hc)
theorem afG{c r c0:Code}(h:Kz c=aA (r,c0)):c = .seq r (.scope c0):=by
 unfold Kz at h;grind
theorem ady{pr:Nat->Bool}{c:Code}{p:C}(h:yg pr c=aA p):cL p=p:=by
 unfold yg at h;split at h
 ·simp only[obi]at h;obtain⟨cr,h1,cs,h2,h3⟩:=h;split at h3
  ·cases h3;simp only[cL,AE _ _ h1,adz _ _ h2]
  grind
 ·exact AE _ _ h
theorem Vf{pr:Nat->Bool}{cfg:bS}{call:de}(hm:cfg.P.follows .mixedOrders=aC)(hp:i5 cfg.P call.pc)(hi:iK cfg.P call.ic)(hsq:sj cfg.P cfg.seqp){n n0:Nat}
  (c:Code) (cc:C) (s:S) (x:Ex) (s':S) (hc:yg pr c=aA (cL cc)) (h:exec cfg call n n0 cc s=aA (x,s')) (a:Act) (w:be) (Z:Zs) (j:J) (st:St Z w j s.env a) (sr:SR cfg.P Z w j s.mem)
  (Q:Exit->Act->be->Prop) (hQ:∀a' w',lN cfg.P n0 Z w j s.mem s' a' w'->gf (dD cc) w a a' w'->Q x.toExit a' w') (m:Nat):c.wpIn (FR aF) m cfg.P Q a w:=by
 unfold yg at hc;split at hc;rotate_left
 ·exact CX hm hp hi hsq c aF cc s x s' hc (fun e=>(e rfl).elim) h a w Z j st sr Q hQ m
 rename_i r c0 hsc;have:=afG hsc;subst this;simp only[obi]at hc;obtain⟨cr,hcr,cs,hcs,hc⟩:=hc;split at hc;rotate_left
 ·grind
 rename_i bA;simp only[Tj,co,iR]at bA;obtain⟨hnd,hfree⟩:=bA;have hc:=Option.some.inj hc
 have tail:∀(cb:C) (s:S) (x:Ex) (s':S),cs=cL cb->exec cfg call n n0 cb s=aA (x,s')->∀(a:Act) (w:be) (Z:Zs) (j:J),St Z w j s.env a->SR cfg.P Z w j s.mem ->
   ∀(Q:Exit->Act->be->Prop),(∀a' w',lN cfg.P n0 Z w j s.mem s' a' w'->gf (dD cb) w a a' w'->Q x.toExit a' w')->(Code.scope c0).wpIn (FR aF) m cfg.P Q a w:=by
  intro cb s x s' e h a w Z j st sr Q hQ
  have hx:∀i,x = .exit i->i < 3000000:=fun i hi=>by
   subst hi;have h1:=HJ _ _ _ _ h;rw[<-HX,<-e]at h1;simp_all
  refine ag8 (afH hm hp hi hsq c0 cb s x s' (hcs.trans (ef aA e)) hnd (fun _ _=>rfl) h a w Z j st sr _ (fun a' w' g1 g2=>?_) m);rw[T6 hx];refine⟨fun l e=>?_,hQ a' w' g1 g2⟩;cases x<;>cases e
 cases cc with
 |cseq fl ca cb =>
  simp only[cL,C.seq.injEq]at hc;obtain⟨hc1,hcb⟩:=hc
  have hst0:iG ca=false:=by
   cases hh:iG ca with
   |false=>rfl
   |true=>rw[hh]at hc1;exact gU (hcr.trans (ef aA hc1)) I5
  rw[hst0]at hc1;have hcp:dN pr r=aA (cL ca):=by grind
  simp only[exec]at h;cases h1:exec cfg call n n0 ca s with
  |none=>grind
  |some q =>
   obtain⟨x1,s1⟩:=q;simp only[h1,bk]at h;refine wpIn_seq (CX hm hp hi hsq r aF ca s x1 s1 hcp (fun e=>(e rfl).elim) h1 a w Z j st sr _ (fun a1 w1 haf hk=>?_) m);cases x1 with
   |norm =>
    obtain⟨Z1,j1,q1,q2,q3,q4⟩:=haf;obtain⟨j2,t1,t2,t3,t4⟩:=mD n0 fl q1 q2;refine tail cb (dO n0 fl s1) x s' hcb h a1 w1 Z1 j2 t1 t2 Q (fun a' w' h' hk'=>?_);obtain⟨Z2,j3,r1,r2,r3,r4⟩:=h';exact hQ a' w' ⟨Z2,j3,r1,r2,(q3.trans t3).trans r3,(q4.trans t4).trans r4⟩ (hk.trans q2 (t3.trans r3) q3.size hk')
   |exit i=>cases h;exact hQ a1 w1 haf (hk.weak fun i hi=>cz.2 (.inl hi))
   |ret=>cases h;exact hQ a1 w1 haf (hk.weak fun i hi=>cz.2 (.inl hi))
 |seq ca cb =>
  simp only[cL,C.seq.injEq]at hc;obtain⟨hca,hcb⟩:=hc;simp only[exec]at h;cases h1:exec cfg call n n0 ca s with
  |none=>grind
  |some q =>
   obtain⟨x1,s1⟩:=q;simp only[h1,bk]at h;refine wpIn_seq (CX hm hp hi hsq r aF ca s x1 s1 (hcr.trans (ef aA hca)) (fun e=>(e rfl).elim) h1 a w Z j st sr _ (fun a1 w1 haf hk=>?_) m);cases x1 with
   |norm =>
    obtain⟨Z1,j1,q1,q2,q3,q4⟩:=haf;refine tail cb s1 x s' hcb h a1 w1 Z1 j1 q1 q2 Q (fun a' w' h' hk'=>?_);obtain⟨Z2,j2,r1,r2,r3,r4⟩:=h';exact hQ a' w' ⟨Z2,j2,r1,r2,q3.trans r3,q4.trans r4⟩ (hk.trans q2 r3 q3.size hk')
   |exit i=>cases h;exact hQ a1 w1 haf (hk.weak fun i hi=>cz.2 (.inl hi))
   |ret=>cases h;exact hQ a1 w1 haf (hk.weak fun i hi=>cz.2 (.inl hi))
 |_=>simp[cL]at hc
def ym(a:Act):ResultVar->Sem aR
 |.tmp t=>pure (a.tmps.getD t undef)
 |.cell b t=>do loadVar t (<-asAddr (a.tmps.getD b undef))
theorem aeo{fn:Func}{s:S}{a:Act}{vs:List V}(st:St Z w j s.env a)(sr:SR P Z w j s.mem)
  (h:cC (oM P s) (fn.results.toList.map wi)=aA vs) :
  ∃us:List aR,us.length=vs.length/\(∀(i:Nat) (v:V) (u:aR),vs[i]? = aA v->us[i]? = aA u->VR Z w j v u) /\
   (results fn a.tmps).run P w = .ok (if h:us.toArray.size=1 then us.toArray[0] else .tuple us.toArray) w:=by
 have key:∀(l:List ResultVar) (vs:List V),cC (oM P s) (l.map wi)=aA vs ->
   ∃us:List aR,us.length=vs.length/\(∀(i:Nat) (v:V) (u:aR),vs[i]? = aA v->us[i]? = aA u->VR Z w j v u) /\
    (l.mapM (m:=Sem) (ym a)).run P w = .ok us w:=by
  intro l
  induction l with
  |nil=>intro vs h;simp[cC]at h;simp_all
  |cons r l ih =>
   intro vs h;simp only[d8,cC]at h;cases h2:cC (oM P s) (l.map wi)with
   |none=>all_goals simp_all
   |some ws =>
    obtain⟨us,e1,e2,e3⟩:=ih ws h2
    have fin:∀(v:V) (u:aR),vs=v::ws->VR Z w j v u->(ym a r).run P w = .ok u w ->
      ∃us:List aR,us.length=vs.length/\(∀(i:Nat) (v:V) (u:aR),vs[i]? = aA v->us[i]? = aA u->VR Z w j v u) /\
       ((r::l).mapM (m:=Sem) (ym a)).run P w = .ok us w:=by
     intro v u hvs hv hr;subst hvs;refine⟨u::us,by grind,fun i v' u' hv' hu'=>?_,?_⟩
     ·grind
     simp_all
    cases r with
    |tmp t =>
     simp only[wi,oM]at h;cases h1:s.env[t]? with
     |none=>grind
     |some v =>
      simp[h1,h2]at h;obtain⟨u,hu,hv⟩:=st.val t v h1;exact fin v u h.symm hv (by simp[ym,jr,hu])
    |cell b t =>
     simp only[wi,oM]at h;cases h1:s.env[b]? with
     |none=>grind
     |some p =>
      cases hl:gE P s.mem t p with
      |none=>grind
      |some v =>
       simp[h1,hl,h2]at h;obtain⟨u,hu,hv⟩:=st.val b p h1;obtain⟨u',h3,h4⟩:=P0 sr hl hv;refine fin v u' h.symm h4 ?_
       have hp:∃ad,u = .pointer (aA ad):=by
        unfold gE at hl;cases hlk:f7 s.mem p with
        |none=>grind
        |some r =>
         obtain⟨x,off⟩:=r;obtain⟨g,b',hu',_⟩:=P3 sr hlk hv;grind
       obtain⟨ad,rfl⟩:=hp;simp only[Instr.loadAt,Instr.sureAddr,Sem.run_bind,Sem.run_pure,Result.andThen_ok]at h3;simp[ym,jr,hu,asAddr,h3]
 obtain⟨us,e1,e2,e3⟩:=key fn.results.toList vs h;refine⟨us,e1,e2,?_⟩;unfold results;rw[Uv];refine Eq.trans (b:=(do let vs <-List.toArray <$> List.mapM (ym a) fn.results.toList;pure (if h:vs.size=1 then vs[0] else .tuple vs):Sem aR).run P w) ?_ ?_
 ·rfl
 simp_all
theorem agi{args:List V}{us:List aR}{nt:Nat}(ha:gB Z w j args us):St Z w j (args++dh (nt - args.length) (.tup [])) { tmps:=us.toArray++FB (nt - us.toArray.size) undef,defers:=[] }:=by
 refine⟨by simp[ha.1],fun i v hv=>?_⟩
 by_cases hi:i < args.length
 ·rw[eK hi]at hv;have hi':i < us.length:=by rw[<-ha.1];grind
  exact⟨us[i],by grind,ha.2 i v _ hv (cj hi')⟩
 ·rw[eO (by omega)]at hv;have bd:=(bX.1 hv).1;simp only[Lp]at bd
  have e:v = .tup []:=by
   grind
  subst e;refine⟨undef,?_,.tup (us:=[]) rfl fun i c u hc=>by grind⟩;have hl:=ha.1;grind
theorem abL{fn:Func}{a:Act}{env:List V}{R:Ending->be->Prop}{Z0:Zs}{w0:be}{j0':J}{mem0:List O}:∀(Ds:List Nat) (w:be),Ds.Nodup->(∀D∈Ds,w0.heap.size<=D/\w.heap[D]? = aA (.deferred (aA []))) ->
  St Z w j env a->SR P Z w j mem->bh Z0 w0 j0' mem0 Z w j mem ->
  (∀w',St Z w' j env a->SR P Z w' j mem->bh Z0 w0 j0' mem0 Z w' j mem->∃v,(results fn a.tmps).run P w' = .ok v w'/\R (.returned v) w')->LeavesInM (FR aF) 0 P fn a.tmps R (Ds.map Aj) .returning w:=by
 intro Ds
 induction Ds with
 |nil=>intro w _ _ st sr stp h;exact h w st sr stp
 |cons D Ds ih =>
  intro w hn hD st sr stp h;obtain⟨h1,h2⟩:=hD D (by simp);have hne:D∉Ds:=(o5.1 hn).1;refine⟨by simp,.inl ⟨D,_,rfl,run_takeDeferred h2,ih _ (o5.1 hn).2 (fun D' hD'=>?_) (st.mono (uM h2 rfl rfl) (bE.refl _)) (sr.book h2 rfl rfl) (stp.book h1 h2 rfl rfl) h⟩⟩;obtain⟨k1,k2⟩:=hD D' (by grind);exact⟨k1,(World.putObj_heap_other (by grind)).trans k2⟩
theorem JF{cfg:bS}{call:de}(hm:cfg.P.follows .mixedOrders=aC)(hp:i5 cfg.P call.pc)(hi:iK cfg.P call.ic)(hsq:sj cfg.P cfg.seqp){n:Nat}{f:bL}{fa:FA}{args:List V}{us:List aR}{vs:List V}
  (hf:il cfg.P (cfg.rxf f) f=aA fa) (h:rE cfg call n fa args mem=aA (vs,mem')) (sr:SR cfg.P Z w j mem) (ha:gB Z w j args us) :
  Calls cfg.P f us.toArray w fun e w1=>∃(xs:List aR) (Z1:Zs) (j1:J),e = .returned (if h:xs.toArray.size=1 then xs.toArray[0] else .tuple xs.toArray)/\xs.length=vs.length /\
   (∀(i:Nat) (v:V) (u:aR),vs[i]? = aA v->xs[i]? = aA u->VR Z1 w1 j1 v u)/\SR cfg.P Z1 w1 j1 mem'/\bh Z w j mem Z1 w1 j1 mem'/\JK mem.length j j1:=by
 unfold il at hf;cases hfn:cfg.P.funcs[f]? with
 |none=>grind
 |some fn =>
  simp only[hfn]at hf;split at hf
  ·grind
  ·cases hb:fn.body with
   |none=>grind
   |some c =>
    simp only[hb,omi]at hf;obtain⟨cc,hcc,rfl⟩:=hf;unfold rE at h;split at h
    ·rename_i hn;obtain⟨hn1,hn2⟩:=hn;simp only at hn1 hn2;simp only at h;rw[<-hn1]at h;generalize hce:jm (cfg.rxf f) fn.ntmps (fn.results.toList.map fun r=>match r with |.tmp t=>t |.cell t _=>t) [] cc []=ce at h;have hcc':yg (cfg.rxf f) c=aA (cL ce):=by rw[<-hce,afO,ady hcc];grind
     cases hx:exec cfg call n mem.length ce ⟨args++dh (fn.ntmps - args.length) (.tup []),mem⟩with
     |none=>grind
     |some r =>
      obtain⟨x,s'⟩:=r;simp only[hx,bk]at h;have st:=agi (nt:=fn.ntmps) ha;have hex:=Vf hm hp hi hsq c ce _ x s' hcc' hx _ w Z j st sr;refine callsIn_wide.1 (callsIn_of_wp_marks (F:=Fence.wide) (n:=0) hfn hb trivial (hex _ (fun a' w' haf hk=>?_) 0));obtain⟨Z1,j1,q1,q2,q3,q4⟩:=haf;have fin:(cC (oM cfg.P s') (fn.results.toList.map wi)).map (fun vs=>(vs,s'.mem))=aA (vs,mem')->LeavesInM (FR aF) 0 cfg.P fn a'.tmps (fun e w1=>∃(xs:List aR) (Z1:Zs) (j1:J),e = .returned (if h:xs.toArray.size=1 then xs.toArray[0] else .tuple xs.toArray)/\xs.length=vs.length /\
   (∀(i:Nat) (v:V) (u:aR),vs[i]? = aA v->xs[i]? = aA u->VR Z1 w1 j1 v u)/\SR cfg.P Z1 w1 j1 mem'/\bh Z w j mem Z1 w1 j1 mem'/\JK mem.length j j1) a'.defers .returning w':=by
       intro h;simp only[omi]at h;obtain⟨vs',hv,h⟩:=h;cases h;obtain⟨Ds,hDs,hnd,hDk⟩:=hk.marks;rw[hDs,fh];refine abL Ds w' hnd hDk q1 q2 q3 fun w'' t1 t2 t3=>?_
       obtain⟨xs,e1,e2,e3⟩:=aeo (fn:=fn) t1 t2 hv;grind
      cases x with
      |norm=>exact fin h
      |ret=>exact fin h
      |exit i=>cases h
    grind
theorem ac9{Z1:Zs}{w1:be}{j1:J}{xs:List aR}{vs:List V}(hl:xs.length=vs.length)(hv:∀(i:Nat) (v:V) (u:aR),vs[i]? = aA v->xs[i]? = aA u->VR Z1 w1 j1 v u) :
  VR Z1 w1 j1 (rN vs) (if h:xs.toArray.size=1 then xs.toArray[0] else .tuple xs.toArray):=by
 match vs,xs,hl with
 | [v],[u],_=>exact hv 0 v u rfl rfl
 | [],[],_=>exact .tup rfl fun i c u hc=>by grind
 |v::v'::vs,u::u'::xs,hl =>
  rw[dif_neg (by simp)];exact .tup (by grind) hv
structure yY(cfg:bS):Prop where
 mixed:cfg.P.follows .mixedOrders=aC
 pp:∀f g,cfg.pprim f=aA g->i5 cfg.P fun f' as0=>if f'=f then g as0 else aF
 ip:∀f g,cfg.iprim f=aA g->iK cfg.P fun f' as0 mem=>if f'=f then g as0 mem else aF
 seq:sj cfg.P cfg.seqp:=by exact fun _ _ _ _ _ h=>nomatch h
theorem aaZ{cfg:bS}(hc:yY cfg){call:de}(hp:i5 cfg.P call.pc)(hi:iK cfg.P call.ic)(n:Nat):iK cfg.P (oC cfg call n):=by
 intro f as0 mem r mem' h bA Z w j us sr ha;unfold oC at h;cases hpr:cfg.iprim f with
 |some g =>
  simp only[hpr]at h;exact hc.ip f g hpr f as0 mem r mem' (by grind) bA Z w j us sr ha
 |none =>
  simp only[hpr,obi,omi]at h;obtain⟨fa,hfa,⟨vs,m⟩,hrun,h⟩:=h;cases h;refine(JF hc.mixed hp hi hc.seq hfa hrun sr ha).mono ?_;rintro e w1 ⟨xs,Z1,j1,rfl,e1,e2,e3,e4,e5⟩;refine⟨_,rfl,Z1,j1,ac9 e1 e2,e3,e4,fun id x hx=>?_⟩
  by_cases bd:id < mem.length
  ·exact e5 id x bd hx
  ·rw[sr.out id (by omega)]at hx;grind
theorem DW{g:Nat}:¬bM Z j [] g:=by rintro⟨id,o,h,_⟩;grind
theorem H2{mem:List O}{v v':V}(h:pH mem v=aA v'):k9 mem v=aA v':=by
 cases v<;>first|(simp[pH]at h;done)|exact h
theorem vO:∀{l:List V} {i:Nat} {x:V},oL l=aC->l[i]? = aA x->x.plain=aC
 | [],i,x,_,h=>by grind
 |y::l,i,x,hp,h=>by
  simp only[oL,co]at hp;cases i with
  |zero=>grind
  |succ i=>exact vO hp.2 (by simpa using h)
theorem Mo{v y:V}{i:Nat}(h:v.plain=aC)(hy:v.cells[i]? = aA y):y.plain=true:=by
 have one:∀v:V,v.plain=aC->v.cells=[v]->v.cells[i]? = aA y->y.plain=true:=by
  grind
 cases v with
 |agg cs=>exact vO (l:=cs) (by simpa[pj]using h) hy
 |_=>exact one _ h rfl hy
theorem VR.swap{A:aO->Nat->Option Nat}{I:aO->Option Nat}{v:V}{u:aR}(h:VR Z w j v u):v.plain=aC->VR { Z with a:=A,i:=I } w j v u:=by
 induction h with
 |junk=>intro _;exact .junk
 |bool=>intro _;exact .bool
 |int=>intro _;exact .int
 |str=>intro _;exact .str
 |agg hl _ ih=>intro hp;exact .agg hl fun i c u h1 h2=>ih i c u h1 h2 (vO (by simpa[pj]using hp) h1)
 |tup hl _ ih=>intro hp;exact .tup hl fun i c u h1 h2=>ih i c u h1 h2 (vO (by simpa[pj]using hp) h1)
 |nilS=>intro _;exact .nilS
 |sl0=>intro _;exact .sl0
 |sl f hlc hsz hl hc _ ih =>
  intro hp;exact .sl f hlc hsz hl hc (fun k x i y h1 h2=>ih k x i y h1 h2 (Mo (vO (by simpa[pj]using hp) h1) h2))
 |own hj h0=>intro _;exact .own hj h0
 |win hj hn hlc hcc ha=>intro _;exact .win hj hn hlc hcc ha
 |ptr hj hs=>intro _;exact .ptr hj hs
 |ref f hc _ ih=>intro hp;exact .ref f hc (fun i y h1=>ih i y h1 (Mo (by simpa[pj]using hp) h1))
 |fn hl _ ih=>intro hp;exact .fn hl fun i c u h1 h2=>ih i c u h1 h2 (vO (by simpa[pj]using hp) h1)
 |mp hj=>intro _;exact .mp hj
 |nilP=>intro _;exact .nilP
 |nilF=>intro _;exact .nilF
 |nilM=>intro _;exact .nilM
 |nilI=>intro _;exact .nilI
 |unk h=>intro _;exact .unk h
 |ifc _ ih=>intro hp;exact .ifc (ih (by simpa[pj]using hp))
 |hp h=>intro hp;simp[pj]at hp
 |hm h=>intro hp;simp[pj]at hp
 |rest=>intro _;exact .rest
 |tail hj hn _ ih=>intro hp;exact .tail hj hn (ih rfl)
 |lit h hk hzz ih=>intro hp;exact .lit (ih (by simpa[pj]using hp)) hk hzz
theorem Pg:∀{l:List Nat} {k t:Nat},yb l=aC->l[k]? = aA t->lB t l=aA k
 | [],k,t,_,h=>by grind
 |x::l,k,t,hn,h=>by
  simp only[yb,co]at hn;cases k with
  |zero=>simp at h;subst h;simp[lB]
  |succ k =>
   have h':l[k]? = aA t:=by grind
   have hne:¬x=t:=by
    grind
   simp only[lB,aY hne,Pg hn.2 h',du]
def FX(Z:Zs)(ts:List aO):Zs:={ Z with a:=fun _ _=>aF,i:=fun t=>lB t ts }
theorem UX(P:bu)(t:aO):(zE P t).ar=aA (t,0):=by unfold zE;split<;>rfl
theorem LU{cfg:bS}{f:bL}{k:Nat}{o:O}(h:(qI cfg f)[k]? = aA o):∃t,(cfg.ars f)[k]? = aA t/\o=zE cfg.P t:=by
 unfold qI at h;grind
theorem LW{cfg:bS}{f:bL}{g:Nat}:¬bM Z j (qI cfg f) g:=by
 rintro⟨id,o,h,_,hb⟩;obtain⟨t,_,rfl⟩:=LU h;unfold bQ at hb;rw[UX]at hb;grind
theorem U2{cfg:bS}{f:bL}(hn:yb (cfg.ars f)=aC)(hzin:∀g o,Z g o->g < w.heap.size):SR P (FX Z (cfg.ars f)) w j0 (qI cfg f):=by
 refine⟨fun id o h=>?_,fun id id' o o' g h h' hl hl' hb _=>?_,fun _ _=>rfl,hzin⟩
 ·obtain⟨t,ht,rfl⟩:=LU h;have hA:qo (FX Z (cfg.ars f)) id t 0:=⟨Pg hn ht,fun k hk=>by omega,fun k _=>rfl,fun k k' g h=>by cases h⟩
  unfold zE;split
  ·exact⟨hA,fun k x g h=>by grind⟩
  ·exact⟨hA,fun k x g h=>by grind⟩
 ·exact(LW ⟨id,o,h,hl,hb⟩).elim
theorem adH{cfg:bS}(hc:yY cfg){call:de}(hp:i5 cfg.P call.pc)(hi:iK cfg.P call.ic)(n:Nat):i5 cfg.P (oK cfg call n):=by
 intro f as0 r h bA Z w us hzin ha;unfold oK at h;cases hpr:cfg.pprim f with
 |some g =>
  simp only[hpr]at h;exact hc.pp f g hpr f as0 r (by grind) bA Z w us hzin ha
 |none =>
  simp only[hpr]at h;split at h;rotate_left
  ·cases h
  rename_i hars;simp only[obi]at h;obtain⟨fa,hfa,⟨vs,m⟩,hrun,h⟩:=h
  by_cases hem:cfg.ars f=[]
  rotate_left
  ·-- arenas of its own
   have hars:yb (cfg.ars f)=aC/\oL as0=true:=by
    unfold Cd at hars;grind
   have ha':gB (FX Z (cfg.ars f)) w j0 as0 us:=⟨ha.1,fun i v u h1 h2=>(ha.2 i v u h1 h2).swap (vO hars.2 h1)⟩
   refine(JF hc.mixed hp hi hc.seq hfa hrun (U2 hars.1 hzin) ha').mono ?_;rintro e w1 ⟨xs,Z1,j1,rfl,e1,e2,e3,e4,_⟩
   have hv1:∃v,vs=[v]/\v.flat1=aC/\r=v:=by
    unfold C9 at h;grind
   obtain⟨v,rfl,hfl,rfl⟩:=hv1
   match xs,e1 with
   | [u],_ =>
    have hv:=e2 0 r u rfl rfl;have hv2:VR { Z1 with a:=Z.a,i:=Z.i } w1 j0 r u:=OK (hv.flat hfl j0) hfl;refine⟨u,{ Z1 with a:=Z.a,i:=Z.i },rfl,?_,⟨e4.os,e4.tape,e4.output,e4.size,fun g hg=>e4.keep g hg LW,e3.zin,rfl,rfl⟩⟩;cases r<;>first|exact hv2|(simp[jw]at hfl)
  have hem0:qI cfg f=[]:=by unfold qI;grind
  rw[hem0]at hrun;replace h:ox cfg.P m fa.rtypes vs=aA r:=by unfold C9 at h;grind
  have sr:SR cfg.P Z w j0 []:=⟨fun id o h=>by grind,fun id id' o o' g h=>by grind,fun _ _=>rfl,hzin⟩
  refine(JF hc.mixed hp hi hc.seq hfa hrun sr ha).mono ?_;rintro e w1 ⟨xs,Z1,j1,rfl,e1,e2,e3,e4,_⟩;have za:Z1.a=Z.a:=funext fun t=>(e4.ar t fun id o n ho=>by grind).2
  have st0:sn Z w Z1 w1:=⟨e4.os,e4.tape,e4.output,e4.size,fun g hg=>e4.keep g hg DW,e3.zin,za,e4.z.i⟩
  have young:∀g,bM Z1 j1 m g->w.heap.size<=g:=fun g hg=>by
   rcases mY g w.heap.size with bd|hge
   ·exact(DW (e4.owned g bd hg)).elim
   grind
  have frz:∀ids:List Nat,sn Z w (dV Z1 (Fz cfg.P j1 m ids)) w1:=fun ids=>⟨st0.os,st0.tape,st0.output,st0.size,fun g hg=>⟨(st0.keep g hg).1,fun o=>⟨fun h=>((st0.keep g hg).2 o).1 (h.resolve_right fun⟨id,_,hb,ho⟩=>by
    have:=young g (pS e3 hb ho);omega),fun h=>.inl (((st0.keep g hg).2 o).2 h)⟩⟩,fun g o h=>by
   rcases h with h|⟨id,_,hb,ho⟩
   ·exact e3.zin g o h
   ·exact bM.lt e3 (pS e3 hb ho),za,e4.z.i⟩
  have snapOne:∀(v v':V) (u:aR),pH m v=aA v'->VR Z1 w1 j1 v u->∃ids,VR (dV Z1 (Fz cfg.P j1 m ids)) w1 j0 v' u:=fun v v' u hg hv=>⟨kR m v,KN e3 (H2 hg) (fun _ h=>h) hv⟩
  have notTup2:∀(v v':V),iy m v=aA v'->(∀ws,v'≠.tup ws)/\(∀t els,v'≠.fr t els):=by
   intro v v' hs
   have s1:∀v v',f9 m v=aA v'->(∀ws,v'≠.tup ws)/\(∀t els,v'≠.fr t els):=by
    intro v v' h1;have:=(KL h1).1;exact⟨fun ws e=>(by rw[e]at this;cases this),fun t els e=>(by rw[e]at this;cases this)⟩
   cases v with
   |agg cs =>
    simp only[iy,omi]at hs;grind
   |ptr id k off =>
    simp only[iy,obi]at hs;obtain⟨⟨x,o⟩,_,hs⟩:=hs;cases x<;>simp only[omi]at hs<;>(grind)
   |_=>exact s1 _ _ (by simpa[iy]using hs)
  have notTup:∀(v v':V),k9 m v=aA v'->(∀ws,v'≠.tup ws)/\(∀t els,v'≠.fr t els):=by
   intro v v' hs
   by_cases hf:∃f caps,v = .fn f caps
   ·obtain⟨f,caps,rfl⟩:=hf;simp only[k9,omi]at hs;grind
   ·have e0:k9 m v=iy m v:=by cases v<;>first|rfl|grind
    grind
  have r1of:∀(Z2:Zs) (v':V) (u:aR),(∀t els,v'≠.fr t els)->VR Z2 w1 j0 v' u->R1 cfg.P Z2 w w1 v' u:=by
   intro Z2 v' u hn hv;cases v'<;>first|exact hv|grind
  match vs,xs,e1 with
  | [v],[u],_ =>
   have hv:=e2 0 v u rfl rfl
   have goal:∀(r':V),r=r'->∀Z2,RR cfg.P Z2 w w1 r' u->sn Z w Z2 w1->∃u' Z1,Ending.returned (if h:([u]:List aR).toArray.size=1 then ([u]:List aR).toArray[0] else .tuple ([u]:List aR).toArray) = .returned u'/\RR cfg.P Z1 w w1 r u'/\sn Z w Z1 w1:=by
    grind
   have snapG:pH m v=aA r->∃u' Z1,Ending.returned (if h:([u]:List aR).toArray.size=1 then ([u]:List aR).toArray[0] else .tuple ([u]:List aR).toArray) = .returned u'/\RR cfg.P Z1 w w1 r u'/\sn Z w Z1 w1:=by
    intro hg;obtain⟨ids,hs⟩:=snapOne v r u hg hv;obtain⟨n1,n2⟩:=notTup v r (H2 hg);exact goal r rfl _ (RR.mk (r1of _ r u n2 hs) n1) (frz ids)
   have h':∃t,s9 cfg.P m t v=aA r:=by
    unfold ox at h;grind
   obtain⟨t,h⟩:=h';unfold s9 at h;split at h
   ·rename_i id _ _;cases hmm:m[id]? with
    |none=>grind
    |some o =>
     cases o<;>simp only[hmm]at h<;>first|(cases h;done)|skip;rename_i et els fz;have hO:=e3.obj id _ hmm;obtain⟨hn,hh,hrow⟩:=hO;cases hv with
     |own hj h00 =>
      rw[hj]at hh;cases hh;split at h;rotate_left
      ·have hs:f9 m (.own id)=aA (.sl els):=by simp[f9,dy,hmm]
       exact snapG (by simp[pH,k9,iy,hs];grind)
      split at h
      ·rename_i hfz;subst hfz;split at h;rotate_left
       ·cases h
       rename_i hfl;have h1:=hrow.1;simp only at h1;subst h1;refine goal _ (Option.some.inj h).symm Z1 ?_ st0;refine⟨_,_,_,rfl,hrow,fun x hx y hy=>?_,fun g hg=>?_,h00⟩
       ·grind
       ·have ho:bM Z1 j1 m g:=⟨id,_,hmm,rfl,(bQ.plain rfl).2 (by simpa[dj,hj]using hg)⟩
        exact⟨young g ho,bM.lt e3 ho⟩
      ·have hs:f9 m (.own id)=aA (.sl els):=by simp[f9,dy,hmm]
       exact snapG (by simp[pH,k9,iy,hs];grind)
   ·cases hel:gj cfg.P t with
    |none=>grind
    |some et =>
     simp only[hel,bk]at h;split at h
     ·rename_i hpos;split at h;rotate_left
      ·exact snapG (by simp[pH,k9,iy,f9];grind)
      cases hv;refine goal _ (Option.some.inj h).symm Z1 ?_ st0;exact⟨aF,0,0,rfl,⟨rfl,hpos,c7 _,by simp,.inl ⟨rfl,rfl⟩⟩,by simp,fun g hg=>by simp[cE.blk]at hg,fun a ha=>by grind⟩
     grind
   grind
  | [],[],_ =>
   have:r = .tup []:=by
    unfold ox at h;cases hrt:fa.rtypes<;>simp[hrt,cC]at h<;>first|grind|(rename_i ts;cases ts<;>simp[hrt,cC]at h<;>exact h.symm)
   subst this;exact⟨_,Z1,rfl,⟨[],rfl,rfl,fun i v x h=>by grind⟩,st0⟩
  |v::v'::vs,u::u'::xs,hl =>
   have h':(cC (pH m) (v::v'::vs)).map aT=aA r:=by
    unfold ox at h;grind
   simp only[omi]at h';obtain⟨gs,hgs,rfl⟩:=h';obtain⟨g1,g2⟩:=kZ hgs;refine⟨.tuple (u::u'::xs).toArray,dV Z1 (Fz cfg.P j1 m ((v::v'::vs).flatMap (kR m))),by grind,⟨u::u'::xs,rfl,by grind,fun i y x hy hx=>?_⟩,frz _⟩;obtain⟨y0,hy0,hgy⟩:=g2 i y hy;have hsn:=H2 hgy;refine r1of _ y x (notTup y0 y hsn).2 (KN e3 hsn (fun k hk=>?_) (e2 i y0 x hy0 hx));grind
theorem Vt{cfg:bS}(hc:yY cfg):∀n,i5 cfg.P (eW cfg n).pc/\iK cfg.P (eW cfg n).ic:=by
 intro n
 induction n with
 |zero=>exact⟨fun f as0 r h=>by simp[eW]at h,fun f as0 mem r mem' h=>by simp[eW]at h⟩
 |succ n ih=>exact⟨adH hc ih.1 ih.2 n,aaZ hc ih.1 ih.2 n⟩
end
end Go.Lite
namespace Go.Lite
open Go
def iA(a b:de):Prop:=(∀f as0 r,a.pc f as0=aA r->b.pc f as0=aA r)/\∀f as0 m r,a.ic f as0 m=aA r->b.ic f as0 m=aA r
section
variable {cfg:bS}{a b:de}
theorem Mf(h:iA a b){dr:Bool}{f:bL}{args:List V}{mem:List O}{r:V × List O}(hr:jR cfg a dr f args mem=aA r):jR cfg b dr f args mem=aA r:=by
 unfold jR at hr |-
 split at hr
 ·cases hr
 ·rename_i h1;rw[aY h1];split at hr
  ·rename_i h2;rw[aU h2];simp only[obi]at hr |-
   obtain⟨as0,q1,x,q2,q3⟩:=hr;exact⟨as0,q1,x,h.1 _ _ _ q2,q3⟩
  ·rename_i h2;rw[aY h2];split at hr
   ·cases hr
   ·rename_i h3;rw[aY h3];cases hcf:cfg.can f with
    |none=>rw[hcf]at hr;exact h.2 _ _ _ _ hr
    |some rd =>
     rw[hcf]at hr;obtain⟨hr,hro⟩:=Ej hr;refine Jy ?_ hro;simp only[sI,omi]at hr |-
     obtain⟨x,q1,q2⟩:=hr;exact⟨x,h.2 _ _ _ _ q1,q2⟩
theorem aak(h:iA a b){f:bL}{args:List V}{mem:List O}{r:V × List O}(hr:pG a f args mem=aA r):pG b f args mem=aA r:=by
 unfold pG at hr |-
 split at hr
 ·cases hr
 rename_i hna;rw[aY hna];simp only[obi]at hr |-
 obtain⟨x,h1,h2⟩:=hr;exact⟨x,h.2 _ _ _ _ h1,h2⟩
theorem QE(h:iA a b){dr:Bool}{o:bj}{env:List V}{mem:List O}{r:V × List O}(hr:c8 cfg a dr o env mem=aA r):c8 cfg b dr o env mem=aA r:=by
 rcases o with⟨dst,op,ty,gu⟩
 cases op
 case call c =>
  obtain⟨callee,args,ats⟩:=c;cases callee
  case value f =>
   simp only[c8,obi]at hr |-
   obtain⟨fv,q1,args,q2,q3⟩:=hr;refine⟨fv,q1,args,q2,?_⟩;cases fv<;>first|exact q3|skip;simp only at q3 |-
   split at q3
   ·rename_i hx;rw[aU hx];split at q3
    ·cases q3
    ·rename_i hy;rw[aY hy];exact Mf h q3
   rename_i hx0;rw[aY hx0];split at q3
   ·rename_i hx;rw[aU hx];split at q3
    ·rename_i hy;rw[aU hy];exact aak h q3
    ·cases q3
   ·rename_i hx;rw[aY hx];exact Mf h q3
  all_goals exact hr
 case makeFunc fn first caps=>cases fn<;>exact hr
 case makeMap t rs=>cases rs<;>exact hr
 all_goals exact hr
theorem DU(h:iA a b){dr:Bool}{o:bj}{env:List V}{mem:List O}{r:V × List O}(hr:eB cfg a dr o env mem=aA r):eB cfg b dr o env mem=aA r:=by
 unfold eB at hr |-
 split at hr
 ·rename_i hx;rw[aU hx];simp only[obi]at hr |-
  obtain⟨x,q1,q2⟩:=hr;exact⟨x,QE h q1,q2⟩
 ·rename_i hx;rw[aY hx];exact QE h hr
theorem QK(h:iA a b){dr:Bool}:∀(l:List bj) (s s':S),gW cfg a dr l s=aA s'->gW cfg b dr l s=aA s':=by
 intro l
 induction l with
 |nil=>intro s s' hr;exact hr
 |cons o l ih =>
  intro s s' hr;simp only[gW,obi]at hr |-
  obtain⟨w,q1,q2⟩:=hr;refine⟨w,q1,?_⟩;cases w
  ·exact ih _ _ q2
  ·simp only[cZ,obi]at q2 |-
   obtain⟨x,q3,q4⟩:=q2;exact⟨x,DU h q3,ih _ _ q4⟩
theorem QL(h:iA a b):∀(l:List bj) (s:S) (fs:List Nat) (r:S × List Nat),jl cfg a l s fs=aA r->jl cfg b l s fs=aA r:=by
 intro l
 induction l with
 |nil=>intro s fs r hr;exact hr
 |cons o l ih =>
  intro s fs r hr;simp only[jl,obi]at hr |-
  obtain⟨w,q1,q2⟩:=hr;refine⟨w,q1,?_⟩;cases w
  ·exact ih _ _ _ q2
  ·simp only[cZ,obi]at q2 |-
   obtain⟨x,q3,q4⟩:=q2;exact⟨x,DU h q3,ih _ _ _ q4⟩
theorem adf(h:iA a b){dr:Bool}(l:List bj)(s s':S)(hr:mc cfg a dr l s=aA s'):mc cfg b dr l s=aA s':=by
 unfold mc at hr |-
 split at hr
 ·rename_i hc;rw[aU hc];simp only[obi]at hr |-
  obtain⟨r,q1,q2⟩:=hr;exact⟨r,QL h _ _ _ _ q1,q2⟩
 ·rename_i hc;rw[aY hc];exact QK h _ _ _ hr
theorem Ip{f g:S->Option (Ex × S)}(h:∀s r,f s=aA r->g s=aA r):∀(n m:Nat) (s:S) (r:Ex × S),n<=m->eX f n s=aA r->eX g m s=aA r:=by
 intro n
 induction n with
 |zero=>intro m s r _ hr;simp[eX]at hr
 |succ n ih =>
  intro m s r hm hr;cases m with
  |zero=>omega
  |succ m =>
   simp only[eX,obi]at hr |-
   obtain⟨⟨x,s'⟩,q1,q2⟩:=hr;refine⟨(x,s'),h _ _ q1,?_⟩;cases x
   ·exact ih m s' r (by omega) q2
   ·exact q2
   ·exact q2
theorem u3(h:iA a b){n m n0:Nat}(hm:n<=m):∀(c:C) (s:S) (r:Ex × S),exec cfg a n n0 c s=aA r->exec cfg b m n0 c s=aA r:=by
 intro c
 induction c with
 |skip=>intro s r hr;exact hr
 |ops dr l =>
  intro s r hr;simp only[exec,obi]at hr |-
  obtain⟨s',q1,q2⟩:=hr;exact⟨s',adf h _ _ _ q1,q2⟩
 |seq p q ihp ihq =>
  intro s r hr;simp only[exec,obi]at hr |-
  obtain⟨⟨x,s'⟩,q1,q2⟩:=hr;refine⟨(x,s'),ihp _ _ q1,?_⟩;cases x
  ·exact ihq _ _ q2
  ·exact q2
  ·exact q2
 |cond c p q ihp ihq =>
  intro s r hr;simp only[exec,obi]at hr |-
  obtain⟨v,q1,q2⟩:=hr;refine⟨v,q1,?_⟩;cases v<;>simp only at q2 |-<;>first|(cases q2;done)|skip;split at q2
  ·rename_i t;rw[aU t];exact ihp _ _ q2
  ·rename_i t;rw[aY t];exact ihq _ _ q2
 |block id p ih =>
  intro s r hr;simp only[exec,omi]at hr |-
  obtain⟨x,q1,q2⟩:=hr;exact⟨x,ih _ _ q1,q2⟩
 |loop f p ih =>
  intro s r hr;simp only[exec,omi]at hr |-
  obtain⟨x,q1,q2⟩:=hr;exact⟨x,Ip (fun s r h=>ih _ _ h) n m s x hm q1,q2⟩
 |exit i=>intro s r hr;exact hr
 |ret=>intro s r hr;exact hr
 |start g=>intro s r hr;exact hr
 |cseq f p q ihp ihq =>
  intro s r hr;simp only[exec,obi]at hr |-
  obtain⟨⟨x,s'⟩,q1,q2⟩:=hr;refine⟨(x,s'),ihp _ _ q1,?_⟩;cases x with
  |norm=>exact ihq _ _ q2
  |exit i=>exact q2
  |ret=>exact q2
 |uncons g ps ws p q ihp ihq =>
  intro s r hr;simp only[exec]at hr |-
  cases he:s.env[g]? with
  |none=>simp only[he]at hr;cases hr
  |some v =>
   simp only[he]at hr |-
   cases v<;>first|(cases hr;done)|skip;rename_i ts l;cases l with
   |nil=>exact ihq _ _ hr
   |cons x l =>
    cases x<;>first|(cases hr;done)|skip
    try simp only at hr
    try simp only
    split at hr
    ·rename_i hc;rw[aU hc];simp only[omi]at hr |-
     obtain⟨x,q1,q2⟩:=hr;exact⟨x,ihp _ _ q1,q2⟩
    ·cases hr
theorem Si(h:iA a b){n m:Nat}(hm:n<=m){fa:FA}{args:List V}{mem:List O}{r:List V × List O}(hr:rE cfg a n fa args mem=aA r):rE cfg b m fa args mem=aA r:=by
 unfold rE at hr |-
 split at hr
 ·rename_i hc;rw[aU hc];simp only[obi]at hr |-
  obtain⟨x,q1,q2⟩:=hr;exact⟨x,u3 h hm _ _ _ q1,q2⟩
 ·cases hr
theorem Q3(h:iA a b){n m:Nat}(hm:n<=m){f:bL}{as0:List V}{r:V}(hr:oK cfg a n f as0=aA r):oK cfg b m f as0=aA r:=by
 unfold oK at hr |-
 split at hr
 ·exact hr
 ·split at hr;rotate_left
  ·cases hr
  rename_i hc;rw[aU hc];simp only[obi]at hr |-
  obtain⟨fa,q1,x,q2,q3⟩:=hr;exact⟨fa,q1,x,Si h hm q2,q3⟩
theorem Pd(h:iA a b){n m:Nat}(hm:n<=m){f:bL}{as0:List V}{mem:List O}{r:V × List O}(hr:oC cfg a n f as0 mem=aA r):oC cfg b m f as0 mem=aA r:=by
 unfold oC at hr |-
 split at hr
 ·exact hr
 ·simp only[obi,omi]at hr |-
  obtain⟨fa,q1,x,q2,q3⟩:=hr;exact⟨fa,q1,x,Si h hm q2,q3⟩
theorem Vu(n:Nat):iA (eW cfg n) (eW cfg (n+1)):=by
 induction n with
 |zero=>exact⟨fun f as0 r h=>by simp[eW]at h,fun f as0 m r h=>by simp[eW]at h⟩
 |succ n ih=>exact⟨fun f as0 r h=>Q3 ih (Nat.le_succ n) h,fun f as0 m r h=>Pd ih (Nat.le_succ n) h⟩
theorem iA.refl(a:de):iA a a:=⟨fun _ _ _ h=>h,fun _ _ _ _ h=>h⟩
theorem iA.trans{c:de}(h:iA a b)(h':iA b c):iA a c:=⟨fun f as0 r q=>h'.1 f as0 r (h.1 f as0 r q),fun f as0 m r q=>h'.2 f as0 m r (h.2 f as0 m r q)⟩
theorem iD{n m:Nat}(h:n<=m):iA (eW cfg n) (eW cfg m):=by
 induction m with
 | zero=>have:n=0:=by omega
         subst this;exact iA.refl _
 |succ m ih =>
  by_cases e:n=m+1
  ·subst e;exact iA.refl _
  ·exact(ih (by omega)).trans (Vu m)
open Classical in
def vp {α:Type} (f:Nat->Option α):Option α:=if h:∃n,(f n).isSome=aC then f (Classical.choose h) else aF
def BE{α:Type}(f:Nat->Option α):Prop:=∀n m x,n<=m->f n=aA x->f m=aA x
theorem Du{α:Type}{f:Nat->Option α}{x:α}(h:vp f=aA x):∃n,f n=aA x:=by
 unfold vp at h;split at h
 ·exact⟨_,h⟩
 ·cases h
theorem tz{α:Type}{f:Nat->Option α}(hf:BE f){n:Nat}{x:α}(h:f n=aA x):vp f=aA x:=by
 unfold vp;have he:∃n,(f n).isSome=true:=⟨n,by simp[h]⟩
 rw[dif_pos he];have h1:(f (Classical.choose he)).isSome=true:=Classical.choose_spec he;generalize Classical.choose he=k at h1;cases h2:f k with
 |none=>simp[h2]at h1
 |some y =>
  have e1:=hf k (max k n) y (o8 _ _) h2;have e2:=hf n (max k n) x (o9 _ _) h;rw[e1]at e2;exact e2
end
end Go.Lite
namespace Go.Lite
open Go
def bJ (cfg:bS) (f:bL) (as0:List V):Option V:=vp fun n=>(eW cfg n).pc f as0
def lY (cfg:bS) (f:bL) (as0:List V) (mem:List O):Option (V × List O):=vp fun n=>(eW cfg n).ic f as0 mem
def jz (cfg:bS):de:=⟨bJ cfg,lY cfg⟩
def Ad (step:S->Option (Ex × S)) (s:S):Option (Ex × S):=vp fun n=>eX step n s
def da (cfg:bS) (n0:Nat):C->S->Option (Ex × S)
 |.skip,s=>aA (.norm,s)
 |.ops dr l,s=>(mc cfg (jz cfg) dr l s).bind fun s=>if !dr ||s6 cfg l s.env then aA (.norm,s) else aF
 |.seq a b,s=>(da cfg n0 a s).bind fun r =>
   match r with
   |(.norm,s')=>da cfg n0 b s'
   |(.exit i,s')=>aA (.exit i,s')
   |(.ret,s')=>aA (.ret,s')
 |.cond c a b,s=>(bv s.env c).bind fun v =>
   match v with
   |.bool t=>if t then da cfg n0 a s else da cfg n0 b s
   |_=>aF
 |.block id c,s=>(da cfg n0 c s).map fun r =>
   match r with
   |(.norm,s')=>(.norm,s')
   |(.exit i,s')=>if i=id then (.norm,s') else (.exit i,s')
   |(.ret,s')=>(.ret,s')
 |.loop f c,s=>(Ad (fun s=>da cfg n0 c (dO n0 f s)) s).map fun r=>(r.1,dO n0 f r.2)
 |.exit i,s=>aA (.exit i,s)
 |.ret,s=>aA (.ret,s)
 |.start g,s=>(v9 cfg g s).map fun s=>(.norm,s)
 |.uncons g ps ws a b,s =>
  match s.env[g]? with
  |some (.rest _ [])=>da cfg n0 b s
  |some (.rest ts (.tup vs::l)) =>
   if vs.length=ps.length then (da cfg n0 a ⟨v5 (s.env.set g .junk) ps vs,s.mem⟩).map fun r=>(r.1,⟨(gJ r.2.env ws).set g (.rest ts l),r.2.mem⟩) else aF
  |_=>aF
 |.cseq f a b,s=>(da cfg n0 a s).bind fun r =>
   match r with
   |(.norm,s')=>da cfg n0 b (dO n0 f s')
   |(.exit i,s')=>aA (.exit i,s')
   |(.ret,s')=>aA (.ret,s')
def tV (cfg:bS) (fa:FA) (args:List V) (mem:List O):Option (List V × List O) :=
 if args.length=fa.np/\fa.np<=fa.nt then
  (da cfg mem.length fa.body ⟨args++dh (fa.nt - fa.np) (.tup []),mem⟩).bind fun r =>
   match r with
   |(.exit _,_)=>aF
   |(_,s)=>(cC (oM cfg.P s) fa.results).map fun vs=>(vs,s.mem)
 else aF
section
variable {cfg:bS}
theorem Q5(f:bL)(as0:List V):BE fun n=>(eW cfg n).pc f as0:=fun _ _ _ h q=>(iD h).1 _ _ _ q
theorem Ib(f:bL)(as0:List V)(mem:List O):BE fun n=>(eW cfg n).ic f as0 mem:=fun _ _ _ h q=>(iD h).2 _ _ _ _ q
theorem IX{f:bL}{as0:List V}{r:V}(h:bJ cfg f as0=aA r):∃n,(eW cfg n).pc f as0=aA r:=Du h
theorem Df{f:bL}{as0:List V}{mem:List O}{r:V × List O}(h:lY cfg f as0 mem=aA r):∃n,(eW cfg n).ic f as0 mem=aA r:=Du h
theorem Q4{f:bL}{as0:List V}{r:V}(n:Nat)(h:(eW cfg n).pc f as0=aA r):bJ cfg f as0=aA r:=tz (Q5 f as0) h
theorem Me{dr:Bool}{f:bL}{args:List V}{mem:List O}{r:V × List O}(hr:jR cfg (jz cfg) dr f args mem=aA r):∃n,jR cfg (eW cfg n) dr f args mem=aA r:=by
 unfold jR at hr;split at hr
 ·cases hr
 ·rename_i h1;split at hr
  ·rename_i h2;simp only[obi]at hr;obtain⟨as0,q1,x,q2,q3⟩:=hr;obtain⟨n,hn⟩:=IX q2;refine⟨n,?_⟩;unfold jR;rw[aY h1,aU h2];simp only[obi];exact⟨as0,q1,x,hn,q3⟩
  ·rename_i h2;split at hr
   ·cases hr
   ·rename_i h3;cases hcf:cfg.can f with
    |none =>
     rw[hcf]at hr;obtain⟨n,hn⟩:=Df hr;refine⟨n,?_⟩;unfold jR;rw[aY h1,aY h2,aY h3,hcf];exact hn
    |some rd =>
     rw[hcf]at hr;obtain⟨hr,hro⟩:=Ej hr;simp only[sI,omi]at hr;obtain⟨x,q1,q2⟩:=hr;obtain⟨n,hn⟩:=Df q1;refine⟨n,?_⟩;unfold jR;rw[aY h1,aY h2,aY h3,hcf];refine Jy ?_ hro;simp only[sI,omi];exact⟨x,hn,q2⟩
theorem QC{dr:Bool}{o:bj}{env:List V}{mem:List O}{r:V × List O}(hr:c8 cfg (jz cfg) dr o env mem=aA r):∃n,c8 cfg (eW cfg n) dr o env mem=aA r:=by
 rcases o with⟨dst,op,ty,gu⟩
 cases op
 case call c =>
  obtain⟨callee,args,ats⟩:=c;cases callee
  case value f =>
   simp only[c8,obi]at hr |-
   obtain⟨fv,q1,args,q2,q3⟩:=hr;cases fv
   case fn f caps =>
    simp only at q3;split at q3
    ·rename_i hx;split at q3
     ·cases q3
     rename_i hy;obtain⟨n,hn⟩:=Me q3;exact⟨n,_,q1,args,q2,by simp only;rw[aU hx,aY hy];exact hn⟩
    rename_i hx0;split at q3
    ·rename_i hx;split at q3
     ·rename_i hy;unfold pG at q3;split at q3
      ·cases q3
      rename_i hna;simp only[obi]at q3;obtain⟨x,h1,h2⟩:=q3;obtain⟨n,hn⟩:=Df h1;refine⟨n,_,q1,args,q2,?_⟩;simp only;rw[aY hx0,aU hx,aU hy];unfold pG;rw[aY hna];simp only[obi];exact⟨x,hn,h2⟩
     ·cases q3
    ·rename_i hx;obtain⟨n,hn⟩:=Me q3;exact⟨n,_,q1,args,q2,by simp only;rw[aY hx0,aY hx];exact hn⟩
   all_goals cases q3
  all_goals exact⟨0,hr⟩
 case makeFunc fn first caps=>cases fn<;>exact⟨0,hr⟩
 case makeMap t rs=>cases rs<;>exact⟨0,hr⟩
 all_goals exact⟨0,hr⟩
theorem QH{dr:Bool}{o:bj}{env:List V}{mem:List O}{r:V × List O}(hr:eB cfg (jz cfg) dr o env mem=aA r):∃n,eB cfg (eW cfg n) dr o env mem=aA r:=by
 unfold eB at hr;split at hr
 ·rename_i hx;simp only[obi]at hr;obtain⟨x,q1,q2⟩:=hr;obtain⟨n,hn⟩:=QC q1;refine⟨n,?_⟩;unfold eB;rw[aU hx,hn];exact q2
 ·rename_i hx;obtain⟨n,hn⟩:=QC hr;refine⟨n,?_⟩;unfold eB;rw[aY hx];exact hn
theorem adb{dr:Bool}:∀(l:List bj) (s s':S),gW cfg (jz cfg) dr l s=aA s'->∃n,gW cfg (eW cfg n) dr l s=aA s':=by
 intro l
 induction l with
 |nil=>intro s s' hr;exact⟨0,hr⟩
 |cons o l ih =>
  intro s s' hr;simp only[gW,obi]at hr |-
  obtain⟨w,q1,q2⟩:=hr;cases w
  ·obtain⟨n,hn⟩:=ih _ _ q2;exact⟨n,aD,q1,hn⟩
  ·simp only[cZ,obi]at q2;obtain⟨x,q3,q4⟩:=q2;obtain⟨n,hn⟩:=ih _ _ q4;obtain⟨m,hm⟩:=QH q3;refine⟨max n m,aC,q1,?_⟩;simp only[cZ,obi];exact⟨x,DU (iD (o9 n m)) hm,QK (iD (o8 n m)) _ _ _ hn⟩
theorem adi:∀(l:List bj) (s:S) (fs:List Nat) (r:S × List Nat),jl cfg (jz cfg) l s fs=aA r->∃n,jl cfg (eW cfg n) l s fs=aA r:=by
 intro l
 induction l with
 |nil=>intro s fs r hr;exact⟨0,hr⟩
 |cons o l ih =>
  intro s fs r hr;simp only[jl,obi]at hr |-
  obtain⟨w,q1,q2⟩:=hr;cases w
  ·obtain⟨n,hn⟩:=ih _ _ _ q2;exact⟨n,aD,q1,hn⟩
  ·simp only[cZ,obi]at q2;obtain⟨x,q3,q4⟩:=q2;obtain⟨n,hn⟩:=ih _ _ _ q4;obtain⟨m,hm⟩:=QH q3;refine⟨max n m,aC,q1,?_⟩;simp only[cZ,obi];exact⟨x,DU (iD (o9 n m)) hm,QL (iD (o8 n m)) _ _ _ _ hn⟩
theorem ade{dr:Bool}(l:List bj)(s s':S)(hr:mc cfg (jz cfg) dr l s=aA s'):∃n,mc cfg (eW cfg n) dr l s=aA s':=by
 unfold mc at hr;split at hr
 ·rename_i hc;simp only[obi]at hr;obtain⟨r,q1,q2⟩:=hr;obtain⟨n,hn⟩:=adi _ _ _ _ q1;exact⟨n,by unfold mc;rw[aU hc,hn];exact q2⟩
 ·rename_i hc;obtain⟨n,hn⟩:=adb _ _ _ hr;exact⟨n,by unfold mc;rw[aY hc];exact hn⟩
def FF(cfg:bS)(n0:Nat)(c:C)(s:S)(r:Ex × S):Prop:=∃n,exec cfg (eW cfg n) n n0 c s=aA r
theorem abn{n0:Nat}{c:C}{g:S->S}{step:S->Option (Ex × S)}(h:∀s r,step s=aA r->FF cfg n0 c (g s) r):∀(k:Nat) (s:S) (r:Ex × S),eX step k s=aA r ->
  ∃n,eX (fun s=>exec cfg (eW cfg n) n n0 c (g s)) n s=aA r:=by
 intro k
 induction k with
 |zero=>intro s r hr;simp[eX]at hr
 |succ k ih =>
  intro s r hr;simp only[eX,obi]at hr;obtain⟨⟨x,s'⟩,q1,q2⟩:=hr;obtain⟨n,hn⟩:=h _ _ q1;have up:∀N,n<=N->exec cfg (eW cfg N) N n0 c (g s)=aA (x,s'):=fun N hN=>u3 (iD hN) hN _ _ _ hn
  cases x with
  |norm =>
   obtain⟨m,hm⟩:=ih s' r q2;refine⟨max n m+1,?_⟩;simp only[eX,obi];refine⟨(.norm,s'),up _ (by omega),?_⟩;exact Ip (fun s r q=>u3 (iD (by omega:m<=max n m+1)) (by omega) _ _ _ q) m (max n m) s' r (by omega) hm
  |exit i=>exact⟨n+1,by simp only[eX,obi];exact⟨_,up _ (by omega),q2⟩⟩
  |ret=>exact⟨n+1,by simp only[eX,obi];exact⟨_,up _ (by omega),q2⟩⟩
theorem ZJ{n0:Nat}:∀(c:C) (s:S) (r:Ex × S),da cfg n0 c s=aA r->FF cfg n0 c s r:=by
 intro c
 induction c with
 |skip=>intro s r hr;exact⟨0,hr⟩
 |ops dr l =>
  intro s r hr;simp only[da,obi]at hr;obtain⟨s',q1,q2⟩:=hr;obtain⟨n,hn⟩:=ade _ _ _ q1;exact⟨n,by simp only[exec,obi];exact⟨s',hn,q2⟩⟩
 |seq p q ihp ihq =>
  intro s r hr;simp only[da,obi]at hr;obtain⟨⟨x,s'⟩,q1,q2⟩:=hr;obtain⟨n,hn⟩:=ihp _ _ q1;cases x with
  |norm =>
   obtain⟨m,hm⟩:=ihq _ _ q2;refine⟨max n m,?_⟩;simp only[exec,obi];exact⟨_,u3 (iD (o8 n m)) (o8 n m) _ _ _ hn,u3 (iD (o9 n m)) (o9 n m) _ _ _ hm⟩
  |exit i=>exact⟨n,by simp only[exec,obi];exact⟨_,hn,q2⟩⟩
  |ret=>exact⟨n,by simp only[exec,obi];exact⟨_,hn,q2⟩⟩
 |cond c p q ihp ihq =>
  intro s r hr;simp only[da,obi]at hr;obtain⟨v,q1,q2⟩:=hr;cases v<;>simp only at q2<;>first|(cases q2;done)|skip;rename_i t;cases t
  ·obtain⟨n,hn⟩:=ihq _ _ q2;exact⟨n,by simp only[exec,obi];exact⟨_,q1,hn⟩⟩
  ·obtain⟨n,hn⟩:=ihp _ _ q2;exact⟨n,by simp only[exec,obi];exact⟨_,q1,hn⟩⟩
 |block id p ih =>
  intro s r hr;simp only[da,omi]at hr;obtain⟨x,q1,q2⟩:=hr;obtain⟨n,hn⟩:=ih _ _ q1;exact⟨n,by simp only[exec,omi];exact⟨x,hn,q2⟩⟩
 |loop f p ih =>
  intro s r hr;simp only[da,omi]at hr;obtain⟨x,q1,q2⟩:=hr;obtain⟨k,hk⟩:=Du q1;obtain⟨n,hn⟩:=abn (g:=dO n0 f) (fun s r h=>ih _ _ h) k s x hk;exact⟨n,by simp only[exec,omi];exact⟨x,hn,q2⟩⟩
 |exit i=>intro s r hr;exact⟨0,hr⟩
 |ret=>intro s r hr;exact⟨0,hr⟩
 |start g=>intro s r hr;exact⟨0,hr⟩
 |cseq f p q ihp ihq =>
  intro s r hr;simp only[da,obi]at hr;obtain⟨⟨x,s'⟩,q1,q2⟩:=hr;obtain⟨n,hn⟩:=ihp _ _ q1;cases x with
  |norm =>
   obtain⟨m,hm⟩:=ihq _ _ q2;refine⟨max n m,?_⟩;simp only[exec,obi];exact⟨_,u3 (iD (o8 n m)) (o8 n m) _ _ _ hn,u3 (iD (o9 n m)) (o9 n m) _ _ _ hm⟩
  |exit i=>exact⟨n,by simp only[exec,obi];exact⟨_,hn,q2⟩⟩
  |ret=>exact⟨n,by simp only[exec,obi];exact⟨_,hn,q2⟩⟩
 |uncons g ps ws p q ihp ihq =>
  intro s r hr;unfold FF;simp only[da]at hr;simp only[exec];cases he:s.env[g]? with
  |none=>simp only[he]at hr;cases hr
  |some v =>
   simp only[he]at hr |-
   cases v<;>first|(cases hr;done)|skip;rename_i ts l;cases l with
   |nil=>exact ihq _ _ hr
   |cons x l =>
    cases x<;>first|(cases hr;done)|skip
    try simp only at hr
    try simp only
    split at hr
    ·rename_i hc;simp only[omi]at hr;obtain⟨x,q1,q2⟩:=hr;obtain⟨n,hn⟩:=ihp _ _ q1;exact⟨n,by rw[aU hc,hn,du,q2]⟩
    ·cases hr
theorem Sj{fa:FA}{args:List V}{mem:List O}{r:List V × List O}(hr:tV cfg fa args mem=aA r):∃n,rE cfg (eW cfg n) n fa args mem=aA r:=by
 unfold tV at hr;split at hr
 ·rename_i hc;simp only[obi]at hr;obtain⟨x,q1,q2⟩:=hr;obtain⟨n,hn⟩:=ZJ _ _ _ q1;refine⟨n,?_⟩;unfold rE;rw[aU hc];simp only[obi];exact⟨x,hn,q2⟩
 ·cases hr
theorem adw{f:bL}{as0:List V}{fa:FA}{vs:List V}{mem:List O}{r:V}(hp:cfg.pprim f=aF)(hf:il cfg.P (cfg.rxf f) f=aA fa)(hr:tV cfg fa as0 []=aA (vs,mem))(hg:ox cfg.P mem fa.rtypes vs=aA r)(ha:cfg.ars f=[]:=by rfl) :
  bJ cfg f as0=aA r:=by
 obtain⟨n,hn⟩:=Sj hr;apply Q4 (n+1);show oK cfg (eW cfg n) n f as0=aA r;unfold oK;rw[hp];have h1:Cd cfg f as0=true:=by unfold Cd;rw[ha];rfl
 have h2:qI cfg f=[]:=by unfold qI;rw[ha];rfl
 simp only[h1,h2,cZ,hf,bk,hn];unfold C9;rw[ha];exact hg
theorem Pf{f:bL}{as0:List V}{fa:FA}{vs:List V}{mem mem':List O}(hp:cfg.iprim f=aF)(hf:il cfg.P (cfg.rxf f) f=aA fa)(hr:tV cfg fa as0 mem=aA (vs,mem')) :
  lY cfg f as0 mem=aA (rN vs,mem'):=by
 obtain⟨n,hn⟩:=Sj hr;refine tz (Ib f as0 mem) (n:=n+1) ?_;show oC cfg (eW cfg n) n f as0 mem=_;unfold oC;rw[hp];simp only[hf,bk,hn,du]
theorem DZ{f:bL}{as0:List V}{g:List V->Option V}{r:V}(hp:cfg.pprim f=aA g)(h:g as0=aA r):bJ cfg f as0=aA r:=by
 apply Q4 1;show oK cfg (eW cfg 0) 0 f as0=aA r;unfold oK;rw[hp];exact h
theorem Dh{f:bL}{as0:List V}{mem:List O}{g:List V->List O->Option (V × List O)}{r:V × List O}(hp:cfg.iprim f=aA g)(h:g as0 mem=aA r):lY cfg f as0 mem=aA r:=by
 refine tz (Ib f as0 mem) (n:=1) ?_;show oC cfg (eW cfg 0) 0 f as0 mem=aA r;unfold oC;rw[hp];exact h
theorem Io(step:S->Option (Ex × S))(s:S):BE fun n=>eX step n s:=fun n m x h q=>Ip (fun _ _ h=>h) n m s x h q
theorem abl{step:S->Option (Ex × S)}{s s':S}{r:Ex × S}(h:step s=aA (.norm,s'))(hr:Ad step s'=aA r):Ad step s=aA r:=by
 obtain⟨k,hk⟩:=Du hr;refine tz (Io step s) (n:=k+1) ?_;simp only[eX,h,bk,hk]
theorem abk{step:S->Option (Ex × S)}{s s':S}{i:Nat}(h:step s=aA (.exit i,s')):Ad step s=aA (.exit i,s'):=by
 refine tz (Io step s) (n:=1) ?_;simp only[eX,h,bk]
theorem abm{step:S->Option (Ex × S)}{s s':S}(h:step s=aA (.ret,s')):Ad step s=aA (.ret,s'):=by
 refine tz (Io step s) (n:=1) ?_;simp only[eX,h,bk]
end
structure jL where
 f:bL
 args:List V
 mem:List O
 res:V × List O
def Fa:List jL->bL->List V->List O->Option (V × List O)
 | [],_,_,_=>aF
 |x::l,f,as0,mem=>cond (ll x.f f && (jU x.args as0 && sW x.mem mem)) (aA x.res) (Fa l f as0 mem)
def Fb:List (bL × List V × V)->bL->List V->Option V
 | [],_,_=>aF
 |x::l,f,as0=>cond (ll x.1 f && jU x.2.1 as0) (aA x.2.2) (Fb l f as0)
def IS{α:Type}(a:Option α)(b:Option α):Option α:=match a with|some x=>aA x|none=>b
def zG (cfg:bS) (T:List jL) (U:List (bL × List V × V)):Nat->de
 |0=>⟨fun _ _=>aF,fun _ _ _=>aF⟩
 |n+1=>⟨fun f as0=>IS (Fb U f as0) (oK cfg (zG cfg T U n) n f as0),fun f as0 mem=>IS (Fa T f as0 mem) (oC cfg (zG cfg T U n) n f as0 mem)⟩
def jM(cfg:bS)(x:jL):Prop:=lY cfg x.f x.args x.mem=aA x.res
def wE(cfg:bS)(x:bL × List V × V):Prop:=bJ cfg x.1 x.2.1=aA x.2.2
section
variable {cfg:bS}{T:List jL}{U:List (bL × List V × V)}
theorem TN:∀{T:List jL},(∀x∈T,jM cfg x)->∃n,∀f as0 mem r,Fa T f as0 mem=aA r->(eW cfg n).ic f as0 mem=aA r
 | [],_=>⟨0,fun _ _ _ _ h=>nomatch h⟩
 |x::T,h=>by
  obtain⟨n,hn⟩:=TN (T:=T) fun y hy=>h y (by simp[hy])
  obtain⟨m,hm⟩:=Df (h x (by simp));refine⟨max n m,fun f as0 mem r hr=>?_⟩;unfold Fa at hr;cases hc:(ll x.f f && (jU x.args as0 && sW x.mem mem))with
  |true =>
   rw[hc]at hr;cases hr;simp only[co,Nat.beq_eq]at hc;obtain⟨e,e1,e2⟩:=hc;subst e;rw[<-uY _ _ e1,<-HF e2];exact(iD (o9 n m)).2 _ _ _ _ hm
  |false =>
   rw[hc]at hr;exact(iD (o8 n m)).2 _ _ _ _ (hn _ _ _ _ hr)
theorem TP:∀{U:List (bL × List V × V)},(∀x∈U,wE cfg x)->∃n,∀f as0 r,Fb U f as0=aA r->(eW cfg n).pc f as0=aA r
 | [],_=>⟨0,fun _ _ _ h=>nomatch h⟩
 |x::U,h=>by
  obtain⟨n,hn⟩:=TP (U:=U) fun y hy=>h y (by simp[hy])
  obtain⟨m,hm⟩:=IX (h x (by simp));refine⟨max n m,fun f as0 r hr=>?_⟩;unfold Fb at hr;cases hc:(ll x.1 f && jU x.2.1 as0)with
  |true =>
   rw[hc]at hr;cases hr;simp only[co,Nat.beq_eq]at hc;obtain⟨e,e1⟩:=hc;subst e;rw[<-uY _ _ e1];exact(iD (o9 n m)).1 _ _ _ hm
  |false =>
   rw[hc]at hr;exact(iD (o8 n m)).1 _ _ _ (hn _ _ _ hr)
theorem QN{α:Type}{a b:Option α}{x:α}(h:IS a b=aA x):a=aA x∨b=aA x:=by
 cases a
 ·exact .inr h
 ·exact .inl h
theorem Mh(hT:∀x∈T,jM cfg x)(hU:∀x∈U,wE cfg x)(n:Nat):∃m,iA (zG cfg T U n) (eW cfg m):=by
 induction n with
 |zero =>
  refine⟨0,?_,?_⟩
  ·intro f as0 r h;cases h
  ·intro f as0 m r h;cases h
 |succ n ih =>
  obtain⟨m,hm⟩:=ih;obtain⟨a,ha⟩:=TN hT;obtain⟨b,hb⟩:=TP hU;refine⟨max (max a b) (max m n+1),?_,?_⟩
  ·intro f as0 r hr;rcases QN hr with h|h
   ·exact(iD (by omega)).1 _ _ _ (hb _ _ _ h)
   ·exact(iD (n:=max m n+1) (by omega)).1 _ _ _ (Q3 (hm.trans (iD (o8 m n))) (o9 m n) h)
  ·intro f as0 mem r hr;rcases QN hr with h|h
   ·exact(iD (by omega)).2 _ _ _ _ (ha _ _ _ _ h)
   ·exact(iD (n:=max m n+1) (by omega)).2 _ _ _ _ (Pd (hm.trans (iD (o8 m n))) (o9 m n) h)
theorem adx(hT:∀x∈T,jM cfg x)(hU:∀x∈U,wE cfg x)(n:Nat){f:bL}{as0:List V}{r:V}(h:(zG cfg T U n).pc f as0=aA r):bJ cfg f as0=aA r :=
 let ⟨_,hm⟩:=Mh hT hU n
 tz (Q5 f as0) (hm.1 _ _ _ h)
theorem oD(hT:∀x∈T,jM cfg x)(hU:∀x∈U,wE cfg x)(n:Nat){f:bL}{as0:List V}{mem:List O}{r:V × List O}(h:(zG cfg T U n).ic f as0 mem=aA r):lY cfg f as0 mem=aA r :=
 let ⟨_,hm⟩:=Mh hT hU n
 tz (Ib f as0 mem) (hm.2 _ _ _ _ h)
end
end Go.Lite
