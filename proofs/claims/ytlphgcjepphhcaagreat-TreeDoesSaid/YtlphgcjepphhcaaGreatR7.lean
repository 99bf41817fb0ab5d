/-
  Texts that the last one stands on.
-/
import Derived.Test.YtlphgcjepphhcaaGreatR6
set_option linter.all false
noncomputable section
open Bool renaming false->aE,true->aD,true_and->fP,not_true->cN,and_false->nO,not_false->lQ,and_eq_true->cT,or_eq_true->oT,false_and->uz,or_false->zg
open Option renaming some->aA,getD_some->uH,none->aF
open Go.IntKind renaming i64->aB,u8->bK,bits->bJ
open List renaming reverse_reverse->Ce,pairwise_append->fT,filter_append->oX,any_eq_false->zj,mem_map->fi,mem_cons_self->dl,mem_flatMap->jp,mem_cons->dC,dropLast_append_of_ne_nil->Wg,mem_append->cG,dropLast_concat->Mx,mem_singleton->iN,mem_of_mem_take->uF,getElem?_eq_getElem->cI,mem_of_mem_drop->uE,exists_cons_of_ne_nil->mW,length_append->gJ,length_map->gm,flatMap_cons->lc,append_eq_nil_iff->wJ,nil_append->il,mem_append_left->sh,mem_append_right->mX,cons_append->gI,length_cons->d8,take_of_length_le->zq,drop_eq_nil_of_le->B6,getElem?_eq_some_iff->cE,set_append_right->MI,mem_cons_of_mem->mY,pairwise_cons->i7,map_cons->fJ,append_assoc->c8,getLastD_eq_getLast?->MD,getLast?_eq_some_getLast->Wj,eq_nil_or_concat->fS,replicate->cA,nodup_append->uG,take_append_drop->lj,length_pos_iff->lT,getElem?_append_right->eC,getElem?_drop->i6,getElem?_take->kx,drop_append->B5,drop_drop->uC,map_append->li,nodup_cons->nP,length_replicate->Cb,append_nil->fR,flatten_cons->MA,pairwise_map->MG,perm_ext_iff_of_nodup->Wl,mem_filter->si,take_add_one->MJ,range->eQ,concat_eq_append->i5,length_nil->jo,perm_middle->zp,map_nil->lU,length->se,find?_range_eq_some->Mz,filter_eq_self->My,map_eq_nil_iff->ME,mem_of_getElem?->dH,all_cons->B4,getElem?_eq_none->wM,take_length->jI,length_drop->lh,length_take->jW,getElem?_range->B8,ext_getElem?->uD,getElem?_set->Gq,length_set->sg,length_reverse->zm,reverse_cons->Cd
open Go.Lite.V renaming sl->aH,int->aC,bool->aW,str->aG,agg->aI,mp->dJ,tail->bl,flat1->js,cells->gV,ptr->aL,tup->aV,junk->bj,ifc->gK
open Go.Lite.O renaming row->aN,box->aM,map->dI,dead->gU
open Nat renaming le_refl->cZ,zero_add->eW,sub_self->nS,add_zero->gn,le_trans->qw,zero_le->kz,add_assoc->ky
open Go renaming maxLen->f9
namespace Go.Proofs.YtlphgcjepphhcaaGreat
open Go Go.Lite
set_option linter.unusedSimpArgs false
set_option linter.unusedVariables false
set_option maxRecDepth 100000
inductive o4(n:Nat)(r:Int)(es:Es)(k v:Bs):Bool->Int->Int->Es->Prop
 |arg (h:(cz k && eu v)=aE):o4 n r es k v aE 1 r es
 |put {ws:List br} {pl:Int} {l:Lf} (hs:cH n es) (hk:cz k=aD) (hv:eu v=aD) (hw:jt es k r ws pl l) (hl:ws.length<=1024) (hg:c7 es pl=aA (bA l)) (hr0:cX l=aD) (hh:l.high=[]∨lt k l.high=aD) (hz:bE (du l.prs k v)<=231) (hr:cX ⟨du l.prs k v,l.high,l.next⟩=aD) :
  o4 n r es k v (!cY (bD l.prs) k) 0 r (bQ es pl (bA ⟨du l.prs k v,l.high,l.next⟩))
 |full {ws:List br} {pl:Int} {l:Lf} (hs:cH n es) (hk:cz k=aD) (hv:eu v=aD) (hw:jt es k r ws pl l) (hl:ws.length<=1024) (hg:c7 es pl=aA (bA l)) (hr0:cX l=aD) (hh:l.high=[]∨lt k l.high=aD) (hz:¬bE (du l.prs k v)<=231) (hf:n - es.length < ws.length+2) :
  o4 n r es k v aE 6 r es
 |split {ws:List br} {pl:Int} {l:Lf} {j:Nat} {x:Pr} {A B:List Pr} {r':Int} {es':Es} (hs:cH n es) (hk:cz k=aD) (hv:eu v=aD) (hw:jt es k r ws pl l) (hl:ws.length<=1024) (hg:c7 es pl=aA (bA l)) (hr0:cX l=aD) (hh:l.high=[]∨lt k l.high=aD) (hz:¬bE (du l.prs k v)<=231) (hf:¬n - es.length < ws.length+2)
  (hfj:kK n (bi es)=aA j) (hj:j < n) (hq:(j:Int)∉bo es) (h2:2<=l.prs.length) (hx:l.prs[d7 l.prs]? = aA x)
  (rA0:cX ⟨l.prs.take (d7 l.prs),x.1,(j:Int)+1⟩=aD) (rB0:cX ⟨l.prs.drop (d7 l.prs),l.high,l.next⟩=aD) (rA:cX ⟨A,x.1,(j:Int)+1⟩=aD) (rB:cX ⟨B,l.high,l.next⟩=aD)
  (hc:(lt k x.1=aD/\A=du (l.prs.take (d7 l.prs)) k v/\bE A<=231/\B=l.prs.drop (d7 l.prs))∨(lt k x.1=aE/\A=l.prs.take (d7 l.prs)/\B=du (l.prs.drop (d7 l.prs)) k v/\bE B<=231))
  (hu:nV n r (bQ (bQ (bQ es j []) pl (bA ⟨A,x.1,(j:Int)+1⟩)) j (bA ⟨B,l.high,l.next⟩)) ws.reverse x.1 pl j r' es') :
  o4 n r es k v (!cY (bD l.prs) k) 0 r' es'
def BS{es k p ws pl l}(h:jt es k p ws pl l):c7 es pl=aA (bA l)/\cX l=true:=by
 induction h with
 |leaf hg hr=>grind
 |inn _ _ _ _ _ ih=>grind
def E3{k v:Bs}{r n es bs m v0 L}(h:xu k v r n es bs=aA (.doneM v0 m))(hc:jZ aU (tm r n es bs) v0 m=oz L) :
  bW aJ aU 32 [.ptr 0 0 0,.str k,.str v] (tm r n es bs)=aA (oz L):=aaj _ _ _ _ _ _ h (.done hc)
def Vb{x1 q p}{k v:Bs}{r n es bs m L}(h:DG x1 (bw q.prs) q.high q.next p k v r n es bs=aA (.doneM (.tup []) m))(hc:jZ aU (tm r n es bs) (.tup []) m=vL L) :
  bW aJ aU 79 [.ptr 0 0 0,.sl x1,eL q,.int aB p,.agg [.str k,.str v]] (tm r n es bs)=aA (vL L):=aaT _ _ _ _ _ _ _ _ _ _ _ h (.done hc)
def IJ l (h:cX l=aD) (k:Bs):∃g,bP aJ 76 [eL l,.str k]=aA (.tup [.str g,.int aB (bif cY (bD l.prs) k then 0 else 7)]):=by
 rw[IK l h k];cases cY (bD l.prs) k with
 |true=>grind
 |false=>grind
def D8 b:((bif b then 0 else 7) != (0:Int)) = !b:=by cases b<;>rfl
def Bh{n:Nat}{r:Int}{es:Es}{k v:Bs}{ok:Bool}{e r':Int}{es':Es}(h:o4 n r es k v ok e r' es') :
  bW aJ aU 32 [.ptr 0 0 0,.str k,.str v] (tM r n es)=aA (oz (ok,e,r',n,bZ es',bI n (bi es'))):=by
 cases h with
 |arg h =>
  refine E3 (v0:=.tup [.bool aE,.int aB 1]) (m:=tM r n es) ?_ (by kernel_rfl);unfold xu;rw[aQ (jB k),bX];cases hk:cz k with
  |false=>rfl
  |true =>
   rw[hk,fP]at h;rw[cN,be,aQ (zb v),bX,h];rfl
 |@put ws pl l hs hk hv hw hl hg hr0 hh hz hr =>
  obtain⟨g,hget⟩:=IJ l hr0 k;have hput:=Bd l hr0 k v hk hv hh;unfold kj at hput;rw[bc hz]at hput;apply E3
  case h =>
   unfold xu;rw[aQ (jB k),bX,hk,cN,be,aQ (zb v),bX,hv,cN,be,co rh (rQ hs hw (by omega)),bN];rw[aQ hget,iD];rw[aQ hput,nZ,dL rfl,bn];rw[cL jP (rT hs hg hr),D8]
  case hc=>kernel_rfl
 |@full ws pl l hs hk hv hw hl hg hr0 hh hz hf =>
  obtain⟨g,hget⟩:=IJ l hr0 k;have hput:=Bd l hr0 k v hk hv hh;unfold kj at hput;rw[bh hz]at hput;have w1:W aB (((gx ws).length:Int)+1)=((ws.length+1:Nat):Int):=by rw[uo,bd (by omega)];omega
  have w2:W aB (((ws.length+1:Nat):Int)+1)=((ws.length+2:Nat):Int):=by rw[bd (by omega)];omega
  apply E3
  case h =>
   unfold xu;rw[aQ (jB k),bX,hk,cN,be,aQ (zb v),bX,hv,cN,be,co rh (rQ hs hw (by omega)),bN];rw[aQ hget,iD];rw[aQ hput,nZ,ew (by decide),be,co Jv (IG hs),bN,w1,w2,aZ (by omega),bn]
  case hc=>kernel_rfl
 |@split ws pl l j x A B r' es' hs hk hv hw hl hg hr0 hh hz hf hfj hj hq h2 hx rA0 rB0 rA rB hc hu =>
  obtain⟨g,hget⟩:=IJ l hr0 k;have hput:=Bd l hr0 k v hk hv hh;unfold kj at hput;rw[bh hz]at hput;have hn:=hs.le;have w1:W aB (((gx ws).length:Int)+1)=((ws.length+1:Nat):Int):=by rw[uo,bd (by omega)];omega
  have w2:W aB (((ws.length+1:Nat):Int)+1)=((ws.length+2:Nat):Int):=by rw[bd (by omega)];omega
  have hspl:=ah8 l hr0 h2 j (by omega);simp only[qh]at hspl;rw[hx]at hspl;simp only[uH]at hspl;have hs1:=qg hs (b:=[]) hj hq;have hpj:pl≠(j:Int):=λe=>hq (e ▸ fp hg)
  have hg1:c7 (bQ es j []) pl=aA _:=(s8 hpj).trans hg;have hs2:=i4 hs1 (b:=bA ⟨A,x.1,(j:Int)+1⟩) (fp hg1);have hg2:c7 (bQ (bQ es j []) pl (bA ⟨A,x.1,(j:Int)+1⟩)) j=aA []:=(s8 hpj.symm).trans xF;have hup:=aiW (by grind) hu;rw[Ce]at hup
  have hsp:bW aJ aU 79 [.ptr 0 0 0,.sl (gx ws),eL l,.int aB pl,.agg [.str k,.str v]] (tM r n es)=aA (vL (r',n,bZ es',bI n (bi es'))):=by
   rcases hc with⟨hkx,rfl,hwA,rfl⟩|⟨hkx,rfl,rfl,hwB⟩
   ·have hput:=Bd _ rA0 k v hk hv (.inr hkx);unfold kj at hput;rw[bc hwA]at hput;apply Vb
    case h =>
     unfold DG;rw[cL yi (F4 hs hfj hq)];rw[aQ hspl,NT,show Op.bytesLess k x.1=aD from hkx,bn];rw[aQ hput,nZ];rw[cL jP (rT hs1 hg1 rA)];rw[cL jP (rT hs2 hg2 rB),cL RH hup]
    case hc=>kernel_rfl
   ·have hput:=Bd _ rB0 k v hk hv hh;unfold kj at hput;rw[bc hwB]at hput;apply Vb
    case h =>
     unfold DG;rw[cL yi (F4 hs hfj hq)];rw[aQ hspl,NT,show Op.bytesLess k x.1=aE from hkx,be];rw[aQ hput,nZ];rw[cL jP (rT hs1 hg1 rA)];rw[cL jP (rT hs2 hg2 rB),cL RH hup]
    case hc=>kernel_rfl
  apply E3
  case h =>
   unfold xu;rw[aQ (jB k),bX,hk,cN,be,aQ (zb v),bX,hv,cN,be,co rh (rQ hs hw (by omega)),bN];rw[aQ hget,iD];rw[aQ hput,nZ,ew (by decide),be,co Jv (IG hs),bN,w1,w2,bF (by omega),be];rw[cL aeq hsp,D8]
  case hc=>kernel_rfl
def J1 l k v:du l k v≠[]:=by simp[du]
def afv l k v:l.length<=(du l k v).length:=by
 unfold du;grind
def J3{a m c k v}(ha:∀x∈a,lt x.1 k=aD)(hc:∀x∈c,lt k x.1=aD)(hr:su (a++(m++c))):du (a++(m++c)) k v=a++(du m k v++c):=by
 obtain⟨r1,r2,_⟩:=fT.1 hr;obtain⟨r3,_,_⟩:=fT.1 r2;rw[SQ hr,SQ r3];simp[oX];rw[u9 (p:=λx:Pr=>lt x.1 k) ha,vd (p:=λx:Pr=>lt k x.1) (l:=a) λx hx=>oy (ha x hx),vd (p:=λx:Pr=>lt x.1 k) (l:=c) λx hx=>oy (hc x hx),u9 (p:=λx:Pr=>lt k x.1) hc];simp
def Qu{a m c k}(ha:∀x∈a,lt x.1 k=aD)(hc:∀x∈c,lt k x.1=aD)(hr:su (a++(m++c))):cY (bD (a++(m++c))) k=cY (bD m) k:=by
 obtain⟨r1,r2,_⟩:=fT.1 hr;obtain⟨r3,_,_⟩:=fT.1 r2;rw[IR hr,IR r3,List.any_append]
 have h1:(a.any λx=>x.1==k)=false:=zj.2 λx hx hc=>by
  have e:x.1=k:=by grind
  have:=ha x hx;rw[e,lF]at this;grind
 have h2:(c.any λx=>x.1==k)=false:=zj.2 λx hx hc2=>by
  have e:x.1=k:=by grind
  have:=hc x hx;rw[e,lF]at this;grind
 grind
structure Rs(ups:List IL)(b:LL):Prop where
 ft:Ft ups
 f2:∀x∈b.dropLast,2<=x.2.1.length
 h5:∀x∈b,x.2.2.length<=5
 k5:∀x∈cF b,x.1.length<=5/\bE [x]<=40
def N4:∀{d s b},Dn s d b->(∀l∈d,dG okI l 0)->(∀x∈b,x.2.2.length<=5)->(∀y∈s,y.2.length<=5)/\Cn d
 | [],s,b,h,_,ha=>by
  refine⟨λy hy=>?_,λl hl=>nomatch hl⟩;rw[jM h,dh]at hy;grind
 |l::d,s,b,h,hI,ha=>by
  obtain⟨e,hk⟩:=gX h;obtain⟨i1,i2⟩:=N4 hk (λx hx=>hI x (by grind)) ha;constructor
  ·intro y hy;rw[e]at hy;obtain⟨z,hz,rfl⟩:=fi.1 hy;obtain⟨w,hw,e2⟩:=D9 (jE (hI _ (dl ..)) z hz);rw[e2];exact i1 w (jp.2 ⟨z,hz,hw⟩)
  ·intro l' hl';rcases dC.1 hl' with rfl|hl'
   ·intro x hx y hy;exact i1 y (jp.2 ⟨x,hx,hy⟩)
   ·exact i2 l' hl'
def Cl(ups:List IL)(b:LL)(k v:Bs)(ups':List IL)(b':LL):Prop:=(∀x∈cF b,lt x.1 k=aD)->k.length<=5->bE [(k,v)]<=40->Rs ups b->Rs ups' b'
def TJ{b b' k v}(h:cF b'=du (cF b) k v)(hk:k.length<=5)(hw:bE [(k,v)]<=40)(h5:∀x∈cF b,x.1.length<=5/\bE [x]<=40):∀x∈cF b',x.1.length<=5/\bE [x]<=40:=by
 intro x hx;rw[h]at hx;rcases ru hx with rfl|hx
 all_goals grind
def agQ{ups}{b:LL}{pre post:LL}{p prs}{h' k v:Bs}(hb:b=pre++(p,prs,h')::post)(hf:cF (pre++(p,du prs k v,h')::post)=du (cF b) k v)(hl:prs.length<=(du prs k v).length):Cl ups b k v ups (pre++(p,du prs k v,h')::post):=by
 intro h1 h2 h3 h;refine⟨h.ft,?_,?_,TJ hf h2 h3 h.k5⟩
 ·intro x hx;have hf2:=h.f2;rw[hb]at hf2;cases post with
  |nil =>
   grind
  |cons y t =>
   rw[Wg (by simp)]at hx hf2;rcases cG.1 hx with hx|hx
   ·grind
   ·rcases dC.1 hx with rfl|hx
    ·have:=hf2 (p,prs,h') (by simp);grind
    grind
 ·intro x hx;have h5:=h.h5;rw[hb]at h5;rcases cG.1 hx with hx|hx
  ·grind
  ·rcases dC.1 hx with rfl|hx
   ·exact h5 (p,prs,h') (by simp)
   grind
def agR{n:Nat}{r:Int}{es:Es}{ups ups'}{b:LL}(hW:WF n r es ups b){pre:LL}{p j:Int}{prs A B}{h' k v s:Bs}(hb:b=pre++[(p,prs,h')])(hf:cF (pre++[(p,A,s),(j,B,h')])=du (cF b) k v)(hs:∃x∈cF b,x.1=s)(hA:A=prs.take (d7 prs))(h2:2<=prs.length)(hw:¬bE prs+bE [(k,v)]<=231)(h50:∀x∈prs,bE [x]<=50)(hp:bE prs<=231)
  (hup:Cn ups->s.length<=5->Ft ups->Ft ups'):Cl ups b k v ups' (pre++[(p,A,s),(j,B,h')]):=by
 intro h1 hk5 h3 h;obtain⟨x0,hx0,hxs⟩:=hs;have hs5:=hxs ▸ (h.k5 x0 hx0).1;refine⟨hup (N4 hW.dn hW.okI h.h5).2 hs5 h.ft,?_,?_,TJ hf hk5 h3 h.k5⟩
 ·intro x hx;have hf2:=h.f2;rw[show pre++[(p,A,s),(j,B,h')]=(pre++[(p,A,s)])++[(j,B,h')] by simp,Mx]at hx;rcases cG.1 hx with hx|hx
  ·grind
  ·rw[iN.1 hx];obtain⟨m0,m1,m2,m3⟩:=Qt h2 h50 hp;have hsp:=zd prs (d7 prs)
   match hAl:A with
   | []=>grind
   | [y] =>
    have hy:=uF (hA ▸ iN.2 rfl);grind
   |y::z::t=>simp
 ·intro x hx;have h5:=h.h5;rw[hb]at h5;rcases cG.1 hx with hx|hx
  ·grind
  ·rcases dC.1 hx with rfl|hx
   ·grind
   ·rw[iN.1 hx];exact h5 (p,prs,h') (by simp)
def MV(n:Nat)(r:Int)(es:Es)(ups:List IL)(b:LL)(k v:Bs)(ok:Bool)(e r':Int)(es':Es)(ups':List IL)(b':LL):Prop :=
 (e=0/\cz k=aD/\eu v=aD/\cF b'=du (cF b) k v/\ok = !cY (bD (cF b)) k/\Cl ups b k v ups' b'/\(Fk ups.reverse->Fk ups'.reverse)) ∨
 (ok=aE/\r'=r/\es'=es/\ups'=ups/\b'=b/\((e=1/\(cz k && eu v)=aE)∨(e=6/\cz k=aD/\eu v=aD/\n - es.length < ups.length+2)))
def J4{n:Nat}{r:Int}{es:Es}{ups:List IL}{b:LL}(h:WF n r es ups b)(k v:Bs) :
  ∃ok e r' es' ups' b',WF n r' es' ups' b'/\o4 n r es k v ok e r' es'/\MV n r es ups b k v ok e r' es' ups' b':=by
 cases hkv:(cz k && eu v)with
 |false=>exact⟨aE,1,r,es,ups,b,h,.arg hkv,.inr ⟨rfl,rfl,rfl,rfl,rfl,.inl ⟨rfl,hkv⟩⟩⟩
 |true =>
  obtain⟨hk,hv⟩:=Bool.and_eq_true_iff.1 hkv;obtain⟨p,h',ws,pre,prs,post,q1,q2,q3,q4,q5,q6⟩:=Ga h.toWT hk;have hF:=h.okF;rw[q2]at hF;have hr:cX ⟨prs,h',bS post 0⟩=true:=EK hF;obtain⟨o,hx0,hx1⟩:=tu hr;have hn:=h.shf.le;have hul:=ml h.toWT;have hll:=vy h.shf;obtain⟨hgp,_⟩:=BS q6;have hord:=h.ord;rw[q2]at hord;have hpre:=(vV hord).2.2.1;obtain⟨hca,hcc⟩:=Mf hord hF q3 q4;have hris:=DX hord hF;have efl:cF (pre++(p,prs,h')::post)=cF pre++(prs++cF post):=by rw[pz,kO]
  rw[efl]at hris;have hput:=J3 (v:=v) hca hcc hris;have hhas:=Qu hca hcc hris;have hfb:cF b=cF pre++(prs++cF post):=by grind
  by_cases hz:bE (du prs k v)<=231
  ·have o2:=J0 o hk hv q4 hz;have hr2:=rE o2 hx0 hx1;have hat:=h.rep;rw[q2]at hat;have hat:=Eu hat;have hpm:=jU (b':=bA ⟨du prs k v,h',bS post 0⟩) h.shf.nd hat;obtain⟨ok1,ok3,ok2⟩:=(ia _ _ _).1 hF;have hne:=A3 h q2;refine⟨!cY (bD prs) k,0,r,bQ es p (bA ⟨du prs k v,h',bS post 0⟩),ups,pre++(p,du prs k v,h')::post,⟨⟨i4 h.shf (gk hat),hpm.trans (Q4 (U:=dV ups) (pre:=pre) (post:=post) (p:=p) (x:=(du prs k v,h'))),?_,h.okI,(ia _ _ _).2 ⟨ok1,hr2,ok2⟩,Sp hord ?_⟩,?_,h.rt⟩,.put h.shf hk hv q6 (by omega) hgp hr q4 hz hr2,.inl ⟨rfl,hk,hv,?_,?_,agQ q2 ?_ (afv prs k v),λh=>h⟩⟩
   ·have e:dh (pre++(p,du prs k v,h')::post)=dh b:=by rw[q2];simp[dh]
    exact Hj e h.dn
   ·intro y hy x hx;rcases ru hx with rfl|hx
    ·exact q3 (y.1,y.2.2) (fi.2 ⟨y,hy,rfl⟩)
    grind
   ·intro _ x hx;rcases cG.1 hx with hx|hx
    ·grind
    ·rcases dC.1 hx with rfl|hx
     ·exact J1 _ _ _
     grind
   ·rw[hfb,hput,pz,kO]
   ·grind
   ·rw[hfb,hput,pz,kO]
  ·by_cases hfree:n - es.length < ws.length+2
   ·exact⟨aE,6,r,es,ups,b,h,.full h.shf hk hv q6 (by omega) hgp hr q4 hz hfree,.inr ⟨rfl,rfl,rfl,rfl,rfl,.inr ⟨rfl,hk,hv,by omega⟩⟩⟩
   ·have hpw:=J2 prs k v;have hkv:=Gb (x:=(k,v)) hk hv;have h50:=V4 o.mem;have ow:=o.wt;have hlen:2<=prs.length:=by omega
    obtain⟨j,hj,hjf,hj2⟩:=II h.shf (by omega);obtain⟨m0,m1,m2,m3⟩:=Qt hlen (λx hx=>(Gb (o.mem x hx).1 (o.mem x hx).2).2) o.wt;have hx:prs[d7 prs]? = aA prs[d7 prs]:=cI m1;obtain⟨oA,oB,hsh,hks,hgB,z,hzp,hzs⟩:=acb o (d7 prs) hx m0;generalize hxx:prs[d7 prs]=x at *
    have hlo':∀y∈pre,bf y.2.2 x.1:=λy hy=>⟨(hpre y hy).1.1,.inr (adm ((hpre y hy).2 z hzp) hzs)⟩
    have klo:∀y∈pre,lt k y.2.2=false:=λy hy=>q3 (y.1,y.2.2) (fi.2 ⟨y,hy,rfl⟩)
    have hrA:=rE oA (nx:=(j:Int)+1) (by omega) (by omega);have hrB:=rE oB hx0 hx1;have hroom:es.length+ups.length+2<=n:=by omega
    have htd:prs=prs.take (d7 prs)++(prs.drop (d7 prs)++[]):=by simp
    have htd2:prs=[]++(prs.take (d7 prs)++prs.drop (d7 prs)):=by simp
    have hA0:prs.take (d7 prs)≠[]:=by
     grind
    have hB0:prs.drop (d7 prs)≠[]:=by
     grind
    have hrt:su (prs.take (d7 prs)++prs.drop (d7 prs)):=by grind
    cases hks2:lt k x.1 with
    |true =>
     have hw:bE (du (prs.take (d7 prs)) k v)<=231:=by have:=J2 (prs.take (d7 prs)) k v;omega
     have oA2:=J0 oA hk hv (.inr hks2) hw
     obtain⟨r',es',ups',hW,hup,hrs,hfk⟩:=VI h q1 q2 hj hj2 oA2 oB (J1 _ _ _) hB0 hsh hks hlo'
      (λy hy q hq=>by
       rcases ru hq with rfl|hq
       all_goals grind)
      (λy hy q hq=>(hpre y hy).2 q (uE hq)) hgB hroom
     refine⟨!cY (bD prs) k,0,r',es',ups',_,hW,.split h.shf hk hv q6 (by omega) hgp hr q4 hz hfree hjf hj hj2 hlen hx hrA hrB (rE oA2 (by omega) (by omega)) hrB (.inl ⟨hks2,rfl,hw,rfl⟩) hup,.inl ⟨rfl,hk,hv,?_,by rw[hfb,hhas],λh1=>fY (h1 x (by grind)) (by rw[oy hks2];simp),hfk⟩⟩
     have hgk:∀y∈prs.drop (d7 prs),lt k y.1=true:=λy hy=>by
      have h0:=hgB y hy
      by_cases e:y.1=x.1
      ·grind
      ·exact lt_trans hks2 (pK h0 e)
     have:=J3 (a:=[]) (m:=prs.take (d7 prs)) (c:=prs.drop (d7 prs)) (k:=k) (v:=v) (by simp) hgk (by grind);rw[<-htd2]at this;rw[hfb,hput,this,pz,kO,kO];simp
    |false =>
     have hw:bE (du (prs.drop (d7 prs)) k v)<=231:=by have:=J2 (prs.drop (d7 prs)) k v;omega
     have oB2:=J0 oB hk hv q4 hw
     obtain⟨r',es',ups',hW,hup,hrs,hfk⟩:=VI h q1 q2 hj hj2 oA oB2 hA0 (J1 _ _ _) hsh hks hlo'
      (λy hy q hq=>(hpre y hy).2 q (uF hq))
      (λy hy q hq=>by
       rcases ru hq with rfl|hq
       all_goals grind)
      (λq hq=>by
       rcases ru hq with rfl|hq
       all_goals grind) hroom
     have hlk:∀y∈prs.take (d7 prs),lt y.1 k=true:=λy hy=>by
      have h1:=(oA.hi.resolve_left (qV hks)).2 y hy
      by_cases e:k=x.1
      ·grind
      ·exact lt_trans h1 (pK hks2 e)
     have hpa:=J3 (a:=prs.take (d7 prs)) (m:=prs.drop (d7 prs)) (c:=[]) (k:=k) (v:=v) hlk (by simp) (by grind);rw[<-htd]at hpa
     have hfl2:cF (pre++(p,prs.take (d7 prs),x.1)::((j:Int),du (prs.drop (d7 prs)) k v,h')::post)=du (cF b) k v:=by
      rw[hfb,hput,hpa,pz,kO,kO];simp
     have hrsn:Cl ups b k v ups' (pre++(p,prs.take (d7 prs),x.1)::((j:Int),du (prs.drop (d7 prs)) k v,h')::post):=by
      intro h1 hk5 h3 hh
      have hpo:post=[]:=by
       cases hpo:post with
       |nil=>rfl
       |cons y t =>
        exfalso;have hy:=A3 h q2 y (.inr (by grind));obtain⟨z,t',hz⟩:=mW hy;have hm:z∈cF post:=jp.2 ⟨y,by grind,by grind⟩;have a1:=hcc z hm;have a2:=h1 z (by grind);rw[oy a1]at a2;grind
      have q2':b=pre++[(p,prs,h')]:=by grind
      have hfl3:=hfl2;rw[hpo]at hfl3;have:=agR (ups':=ups') h q2' hfl3 ⟨x,by grind,rfl⟩ rfl hlen (by grind) (λy hy=>(Gb (o.mem y hy).1 (o.mem y hy).2).2) o.wt (λa b c=>hrs hpo a b c);rw[hpo];exact this h1 hk5 h3 hh
     refine⟨!cY (bD prs) k,0,r',es',ups',_,hW,.split h.shf hk hv q6 (by omega) hgp hr q4 hz hfree hjf hj hj2 hlen hx hrA hrB hrA (rE oB2 hx0 hx1) (.inr ⟨hks2,rfl,rfl,hw⟩) hup,.inl ⟨rfl,hk,hv,hfl2,by rw[hfb,hhas],hrsn,hfk⟩⟩
def bH{α:Type}(l:List (Int × α)):List Int:=l.map (·.1)
def fA(ups:List IL)(b:LL):List V:=(ups.map λl=>aH (aO (bH l)))++[aH (aO (bH b))]
def lR{α:Type}(f:α->Int->Bs)(es:Es)(l:List (Int × α)):Prop:=∀x∈cx f l 0,x∈es
def vD{α f g}:∀{l:List (Int × α)} {n},dG g l n->∀x∈l,∃m,g x.2 m/\(x.1,f x.2 m)∈cx f l n
 |(p,y)::l,n,h,x,hx=>by
  rcases dC.1 hx with rfl|hx
  ·exact⟨_,h.1,by rw[cx];simp⟩
  ·obtain⟨m,h1,h2⟩:=vD (f:=f) h.2 x hx;exact⟨m,h1,by rw[cx];grind⟩
def fN{l i x k}(h:l[i]? = aA x):bk (aO l) i k=k (.int aB x):=fq h
def Q7{n r es}(hS:cH n es) P (hP:P.length<=2000) m6 {o} :
  ∀(l:IL) i acc,P.drop i=bH l->(∀x∈l,∃m,okI x.2 m/\(x.1,cw x.2 m)∈es)->acc.length+(bM l).length<=2000->i<=P.length ->
  Go qk aD 5 (fF 87) (.head 1 (m9 (aO P) (P.length) (P.length) r n (bZ es) (bI n (bi es)) m6 (aO (acc++bH (bM l))))) o ->
  Go qk aD 5 (fF 87) (.head 1 (m9 (aO P) (P.length) (i) r n (bZ es) (bI n (bi es)) m6 (aO acc))) o
 | [],i,acc,hd,_,_,hi0,hg=>by
  have hi:=drop_nil hd;have e:i=P.length:=by omega
  subst e;simpa[bM,bH]using hg
 |(q,x)::l,i,acc,hd,bC,hlen,hi0,hg=>by
  obtain⟨h1,h2,h3⟩:=dZ hd;obtain⟨m,⟨hne,hr⟩,hm⟩:=bC (q,x) (by simp);have hge:=gY hS.nd hm;have e1:bM ((q,x)::l)=x++bM l:=by simp[bM]
  rw[e1]at hlen hg;rw[gJ]at hlen;have w:W aB (i+1)=((i+1:Nat)):=by rw[bd (by omega)];omega
  refine FJ _ _ _ _ _ _ _ _ _ (o:=.head 1 (m9 (aO P) P.length (i+1) r n (bZ es) (bI n (bi es)) m6 (aO (acc++bH x)))) ?_
   (Q7 hS P hP m6 l (i+1) (acc++bH x) h2 (λy hy=>bC y (by grind)) (by simp[bH];omega) (by omega) (by simpa[bH]using hg))
  unfold BF;rw[aZ (by omega),aS (by simp),bq,fN h1,bL,rv hS hge hr,bN,aS (k7 _),aS (aZ (by simp[bR,gm];omega)),w,oq];rfl
def Q8{n r es}(hS:cH n es) P (hP:P.length<=2000) m6 {o} :
  ∀(l:LL) (i:Nat),P.drop i=bH l->(∀x∈l,∃m,okF x.2 m/\(x.1,dF x.2 m)∈es)->i<=P.length ->
  Go qk aD 5 (fF 87) (.head 1 (m9 (aO P) (P.length) P.length r n (bZ es) (bI n (bi es)) m6 [])) o ->
  Go qk aD 5 (fF 87) (.head 1 (m9 (aO P) (P.length) (i) r n (bZ es) (bI n (bi es)) m6 [])) o
 | [],i,hd,_,hi,hg=>by
  have h1:=drop_nil hd;grind
 |(q,x)::l,i,hd,bC,hi,hg=>by
  obtain⟨h1,h2,h3⟩:=dZ hd;obtain⟨m,hr,hm⟩:=bC (q,x) (by simp);have hge:=gY hS.nd hm;have w:W aB ((i)+1)=((i+1:Nat)):=by rw[bd (by omega)];omega
  refine FJ _ _ _ _ _ _ _ _ _ (o:=.head 1 (m9 (aO P) P.length ((i+1:Nat)) r n (bZ es) (bI n (bi es)) m6 [])) ?_
   (Q8 hS P hP m6 l (i+1) h2 (λy hy=>bC y (by grind)) (by omega) hg)
  unfold BF;rw[aZ (by omega),bn,aS (by simp),bq,fN h1,bL,tS (l:=⟨x.1,x.2,m⟩) hS hge hr,bN,w]
def JO b:bH (dh b)=bH b:=by simp[dh,bH]
def JN l:bH (cP l)=bH l:=by simp[cP,bH]
def N7{s d b}(h:Dn s d b)(hd:∀l∈d,l.length<=1024)(hb:b.length<=1024):s.length<=1024:=by
 cases d with
 |nil=>rw[jM h,dh];grind
 |cons l d=>rw[(gX h).1,cP];grind
def AH{l:IL}(h:l≠[])(hn:∀x∈l,x.2≠[]):bM l≠[]:=by
 obtain⟨x,t,rfl⟩:=mW h;intro h0;rw[bM,lc,wJ]at h0;grind
def Ra{n:Nat}{r es bs acc P o}(hl:acc.length<=3000)
  (h:Go qk aD 5 (fF 87) (.head 1 (m9 (aO P) P.length (0:Nat) r n es bs (acc++[aH (aO P)]) [])) o) :
  Go qk aD 5 (fF 87) (.head 0 (zV r n es bs (acc++[aH (aO P)]))) o:=by
 have w:W aB ((acc++[aH (aO P)]).length - 1)=acc.length:=by
  rw[bd (by grind)];simp
 have hg:(acc++[aH (aO P)])[acc.length]? = aA (aH (aO P)):=by simp
 refine ahs _ _ _ _ _ ?_ h;unfold UQ;rw[w,aS (by simp),aS (aZ (by simp)),bq,cM hg,ma,bR];rfl
def Q9{n:Nat}{r:Int}{es:Es}(hS:cH n es):∀(d:List IL) (b:LL) (s:Su) (acc:List V),Dn s d b->(∀l∈d,dG okI l 0)->dG okF b 0->(∀l∈d,lR cw es l)->lR dF es b->(∀l∈d,l.length<=1024)->b.length<=1024->acc.length+d.length<=2000->s≠[] ->
  Go qk aD 5 (fF 87) (.head 0 (zV r n (bZ es) (bI n (bi es)) (acc++[aH (aO (bH s))]))) (.doneM (.own 5) (tM r n es++[aN 80 (acc++fA d b) 0]))
 | [],b,s,acc,hd,_,hF,_,hE,_,hb,hl,_=>by
  have e:=jM hd;have ep:bH s=bH b:=by rw[e,JO]
  rw[ep];have hbl:(bH b).length=b.length:=by simp[bH]
  refine Ra (by grind) (Q8 hS (bH b) (by omega) _ b 0 rfl (λx hx=>?_) (by omega) (FJ _ _ _ _ _ _ _ _ _ ?_ (.refl _)))
  ·obtain⟨m,h1,h2⟩:=vD (f:=dF) hF x hx;exact⟨m,h1,hE _ h2⟩
  ·unfold BF;rw[bF (by omega),be];rfl
 |l::d,b,s,acc,hd,hI,hF,hEI,hE,hdl,hb,hl,hne=>by
  obtain⟨e,hdk⟩:=gX hd;have ep:bH s=bH l:=by rw[e,JN]
  have hll:=hdl l (dl ..);have hpl:(bH l).length=l.length:=by simp[bH]
  have hkl:=N7 hdk (λx hx=>hdl x (by grind)) hb;have hlne:l≠[]:=by rintro rfl;exact hne e
  have hkne:=AH hlne (jE (hI _ (dl ..)));have ih:=Q9 (r:=r) hS d b (bM l) (acc++[aH (aO (bH l))]) hdk (λx hx=>hI x (by grind)) hF (λx hx=>hEI x (by grind)) hE (λx hx=>hdl x (by grind)) hb (by grind) hkne;have e2:acc++[aH (aO (bH l))]++fA d b=acc++fA (l::d) b:=by simp[fA]
  rw[e2]at ih;rw[ep];refine Ra (by grind) (Q7 hS (bH l) (by omega) _ l 0 [] rfl (λx hx=>?_) (by grind) (by omega) (FJ _ _ _ _ _ _ _ _ _ ?_ ih))
  ·obtain⟨m,h1,h2⟩:=vD (f:=cw) (hI _ (dl ..)) x hx;exact⟨m,h1,hEI _ (dl ..) _ h2⟩
  ·unfold BF;rw[il,bF (by omega),be,ew,be,aS (aZ (by grind))];rw[bR,bH];simp_all
def xP{n r es ups b}(h:WT n r es ups b):(∀l∈ups,l.length<=1024)/\b.length<=1024:=by
 have h2:=h.rep.length_eq;have h3:=vy h.shf;have h4:=h.shf.le;rw[gJ,DL]at h2;refine⟨λl hl=>?_,by omega⟩
 have:∀{u:List IL},l∈u->l.length<=(dV u).length:=by
  intro u hu
  induction u with
  |nil=>grind
  |cons x u ih =>
   rw[n8,gJ,DL];grind
 grind
def qQ{n r es ups b}(h:WT n r es ups b):(∀l∈ups,lR cw es l)/\lR dF es b :=
 ⟨λl hl x hx=>h.rep.mem_iff.2 (sh _ (jp.2 ⟨l,hl,hx⟩)),λx hx=>h.rep.mem_iff.2 (mX _ hx)⟩
def Rb{n r es ups b}(h:WT n r es ups b):bW aJ aU 87 [.ptr 0 0 0] (tM r n es)=aA (vM (tM r n es) (fA ups b)):=by
 have hl:=ml h;obtain⟨h1,h2⟩:=xP h;obtain⟨h3,h4⟩:=qQ h;have:=Q9 (r:=r) h.shf ups b [(r,[])] [] h.dn h.okI h.okF h3 h4 h1 h2 (by grind) (by simp);exact aa0 _ _ _ _ rfl ⟨_,_,this,by kernel_rfl⟩
def Ji{n r es ups b}(h:WT n r es ups b):bW aJ aU 46 [.ptr 0 0 0] (tM r n es)=aA (tH (tM r n es) (aO (bH b))):=by
 have hl:=ml h;have hlen:(fA ups b).length=ups.length+1:=by simp[fA]
 have w:W aB ((fA ups b).length - 1)=ups.length:=by rw[bd (by omega)];omega
 have hg:(fA ups b)[ups.length]? = aA (aH (aO (bH b))):=by simp[fA]
 refine aar _ _ _ _ (o:=.doneM (.sl (aO (bH b))) (tM r n es++[aN 3 [] 0])) ?_ (.done (by kernel_rfl));unfold O1;rw[co RS (Rb h),bN,w,aS (by simp),bq,cM hg,ma]
def kq(from0:Bs)(n:Int):List Pr->List Pr->List Pr
 |acc,[]=>acc
 |acc,x::r=>kq from0 n (if !(lt x.1 from0) && decide ((acc.length:Int) < n) then acc++[x] else acc) r
def UV f n:∀a b acc,kq f n acc (a++b)=kq f n (kq f n acc a) b
 | [],_,_=>rfl
 |x::a,b,acc=>by rw[gI,kq,kq,UV f n a b]
def LK f n:∀l acc,(kq f n acc l).length<=acc.length+l.length
 | [],_=>cZ _
 |x::l,acc=>by
  have h:=LK f n l (if !lt x.1 f && decide (acc.length < n) then acc++[x] else acc);rw[kq];grind
def UW f n:∀l acc,n<=acc.length->kq f n acc l=acc
 | [],_,_=>rfl
 |x::l,acc,h=>by rw[kq,bF (by omega),nO];exact UW f n l acc h
def UZ{n:Nat}{r:Int}{es:Es}{f:Bs}{cnt:Int}{P}{np i:Int}{prs}(hp:prs.length<=1000){o:d6}:∀l (j:Nat) acc,prs.drop j=l->j<=prs.length->acc.length+l.length<=10000000 ->
  Go qk aD 5 (fF 34) (.head 0 (zQ f cnt P np (W aB (i+1)) r n (bZ es) (bI n (bi es)) (bw (kq f cnt acc l)))) o ->
  Go qk aD 5 (fF 34) (.head 1 (uK f cnt P np i (bw prs) prs.length j r n (bZ es) (bI n (bi es)) (bw acc))) o
 | [],j,acc,hd,hj,_,hg=>by
  have h1:=drop_nil hd;refine Uz _ _ _ _ _ _ _ _ _ _ _ _ _ ?_ hg;unfold FC;rw[bF (by omega)];rfl
 |x::l,j,acc,hd,hj,hl,hg=>by
  obtain⟨h1,h2,h3⟩:=dZ hd;have w:W aB (j+1)=(j+1:Nat):=by rw[bd (by omega)];omega
  have hs:FC f cnt P np i (bw prs) prs.length j r n (bZ es) (bI n (bi es)) (bw acc)=aA (.head 1 (uK f cnt P np i (bw prs) prs.length (j+1:Nat) r n (bZ es) (bI n (bi es)) (bw (if !(lt x.1 f) && decide (acc.length < cnt) then acc++[x] else acc)))):=by
   unfold FC;rw[aZ (by omega),bq,fG h1,w,dq];show(cond (!(lt x.1 f)) _ _)=_;cases lt x.1 f with
   |true=>rfl
   |false =>
    cases decide (acc.length < cnt)with
    |true =>
     rw[aS (aZ (by grind))];simp[bw]
    |false=>rfl
  refine Uz _ _ _ _ _ _ _ _ _ _ _ _ _ hs (UZ hp l (j+1) _ h2 (by omega) ?_ hg);grind
def UX{n:Nat}{r:Int}{es:Es}(hS:cH n es){f:Bs}{cnt:Int} P (hP:P.length<=2000):∀(l:LL) (i:Nat) acc,P.drop i=bH l->(∀x∈l,∃m,okF x.2 m/\(x.1,dF x.2 m)∈es)->i<=P.length->acc.length+1000 * l.length<=5000000 ->
  Go qk aD 5 (fF 34) (.head 0 (zQ f cnt (aO P) P.length i r n (bZ es) (bI n (bi es)) (bw acc))) (.doneM (.own 6) (tM r n es++[aN 41 [] 0,aN 41 (bw (kq f cnt acc (cF l))) 0]))
 | [],i,acc,hd,_,hi,_=>by
  have h1:=drop_nil hd;refine Uy _ _ _ _ _ _ _ _ _ _ ?_ (.refl _);unfold Le;rw[bF (by omega)];rfl
 |(q,prs,h)::l,i,acc,hd,bC,hi,hl=>by
  obtain⟨h1,h2,h3⟩:=dZ hd;obtain⟨m,hr,hm⟩:=bC (q,prs,h) (by simp);have hge:=gY hS.nd hm;have g:=lA hr;have g1:=g.len;have g2:=g.wt;simp only at g1 g2;have w:W aB (i+1)=(i+1:Nat):=by rw[bd (by omega)];omega
  simp only[d8]at hl;have hsl:=LK f cnt prs acc;have ih:=UX (r:=r) (f:=f) (cnt:=cnt) hS P hP l (i+1) (kq f cnt acc prs) h2 (λy hy=>bC y (by grind)) (by omega) (by omega);rw[<-UV,<-w]at ih;refine Uy _ _ _ _ _ _ _ _ _ _ ?_ (UZ (prs:=prs) (by omega) prs 0 acc rfl (by omega) (by omega) ih);unfold Le;rw[aZ (by omega),bq,fN h1,bL,tS (l:=⟨prs,h,m⟩) hS hge hr,bN];rw[dq];rfl
def UY{n r es ups b}(h:WT n r es ups b)(f:Bs) cnt:bW aJ aU 34 [.ptr 0 0 0,.str f,.int aB cnt] (tM r n es)=aA (vH (tM r n es) (bw (kq f cnt [] (cF b)))):=by
 obtain⟨h1,h2⟩:=xP h;obtain⟨h3,h4⟩:=qQ h;have hbl:(bH b).length=b.length:=by simp[bH]
 have:=UX (r:=r) (f:=f) (cnt:=cnt) h.shf (bH b) (by omega) b 0 [] rfl (λx hx=>by
  obtain⟨m,h1,h2⟩:=vD (f:=dF) h.okF x hx;exact⟨m,h1,h4 _ h2⟩) (by omega) (by grind)
 refine aal _ _ _ _ _ _ ?_ ⟨_,_,this,by kernel_rfl⟩;unfold OW;rw[co Jw (Ji h),bN,bR];rfl
def eH(sn:List Int):List (V × V):=sn.map λp=>(aC aB p,aW aD)
def EB{p}:∀{sn},p∉sn->gj (eH sn) (.int aB p)=aA aF
 | [],_=>rfl
 |a::sn,h=>by
  show((fE (.int aB p) (.int aB a)).bind λb=>if b then aA (aA (aW aD)) else gj (eH sn) (.int aB p))=_;rw[Aq,bF (λe=>h (by grind))];exact EB λe=>h (by grind)
def EF{p}:∀{sn},p∉sn->kg (eH sn) (.int aB p) (.bool aD)=aA (eH (sn++[p]))
 | [],_=>rfl
 |a::sn,h=>by
  show((fE (.int aB p) (.int aB a)).bind λq=>if q then aA ((aC aB a,aW aD)::eH sn) else (kg (eH sn) (.int aB p) (.bool aD)).map ((aC aB a,aW aD)::·))=_;rw[Aq,bF (λe=>h (by grind)),EF λe=>h (by grind)];rfl
abbrev ju{α:Type}(N:List α)(j:Nat)(x:α):List α:=N.take j++x::N.drop (j+1)
def Nh{α N j}{x:α}(h:j < N.length):N.set j x=ju N j x:=by
 rw[List.set_eq_take_append_cons_drop,bc h]
def Ng{α N j}{x:α}(h:N.length=j):ju N j x=N++[x]:=by
 unfold ju;rw[zq (by omega),B6 (by omega)]
def Vi N j (x:Bs):(aY N).set j (aG x)=aY (N.set j x):=by
 unfold aY;simp_all
def ab3{α:Type}{l:List α}{j x}(h:l[j]? = aA x):j < l.length:=(cE.1 h).1
abbrev Ad:CM:=⟨aD,aE,aD,[3,9]⟩
def NJ{sn:List (V × V)}{N:List Int}{B:List Bs}{j:Nat}{p nx:Int}{lo hi:Bs}(hj:j<=2000)(hp:0<=p/\p < 100000)(hl:B.length=N.length)(h:N.length=j∨(N[j]? = aA (p+1)/\B[j]? = aA lo)) :
  bW aJ Ad 132 [.ptr 0 0 0,.int aB (j:Int),.int aB p,.str lo,.str hi,.int aB nx] (fm sn (aO N) (aY B))=aA (vG (aD,sn,aO (ju N j nx),aY (ju B j hi))):=by
 have w:W aB (p+1)=p+1:=bd (by omega);rcases h with h|⟨h1,h2⟩
 ·have g1:(N++[p+1])[0+j]? = aA (p+1):=by grind
  have g2:(B++[lo])[0+j]? = aA lo:=by grind
  have e1:(N++[p+1]).set (0+j) nx=ju N j nx:=by
   rw[Ng h,eW,<-h,MI _ _ (cZ _),nS];rfl
  have e2:(B++[lo]).set (0+j) hi=ju B j hi:=by
   rw[Ng (by omega),eW,<-h,<-hl,MI _ _ (cZ _),nS];rfl
  have a1:aO N++[aC aB (p+1)]=aO (N++[p+1]):=by simp[aO]
  have a2:aY B++[aG lo]=aY (B++[lo]):=by simp[aY]
  have hs:Bz (j:Int) p lo hi nx sn (aO N) (aY B)=aA (.head 0 (Cx (j:Int) p lo hi nx sn (aO (N++[p+1])) (aY (B++[lo])))):=by
   unfold Bz;rw[bR,aZ (by omega),bn,aS (by grind),dW,aS (by grind),w,a1,a2]
  have hb:KQ (j:Int) p lo hi nx sn (aO (N++[p+1])) (aY (B++[lo]))=aA (.doneM (aW aD) [aM 144 (aI [dJ 1,bl 4 0,bl 5 0]) aE,dI sn,gU,gU,aN 3 (aO (ju N j nx)) 0,aN 9 (aY (ju B j hi)) 0]):=by
   unfold KQ;rw[bR,dW,bF (by grind),be,w];simp only[bq,aS (show decide ((0:Int)<=(j:Int))=aD by simp),aS (show decide (j < (N++[p+1]).length)=aD by grind),aS (show decide (j < (B++[lo]).length)=aD by grind),fq g1,gM g2,bL,de,gg,bn,Em,Vi,e1,e2]
  exact Ow _ _ _ _ _ _ _ _ rfl ⟨_,_,Uc _ _ _ _ _ _ _ _ hs (ag9 _ _ _ _ _ _ _ _ hb (.refl _)),by kernel_rfl⟩
 ·have l1:=ab3 h1;have g1:N[0+j]? = aA (p+1):=by grind
  have g2:B[0+j]? = aA lo:=by grind
  have e1:N.set (0+j) nx=ju N j nx:=by rw[eW];exact Nh l1
  have e2:B.set (0+j) hi=ju B j hi:=by rw[eW];exact Nh (by omega)
  have hs:Bz (j:Int) p lo hi nx sn (aO N) (aY B)=aA (.doneM (aW aD) (fm sn (aO (ju N j nx)) (aY (ju B j hi)))):=by
   unfold Bz;rw[bR,dW,bF (by omega),be,w];simp only[bq,aS (show decide ((0:Int)<=(j:Int))=aD by simp),aS (show decide (j < N.length)=aD by grind),aS (show decide (j < B.length)=aD by grind),fq g1,gM g2,bL,de,gg,bn,Em,Vi,e1,e2]
  exact Ow _ _ _ _ _ _ _ _ rfl ⟨_,_,Uc _ _ _ _ _ _ _ _ hs (.refl _),by kernel_rfl⟩
def gQ:List IL->LL->List Int
 | [],b=>[bS b 0]
 |l::d,b=>gQ d b++[bS l 0]
def vS:∀d b,(gQ d b).length=d.length+1
 | [],_=>rfl
 |l::d,b=>by rw[gQ,gJ,vS d b];rfl
def ig(ups:List IL)(b:LL):List Int:=ups.flatMap bH++bH b
def Ab(lo:Bs)(b:LL):Prop:=∀z∈b,(∀x∈z.2.1,lt x.1 lo=aE)/\(z.2.2=[]∨lt lo z.2.2=aD)
def adN x:lt x []=false:=by cases x<;>rfl
def WG b:Ab [] b:=λz _=>⟨λx _=>adN x.1,by
 cases h:z.2.2 with
 |nil=>grind
 |cons a r=>exact .inr rfl⟩
structure Lk(es:Es)(r:Int)(ups:List IL)(b:LL)(lo:Bs)(X sn:List Int):Prop where
 okI:∀l∈ups,dG okI l 0
 okF:dG okF b 0
 inI:∀l∈ups,lR cw es l
 inF:lR dF es b
 ord:lk b
 ab:Ab lo b
 ne:∀x∈b,x.2.1≠[]∨x.1=r
 two:∀l∈ups,∀x∈l,x.1≠r∨1 < x.2.length
 nd:(sn++X++ig ups b).Nodup
def adz{es:Es}{r x}{b:LL}{lo:Bs}{X sn}(h:Lk es r [] (x::b) lo X sn):Lk es r [] b x.2.2 X (sn++[x.1]) where
 okI:=by simp
 okF:=h.okF.2
 inI:=by simp
 inF:=λy hy=>h.inF y (mY _ hy)
 ord:=(i7.1 h.ord).2
 ab:=λz hz=>by
  obtain⟨h1,h2⟩:=(i7.1 h.ord).1 z hz;exact⟨h2,h1.2⟩
 ne:=λy hy=>h.ne y (by grind)
 two:=by simp
 nd:=by
  have:=h.nd
  have e:(sn++X++ig [] (x::b)).Perm (sn++[x.1]++X++ig [] b):=by
   simp only[ig,bH,List.singleton_append];grind
  grind
def ady{es:Es}{r:Int}{p:Int}{e:Su}{l:IL}{d:List IL}{b:LL}{lo:Bs}{X sn:List Int}(h:Lk es r (((p,e)::l)::d) b lo X sn):Lk es r d b lo (X++bH l) (sn++[p]) where
 okI:=λl hl=>h.okI l (by grind)
 okF:=h.okF
 inI:=λl hl=>h.inI l (by grind)
 inF:=h.inF
 ord:=h.ord
 ab:=h.ab
 ne:=h.ne
 two:=λl hl=>h.two l (by grind)
 nd:=by
  have:=h.nd
  have e:(sn++X++ig (((p,e)::l)::d) b).Perm (sn++[p]++(X++bH l)++ig d b):=by
   simp only[ig,lc,bH,fJ,c8,List.singleton_append,gI];grind
  grind
def adB{es:Es}{r:Int}{l:IL}{d:List IL}{b:LL}{hi:Bs}{X sn:List Int}(h:Lk es r d b hi (X++bH l) sn)(h1:dG okI l 0)(h2:lR cw es l)(h3:∀x∈l,x.1≠r∨1 < x.2.length):Lk es r (l::d) b hi X sn where
 okI:=λl' hl=>by exact(dC.1 hl).elim (λe=>e ▸ h1) (λhl=>h.okI _ hl)
 okF:=h.okF
 inI:=λl' hl=>by exact(dC.1 hl).elim (λe=>e ▸ h2) (λhl=>h.inI _ hl)
 inF:=h.inF
 ord:=h.ord
 ab:=h.ab
 ne:=h.ne
 two:=λl' hl=>by exact(dC.1 hl).elim (λe=>e ▸ h3) (λhl=>h.two _ hl)
 nd:=by
  have:=h.nd;simpa[ig,lc,c8]using this
def N2{lo}:∀{d s b},Dn s d b->(∀l∈d,dG okI l 0)->Ab lo b->∀y∈s,y.2=[]∨lt lo y.2=aD
 | [],s,b,h,_,ha,y,hy=>by
  rw[jM h]at hy;obtain⟨z,hz,rfl⟩:=fi.1 hy;exact(ha z hz).2
 |l::d,s,b,h,hI,ha,y,hy=>by
  obtain⟨e,hk⟩:=gX h;rw[e]at hy;obtain⟨z,hz,rfl⟩:=fi.1 hy;have hne:=jE (hI _ (dl ..)) z hz
  have hm:(z.2.getLastD (0,[]))∈bM l:=by
   refine jp.2 ⟨z,hz,?_⟩;rw[MD,Wj hne];grind
  have:=N2 hk (λx hx=>hI x (by grind)) ha _ hm;exact this
def mK(lo:Bs)(e1:Su):Bs:=(e1.getLastD (0,lo)).2
def IF lo a (x:Int × Bs):mK lo (a++[x])=x.2:=by simp[mK]
def abJ{lo}{e:Su}(h:e≠[]):mK lo e=bp e:=by
 obtain⟨a,x,rfl⟩:∃a x,e=a++[x]:=by
  rcases fS e with h'|⟨l,x,h'⟩
  all_goals grind
 rw[IF,iE _ (by simp)];rfl
section
variable {n:Nat}{r:Int}{es:Es}
abbrev lM(r:Int)(n:Nat)(es:Es)(sn N:List Int)(B:List Bs):List O:=lm r (eH sn) (aO N) (aY B) (n:Int) (bZ es) (bI n (bi es))
def St(f:Nat)(ups:List IL)(b:LL)(lo:Bs)(N:List Int)(B:List Bs):Prop:=N.take (f+1)=gQ ups b/\B.take (f+1)=cA (f+1) lo
def wP(n:Nat)(r:Int)(es:Es)(f:Nat):Prop:=∀(ups:List IL) (b:LL) (p:Int) (h lo:Bs) (s:Su) (X sn N:List Int) (B:List Bs),ups.length=f->Dn ((p,h)::s) ups b->Lk es r ups b lo X sn->B.length=N.length->(N=[]∨St f ups b lo N B) ->
 ∃ups' b' sn',ups'.length=f/\Dn s ups' b'/\Lk es r ups' b' h X sn' /\
  bW aJ Ad 85 [.ptr 0 0 0,.ptr 1 0 0,.int aB p,.str lo,.str h] (lM r n es sn N B) =
   aA (tK ((f:Int),aD,r,eH sn',(n:Int),bZ es,bI n (bi es),aO (gQ ups' b'++N.drop (f+1)),aY (cA (f+1) h++B.drop (f+1))))
def adI(hS:cH n es):wP n r es 0:=by
 intro ups b p h lo s X sn N B hu hd hk hl hst;obtain rfl:=List.length_eq_zero_iff.1 hu;have e:=jM hd
 obtain⟨x,b',rfl⟩:∃x b',b=x::b':=by
  cases b with
  |nil=>cases e
  |cons x b'=>grind
 obtain⟨q,prs,h'⟩:=x;obtain⟨e1,rfl⟩:=List.cons.inj e;obtain⟨rfl,rfl⟩:=Prod.mk.inj e1;have hge:=gY hS.nd (hk.inF (p,dF (prs,h) (bS b' 0)) (dl ..));have hr:=hk.okF.1;have hpk:p∈bo es:=fi.2 ⟨_,hk.inF (p,dF (prs,h) (bS b' 0)) (dl ..),rfl⟩;have hpr:=hS.rng p hpk;have hn:=hS.le
 have hps:p∉sn:=by
  intro hp;have:=hk.nd;rw[c8]at this;exact(uG.1 this).2.2 p hp p (by simp[ig,bH]) rfl
 refine⟨[],b',sn++[p],rfl,Dn.leaf b',adz hk,?_⟩
 have hf:N.length=0∨(N[0]? = aA (p+1)/\B[0]? = aA lo):=by
  rcases hst with h0|⟨h1,h2⟩
  ·grind
  ·refine .inr ⟨?_,?_⟩
   ·have:=di (·[0]?) h1;simpa[gQ,bS]using this
   ·have:=di (·[0]?) h2;grind
 have hft:=NJ (sn:=eH (sn++[p])) (hi:=h) (nx:=bS b' 0) (j:=0) (by omega) (p:=p) (lo:=lo) ⟨hpr.1,by omega⟩ hl hf;rw[show((0:Nat):Int)=0 from rfl]at hft
 have hs0:wo p lo h r (eH sn) (aO N) (aY B) (n:Int) (bZ es) (bI n (bi es))=aA (.head 1 (qE p lo aD r (eH (sn++[p])) (aO N) (aY B) (n:Int) (bZ es) (bI n (bi es)) (bw prs) h (bS b' 0))):=by
  unfold wo;rw[EF hps,mS,co tI (yy hS hge),bN,tS (l:=⟨prs,h,bS b' 0⟩) hS hge hr,bN,aQ (PF ⟨prs,h,bS b' 0⟩ hr),de];rw[show(dF (prs,h) (bS b' 0)==bA ⟨prs,h,bS b' 0⟩)=aD from gg _,bn,gg,bn,dq];cases prs with
  |nil =>
   have:p=r:=by
    rcases hk.ne (p,[],h) (dl ..)with h1|h1
    all_goals grind
   grind
  |cons y ps =>
   have hy:=(hk.ab (p,y::ps,h) (dl ..)).1 y (dl ..);have i1:(y::ps)[0]? = aA y:=rfl;rw[ew (by grind),be,fG i1,fZ];grind
 have hs1:Lw p lo aD r (eH (sn++[p])) (aO N) (aY B) (n:Int) (bZ es) (bI n (bi es)) (bw prs) h (bS b' 0)=aA (.doneM (.tup [.int aB 0,.bool aD]) (ln r 10 11 (eH (sn++[p])) (n:Int) (bZ es) (bI n (bi es))++[aM 120 (aI [aH (bw prs),aG h,aC aB (bS b' 0)]) aE,aN 3 (aO (ju N 0 (bS b' 0))) 0,aN 9 (aY (ju B 0 h)) 0])):=by
  unfold Lw;rw[bn,cL RL hft]
 refine Ij _ _ _ _ _ _ _ _ _ _ (o:=.head 0 (w8 p lo h r (eH sn) (aO N) (aY B) (n:Int) (bZ es) (bI n (bi es)))) ?_ ⟨_,_,Lv _ _ _ _ _ _ _ _ _ _ hs0 (ahk _ _ _ _ _ _ _ _ _ _ _ _ _ hs1 (.refl _)),by kernel_rfl⟩;unfold DJ mP;rw[EB hps]
def ajR(a:Su)(y x:Int × Bs)(b:Su):((a++[y]++x::b).dropLast.map (·.2))[a.length]? = aA y.2:=by
 grind
def ajQ(a:Su) x z (b:Su):((a++x::z::b).dropLast.map (·.2))[a.length]? = aA x.2:=by
 grind
def Ro{f:Nat}(hf:f<=1100)(ih:wP n r es f){p:Int}{e K:Su}{lo:Bs}{nx:Int}(he:e≠[])(hel:e.length<=1000):∀(e2 e1:Su),e=e1++e2->e1≠[]->∀(d:List IL) (b:LL) (X sn N:List Int) (B:List Bs),d.length=f->Dn (e2++K) d b->Lk es r d b (mK lo e1) X sn->B.length=N.length->St f d b (mK lo e1) N B ->
  ∃d' b' sn',d'.length=f/\Dn K d' b'/\Lk es r d' b' (bp e) X sn'/\∀o,
   Go qk aD 9 (fF 85) (.head 3 (uM p lo (bp e) aD (f:Int) aD (aO (e.map (·.1))) (e.length:Int) (e.length:Int) r (eH sn') (n:Int) (bZ es) (bI n (bi es)) (aY (e.dropLast.map (·.2))) (aO (e.map (·.1))) (bp e) nx (aO (gQ d' b'++N.drop (f+1))) (aY (cA (f+1) (bp e)++B.drop (f+1))))) o ->
   Go qk aD 9 (fF 85) (.head 3 (uM p lo (bp e) aD (f:Int) aD (aO (e.map (·.1))) (e.length:Int) (e1.length:Int) r (eH sn) (n:Int) (bZ es) (bI n (bi es)) (aY (e.dropLast.map (·.2))) (aO (e.map (·.1))) (bp e) nx (aO N) (aY B))) o
 | [],e1,hE,h0,d,b,X,sn,N,B,hdl,hd,hk,hl,hst=>by
  have e0:e=e1:=by grind
  subst e0;have hfr:mK lo e=bp e:=abJ he;obtain⟨h1,h2⟩:=hst;rw[hfr]at hk h2;refine⟨d,b,sn,hdl,hd,hk,λo hg=>?_⟩
  rwa [<-h1,<-h2,lj,lj]at hg
 |(q,hq)::e2,e1,hE,h0,d,b,X,sn,N,B,hdl,hd,hk,hl,hst=>by
  obtain⟨d1,b1,sn1,hd1l,hd1,hk1,hcall⟩:=ih d b q hq (mK lo e1) (e2++K) X sn N B hdl hd hk hl (.inr hst);have hfr1:mK lo (e1++[(q,hq)])=hq:=IF ..;have hn1:(gQ d1 b1).length=f+1:=by rw[vS,hd1l]
  have hr1:(cA (f+1) hq).length=f+1:=by simp
  obtain⟨d',b',sn',hdl',hd',hk',hgo⟩:=Ro hf ih (p:=p) (nx:=nx) he hel e2 (e1++[(q,hq)]) (by grind) (by simp) d1 b1 X sn1 (gQ d1 b1++N.drop (f+1)) (cA (f+1) hq++B.drop (f+1)) hd1l hd1 (by rw[hfr1];grind) (by grind) ⟨qi _ _ hn1,by grind⟩;rw[sR _ _ hn1,sR _ _ hr1]at hgo;refine⟨d',b',sn',hdl',hd',hk',λo hg=>?_⟩;have hg:=hgo o hg;have hlen:e.length=e1.length+(e2.length+1):=by grind
  have hk0:(e.map (·.1))[e1.length]? = aA q:=by grind
  have hp:0 < e1.length:=lT.2 h0;have w:W aB ((e1.length:Int)+1)=((e1.length+1:Nat):Int):=by rw[bd (by omega)];omega
  have hs3:BE p lo (bp e) aD (f:Int) aD (aO (e.map (·.1))) (e.length:Int) (e1.length:Int) r (eH sn) (n:Int) (bZ es) (bI n (bi es)) (aY (e.dropLast.map (·.2))) (aO (e.map (·.1))) (bp e) nx (aO N) (aY B) =
    aA (.head 4 (CR p lo (bp e) aD (f:Int) aD (e1.length:Int) q (mK lo e1) (bp e) (aO (e.map (·.1))) (e.length:Int) (e1.length:Int) r (eH sn) (n:Int) (bZ es) (bI n (bi es)) (aY (e.dropLast.map (·.2))) (aO (e.map (·.1))) (bp e) nx (aO N) (aY B))):=by
   unfold BE;rw[aZ (by omega),bn,aS (by simp),bq,fq hk0,bL];rcases fS e1 with h1|⟨a,y,h1⟩
   ·grind
   ·have h1:e1=a++[y]:=by grind
    have wl:W aB ((e1.length:Int) - 1)=((a.length:Nat):Int):=by rw[h1,bd (by grind)];simp
    have hy:(e.dropLast.map (·.2))[a.length]? = aA y.2:=by grind
    rw[aZ (by omega),bn,wl,aS (by simp),bq,gM hy,de];have:mK lo e1=y.2:=by rw[h1];exact IF ..
    grind
  have hs4:LA p lo (bp e) aD (f:Int) aD (e1.length:Int) q (mK lo e1) (bp e) (aO (e.map (·.1))) (e.length:Int) (e1.length:Int) r (eH sn) (n:Int) (bZ es) (bI n (bi es)) (aY (e.dropLast.map (·.2))) (aO (e.map (·.1))) (bp e) nx (aO N) (aY B) =
    aA (.head 5 (CU p lo (bp e) aD (f:Int) aD (e1.length:Int) q (mK lo e1) hq (aO (e.map (·.1))) (e.length:Int) (e1.length:Int) r (eH sn) (n:Int) (bZ es) (bI n (bi es)) (aY (e.dropLast.map (·.2))) (aO (e.map (·.1))) (bp e) nx (aO N) (aY B))):=by
   unfold LA;have hsl:(aY (e.dropLast.map (·.2))).length=e.length - 1:=by rw[dW,FO]
   rw[hsl];cases e2 with
   |nil =>
    have:bp e=hq:=by rw[hE,iE _ (by simp)];rfl
    grind
   |cons z e2 =>
    have hy:(e.dropLast.map (·.2))[e1.length]? = aA hq:=by grind
    rw[aZ (by grind),bn,aS (by simp),bq,gM hy,de]
  refine UL _ _ _ _ _ _ _ _ _ _ _ _ _ _ _ _ _ _ _ _ hs3 (aho _ _ _ _ _ _ _ _ _ _ _ _ _ _ _ _ _ _ _ _ _ _ _ _ hs4 (ahq _ _ _ _ _ _ _ _ _ _ _ _ _ _ _ _ _ _ _ _ _ _ _ _ ?_ hg));unfold UN;rw[cL EE hcall,bn,bn,w,ew (by omega),be];grind
def adG{f:Nat}(hf:f<=1100)(ih:wP n r es f){p:Int}{e K:Su}{lo:Bs}{nx:Int}(he:e≠[])(hel:e.length<=1000)(d:List IL)(b:LL)(X sn N:List Int)(B:List Bs)(hdl:d.length=f)(hd:Dn (e++K) d b)(hk:Lk es r d b lo X sn)(hl:B.length=N.length)(hst:N=[]∨St f d b lo N B) :
  ∃d' b' sn',d'.length=f/\Dn K d' b'/\Lk es r d' b' (bp e) X sn'/\∀o,
   Go qk aD 9 (fF 85) (.head 3 (uM p lo (bp e) aD (f:Int) aD (aO (e.map (·.1))) (e.length:Int) (e.length:Int) r (eH sn') (n:Int) (bZ es) (bI n (bi es)) (aY (e.dropLast.map (·.2))) (aO (e.map (·.1))) (bp e) nx (aO (gQ d' b'++N.drop (f+1))) (aY (cA (f+1) (bp e)++B.drop (f+1))))) o ->
   Go qk aD 9 (fF 85) (.head 3 (CQ p lo (bp e) aD (aO (e.map (·.1))) (e.length:Int) r (eH sn) (aO N) (aY B) (n:Int) (bZ es) (bI n (bi es)) (aY (e.dropLast.map (·.2))) (aO (e.map (·.1))) (bp e) nx)) o:=by
 obtain⟨x,e2,hE⟩:=mW he;obtain⟨q,hq⟩:=x;rw[hE]at hd;obtain⟨d1,b1,sn1,hd1l,hd1,hk1,hcall⟩:=ih d b q hq lo (e2++K) X sn N B hdl hd hk hl hst;have hn1:(gQ d1 b1).length=f+1:=by rw[vS,hd1l]
 have hr1:(cA (f+1) hq).length=f+1:=by simp
 have hfr1:mK lo [(q,hq)]=hq:=rfl;obtain⟨d',b',sn',hdl',hd',hk',hgo⟩:=Ro hf ih (p:=p) (lo:=lo) (nx:=nx) he hel e2 [(q,hq)] hE (by simp) d1 b1 X sn1 (gQ d1 b1++N.drop (f+1)) (cA (f+1) hq++B.drop (f+1)) hd1l hd1 (by grind) (by grind) ⟨qi _ _ hn1,by grind⟩;rw[sR _ _ hn1,sR _ _ hr1]at hgo;refine⟨d',b',sn',hdl',hd',hk',λo hg=>?_⟩;have hg:=hgo o hg;have hlen:e.length=e2.length+1:=by grind
 have hk0:(e.map (·.1))[0]? = aA q:=by grind
 have hs3:Ly p lo (bp e) aD (aO (e.map (·.1))) (e.length:Int) r (eH sn) (aO N) (aY B) (n:Int) (bZ es) (bI n (bi es)) (aY (e.dropLast.map (·.2))) (aO (e.map (·.1))) (bp e) nx =
   aA (.head 4 (GC p lo (bp e) aD q lo (bp e) (aO (e.map (·.1))) (e.length:Int) r (eH sn) (aO N) (aY B) (n:Int) (bZ es) (bI n (bi es)) (aY (e.dropLast.map (·.2))) (aO (e.map (·.1))) (bp e) nx)):=by
  unfold Ly;rw[aZ (by omega),bn,fq hk0,bL]
 have hs4:Lz p lo (bp e) aD q lo (bp e) (aO (e.map (·.1))) (e.length:Int) r (eH sn) (aO N) (aY B) (n:Int) (bZ es) (bI n (bi es)) (aY (e.dropLast.map (·.2))) (aO (e.map (·.1))) (bp e) nx =
   aA (.head 5 (CS p lo (bp e) aD q lo hq (aO (e.map (·.1))) (e.length:Int) r (eH sn) (aO N) (aY B) (n:Int) (bZ es) (bI n (bi es)) (aY (e.dropLast.map (·.2))) (aO (e.map (·.1))) (bp e) nx)):=by
  unfold Lz;have hsl:(aY (e.dropLast.map (·.2))).length=e.length - 1:=by rw[dW,FO]
  rw[hsl];cases e2 with
  |nil =>
   have:bp e=hq:=by rw[hE];rfl
   grind
  |cons z e2 =>
   have hy:(e.dropLast.map (·.2))[0]? = aA hq:=by grind
   rw[aZ (by grind),bn,gM hy,de]
 refine ahm _ _ _ _ _ _ _ _ _ _ _ _ _ _ _ _ _ hs3 (ahn _ _ _ _ _ _ _ _ _ _ _ _ _ _ _ _ _ _ _ _ hs4 (ahp _ _ _ _ _ _ _ _ _ _ _ _ _ _ _ _ _ _ _ _ ?_ hg));unfold UM;rw[cL EE hcall,bn];rfl
def adH(hS:cH n es){f:Nat}(hf:f+1<=1100)(ih:wP n r es f):wP n r es (f+1):=by
 intro ups b p h lo s X sn N B hu hd hk hl hst
 obtain⟨l0,d,rfl⟩:∃l0 d,ups=l0::d:=by
  cases ups with
  |nil=>grind
  |cons a d=>grind
 have hdl:d.length=f:=by grind
 obtain⟨e0,hdk⟩:=gX hd
 obtain⟨x,l,rfl⟩:∃x l,l0=x::l:=by
  cases l0 with
  |nil=>cases e0
  |cons x l=>grind
 obtain⟨q,e⟩:=x;rw[cP,fJ]at e0;obtain⟨e1,rfl⟩:=List.cons.inj e0;obtain⟨rfl,rfl⟩:=Prod.mk.inj e1;have hin:=hk.inI _ (dl ..);have bC:=hk.okI _ (dl ..);have hme:(p,cw e (bS l 0))∈es:=hin _ (dl ..);have hge:=gY hS.nd hme;obtain⟨⟨hne,hr⟩,hokl⟩:=bC;have hpr:=hS.rng p (fi.2 ⟨_,hme,rfl⟩);have hn:=hS.le;have hsm:=gv hr;have hel:e.length<=1000:=by have:=hsm.kids;grind
 have hps:p∉sn:=by
  intro hp;have:=hk.nd;rw[c8]at this;exact(uG.1 this).2.2 p hp p (by simp[ig,bH]) rfl
 have hkk:bM ((p,e)::l)=e++bM l:=by simp[bM]
 rw[hkk]at hdk
 have hst0:N=[]∨St f d b lo N B:=by
  rcases hst with h0|⟨h1,h2⟩
  ·grind
  ·refine .inr ⟨?_,?_⟩
   ·have:=di (List.take (f+1)) h1;rw[List.take_take,Nat.min_eq_left (by omega),gQ,qi _ _ (by rw[vS,hdl])]at this;grind
   ·have:=di (List.take (f+1)) h2;grind
 obtain⟨d',b',sn',hdl',hd',hk',hgo⟩:=adG (by omega) ih (p:=p) (nx:=bS l 0) hne hel d b (X++bH l) (sn++[p]) N B hdl hdk (ady hk) hl hst0;have hkl:Dn (cP l) (l::d') b':=Dn.inn _ _ _ hd';refine⟨l::d',b',sn',by grind,hkl,adB hk' hokl (λx hx=>hin x (mY _ hx)) (λx hx=>hk.two _ (dl ..) x (mY _ hx)),?_⟩;have hn1:(gQ d' b').length=f+1:=by rw[vS,hdl']
 have hr1:(cA (f+1) (bp e)).length=f+1:=by simp
 have hlN:(cA (f+1) (bp e)++B.drop (f+1)).length=(gQ d' b'++N.drop (f+1)).length:=by
  grind
 have hfit:(gQ d' b'++N.drop (f+1)).length=f+1∨((gQ d' b'++N.drop (f+1))[f+1]? = aA (p+1)/\(cA (f+1) (bp e)++B.drop (f+1))[f+1]? = aA lo):=by
  rcases hst with h0|⟨h1,h2⟩
  ·grind
  ·refine .inr ⟨?_,?_⟩
   ·rw[eC (by omega),hn1,nS,i6,gn];have:=di (·[f+1]?) h1;simp only[kx,bc (show f+1 < f+1+1 by omega)]at this;rw[this,gQ,eC (by rw[vS];omega),vS,hdl,nS];rfl
   ·have:=di (·[f+1]?) h2;grind
 have hft:=NJ (sn:=eH sn') (hi:=bp e) (nx:=bS l 0) (j:=f+1) (by omega) (p:=p) (lo:=lo) ⟨hpr.1,by omega⟩ hlN hfit
 have hN2:ju (gQ d' b'++N.drop (f+1)) (f+1) (bS l 0)=gQ (l::d') b'++N.drop (f+1+1):=by
  unfold ju;rw[qi _ _ hn1,B5,B6 (by omega),hn1,il,uC,gQ,c8];grind
 have hB2:ju (cA (f+1) (bp e)++B.drop (f+1)) (f+1) (bp e)=cA (f+1+1) (bp e)++B.drop (f+1+1):=by
  unfold ju;rw[qi _ _ hr1,B5,B6 (by omega),hr1,il,uC,List.replicate_succ' (n:=f+1),c8];grind
 rw[hN2,hB2]at hft;have w:W aB ((f:Int)+1)=((f+1:Nat):Int):=by rw[bd (by omega)];omega
 have hs0:wo p lo (bp e) r (eH sn) (aO N) (aY B) (n:Int) (bZ es) (bI n (bi es))=aA (.head 2 (w9 p lo (bp e) aD r (eH (sn++[p])) (aO N) (aY B) (n:Int) (bZ es) (bI n (bi es)) (aY (e.dropLast.map (·.2))) (aO (e.map (·.1))) (bp e) (bS l 0))):=by
  unfold wo;rw[EF hps,mS,co tI (yy hS hge),bN,rv (m:=aX e (bS l 0)) hS hge hr,bN,aQ (PH (aX e (bS l 0)) hsm),de];rw[show(cw e (bS l 0)==cR (aX e (bS l 0)))=aD from gg _,bn,gg,bn,dW];cases e with
  |nil=>grind
  |cons x e =>
   cases e with
   |nil=>rfl
   |cons y e =>
    have h1:((x::y::e).dropLast.map (·.2))[0]? = aA x.2:=rfl;have hhp:=Dq hdk (λl hl=>jE (hk.okI l (by grind))) (EO hk.ord);have hxne:x.2≠[]:=((i7.1 hhp).1 y (by simp)).1;have bf:lt lo x.2=true:=(N2 hdk (λl hl=>hk.okI l (by grind)) hk.ab x (by simp)).resolve_left hxne;rw[ew (by grind),be,gM h1,de];have h2:Op.bytesLess x.2 lo=false:=oy bf
    have h3:(x.2==lo)=false:=by
     grind
    grind
 have hs3:BE p lo (bp e) aD (f:Int) aD (aO (e.map (·.1))) (e.length:Int) (e.length:Int) r (eH sn') (n:Int) (bZ es) (bI n (bi es)) (aY (e.dropLast.map (·.2))) (aO (e.map (·.1))) (bp e) (bS l 0) (aO (gQ d' b'++N.drop (f+1))) (aY (cA (f+1) (bp e)++B.drop (f+1))) =
   aA (.doneM (.tup [.int aB ((f+1:Nat):Int),.bool aD]) (ln r 12 13 (eH sn') (n:Int) (bZ es) (bI n (bi es))++[aM 150 (aI [aH (aY (e.dropLast.map (·.2))),aH (aO (e.map (·.1))),aG (bp e),aC aB (bS l 0)]) aE,gU,gU,aN 3 (aO (gQ (l::d') b'++N.drop (f+1+1))) 0,aN 9 (aY (cA (f+1+1) (bp e)++B.drop (f+1+1))) 0])):=by
  unfold BE;rw[bF (by omega),be,bn,w,cL RL hft,bn]
  by_cases hpr:p=r
  ·rw[hpr,bne_self_eq_false,be];have h1:1 < e.length:=(hk.two _ (dl ..) (p,e) (dl ..)).resolve_left (λh=>h hpr);rw[aZ (by rw[bR,gm];omega)]
  grind
 have hs2:Lx p lo (bp e) aD r (eH (sn++[p])) (aO N) (aY B) (n:Int) (bZ es) (bI n (bi es)) (aY (e.dropLast.map (·.2))) (aO (e.map (·.1))) (bp e) (bS l 0)=aA (.head 3 (CQ p lo (bp e) aD (aO (e.map (·.1))) (e.length:Int) r (eH (sn++[p])) (aO N) (aY B) (n:Int) (bZ es) (bI n (bi es)) (aY (e.dropLast.map (·.2))) (aO (e.map (·.1))) (bp e) (bS l 0))):=by
  unfold Lx;rw[bR,gm]
 have hend:=hgo _ (UL _ _ _ _ _ _ _ _ _ _ _ _ _ _ _ _ _ _ _ _ hs3 (.refl _));refine Ij _ _ _ _ _ _ _ _ _ _ (o:=.head 0 (w8 p lo (bp e) r (eH sn) (aO N) (aY B) (n:Int) (bZ es) (bI n (bi es)))) ?_ ⟨_,_,Lv _ _ _ _ _ _ _ _ _ _ hs0 (ahl _ _ _ _ _ _ _ _ _ _ _ _ _ _ _ hs2 hend),by kernel_rfl⟩;unfold DJ mP;rw[EB hps]
def Rn(hS:cH n es):∀f,f<=1100->wP n r es f
 |0,_=>adI hS
 |f+1,h=>adH hS h (Rn hS f (by omega))
end
def afg ups (b:LL):bo (dV ups++cx dF b 0)=ig ups b:=by
 have h1:∀u:List IL,bo (dV u)=u.flatMap bH:=by
  intro u
  induction u with
  |nil=>rfl
  |cons l u ih =>
   rw[lc,<-ih];show bo (cx cw l 0++dV u)=_;rw[bo,li];exact di (·++_) (AG l 0)
 rw[bo,li];exact congr (di _ (h1 ups)) (AG b 0)
def yq{n r es ups b}(h:WT n r es ups b):(bo es).Perm (ig ups b):=by
 rw[<-afg];exact h.rep.map _
def SJ{n r es ups b}(h:WT n r es ups b):(ig ups b).Nodup:=(yq h).nodup_iff.1 h.shf.nd
def TA{r l}(h:[(r,[])]=cP l):∃e,l=[(r,e)]:=by
 cases l with
 |nil=>cases h
 |cons x t =>
  cases t with
  |nil =>
   obtain⟨h1,-⟩:=List.cons.inj h;grind
  |cons y t=>simp[cP]at h
def adA{n r es ups b}(h:WF n r es ups b):Lk es r ups b [] [] [] where
 okI:=h.okI
 okF:=h.okF
 inI:=(qQ h.toWT).1
 inF:=(qQ h.toWT).2
 ord:=h.ord
 ab:=WG b
 ne:=λx hx=>by
  by_cases hu:ups=[]
  ·have hd:=h.dn;rw[hu]at hd;have e:=jM hd;have:(x.1,x.2.2)∈dh b:=fi.2 ⟨x,hx,rfl⟩;grind
  ·exact .inl (h.ne hu x hx)
 two:=λl hl x hx=>by
  cases ups with
  |nil=>grind
  |cons l0 d =>
   obtain⟨e0,hd⟩:=gX h.dn;obtain⟨e,rfl⟩:=TA e0;rcases dC.1 hl with rfl|hl
   ·right;obtain rfl:=iN.1 hx;exact h.rt [(r,e)] (by simp) _ (iN.2 rfl)
   ·left;intro hxr;have:=SJ h.toWT;refine(nP.1 this).1 (sh _ (jp.2 ⟨l,hl,?_⟩));rw[<-hxr];exact fi.2 ⟨x,hx,rfl⟩
 nd:=by simpa using SJ h.toWT
def xp:∀{d s b},Dn s d b->(∀l∈d,dG okI l 0)->s≠[]->b≠[]
 | [],s,b,h,_,hs=>by
  rintro rfl;exact hs (jM h)
 |l::d,s,b,h,hI,hs=>by
  obtain⟨e,hk⟩:=gX h;have hl:l≠[]:=by rintro rfl;exact hs e
  exact xp hk (λx hx=>hI x (by grind)) (AH hl (jE (hI _ dl ..)))
def R7:∀{d b},Dn [] d b->gQ d b=cA (d.length+1) 0
 | [],b,h=>by
  have e:=jM h
  have:b=[]:=by
   cases b with
   |nil=>rfl
   |cons x b=>cases e
  rw[this];rfl
 |l::d,b,h=>by
  obtain⟨e,hk⟩:=gX h
  have:l=[]:=by
   cases l with
   |nil=>rfl
   |cons x l=>cases e
  subst this;rw[gQ,R7 hk,List.replicate_succ' (n:=([]::d).length)];rfl
def NI{n:Nat}{r es L}(hL:L<=5000):∀(k i:Nat),i+k=L ->
  Go qk aD 5 (fF 40) (.head 0 (uL aD (L) (i) r n (bZ es) (bI n (bi es)) (aO (cA L 0)))) (.doneM (.int aB 0) (tM r n es++[aN 3 (aO (cA L 0)) 0]))
 |0,i,h=>by
  refine Lg _ _ _ _ _ _ _ _ ?_ (.refl _);unfold FE;grind
 |k+1,i,h=>by
  have hg:(cA L (0:Int))[0+i]? = aA 0:=by grind
  have w:W aB ((i)+1)=(i+1:Nat):=by rw[bd (by omega)];omega
  refine Lg _ _ _ _ _ _ _ _ ?_ (NI hL k (i+1) (by omega));unfold FE;rw[aZ (by omega),aS (by simp),bq,aS (aZ (by rw[bR,Cb];omega)),fq hg,w];rfl
def NH{n r es ups b}(h:WF n r es ups b):bW aJ aU 40 [.ptr 0 0 0] (tM r n es)=aA (rc (tM r n es) 0):=by
 have hl:ups.length<=1100:=by have:=ml h.toWT;omega
 obtain⟨d',b',sn',h1,h2,h3,h4⟩:=Rn (r:=r) h.shf ups.length hl ups b r [] [] [] [] [] [] [] rfl h.dn (adA h) rfl (.inl rfl);rw[R7 h2,h1,List.drop_nil,List.drop_nil,fR]at h4;refine OX _ _ _ _ (o:=.head 0 (uL aD (ups.length+1:Nat) (0:Nat) r n (bZ es) (bI n (bi es)) (aO (cA (ups.length+1) 0)))) ?_ ⟨_,_,NI (by omega) (ups.length+1) 0 (by omega),by kernel_rfl⟩;unfold H3;have h5:bW aJ Ad 85 [.ptr 0 0 0,.ptr 1 0 0,.int aB r,.str [],.str []] (lm r [] [] [] n (bZ es) (bI n (bi es)))=_:=h4;rw[cL EE h5];simp only[bR,Cb];rfl
def N0{n:Nat}{r:Int}{es:Es}(hS:cH n es):∀(d:List IL) (b:LL) (p:Int) (h:Bs) (s:Su) (acc:Nat),Dn ((p,h)::s) d b->(∀l∈d,dG okI l 0)->dG okF b 0->(∀l∈d,lR cw es l)->lR dF es b->acc+d.length<=5000 ->
  Go qk aD 5 (fF 43) (.head 0 (CH (acc:Int) p r (n:Int) (bZ es) (bI n (bi es)))) (.doneM (.int aB ((acc+d.length:Nat):Int)) (tM r n es))
 | [],b,p,h,s,acc,hd,_,hF,_,hE,_=>by
  have e:=jM hd
  obtain⟨x,b',rfl⟩:∃x b',b=x::b':=by
   cases b with
   |nil=>cases e
   |cons x b'=>grind
  obtain⟨q,prs,h'⟩:=x;rw[dh,fJ]at e;obtain⟨e1,rfl⟩:=List.cons.inj e;obtain⟨rfl,rfl⟩:=Prod.mk.inj e1;have hge:=gY hS.nd (hE (p,dF (prs,h) (bS b' 0)) (dl ..));have hr:cX ⟨prs,h,bS b' 0⟩=true:=hF.1;refine UA _ _ _ _ _ _ ?_ (.refl _);unfold Lh;rw[tS (l:=⟨prs,h,bS b' 0⟩) hS hge hr,bN];rfl
 |l0::d,b,p,h,s,acc,hd,hI,hF,hEI,hE,hl=>by
  obtain⟨e0,hdk⟩:=gX hd
  obtain⟨x,l,rfl⟩:∃x l,l0=x::l:=by
   cases l0 with
   |nil=>cases e0
   |cons x l=>grind
  obtain⟨q,e⟩:=x;rw[cP,fJ]at e0;obtain⟨e1,rfl⟩:=List.cons.inj e0;obtain⟨rfl,rfl⟩:=Prod.mk.inj e1;obtain⟨⟨hne,hr⟩,_⟩:=hI _ (dl ..);have hge:=gY hS.nd (hEI _ (dl ..) (p,cw e (bS l 0)) (dl ..));obtain⟨y,e',rfl⟩:=mW hne;obtain⟨q1,h1⟩:=y;have hk:bM ((p,(q1,h1)::e')::l)=(q1,h1)::(e'++bM l):=by simp[bM]
  rw[hk]at hdk;simp only[d8]at hl;have w:W aB ((acc:Int)+1)=((acc+1:Nat):Int):=by rw[bd (by omega)];omega
  have ih:=N0 (r:=r) hS d b q1 h1 _ (acc+1) hdk (λx hx=>hI x (by grind)) hF (λx hx=>hEI x (by grind)) hE (by omega);rw[show acc+(((p,(q1,h1)::e')::l)::d).length=acc+1+d.length by grind];refine UA _ _ _ _ _ _ ?_ ih;unfold Lh;have hg:(aX ((q1,h1)::e') (bS l 0)).kids[0]? = aA q1:=rfl;rw[rv (m:=aX ((q1,h1)::e') (bS l 0)) hS hge hr,bN];show bk (aO (aX ((q1,h1)::e') (bS l 0)).kids) 0 _=_;rw[fq hg,bL,w]
def Hh{n r es ups b}(h:WT n r es ups b):bW aJ aU 43 [.ptr 0 0 0] (tM r n es)=aA (tG (tM r n es) ups.length):=by
 have hl:=ml h;have:=N0 (r:=r) h.shf ups b r [] [] 0 h.dn h.okI h.okF (qQ h).1 (qQ h).2 (by omega);rw[eW]at this;exact aao _ _ _ _ rfl ⟨_,_,this,by kernel_rfl⟩
def NE:∀l (ls:List (List Int)) i acc,ls.drop i=l->acc+(l.flatten).length<=5000->i<=ls.length->ls.length<=5000->∀o,
  Go qk aD 0 (fF 86) (.head 0 (xc (ls.map λl=>aH (aO l)) (acc+l.flatten.length:Nat) (ls.map λl=>aH (aO l)) (ls.length) ls.length)) o ->
  Go qk aD 0 (fF 86) (.head 0 (xc (ls.map λl=>aH (aO l)) (acc) (ls.map λl=>aH (aO l)) (ls.length) (i))) o
 | [],ls,i,acc,hd,_,hi,_,o,hg=>by
  have:=drop_nil hd;grind
 |x::l,ls,i,acc,hd,hl,hi,hll,o,hg=>by
  obtain⟨h1,h2,h3⟩:=dZ hd;rw[MA,gJ]at hl hg;have w:W aB ((i)+1)=((i+1:Nat)):=by rw[bd (by omega)];omega
  have w2:W aB ((acc)+((aO x).length))=(acc+x.length:Nat):=by rw[bR,bd (by omega)];omega
  have hi1:(ls.map λl=>aH (aO l))[i]? = aA (aH (aO x)):=by grind
  refine UO _ _ _ _ _ ?_ (NE l ls (i+1) (acc+x.length) h2 (by omega) (by omega) hll o (by grind));unfold FI;rw[aZ (by omega),bn,aS (by simp),bq,cM hi1,ma,w2,bF (by omega),be,w]
def NF:∀l (ls:List (List Int)) i acc,ls.drop i=l->acc.length+(l.flatten).length<=5000->i<=ls.length->ls.length<=5000 ->
  Go qk aD 0 (fF 86) (.head 1 (zU (ls.map λl=>aH (aO l)) ls.length i (aO acc))) (.doneM (.tail 1 0) [aN 3 [] 0,aN 3 (aO (acc++l.flatten)) 0])
 | [],ls,i,acc,hd,_,hi,_=>by
  have:=drop_nil hd;refine UP _ _ _ _ ?_ (.refl _);unfold LC;grind
 |x::l,ls,i,acc,hd,hl,hi,hll=>by
  obtain⟨h1,h2,h3⟩:=dZ hd;rw[MA,gJ]at hl;have w:W aB (i+1)=(i+1:Nat):=by rw[bd (by omega)];omega
  have hi1:(ls.map λl=>aH (aO l))[i]? = aA (aH (aO x)):=by grind
  rw[MA,<-c8];refine UP _ _ _ _ ?_ (NF l ls (i+1) (acc++x) h2 (by grind) (by omega) hll);unfold LC;rw[aZ (by omega),bn,aS (by simp),bq,cM hi1,ma,aS (k7 _),aS (aZ (by rw[bR,bR];omega)),w,oq]
def XO ls (h0:ls≠[]) (hT:0 < ls.flatten.length) (hl:ls.flatten.length<=5000) (hll:ls.length<=5000):bW aJ ⟨aD,aE,aE,[]⟩ 86 [.sl (ls.map λl=>aH (aO l))] []=aA (AX (aO ls.flatten)):=by
 obtain⟨x,l,rfl⟩:=mW h0;have hi1:((x::l).map λl=>aH (aO l))[0]? = aA (aH (aO x)):=rfl;have w0:W aB (((x::l).flatten.length) - 0)=(x::l).flatten.length:=by rw[bd (by omega)];omega
 have hfl:(x::l).flatten=x++l.flatten:=rfl;have h2:=NF l (x::l) 1 x rfl (by grind) (by simp) hll
 have hs1:LB (0 - 0) ((x::l).map λl=>aH (aO l)) ((x::l).length) (aO (cA (x::l).flatten.length 0))=aA (.head 1 (zU ((x::l).map λl=>aH (aO l)) ((x::l).length) (1) (aO x))):=by
  unfold LB;rw[aZ (by simp),cM hi1,ma,aS (k7 _),aS (aZ (by omega)),aS (aZ (by rw[bR];grind))];rfl
 have hs0:FI ((x::l).map λl=>aH (aO l)) (0+(x::l).flatten.length:Nat) ((x::l).map λl=>aH (aO l)) ((x::l).length) ((x::l).length)=aA (.head 1 (GD (0 - 0) ((x::l).map λl=>aH (aO l)) ((x::l).length) (aO (cA (x::l).flatten.length 0)))):=by
  unfold FI;have hr:cA (x::l).flatten.length (aC aB 0)=aO (cA (x::l).flatten.length 0):=by unfold aO;simp_all
  rw[eW,bF (by omega),be,bF (by omega),be,w0,aZ (by omega),bn,aS rfl,bq,aS (aZ (by omega)),hr,aS (k7 _),gm]
 have h1:=NE (x::l) (x::l) 0 0 rfl (by omega) (by omega) hll _ (UO _ _ _ _ _ hs0 (ahr _ _ _ _ hs1 h2));refine aaZ _ (o:=.head 0 (xc ((x::l).map λl=>aH (aO l)) ((0)) ((x::l).map λl=>aH (aO l)) ((x::l).length) (0))) ?_ ⟨_,_,h1,by kernel_rfl⟩;unfold Pi;grind
def aic l:(srt l).Perm l:=List.mergeSort_perm _ _
def aib l:(srt l).Pairwise (·<=·):=by
 have:=List.pairwise_mergeSort (le:=λx y:Int=>decide (x<=y)) λa b c h1 h2=>by grind λa b=>by grind l
 exact this.imp λh=>by grind
def aiC{n r es ups b}(h:WT n r es ups b):srt (ig ups b)=fO n (bi es):=by
 have h1:(fO n (bi es)).Pairwise (· < ·):=by
  unfold fO;rw[MG];exact(List.Pairwise.filter _ List.pairwise_lt_range).imp λh=>by omega
 have hp:=by
  refine(yq h).symm.trans ((Wl h.shf.nd (h1.imp λh=>by omega)).2 λp=>?_);unfold fO;rw[fi];constructor
  ·intro hp;have hr:=h.shf.rng p hp;exact⟨p.toNat,si.2 ⟨by grind,aZ (by grind)⟩,Int.toNat_of_nonneg hr.1⟩
  ·rintro⟨k,hk,rfl⟩;exact gb (si.1 hk).2
 exact List.Perm.eq_of_pairwise (le:=(·<=·)) λa b _ _ h1 h2=>by omega (aib _) (h1.imp λh=>by omega) ((aic _).trans hp)
def afa{n r es ups b}(h:WT n r es ups b):bW aJ aU 42 [.ptr 0 0 0] (tM r n es)=aA (yd (tM r n es) (aO (fO n (bi es)))):=by
 have hul:=ml h;have hlv:fA ups b=(ups.map bH++[bH b]).map λl=>aH (aO l):=by simp[fA]
 have hfl:(ups.map bH++[bH b]).flatten=ig ups b:=by simp[ig,List.flatMap]
 have hlen:=(yq h).length_eq;have hle:=vy h.shf;have hn:=h.shf.le;have hes:(bo es).length=es.length:=by simp[bo]
 have hpos:0 < (ig ups b).length:=by
  have:b≠[]:=by
   have:=xp h.dn h.okI (by simp);grind
  rw[ig,gJ,bH,gm];have:=lT.2 this;omega
 have hc:=XO (ups.map bH++[bH b]) (by simp) (by grind) (by grind) (by grind);rw[<-hlv,hfl]at hc;refine aan _ _ _ _ (o:=.doneM (.tail 6 0) (tM r n es++[aN 3 [] 0,aN 3 (aO (fO n (bi es))) 0])) ?_ (.done (by kernel_rfl));unfold OY;have hi:tg (aO (ig ups b))=aA (ig ups b):=QL _;rw[co RS (Rb h),bN,cL aey hc,aS (aZ (by rw[bR];omega)),hi,mS,aiC h];rfl
def Vw{n es}(h:cH n es):bW aJ aU 50 [.ptr 0 0 0] (sM n es)=aA (vJ (sM n es) (aO (fO n (bi es)))):=by
 refine aaw _ _ _ (o:=.doneM (.sl (aO (fO n (bi es)))) (sM n es++[aN 3 [] 0])) ?_ (.done (by kernel_rfl));unfold O3;rw[co RU (Vy n h.le (bi es)),bN]
def Qk{n:Nat}{r:Int}{es:Es}{ups:List IL}{b:LL}(h:WT n r es ups b)(k:Bs):∃v e,bW aJ aU 39 [.ptr 0 0 0,.str k] (tM r n es)=aA (mR (tM r n es) (v,e)) /\
  ((e=0/\cz k=aD/\(k,v)∈cF b)∨(v=[]/\((e=1/\cz k=aE)∨(e=7/\cz k=aD/\∀x∈cF b,x.1≠k)))):=by
 cases hk:cz k with
 |false =>
  refine⟨[],1,DC _ _ _ _ _ (o:=.doneM (.tup [.str [],.int aB 1]) (tM r n es)) ?_ (.done (by kernel_rfl)),.inr ⟨rfl,.inl ⟨rfl,rfl⟩⟩⟩;unfold Ak;rw[aQ (jB k),bX,hk,lQ,bn]
 |true =>
  obtain⟨p,h',ws,pre,prs,post,q1,q2,q3,q4,q5,q6⟩:=Ga h hk;have hul:=ml h;have hF:=h.okF;have hO:=h.ord;rw[q2]at hF hO;have hr:=EK hF;obtain⟨c1,c2⟩:=Mf hO hF q3 q4;have hris:=DX h.ord h.okF;have hfl:cF b=cF pre++(prs++cF post):=by rw[q2,pz,kO]
  have hr2:su prs:=by
   grind
  have hg:=IK ⟨prs,h',bS post 0⟩ hr k
  have go:∀v e,bP aJ 76 [eL ⟨prs,h',bS post 0⟩,.str k]=aA (.tup [.str v,.int aB e])->bW aJ aU 39 [.ptr 0 0 0,.str k] (tM r n es)=aA (mR (tM r n es) (v,e)):=by
   intro v e hp;refine DC _ _ _ _ _ (o:=.doneM (.tup [.str v,.int aB e]) (tM r n es++[aN 41 [] 0,aM 120 (eL ⟨prs,h',bS post 0⟩) aE])) ?_ (.done (by kernel_rfl));unfold Ak;rw[aQ (jB k),bX,hk,cN,co rh (rQ h.shf q6 (by omega)),bN];show(aT aJ _ [eL ⟨prs,h',bS post 0⟩,_] _)=_;rw[aQ hp,iD]
  cases hh:cY (bD prs) k with
  |true =>
   rw[show cY (bD (⟨prs,h',bS post 0⟩:Lf).prs) k=aD from hh]at hg;obtain⟨h2,h3⟩:=pb hh;have h2':cK (bD prs) k < prs.length:=by simpa[bD]using h2
   have e1:xE prs k=prs[cK (bD prs) k].2:=by unfold xE;grind
   have e2:prs[cK (bD prs) k].1=k:=by simpa[bD]using h3
   grind
  |false =>
   rw[show cY (bD (⟨prs,h',bS post 0⟩:Lf).prs) k=aE from hh]at hg;refine⟨_,_,go _ _ hg,.inr ⟨rfl,.inr ⟨rfl,rfl,?_⟩⟩⟩;intro x hx hxk;rw[hfl]at hx;rcases cG.1 hx with hx|hx
   ·have:=c1 x hx;rw[hxk,lF]at this;grind
   ·rcases cG.1 hx with hx|hx
    ·rw[IR hr2]at hh;grind
    ·have:=c2 x hx;rw[hxk,lF]at this;grind
abbrev iB:=Int × Bs × Bs × Int
def oD(o:iB):V:=.agg [.int aB o.1,.str o.2.1,.str o.2.2.1,.int aB o.2.2.2]
def jR(l:List iB):List V:=l.map oD
def A5 l:(jR l).length=l.length:=by simp[jR]
def Xv(n:Nat):(if 20 < (n:Int) then 20 else (n:Int))=min 20 n:=by split<;>omega
def Xw(n:Nat):(if 40 < (n:Int) then 40 else (n:Int))=min 40 n:=by split<;>omega
def Vu{α:Type}(l:List α) c:l.take (min c l.length)=l.take c:=by
 grind
def Dd(o:iB):iB:=(o.1,o.2.1.take 20,o.2.2.1.take 40,o.2.2.2)
def j4(N:Nat)(l:List iB):List iB:=(l.take N).map Dd
def Sn l:((jR l).all λx=>x.cells.all js)=true:=by simp[jR,oD,gV,js]
def NS N (hN:N<=1000) S (hS:S.length<=f9):∀(d i:Nat),i+d=min N S.length ->
  Go qk aE 0 (fF 14) (.head 0 (CC (jR S) N i (jR (j4 i S)))) (.done (.fr 38 (jR (j4 N S))))
 |0,i,hi=>by
  have e:j4 i S=j4 N S:=by
   unfold j4;grind
  refine Ug _ _ _ _ ?_ (.refl _);unfold KW;rw[A5,e]
  by_cases h:i < S.length
  ·rw[aZ (by omega),bn,bF (by omega),be,aS (Sn _)]
  ·rw[bF (by omega),be,aS (Sn _)]
 |d+1,i,hi=>by
  have bf:i < S.length:=by omega
  have h1:(jR S)[i]? = aA (oD S[i]):=by simp[jR,cI bf]
  have w:W aB (i+1)=(i+1:Nat):=by rw[bd (by omega)];omega
  have e:j4 (i+1) S=j4 i S++[Dd S[i]]:=by
   unfold j4;rw[MJ,cI bf,li];rfl
  have hl:(jR (j4 i S)).length<=1000:=by rw[A5];simp[j4];omega
  have:=NS N hN S hS d (i+1) (by omega);rw[e]at this;refine Ug _ _ _ _ ?_ this;unfold KW
  rw[A5,aZ (by omega),aZ (by omega),aS (by simp),bq,cM h1,oD,NU,Xv,Xw,aS (by simp),bq,aS (aZ (by omega)),aS (by simp),bq,aS (aZ (by omega)),Vu,Vu,
   aS (aZ (by grind)),w]
  simp[jR,oD,Dd]
def XW(N:Nat)(hN:N<=1000) S (hS:S.length<=f9):bP aJ 14 [.sl (jR S),.int aB N]=aA (.fr 38 (jR (j4 N S))):=Zg _ _ rfl (NS N hN S hS (min N S.length) 0 (by omega))
def SA l (hl:l.length<=1000000):∀q (i:Nat),l.drop i=q->i<=l.length ->
  Go qk aE 0 (fF 23) (.head 0 (CG (bw l) (bw l) i)) (.done (.bool aD))
 | [],i,hd,hi=>by
  have h1:=drop_nil hd;refine Ux _ _ _ ?_ (.refl _);unfold Ld;rw[dq,bF (by omega),be]
 |x::q,i,hd,hi=>by
  obtain⟨h1,h2,h3⟩:=dZ hd;have w:W aB (i+1)=(i+1:Nat):=by rw[bd (by omega)];omega
  refine Ux _ _ _ ?_ (SA l hl q (i+1) h2 (by omega));unfold Ld;rw[dq,aZ (by omega),bq,fG h1,fZ,fG h1,w];simp
def afb l (hl:l.length<=1000000):bP aJ 23 [.sl (bw l),.sl (bw l)]=aA (.bool aD):=by
 refine aai _ _ ?_ (SA l hl l 0 rfl (by omega));unfold OV;grind
def kJ:Es:=[(0,[76,0,0,0,0])]
def VV{n}(h:WT n 0 kJ [] [(0,[],[])]):WF n 0 kJ [] [(0,[],[])]:=⟨h,λq=>fY rfl q,λl hl=>by grind⟩
def V3{n}(h1:1<=n)(hn:n<=1024):WT n 0 kJ [] [(0,[],[])]:=by
 refine⟨⟨hn,by simp[kJ,bo],λp hp=>by simp[kJ,bo]at hp;omega⟩,?_,.leaf [(0,[],[])],by simp,⟨by unfold okF;decide,trivial⟩,by simp[lk]⟩;have:dV []++cx dF [(0,([],[]))] 0=kJ:=by decide +kernel
 grind
abbrev nM(n:Nat):List O:=[aM 140 (aI [aL 1 0 0,dJ 2]) aE,aM 192 (aI [bl 3 0,aC aB (n:Int)]) aE,dI [],aN 5 (cA ((n+7) / 8) (aC bK 0)) 0]
def W8(n:Nat):bI n (bi [])=cA ((n+7) / 8) (aC bK 0):=by
 unfold bI;rw[List.eq_replicate_iff];refine⟨by simp,λx hx=>?_⟩;obtain⟨j,_,rfl⟩:=fi.1 hx;rfl
def aiy{n:Nat}(h1:1<=n)(hn:n<=1024):bW aJ aU 131 [.ptr 0 0 0,.int aB 0] [aM 192 (aI [bl 1 0,aC aB (n:Int)]) aE,aN 5 (bI n (bi [])) 0]=aA (vF ((0:Nat),0,n,bI n (eA (bi []) 0 aD))):=by
 obtain⟨r1,r2⟩:=Kq n hn
 have hk:(eQ n).find? (λk=>!bi [] k)=aA 0:=by
  obtain⟨m,rfl⟩:∃m,n=m+1:=⟨n - 1,by omega⟩
  rw[List.range_succ_eq_map];rfl
 refine Y4 _ _ _ ?_ ⟨_,_,Ma n hn (bi []) 0 (eQ n) (λk hk=>by simpa using hk) hk,by kernel_rfl⟩;unfold Ov;rw[aZ (show(0:Int) ≥ 0 by omega),bn,aZ (show(0:Int) < (n:Int) by omega),cN,be,r1,mS,r2];rfl
def Vt{n:Nat}(h1:1<=n)(hn:n<=1024):bW aJ aU 84 [.ptr 0 0 0] (nM n)=aA (pO (0,0,n,bZ [(0,[])],bI n (bi [(0,[])]))):=by
 have ht:bi [(0,[])]=eA (bi []) 0 true:=by
  funext j;unfold eA bi bo
  by_cases e:j=0
  ·subst e;rfl
  ·rw[bh e,bF,bF]
   ·simp
   ·simp;omega
 rw[ht];refine aaY _ _ _ (o:=.doneM (.tup [.int aB 0,.int aB 0]) (sm n (bZ [(0,[])]) (bI n (eA (bi []) 0 aD)))) ?_ (.done (by kernel_rfl));unfold Ph;have:=aiy h1 hn;rw[W8]at this;rw[cL RJ this,dL rfl,bn];rfl
def VY{n:Nat}(h1:1<=n)(hn:n<=1024):bW aJ aU 78 [.ptr 0 0 0,.int aB 0,.ifc 120 (.agg [.sl [],.str [],.int aB 0])] (tm 0 n (bZ [(0,[])]) (bI n (bi [(0,[])])))=aA (gE (0,n,bZ kJ,bI n (bi kJ))):=by
 have hS:cH n [(0,[])]:=⟨hn,by simp[bo],λp hp=>by simp[bo]at hp;omega⟩
 have:=rT (r:=0) hS (p:=0) (b:=[]) (l:=kX) rfl (by decide);have e:bQ [(0,[])] 0 (bA kX)=kJ:=by decide +kernel
 rw[e]at this;exact this
def hS(w:Bool)(h:Bs)(a:Su):Su:=a.dropLast++(a.getLast?.toList.map λx=>(x.1,bif w then h else x.2))
def pF w h a (z:Int) hz:hS w h (a++[(z,hz)])=a++[(z,bif w then h else hz)]:=by simp[hS]
def ul{α:Type}{a:List α}(h:a≠[]):∃a' x,a=a'++[x]:=by
 rcases fS a with h'|⟨l,x,h'⟩
 all_goals grind
def ab8 w h a {b:Su} (hb:b≠[]):hS w h (a++b)=a++hS w h b:=by
 obtain⟨b',⟨z,hz⟩,rfl⟩:=ul hb;rw[<-c8,pF,pF,c8]
def aca w h {a:Su} (ha:a≠[]):hS w h a≠[]:=by
 obtain⟨a',⟨z,hz⟩,rfl⟩:=ul ha;rw[pF];simp
def ab9 h a:hS aE h a=a:=by
 rcases fS a with rfl|⟨a',⟨z,hz⟩,rfl⟩
 ·rfl
 ·rw[i5,pF];rfl
def IW w h {a:Su} (ha:a≠[]):bp (hS w h a)=bif w then h else bp a:=by
 obtain⟨a',⟨z,hz⟩,rfl⟩:=ul ha;rw[pF,iE _ (by simp),iE _ (by simp)];rfl
def hI(w:Bool)(h:Bs)(l:IL):IL:=l.dropLast++(l.getLast?.toList.map λx=>(x.1,hS w h x.2))
def AA w h l (z:Int) ez:hI w h (l++[(z,ez)])=l++[(z,hS w h ez)]:=by simp[hI]
def ada w h {l:IL} (hn:∀x∈l,x.2≠[]):bM (hI w h l)=hS w h (bM l):=by
 rcases fS l with rfl|⟨l',⟨z,ez⟩,rfl⟩
 ·rfl
 ·rw[i5]at hn |-
  have hz:=hn (z,ez) (by simp);have e:bM (l'++[(z,ez)])=bM l'++ez:=by simp[bM]
  rw[AA,e,ab8 _ _ _ hz];simp[bM]
def ais w h {l:IL} (hn:∀x∈l,x.2≠[]):cP (hI w h l)=hS w h (cP l):=by
 rcases fS l with rfl|⟨l',⟨z,ez⟩,rfl⟩
 ·rfl
 ·rw[i5]at hn |-
  have hz:=hn (z,ez) (by simp);have e:cP (l'++[(z,ez)])=cP l'++[(z,bp ez)]:=by simp[cP]
  rw[AA,e,pF];simp[cP,IW w h hz]
def hF(w:Bool)(h:Bs)(b:LL):LL:=b.dropLast++(b.getLast?.toList.map λx=>(x.1,x.2.1,bif w then h else x.2.2))
def xG w h b (z:Int) (prs:List Pr) hz:hF w h (b++[(z,prs,hz)])=b++[(z,prs,bif w then h else hz)]:=by simp[hF]
def air w h b:dh (hF w h b)=hS w h (dh b):=by
 rcases fS b with rfl|⟨b',⟨z,prs,hz⟩,rfl⟩
 ·rfl
 ·have e:dh (b'++[(z,prs,hz)])=dh b'++[(z,hz)]:=by simp[dh]
  rw[i5,xG,e,pF];simp[dh]
def abz w h b:cF (hF w h b)=cF b:=by
 rcases fS b with rfl|⟨b',⟨z,prs,hz⟩,rfl⟩
 ·rfl
 ·rw[i5,xG,pz];simp[cF]
def vX{α:Type}(a:List (Int × α)):List Int:=a.getLast?.toList.map (·.1)
def yp{α} a (x:Int × α):vX (a++[x])=[x.1]:=by simp[vX]
abbrev Nd:=Int × Su × Int
def vq(l:IL)(nx:Int):List Nd:=l.getLast?.toList.map λx=>(x.1,x.2,nx)
def vr l (z:Int) (ez:Su) nx:vq (l++[(z,ez)]) nx=[(z,ez,nx)]:=by simp[vq]
def dB(w:Bool)(h:Bs)(zo gs:List Nd):List Nd:=List.zipWith (λo g=>(o.1,hS w h o.2.1,g.2.2)) zo gs
def cv(l:List Nd):Es:=l.map λz=>(z.1,cw z.2.1 z.2.2)
inductive Rm(r:Int):List IL->Int->Bs->Su->Su->List br->Bool->List IL->List Nd->List Nd->Nd->Nd->Prop
 |one {up:List IL} {q p:Int} {h:Bs} {pre post:IL} {sts:List br} {w:Bool} {up':List IL} {gs zo:List Nd} {xo X:Nd} :
  Rm r up q h (cP pre) (cP post) sts w up' gs zo xo X ->
  Rm r ((pre++(q,[(p,h)])::post)::up) p h (bM pre) (bM post) ((q,[(p,h)],bS post 0,0)::sts) w ((hI w h pre++post)::up') ((q,[(p,h)],bS post 0)::gs) (vq pre (q+1)++zo) xo X
 |left {up:List IL} {q p y:Int} {h hy:Bs} {e1 e2:Su} {pre post:IL} {sts:List br} :
  kC r up q (bp (e1++(y,hy)::(p,h)::e2)) (cP pre) (cP post) sts ->
  Rm r ((pre++(q,e1++(y,hy)::(p,h)::e2)::post)::up) p h (bM pre++(e1++[(y,hy)])) (e2++bM post) ((q,e1++(y,hy)::(p,h)::e2,bS post 0,e1.length+1)::sts) aD
   ((pre++(q,e1++(y,h)::e2)::post)::up) [] [] (q,e1++(y,hy)::(p,h)::e2,bS post 0) (q,e1++(y,h)::e2,bS post 0)
 |first {up:List IL} {q p:Int} {h:Bs} {x:Int × Bs} {e2:Su} {pre post:IL} {sts:List br} :
  kC r up q (bp ((p,h)::x::e2)) (cP pre) (cP post) sts ->
  Rm r ((pre++(q,(p,h)::x::e2)::post)::up) p h (bM pre) (x::e2++bM post) ((q,(p,h)::x::e2,bS post 0,0)::sts) aE
   ((pre++(q,x::e2)::post)::up) [] [] (q,(p,h)::x::e2,bS post 0) (q,x::e2,bS post 0)
def ags{r up p h a c}{sts:List br}(hp:kC r up p h a c sts)(hm:∃s∈sts,2<=s.2.1.length):∃w up' gs zo xo X,Rm r up p h a c sts w up' gs zo xo X:=by
 induction hp with
 |top=>grind
 |@st up q e1 p h e2 pre post sts hup ih =>
  rcases fS e1 with rfl|⟨e1',⟨y,hy⟩,rfl⟩
  ·cases e2 with
   |nil =>
    obtain⟨w,up',gs,zo,xo,X,hr⟩:=ih (by
     grind)
    have e1:bM pre++[]=bM pre:=fR _;rw[e1];exact⟨w,_,_,_,xo,X,.one hr⟩
   |cons x e2 =>
    have e1:bM pre++[]=bM pre:=fR _;rw[e1];exact⟨_,_,_,_,_,_,.first hup⟩
  ·rw[i5]at hup |-
   have e:e1'++[(y,hy)]++(p,h)::e2=e1'++(y,hy)::(p,h)::e2:=by simp
   have el:(e1'++[(y,hy)]).length=e1'.length+1:=by simp
   rw[e]at hup;rw[e,el];exact⟨_,_,_,_,_,_,.left hup⟩
def IV e1 y hy p h (e2:Su):bp (e1++(y,h)::e2)=bp (e1++(y,hy)::(p,h)::e2):=by
 rw[iE _ (by simp),iE _ (by simp),mN (y,hy) (by simp)];cases e2 with
 |nil=>rfl
 |cons x e2=>rw[mN (y,h) (by simp),mN (p,h) (by simp)]
section
variable {r:Int}{up:List IL}{p:Int}{h:Bs}{a c:Su}{sts:List br}{w:Bool}{up':List IL}{gs zo:List Nd}{xo X:Nd}
def agr(hr:Rm r up p h a c sts w up' gs zo xo X):(∀l∈up,∀x∈l,x.2≠[])->∀{d b},Dn (hS w h a++c) d b->Dn [(r,[])] (up'.reverse++d) b:=by
 induction hr with
 |@one up q p h pre post sts w up' gs zo xo X _ ih =>
  intro hn d b hd;have hnp:∀x∈pre,x.2≠[]:=λx hx=>hn _ (dl ..) x (by grind)
  have ek:hS w h (bM pre)++bM post=bM (hI w h pre++post):=by rw[<-ada w h hnp];simp[bM]
  have es:cP (hI w h pre++post)=hS w h (cP pre)++cP post:=by rw[<-ais w h hnp];simp[cP]
  rw[ek]at hd;have hd:=Dn.inn _ _ _ hd;grind
 |@left up q p y h hy e1 e2 pre post sts hup =>
  intro hn d b hd
  have ek:hS aD h (bM pre++(e1++[(y,hy)]))++(e2++bM post)=bM (pre++(q,e1++(y,h)::e2)::post):=by
   rw[<-c8 (bM pre),pF];simp[bM]
  rw[ek]at hd;have hd:=Dn.inn _ _ _ hd
  have es:cP (pre++(q,e1++(y,h)::e2)::post)=cP pre++(q,bp (e1++(y,hy)::(p,h)::e2))::cP post:=by
   rw[<-IV e1 y hy p h e2];simp[cP]
  rw[es]at hd;have:=JW hup hd;grind
 |@first up q p h x e2 pre post sts hup =>
  intro hn d b hd
  have ek:hS aE h (bM pre)++(x::e2++bM post)=bM (pre++(q,x::e2)::post):=by
   rw[ab9];simp[bM]
  rw[ek]at hd;have hd:=Dn.inn _ _ _ hd
  have es:cP (pre++(q,x::e2)::post)=cP pre++(q,bp ((p,h)::x::e2))::cP post:=by
   rw[mN _ (by simp)];simp[cP]
  rw[es]at hd;have:=JW hup hd;grind
def QT{l:IL}(hn:∀x∈l,x.2≠[])(h:bM l=[]):l=[]:=by
 cases l with
 |nil=>rfl
 |cons x l =>
  rw[bM,lc,wJ]at h;grind
def Fb(hr:Rm r up p h a c sts w up' gs zo xo X):(∀l∈up,∀x∈l,x.2≠[])->(a=[]->zo=[])/\(a≠[]->zo.length=gs.length):=by
 induction hr with
 |@one up q p h pre post sts w up' gs zo xo X _ ih =>
  intro hn;have hnp:∀x∈pre,x.2≠[]:=λx hx=>hn _ (dl ..) x (by grind)
  obtain⟨h1,h2⟩:=ih λl hl=>hn l (by grind)
  constructor
  ·intro ha;have:=QT hnp ha;subst this;rw[h1 rfl];rfl
  ·intro ha;rcases fS pre with rfl|⟨l,⟨z,ez⟩,rfl⟩
   ·exact fY rfl ha
   ·rw[i5]at h2 |-
    rw[vr];have:=h2 (by simp[cP]);grind
 |left _=>grind
 |first _=>grind
end
def ix(e:Su):List Bs:=e.dropLast.map (·.2)
def Km:∀{l p},ff p l=aD↔(∀s∈l,cz s=aD/\lt p s=aD)/\l.Pairwise λa b=>lt a b=aD
 | [],p=>by simp[ff]
 |s::l,p=>by
  rw[ff,cT,cT,Km (l:=l) (p:=s),i7];constructor
  ·rintro⟨⟨h1,h2⟩,h3,h4⟩;refine⟨λx hx=>?_,λx hx=>(h3 x hx).2,h4⟩;rcases dC.1 hx with rfl|hx
   ·grind
   ·exact⟨(h3 x hx).1,lt_trans h2 (h3 x hx).2⟩
  grind
structure oV(e:Su)(h:Bs):Prop where
 ne:e≠[]
 pg:∀x∈e,eD x.1=aD
 key:∀s∈ix e,cz s=aD
 ri:(ix e).Pairwise λa b=>lt a b=aD
 hi:h=[]∨(cz h=aD/\∀s∈ix e,lt s h=aD)
 sz:23+db (ix e)<=252
def ade{l:List Bs}{h}(hk:cz h=aD)(ha:∀x∈l,lt x h=aD):lt (l.getLastD []) h=true:=by
 rcases fS l with rfl|⟨a,x,rfl⟩
 ·exact qU hk
 grind
def acD{e:Su}{nx}:(e≠[]/\cy (aX e nx)=aD)↔oV e (bp e)/\0<=nx/\nx<=1024:=by
 rw[tU,u4];constructor
 ·rintro⟨hne,h1,h2,h3,h4,h5,h6,h7⟩;obtain⟨q1,q2⟩:=Km.1 h3;refine⟨⟨hne,λx hx=>h2 x.1 (fi.2 ⟨x,hx,rfl⟩),λs hs=>(q1 s hs).1,q2,?_,h7⟩,h5,h6⟩;simp only[gt,oT,cT]at h4;rcases h4 with h4|⟨h4,h8⟩
  ·grind
  ·refine .inr ⟨h4,λs hs=>?_⟩;have hs:s∈e.dropLast.map (·.2):=hs;have q2:(e.dropLast.map (·.2)).Pairwise λa b=>lt a b=true:=q2
   generalize e.dropLast.map (·.2)=l at hs h8 q2;rcases fS l with rfl|⟨a,y,rfl⟩
   ·grind
   ·have e:(a.concat y).getLastD []=y:=by simp
    rw[e]at h8;rw[i5]at hs q2;rcases cG.1 hs with hs|hs
    ·exact lt_trans ((fT.1 q2).2.2 s hs y (by simp)) h8
    grind
 ·rintro⟨o,h5,h6⟩;refine⟨o.ne,?_,?_,?_,?_,h5,h6,o.sz⟩
  ·have:=lT.2 o.ne;grind
  ·intro k hk;obtain⟨x,hx,rfl⟩:=fi.1 hk;exact o.pg x hx
  ·exact Km.2 ⟨λs hs=>⟨o.key s hs,qU (o.key s hs)⟩,o.ri⟩
  ·show gt ((ix e).getLastD []) (bp e)=aD;unfold gt;rcases o.hi with h|⟨hk,ha⟩
   ·grind
   ·rw[hk,ade hk ha];simp
def vT{e nx}:okI e nx↔oV e (bp e)/\0<=nx/\nx<=1024:=acD
def ait{a b}(h:a.Sublist b):db a<=db b:=by
 induction h with
 |slnil=>grind
 |cons x _ ih=>rw[db];omega
 |cons_cons x _ ih=>rw[db,db];omega
def QF{e e':Su}{h}(o:oV e h)(hne:e'≠[])(hp:∀x∈e',∃y∈e,y.1=x.1)(hs:(ix e').Sublist (ix e)):oV e' h:=by
 refine⟨hne,λx hx=>?_,λs h=>o.key s (hs.subset h),o.ri.sublist hs,?_,?_⟩
 ·obtain⟨y,hy,e⟩:=hp x hx;rw[<-e];exact o.pg y hy
 ·rcases o.hi with h|⟨h1,h2⟩
  all_goals grind
 ·have:=ait hs;have:=o.sz;omega
def FM a x (b:Su):ix (a++x::b)=a.map (·.2)++ix (x::b):=by
 unfold ix;grind
theorem FN x y (b:Su):ix (x::y::b)=x.2::ix (y::b):=rfl
def U0 w h e:ix (hS w h e)=ix e:=by
 rcases fS e with rfl|⟨e',⟨z,hz⟩,rfl⟩
 ·rfl
 ·rw[i5,pF,FM,FM];rfl
def ahz e:(ix e).Sublist (e.map (·.2)):=List.Sublist.map _ (List.dropLast_sublist _)
def acC{e}(o:oV e (bp e)){w}{h:Bs}(hk:h=[]∨cz h=aD)(hl:∀x∈e,bf x.2 h):oV (hS w h e) (bp (hS w h e)):=by
 have hs:=U0 w h e;refine⟨aca w h o.ne,?_,by rw[hs];exact o.key,by rw[hs];exact o.ri,?_,by rw[hs];exact o.sz⟩
 ·intro x hx;obtain⟨e',⟨z,hz⟩,rfl⟩:=ul o.ne;rcases cG.1 hx with hx|hx
  ·exact o.pg x (by grind)
  ·have:x=(z,bif w then h else hz):=by grind
   rw[this];exact o.pg (z,hz) (by simp)
 ·rw[hs,IW w h o.ne];cases w with
  |false=>exact o.hi
  |true =>
   rcases hk with hk|hk
   ·grind
   ·refine .inr ⟨hk,λs hs=>?_⟩;obtain⟨x,hx,rfl⟩:=fi.1 ((ahz e).subset hs);exact(hl x hx).2.resolve_left (qV hk)
def acE{e1 y hy p h}{e2:Su}{g}(o:oV (e1++(y,hy)::(p,h)::e2) g):oV (e1++(y,h)::e2) g:=by
 refine QF o (by simp) ?_ ?_
 ·intro x hx;rcases cG.1 hx with hx|hx
  ·grind
  ·rcases dC.1 hx with rfl|hx
   ·exact⟨(y,hy),by simp,rfl⟩
   grind
 ·rw[FM,FM,FN];refine List.Sublist.append_left ?_ _;cases e2 with
  |nil=>exact List.nil_sublist _
  |cons x e2=>rw[FN,FN];grind
def acB{p h x}{e2:Su}{g}(o:oV ((p,h)::x::e2) g):oV (x::e2) g :=
 QF o (by simp) (λz hz=>⟨z,by grind,rfl⟩) (by rw[FN];grind)
def agw{r:Int}{up:List IL}{p:Int}{h:Bs}{a c:Su}{sts:List br}{w:Bool}{up':List IL}{gs zo:List Nd}{xo X:Nd}(hr:Rm r up p h a c sts w up' gs zo xo X) :
  (∀l∈up,dG okI l 0)->HP (a++(p,h)::c)->(h=[]∨cz h=aD)->∀l∈up',dG okI l 0:=by
 induction hr with
 |@one up q p h pre post sts w up' gs zo xo X _ ih =>
  intro hI hP hk l hl;have h0:=hI _ (dl ..);obtain⟨ok1,⟨ok3,ok2⟩⟩:=(ia _ _ _).1 h0;have ok2:dG okI post 0:=ok2;rcases dC.1 hl with rfl|hl
  ·refine(ia _ _ _).2 ⟨?_,ok2⟩;rcases fS pre with rfl|⟨l',⟨z,ez⟩,rfl⟩
   ·trivial
   ·rw[i5]at ok1 hP |-
    rw[AA];obtain⟨k1,k2,_⟩:=(ia _ _ _).1 ok1;refine(ia _ _ _).2 ⟨k1,?_,trivial⟩;have o:=(vT.1 k2).1;have hx:=(vT.1 ok3).2;refine vT.2 ⟨acC o hk λx hx=>?_,hx⟩;have e:bM (l'++[(z,ez)])=bM l'++ez:=by simp[bM]
    rw[e]at hP;exact(fT.1 hP).2.2 x (by grind) (p,h) (by simp)
  ·have e0:bM pre++(p,h)::bM post=bM (pre++(q,[(p,h)])::post):=by simp[bM]
   rw[e0]at hP;have:=Eb (jE h0) hP;have e':cP (pre++(q,[(p,h)])::post)=cP pre++(q,h)::cP post:=by simp[cP,bp]
   grind
 |@left up q p y h hy e1 e2 pre post sts hup =>
  intro hI hP hk l hl;have h0:=hI _ (dl ..);obtain⟨ok1,⟨ok3,ok2⟩⟩:=(ia _ _ _).1 h0;rcases dC.1 hl with rfl|hl
  ·refine(ia _ _ _).2 ⟨ok1,?_,ok2⟩;have o:=vT.1 ok3;refine vT.2 ⟨?_,o.2⟩;rw[IV e1 y hy p h e2];exact acE o.1
  grind
 |@first up q p h x e2 pre post sts hup =>
  intro hI hP hk l hl;have h0:=hI _ (dl ..);obtain⟨ok1,⟨ok3,ok2⟩⟩:=(ia _ _ _).1 h0;rcases dC.1 hl with rfl|hl
  ·refine(ia _ _ _).2 ⟨ok1,?_,ok2⟩;have o:=vT.1 ok3;refine vT.2 ⟨?_,o.2⟩;have:=acB o.1
   rwa [mN _ (by simp)]at this
  grind
def c1(x a:Int × Bs):Nat:=if a=x then 1 else 0
def cn(x:Int × Bs):Es->Nat
 | []=>0
 |a::l=>c1 x a+cn x l
def kG x:∀a b,cn x (a++b)=cn x a+cn x b
 | [],b=>by simp[cn]
 |y::a,b=>by rw[gI,cn,cn,kG x a b];omega
def G5 x:∀l:Es,cn x l=l.count x
 | []=>rfl
 |a::l=>by
  rw[cn,G5 x l,c1];grind
def kZ{a b}:a.Perm b↔∀x,cn x a=cn x b:=by
 rw[List.perm_iff_count];exact forall_congr' λx=>by rw[G5,G5]
theorem lX x a (l:Es):cn x (a::l)=c1 x a+cn x l:=rfl
theorem pm x:cn x []=0:=rfl
theorem oa x l:cv (x::l)=(x.1,cw x.2.1 x.2.2)::cv l:=rfl
def agy{r:Int}{up:List IL}{p:Int}{h:Bs}{a c:Su}{sts:List br}{w:Bool}{up':List IL}{gs zo:List Nd}{xo X:Nd}(hr:Rm r up p h a c sts w up' gs zo xo X) :
  (∀l∈up,∀x∈l,x.2≠[])->∃R,(dV up).Perm (cv zo++(cv gs++(cv [xo]++R)))/\(dV up').Perm (cv (dB w h zo gs)++(cv [X]++R)):=by
 induction hr with
 |@one up q p h pre post sts w up' gs zo xo X hr ih =>
  intro hn;obtain⟨R,h1,h2⟩:=ih λl hl=>hn l (by grind)
  rw[kZ]at h1 h2;rcases fS pre with rfl|⟨l,⟨z,ez⟩,rfl⟩
  ·have hz:=(Fb hr λl hl=>hn l (by grind)).1 rfl;subst hz;refine⟨cx cw post 0++R,kZ.2 λx=>?_,kZ.2 λx=>?_⟩
   ·have h1:=h1 x;have e:dV (([]++(q,[(p,h)])::post)::up)=(q,cw [(p,h)] (bS post 0))::cx cw post 0++dV up:=rfl;have e2:vq [] (q+1)=[]:=rfl;rw[e,e2];simp only[kG,lX,oa,il]at h1 |-
    omega
   ·have h2:=h2 x;have e:dV ((hI w h []++post)::up')=cx cw post 0++dV up':=rfl;have e2:dB w h (vq [] (q+1)++[]) ((q,[(p,h)],bS post 0)::gs)=[]:=rfl;have e3:dB w h [] gs=[]:=rfl;rw[e,e2];rw[e3]at h2;simp only[kG,lX,oa]at h2 |-
    omega
  ·rw[i5];refine⟨cx cw l (z+1)++cx cw post 0++R,kZ.2 λx=>?_,kZ.2 λx=>?_⟩
   ·have h1:=h1 x
    have e:dV ((l++[(z,ez)]++(q,[(p,h)])::post)::up)=cx cw l (z+1)++(z,cw ez (q+1))::(q,cw [(p,h)] (bS post 0))::cx cw post 0++dV up:=by
     rw[n8,c8,lx];rfl
    rw[e,vr];simp only[kG,lX,oa,il,gI]at h1 |-
    omega
   ·have h2:=h2 x
    have e:dV ((hI w h (l++[(z,ez)])++post)::up')=cx cw l (z+1)++(z,cw (hS w h ez) (bS post 0))::cx cw post 0++dV up':=by
     rw[AA,n8,c8,lx];rfl
    have e2:dB w h (vq (l++[(z,ez)]) (q+1)++zo) ((q,[(p,h)],bS post 0)::gs)=(z,hS w h ez,bS post 0)::dB w h zo gs:=by rw[vr];rfl
    rw[e,e2];simp only[kG,lX,oa,gI]at h2 |-
    omega
 |@left up q p y h hy e1 e2 pre post sts hup =>
  intro hn;refine⟨cx cw pre (q+1)++cx cw post 0++dV up,?_,?_⟩
  ·rw[n8,lx,cx];show((cx cw pre (q+1)++_::cx cw post 0)++dV up).Perm (_::(cx cw pre (q+1)++cx cw post 0++dV up));grind
  ·rw[n8,lx,cx];show((cx cw pre (q+1)++_::cx cw post 0)++dV up).Perm (_::(cx cw pre (q+1)++cx cw post 0++dV up));grind
 |@first up q p h x e2 pre post sts hup =>
  intro hn;refine⟨cx cw pre (q+1)++cx cw post 0++dV up,?_,?_⟩
  ·rw[n8,lx,cx];show((cx cw pre (q+1)++_::cx cw post 0)++dV up).Perm (_::(cx cw pre (q+1)++cx cw post 0++dV up));grind
  ·rw[n8,lx,cx];show((cx cw pre (q+1)++_::cx cw post 0)++dV up).Perm (_::(cx cw pre (q+1)++cx cw post 0++dV up));grind
abbrev pk(n r:Nat):Int:=W bK (((BitVec.ofInt (bJ bK) (n:Int) &&& ~~~(BitVec.ofInt (bJ bK) (r:Int))).toNat:Int))
def XG:∀b0 b1 b2 b3 b4 b5 b6 b7:Bool,
  pk (eo b0 b1 b2 b3 b4 b5 b6 b7) 1=eo aE b1 b2 b3 b4 b5 b6 b7/\pk (eo b0 b1 b2 b3 b4 b5 b6 b7) 2=eo b0 aE b2 b3 b4 b5 b6 b7/\pk (eo b0 b1 b2 b3 b4 b5 b6 b7) 4=eo b0 b1 aE b3 b4 b5 b6 b7/\pk (eo b0 b1 b2 b3 b4 b5 b6 b7) 8=eo b0 b1 b2 aE b4 b5 b6 b7 /\
  pk (eo b0 b1 b2 b3 b4 b5 b6 b7) 16=eo b0 b1 b2 b3 aE b5 b6 b7/\pk (eo b0 b1 b2 b3 b4 b5 b6 b7) 32=eo b0 b1 b2 b3 b4 aE b6 b7/\pk (eo b0 b1 b2 b3 b4 b5 b6 b7) 64=eo b0 b1 b2 b3 b4 b5 aE b7/\pk (eo b0 b1 b2 b3 b4 b5 b6 b7) 128=eo b0 b1 b2 b3 b4 b5 b6 false:=by decide +kernel
def Xj f i:pk (mF f (i / 8)) (2 ^ (i % 8))=(mF (eA f i aE) (i / 8):Nat):=by
 obtain⟨j,k,hk,e,e1,e2⟩:=Jy i;rw[e1,e2,e];have h:=XG (f (8 * j)) (f (8 * j+1)) (f (8 * j+2)) (f (8 * j+3)) (f (8 * j+4)) (f (8 * j+5)) (f (8 * j+6)) (f (8 * j+7))
 have u:∀m,eA f (8 * j+k) aE (8 * j+m)=if m=k then aE else f (8 * j+m):=by
  intro m;unfold eA;grind
 have u0:=u 0;unfold mF;grind
def ab6 n (hn:n<=1024) f (i:Nat) (hi:i < n) (hf:f i=aD):bW aJ aU 174 [.ptr 0 0 0,.int aB (i)] (bm n (bI n f))=aA (AQ (0,n,bI n (eA f i aE))):=by
 refine ZF _ _ _ (o:=.doneM (.int aB 0) (bm n (bI n (eA f i aE)))) ?_ (.done (by kernel_rfl));unfold OK;have his:kW n f (i)=true:=by unfold kW;grind
 rw[aZ (show(i:Int) ≥ 0 by omega),bn,aZ (show(i) < (n:Int) by omega),cN,be,co ya (xM n hn f i),bN,his,cN,be,
  Mc i (by omega),bq,aS (aZ (by omega)),aS (aZ (by rw[xg];omega)),eW,cM (xf f (by omega)),bL,aQ (GR i),bL,aS (aZ (by omega)),aS (aZ (by rw[xg];omega)),cM (xf f (by omega)),bL]
 have:=Xj f i;simp only[pk]at this;rw[this,Nq f aE hi]
def NY{p}:∀{es},(bo es).Nodup->∀q,q∈bo (fo es p)↔q∈bo es/\q≠p
 | [],_,q=>by simp[fo,bo]
 |(a,x)::es,hn,q=>by
  have hn:=nP.1 hn;rw[fo]
  by_cases h:p=a
  ·subst h;rw[bc rfl];constructor
   ·intro hq;exact⟨mY _ hq,λe=>hn.1 (e ▸ hq)⟩
   ·rintro⟨h1,h2⟩;rcases dC.1 h1 with h1|h1
    ·grind
    ·exact h1
  ·rw[bh h];have ih:=NY (p:=p) hn.2 q;show q∈a::bo (fo es p)↔q∈a::bo es/\q≠p;grind
def Hf{p}:∀{es},(bo (fo es p)).Sublist (bo es)
 | []=>.slnil
 |(a,x)::es=>by
  rw[fo];split
  ·exact(List.Sublist.refl _).cons _
  ·exact Hf (es:=es).cons_cons _
def FP{n es}(h:cH n es) p:cH n (fo es p) :=
 ⟨h.le,h.nd.sublist Hf,λq hq=>h.rng q (Hf.subset hq)⟩
def Qo{n es}(h:cH n es){p}(hp:p∈bo es):bW aJ aU 127 [.ptr 0 0 0,.int aB p] (sM n es)=aA (xZ (0,n,bZ (fo es p),bI n (bi (fo es p)))):=by
 have hr:=h.rng p hp;obtain⟨k,rfl⟩:∃k:Nat,p=k:=⟨p.toNat,by omega⟩
 have ht:bi (fo es k)=eA (bi es) k false:=by
  funext j;unfold eA bi;have:=NY (p:=k) h.nd j;grind
 rw[ht];refine YY _ _ _ _ (o:=.doneM (.int aB 0) (sm n (bZ (fo es k)) (bI n (eA (bi es) k aE)))) ?_ (.done (by kernel_rfl));unfold Oq;rw[cL aeg (ab6 n h.le (bi es) k (by omega) (by unfold bi;grind)),dL rfl,bn,Ry,mS]
inductive lp(n:Nat):Int->Es->Int->Es->Prop
 |leaf {r:Int} {es:Es} {l:Lf} (hs:cH n es) (hg:c7 es r=aA (bA l)) (hr:cX l=aD):lp n r es r es
 |stop {r:Int} {es:Es} {e:Su} {nx:Int} (hs:cH n es) (hg:c7 es r=aA (cR (aX e nx))) (hr:cy (aX e nx)=aD) (h2:2<=e.length):lp n r es r es
 |one {r:Int} {es:Es} {k:Int} {h:Bs} {nx r':Int} {es':Es} (hs:cH n es) (hg:c7 es r=aA (cR (aX [(k,h)] nx))) (hr:cy (aX [(k,h)] nx)=aD):lp n k (fo es r) r' es'->lp n r es r' es'
def ahJ{n r es r' es'}(h:lp n r es r' es'):Go qk aD 5 (fF 128) (.head 0 (Cu r n (bZ es) (bI n (bi es)))) (.doneM (.tup []) (tM r' n es')):=by
 induction h with
 |@leaf r es l hs hg hr =>
  refine KM _ _ _ _ ?_ (.refl _);unfold Fq;rw[tS hs hg hr,bN]
 |@stop r es e nx hs hg hr h2 =>
  refine KM _ _ _ _ ?_ (.refl _);unfold Fq;rw[rv hs hg hr,bN];rw[aZ (by rw[bR,gm];omega),bn]
 |@one r es k h nx r' es' hs hg hr _ ih =>
  refine KM _ _ _ _ ?_ ih;unfold Fq;rw[rv hs hg hr,bN,bF (by rw[bR];simp),cL RI (Qo hs (fp hg))];rfl
def ahI{n r es r' es'}(h:lp n r es r' es'):bW aJ aU 128 [.ptr 0 0 0] (tM r n es)=aA (AN (r',n,bZ es',bI n (bi es'))) :=
 Y0 _ _ _ _ rfl ⟨_,_,ahJ h,by kernel_rfl⟩
def U5{n}:∀{ups r es b},WT n r es ups b->(∀x∈b,x.2.1≠[])->∃r' es' ups',lp n r es r' es'/\WF n r' es' ups' b
 | [],r,es,b,h,hne=>by
  have e:=jM h.dn
  obtain⟨prs,rfl⟩:∃prs,b=[(r,prs,[])]:=by
   match b,e with
   | [(p,prs,hh)],e =>
    simp[dh]at e;grind
   | [],e=>simp[dh]at e
   |_::_::_,e=>simp[dh]at e
  have hr:=h.okF.1;have hg:c7 es r=aA (bA ⟨prs,[],0⟩):=gY h.shf.nd (h.rep.mem_iff.2 (by simp[cx,dF,bS]));exact⟨r,es,[],.leaf h.shf hg hr,h,λq=>fY rfl q,λl hl=>by grind⟩
 |l::d,r,es,b,h,hne=>by
  obtain⟨e,hd⟩:=gX h.dn
  obtain⟨q,rfl,hq⟩:∃q,l=[(r,q)]/\bp q=[]:=by
   match l,e with
   | [(p,q)],e =>
    simp[cP]at e;grind
   | [],e=>simp[cP]at e
   |_::_::_,e=>simp[cP]at e
  have ho:=h.okI _ (dl ..);obtain⟨hqn,hr⟩:okI q 0:=ho.1;have hat:=h.rep;have hg:=nD h.shf.nd hat
  by_cases h2:2<=q.length
  ·refine⟨r,es,_,.stop h.shf hg hr h2,h,λ_=>hne,?_⟩;intro l hl x hx;grind
  ·obtain⟨k,hk,rfl⟩:∃k hk,q=[(k,hk)]:=by
    match q,hqn,h2 with
    | [(k,hk)],_,_=>grind
    |_::_::_,_,h2=>grind
   have e0:hk=[]:=hq;subst e0;have hd':=hd;have hw:WT n k (fo es r) d b:=⟨FP h.shf r,Do h.shf.nd hat,hd',λl hl=>h.okI l (by grind),h.okF,h.ord⟩
   obtain⟨r',es',ups',h1,h3⟩:=U5 hw hne;exact⟨r',es',ups',.one h.shf hg hr h1,h3⟩
def U4{α:Type} a x y (b:List α) {n} (h:n=a.length):(a++x::b).set n y=a++y::b:=by
 simp_all
def Qn{α:Type} a x (b:List α) {n} (h:n=a.length):(a++x::b)[n]? = aA x:=by
 grind
def aga:∀d M A B,M.length<=d->A.length+M.length+B.length<=100000->∀{i j},i=A.length->j=(A.length:Int)+M.length - 1 ->
  Go qk aD 1 (fF 169) (.head 0 (zK i j (aO (A++(M++B))))) (.doneM (.tup []) [aN 3 (aO (A++(M.reverse++B))) 0]):=by
 have fin:∀(M A B:List Int),M.length<=1->∀{i j:Int},i=A.length->j=(A.length:Int)+M.length - 1 ->
   Go qk aD 1 (fF 169) (.head 0 (zK i j (aO (A++(M++B))))) (.doneM (.tup []) [aN 3 (aO (A++(M.reverse++B))) 0]):=by
  intro M A B hM i j hi hj
  have e:M.reverse=M:=by
   match M,hM with
   | [],_=>rfl
   | [_],_=>rfl
  rw[e];refine Uk _ _ _ ?_ (.refl _);unfold K3;grind
 intro d
 induction d with
 |zero=>grind
 |succ d ih =>
  intro M A B hM hl i j hi hj
  by_cases h1:M.length<=1
  ·grind
  obtain⟨x,M1,rfl⟩:∃x M1,M=x::M1:=by
   match M,h1 with
   |x::M1,_=>grind
   | [],h=>grind
  have hne:M1≠[]:=by grind
  obtain⟨M2,y,rfl⟩:=ul hne;simp only[d8,gJ,jo]at hM hl hj h1;have eL:A++(x::(M2++[y])++B)=A++x::(M2++y::B):=by simp
  have eL2:A++x::(M2++y::B)=(A++x::M2)++y::B:=by simp
  have eR:A++((x::(M2++[y])).reverse++B)=(A++[y])++(M2.reverse++(x::B)):=by simp
  have eN:(A++[y])++(M2++(x::B))=A++y::(M2++x::B):=by simp
  have eN2:A++y::(M2++x::B)=(A++y::M2)++x::B:=by simp
  have eM2:A++y::(M2++y::B)=(A++y::M2)++y::B:=by simp
  have w1:W aB (i+1)=i+1:=bd (by omega);have w2:W aB (j - 1)=j - 1:=bd (by omega);have ih:=ih M2 (A++[y]) (x::B) (by omega) (by grind) (i:=i+1) (j:=j - 1) (by grind) (by grind);rw[eR,eL];rw[eN]at ih;refine Uk _ _ _ ?_ ih;have hiN:i.toNat=A.length:=by omega
  have hjN:j.toNat=(A++x::M2).length:=by grind
  have hjN2:j.toNat=(A++y::M2).length:=by grind
  have g1:(A++x::(M2++y::B))[j.toNat]? = aA y:=by rw[eL2];exact Qn _ _ _ hjN
  have g2:(A++x::(M2++y::B))[i.toNat]? = aA x:=Qn _ _ _ hiN;have g3:(A++y::(M2++y::B))[j.toNat]? = aA y:=by grind
  have st1:(A++x::(M2++y::B)).set i.toNat y=A++y::(M2++y::B):=U4 _ _ _ _ hiN;have st2:(A++y::(M2++y::B)).set j.toNat x=A++y::(M2++x::B):=by rw[eM2,U4 _ _ _ _ hjN2,eN2]
  have l1:j.toNat < (aO (A++x::(M2++y::B))).length:=by rw[bR];grind
  have l2:i.toNat < (aO (A++x::(M2++y::B))).length:=by grind
  have l3:j.toNat < (aO (A++y::(M2++y::B))).length:=by rw[bR];grind
  unfold K3
  rw[aZ (by omega),bn,aS (aZ (by omega)),aS (aZ l1),fq g1,bL,aS (aZ (by omega)),aS (aZ l2),fq g2,bL,aS (aZ (by omega)),aS (aZ l2),fq g2,bL,
   Em,st1,aS (aZ (by omega)),aS (aZ l3),fq g3,bL,Em,st2,w1,w2]
def af9 l (hl:l.length<=100000):bW aJ aU 169 [.own 0] [aN 3 (aO l) 0]=aA (AP (aO l.reverse)):=by
 have w:W aB ((aO l).length - 1)=l.length - 1:=by rw[bR,bd (by omega)]
 have:=aga l.length l [] [] (cZ _) (by grind) (i:=0) (j:=l.length - 1) rfl (by simp);simp[il,fR]at this;refine ZE _ ?_ ⟨_,_,this,by kernel_rfl⟩;unfold OJ;rw[w]
inductive mn(es:Es):List br->List Int->Prop
 |nil:mn es [] []
 |stop {q:Int} {e:Su} {nx:Int} {i:Nat} {sts:List br} {y:Int} (hr:cy (aX e nx)=aD) (hi:0 < i) (hy:(aX e nx).kids[i - 1]? = aA y):mn es ((q,e,nx,i)::sts) [y]
 |none {q:Int} {e:Su} {nx:Int} {sts:List br}:mn es sts []->mn es ((q,e,nx,0)::sts) []
 |down {q:Int} {e:Su} {nx:Int} {sts:List br} {z:Int} {zs:List Int} {ez:Su} {nz y:Int} {hy:Bs}:mn es sts (z::zs)->c7 es z=aA (cR (aX (ez++[(y,hy)]) nz))->cy (aX (ez++[(y,hy)]) nz)=aD->mn es ((q,e,nx,0)::sts) (y::z::zs)
def M5{es sts out}(h:mn es sts out):out.length<=sts.length:=by
 induction h with
 |nil=>simp
 |stop=>simp
 |none=>simp
 |down _ _ _ ih=>grind
def L6{Q D:List br}{x:br}{sts:List br}(h:Q=(x::sts).reverse++D):(gx Q)[sts.length]? = aA (mj x):=by
 have:Q=sts.reverse++x::D:=by grind
 rw[this];unfold gx;grind
def qP{l i x k}(h:l[i]? = aA (mj x)):bk l i k=k (mj x):=cM h
section
variable {n:Nat}{r:Int}{es:Es}{lv:Int}
def M6(hS:cH n es) Q (hW:Q.length<=10000):∀sts,mn es sts []->∀D,Q=sts.reverse++D ->
  Go qk aD 5 (fF 124) (.head 0 (zD (gx Q) lv (sts.length - 1) r n (bZ es) (bI n (bi es)))) (.doneM (.own 6) (tM r n es++[aN 3 [] 0,aN 3 [] 0]))
 | [],_,D,_=>by
  refine Fp _ _ _ _ _ _ _ ?_ (.refl _);unfold By;grind
 |x::sts,h,D,hd=>by
  cases h with
  |@none q e nx _ h =>
   have hst:mj (q,e,nx,0) = .agg [.int aB q,.sl (aY (aX e nx).seps),.sl (aO (aX e nx).kids),.str (bp e),.int aB nx,.int aB (0:Nat)]:=rfl;have hx:=L6 hd;have w:W aB (((q,e,nx,0)::sts).length - 1 - 1)=sts.length - 1:=by rw[bd (by grind)];simp
   have ih:=M6 hS Q hW sts h ((q,e,nx,0)::D) (by grind);refine Fp _ _ _ _ _ _ _ ?_ ih;unfold By;have ei:((((q,e,nx,0)::sts).length:Int) - 1).toNat=sts.length:=by simp
   rw[aZ (by simp),bn,aS rfl,ei,qP hx,hst,qK,dL (show((0:Nat):Int)=0 from rfl),bn,w]
def M7(hS:cH n es)(Q:List br)(hW:Q.length<=10000){o:d6}:∀(sts:List br) (y:Int) (out:List Int),mn es sts (y::out)->∀D,Q=sts.reverse++D->∀m,m+sts.length=Q.length+out.length ->
  Go qk aD 5 (fF 124) (.head 1 (wV lv y (m:Int) (out.length:Int) r n (bZ es) (bI n (bi es)) (aO (y::out).reverse))) o ->
  Go qk aD 5 (fF 124) (.head 0 (zD (gx Q) lv ((sts.length:Int) - 1) r n (bZ es) (bI n (bi es)))) o
 |x::sts,y,out,h,D,hd,m,hm,hg=>by
  have hl:sts.length+1+D.length=Q.length:=by grind
  have hx:=L6 hd;cases h with
  |@stop q e nx i _ _ hr hi hy =>
   have hst:mj (q,e,nx,i) = .agg [.int aB q,.sl (aY (aX e nx).seps),.sl (aO (aX e nx).kids),.str (bp e),.int aB nx,.int aB ((i:Nat):Int)]:=rfl;have w0:W aB (((gx Q).length:Int) - 1)=(Q.length:Int) - 1:=by rw[uo,bd (by omega)]
   have w1:W aB ((Q.length:Int) - 1 - (((((q,e,nx,i)::sts:List br)).length:Int) - 1))=(m:Int):=by rw[bd (by grind)];grind
   have w2:W aB ((i:Int) - 1)=((i - 1:Nat):Int):=by
    have:=(cE.1 hy).1;have:=(gv hr).kids;rw[bd (by omega)];omega
   refine Fp _ _ _ _ _ _ _ ?_ hg;unfold By;have ei:(((((q,e,nx,i)::sts:List br)).length:Int) - 1).toNat=sts.length:=by simp
   rw[aZ (by simp),bn,aS rfl,ei,qP hx,hst,qK,ew (by omega),be,bF (by simp),be,aS rfl,qP hx,hst,qK,aS rfl,qP hx,hst,qK,
    w2,aS (by simp),bq,fq hy,bL,w0,w1]
   rfl
  |@down q e nx _ z zs ez nz _ hy h hg2 hr =>
   have hst:mj (q,e,nx,0) = .agg [.int aB q,.sl (aY (aX e nx).seps),.sl (aO (aX e nx).kids),.str (bp e),.int aB nx,.int aB ((0:Nat):Int)]:=rfl;have w:W aB (((((q,e,nx,0)::sts:List br)).length:Int) - 1 - 1)=(sts.length:Int) - 1:=by rw[bd (by grind)];simp
   have hlen:=M5 h;simp only[d8]at hlen hm;have ih:=M7 hS Q hW (o:=o) sts z zs h ((q,e,nx,0)::D) (by grind) m (by omega) ?_
   ·refine Fp _ _ _ _ _ _ _ ?_ ih;unfold By;have ei:(((((q,e,nx,0)::sts:List br)).length:Int) - 1).toNat=sts.length:=by simp
    rw[aZ (by simp),bn,aS rfl,ei,qP hx,hst,qK,dL (show((0:Nat):Int)=0 from rfl),bn,w]
   ·have ek:(aX (ez++[(y,hy)]) nz).kids=ez.map (·.1)++[y]:=by simp
    have hkl:(aO (aX (ez++[(y,hy)]) nz).kids).length=ez.length+1:=by rw[ek,bR];simp
    have hez:ez.length<=1000:=by
     have:=(gv hr).kids;grind
    have w3:W aB (((ez.length+1:Nat):Int) - 1)=((ez.length:Nat):Int):=by rw[bd (by omega)];omega
    have w4:W aB ((zs.length:Int)+1)=((z::zs).length:Int):=by rw[bd (by omega)];simp
    have hyk:(aX (ez++[(y,hy)]) nz).kids[ez.length]? = aA y:=by grind
    refine T9 _ _ _ _ _ _ _ _ _ ?_ hg;unfold KL;rw[aZ (by omega),bn,rv hS hg2 hr,bN,hkl,w3,aS (by simp),bq,fq hyk,bL,aS (aZ (by rw[bR];grind)),w4];simp[aO]
end
def Xt{c m id off len e els fz}(hm:m[id]? = aA (.row e els fz))(h:off+len<=els.length) :
  jZ aU c (.win id off len) m=uR aU.row (dX c) (List.range' (dX c) (c.length - dX c)) c c (.sl ((els.drop off).take len)) (freezeAll [id] m):=by
 unfold jZ rI;simp[LQ,BI,ge,dA,hm,bc h,wu,jb,s7]
def WH{n:Nat}{r:Int}{es:Es}(hS:cH n es) Q (hW:Q.length<=10000) {out} (h:mn es Q.reverse out) (lv:Nat) (hlv:lv<=10000) :
  bW aJ aU 124 [.ptr 0 0 0,.sl (gx Q),.int aB (lv:Int)] (tM r n es)=aA (xY (tM r n es) (aO (out.take lv))):=by
 have w0:W aB (((gx Q).length:Int) - 1)=((Q.reverse.length:Nat):Int) - 1:=by rw[uo,bd (by omega)];simp
 have hol:=M5 h;cases out with
 |nil =>
  have:=M6 (lv:=(lv:Int)) (r:=r) hS Q hW Q.reverse h [] (by simp);refine Oo _ _ _ _ _ _ ?_ ⟨_,_,this,by rw[List.take_nil];kernel_rfl⟩;unfold Hy;rw[w0]
 |cons y out =>
  have hg:∃mm,Go qk aD 5 (fF 124) (.head 1 (wV lv y (out.length:Int) (out.length:Int) r n (bZ es) (bI n (bi es)) (aO (y::out).reverse))) (.doneM (V.win 6 0 (min (out.length+1) lv - 0)) mm)/\mm=tM r n es++[aN 3 [] 0,aN 3 (aO (y::out)) 0]:=by
   refine⟨_,T9 _ _ _ _ _ _ _ _ _ ?_ (.refl _),rfl⟩;unfold KL;have:=af9 (y::out).reverse (by grind);rw[Ce]at this
   have em:(if (((y::out).length:Nat):Int) < (lv:Int) then (((y::out).length:Nat):Int) else (lv:Int))=((min (out.length+1) lv:Nat):Int):=by
    grind
   rw[bF (by omega),be,cL aef this,aS (k7 _),bR,em,aS (by simp),bq,aS (aZ (by grind))]
  obtain⟨mm,hg,rfl⟩:=hg;have:=M7 hS Q hW (lv:=lv) (r:=r) Q.reverse y out h [] (by simp) out.length (by grind) hg
  have et:(y::out).take lv=((y::out).drop 0).take (min (out.length+1) lv - 0):=by
   grind
  have et2:aO ((y::out).take lv)=((aO (y::out)).drop 0).take (min (out.length+1) lv - 0):=by rw[et];simp[aO]
  rw[et2];refine Oo _ _ _ _ _ _ ?_ ⟨_,_,this,(Xt (e:=3) (els:=aO (y::out)) (fz:=0) rfl (by rw[bR,d8];omega)).trans (by kernel_rfl)⟩;unfold Hy;rw[w0]
def dE(es:Es)(l:Es):Es:=l.foldl (λe x=>bQ e x.1 x.2) es
def pE(es:Es)(l:List Int):Es:=l.foldl fo es
def Ge:∀{L L':Es} {es R:Es},(bo es).Nodup->es.Perm (L++R)->bo L=bo L'->(dE es L').Perm (L'++R)/\(bo (dE es L')).Nodup
 | [],[],es,R,hn,h,_=>⟨h,hn⟩
 |(a,x)::L,[],_,_,_,_,e=>by simp[bo]at e
 | [],(a,x)::L,_,_,_,_,e=>by simp[bo]at e
 |(a,x)::L,(a',y)::L',es,R,hn,h,e=>by
  obtain⟨rfl,e2⟩:=List.cons.inj e;have hp:=jU (b':=y) hn h;have hk:bo (bQ es a y)=bo es:=oG (gk h);have:=Ge (L:=L) (L':=L') (es:=bQ es a y) (R:=(a,y)::R) (by grind) (hp.trans List.perm_middle.symm) e2;exact⟨this.1.trans zp,this.2⟩
def FT{n}:∀{L L':Es} {es R:Es},cH n es->es.Perm (L++R)->bo L=bo L'->cH n (dE es L')
 | [],[],es,R,hs,h,_=>hs
 |(a,x)::L,[],_,_,_,_,e=>by simp[bo]at e
 | [],(a,x)::L,_,_,_,_,e=>by simp[bo]at e
 |(a,x)::L,(a',y)::L',es,R,hs,h,e=>by
  obtain⟨rfl,e2⟩:=List.cons.inj e;exact FT (L:=L) (L':=L') (es:=bQ es a y) (R:=(a,y)::R) (i4 hs (gk h)) ((jU (b':=y) hs.nd h).trans List.perm_middle.symm) e2
def IQ{n}:∀{G:Es} {es R:Es},cH n es->es.Perm (G++R)->(pE es (bo G)).Perm R/\cH n (pE es (bo G))
 | [],es,R,hs,h=>⟨h,hs⟩
 |(a,x)::G,es,R,hs,h=>IQ (G:=G) (es:=fo es a) (FP hs a) (Do hs.nd h)
def Yj e1 y hy p h (e2:Su) nx:uW (aX (e1++(y,hy)::(p,h)::e2) nx) (e1.length+1)=aX (e1++(y,h)::e2) nx:=by
 unfold uW aX;have hl:(e1.map (·.2)).length=e1.length:=by simp
 have hd:(e1++(y,hy)::(p,h)::e2).dropLast.map (·.2)=e1.map (·.2)++hy::ix ((p,h)::e2):=by
  simp[ix]
 have hd2:(e1++(y,h)::e2).dropLast.map (·.2)=e1.map (·.2)++ix ((y,h)::e2):=by
  simp[ix]
 have hse:ix ((y,h)::e2)=ix ((p,h)::e2):=by
  simp_all
 have hk:(e1++(y,hy)::(p,h)::e2).map (·.1)=e1.map (·.1)++[y]++p::e2.map (·.1):=by simp
 have hkl:(e1.map (·.1)++[y]).length=e1.length+1:=by simp
 refine congr (congr (congr (di dp.mk ?_) ?_) (IV e1 y hy p h e2).symm) rfl
 ·rw[hd,hd2,hse,Nat.add_sub_cancel,qi _ _ hl,show e1.map (·.2)++hy::ix ((p,h)::e2)=e1.map (·.2)++[hy]++ix ((p,h)::e2) by simp,sR _ _ (by simp)]
 ·rw[hk,qi _ _ hkl,show e1.map (·.1)++[y]++p::e2.map (·.1)=e1.map (·.1)++[y,p]++e2.map (·.1) by simp,sR _ _ (by simp)];simp
def Yi p h x (e2:Su) nx:uW (aX ((p,h)::x::e2) nx) 0=aX (x::e2) nx:=by
 refine congr (congr (congr (di dp.mk ?_) ?_) (mN (p,h) (by simp))) rfl
 all_goals grind
structure MW(sts:List br)(w:Bool)(gs:List Nd)(xo X:Nd)(h:Bs)(ss:List br)(xi:Nat)(rest:List br):Prop where
 fst:sts=ss++(xo.1,xo.2.1,xo.2.2,xi)::rest
 fgs:gs=ss.map λs=>(s.1,s.2.1,s.2.2.1)
 one:∀s∈ss,s.2.1.length=1
 hi:∀g∈gs,bp g.2.1=h
 two:2<=xo.2.1.length
 fw:w=decide ((xi:Int) > 0)
 pg:X.1=xo.1
 lti:xi < xo.2.1.length
 del:uW (aX xo.2.1 xo.2.2) xi=aX X.2.1 X.2.2
def agz{r up p h a c sts w up' gs zo xo X}(hr:Rm r up p h a c sts w up' gs zo xo X):∃ss xi rest,MW sts w gs xo X h ss xi rest:=by
 induction hr with
 |@one up q p h pre post sts w up' gs zo xo X _ ih =>
  obtain⟨ss,xi,rest,t⟩:=ih;refine⟨(q,[(p,h)],bS post 0,0)::ss,xi,rest,⟨by rw[t.fst];rfl,by rw[t.fgs];rfl,?_,?_,t.two,t.fw,t.pg,t.lti,t.del⟩⟩
  ·intro s hs;rcases dC.1 hs with rfl|hs
   ·rfl
   ·exact t.one s hs
  ·intro g hg;rcases dC.1 hg with rfl|hg
   ·rfl
   ·exact t.hi g hg
 |@left up q p y h hy e1 e2 pre post sts _ =>
  exact⟨[],e1.length+1,sts,⟨rfl,rfl,by simp,by simp,by grind,by simp,rfl,by simp,Yj e1 y hy p h e2 _⟩⟩
 |@first up q p h x e2 pre post sts _ =>
  exact⟨[],0,sts,⟨rfl,rfl,by simp,by simp,by simp,by simp,rfl,by simp,Yi p h x e2 _⟩⟩
def QE{n es}(hS:cH n es){pre post:IL}{q e}(h:lR cw es (pre++(q,e)::post)):c7 es q=aA (cR (aX e (bS post 0))):=gY hS.nd (h _ (Jp (f:=cw) pre q e post 0))
def SO{n es}(hS:cH n es){r up p h a c}{sts:List br}(hp:kC r up p h a c sts):(∀l∈up,dG okI l 0)->(∀l∈up,lR cw es l)->∃out,mn es sts out/\out.take 1=vX a:=by
 induction hp with
 |top=>intro _ _;exact⟨[],.nil,rfl⟩
 |@st up q e1 p h e2 pre post sts hup ih =>
  intro hI hE;have hl:=hI _ (dl ..);have hIn:=hE _ (dl ..);rcases fS e1 with rfl|⟨e1',⟨y,hy⟩,rfl⟩
  ·obtain⟨out,h1,h2⟩:=ih (λl hl=>hI l (by grind)) (λl hl=>hE l (by grind));have e0:bM pre++[]=bM pre:=fR _;rw[e0];rcases fS pre with rfl|⟨l,⟨z,ez⟩,rfl⟩
   ·have:out=[]:=by
     cases out with
     |nil=>rfl
     |cons z out=>simp[cP,vX]at h2
    subst this;exact⟨[],.none h1,rfl⟩
   ·rw[i5]at h2 hl hIn |-
    have e1:cP (l++[(z,ez)])=cP l++[(z,bp ez)]:=by simp[cP]
    rw[e1,yp]at h2;rw[c8]at hl hIn;obtain⟨hne,hr⟩:okI ez _:=nK hl;have hg:=QE hS hIn;obtain⟨ez',⟨y,hy⟩,rfl⟩:=ul hne;have e2:bM (l++[(z,ez'++[(y,hy)])])=(bM l++ez')++[(y,hy)]:=by simp[bM]
    rw[e2,yp]
    obtain⟨rest,rfl⟩:∃rest,out=z::rest:=by
     cases out with
     |nil=>grind
     |cons z' rest=>grind
    exact⟨_,.down h1 hg hr,rfl⟩
  ·rw[i5]at hl hIn hup |-
   obtain⟨hne,hr⟩:okI (e1'++[(y,hy)]++(p,h)::e2) (bS post 0):=nK hl;refine⟨[y],.stop hr (by simp) ?_,by rw[<-c8,yp];rfl⟩;simp
def agq{n:Nat}{es:Es}(hS:cH n es){r:Int}{up:List IL}{p:Int}{h:Bs}{a c:Su}{sts}{w:Bool}{up':List IL}{gs zo:List Nd}{xo X:Nd}(hr:Rm r up p h a c sts w up' gs zo xo X) :
  (∀l∈up,dG okI l 0)->(∀l∈up,lR cw es l)->∃out,mn es sts out/\out.take (gs.length+1)=vX a++zo.map (·.1):=by
 induction hr with
 |@one up q p h pre post sts w up' gs zo xo X hrm ih =>
  intro hI hE;have hl:=hI _ (dl ..);have hIn:=hE _ (dl ..);obtain⟨out,h1,h2⟩:=ih (λl hl=>hI l (by grind)) (λl hl=>hE l (by grind));rcases fS pre with rfl|⟨l,⟨z,ez⟩,rfl⟩
  ·have hz:=(Fb hrm λl hl x hx=>jE (hI l (by grind)) x hx).1 rfl;subst hz
   have:out=[]:=by
    cases out with
    |nil=>rfl
    |cons z out=>simp[cP,vX]at h2
   subst this;exact⟨[],.none h1,by simp[vq,bM,vX]⟩
  ·rw[i5]at h2 hl hIn |-
   have e1:cP (l++[(z,ez)])=cP l++[(z,bp ez)]:=by simp[cP]
   rw[e1,yp]at h2;rw[c8]at hl hIn;obtain⟨hne,hr⟩:okI ez _:=nK hl;have hg:=QE hS hIn;obtain⟨ez',⟨y,hy⟩,rfl⟩:=ul hne;have e2:bM (l++[(z,ez'++[(y,hy)])])=(bM l++ez')++[(y,hy)]:=by simp[bM]
   rw[e2,yp,vr]
   obtain⟨rest,rfl⟩:∃rest,out=z::rest:=by
    cases out with
    |nil=>grind
    |cons z' rest =>
     grind
   refine⟨_,.down h1 hg hr,?_⟩;grind
 |@left up q p y h hy e1 e2 pre post sts hup =>
  intro hI hE;have e:e1++(y,hy)::(p,h)::e2=(e1++[(y,hy)])++(p,h)::e2:=by simp
  rw[e]at hup hI hE |-
  have:=SO hS (.st hup) hI hE;grind
 |@first up q p h x e2 pre post sts hup =>
  intro hI hE;have:=SO hS (.st (e1:=[]) hup) hI hE;grind
abbrev Nl:=Int × Lf
def fM(l:List Nl):Es:=l.map λz=>(z.1,bA z.2)
def gl(w:Bool)(lf:Lf)(zl:List Nl):List Nl:=zl.map λz=>(z.1,⟨z.2.prs,bif w then lf.high else z.2.high,lf.next⟩)
structure k9(n:Nat)(es:Es)(ws:List br)(pl:Int)(lf:Lf)(w:Bool)(zl:List Nl)(gs zo:List Nd)(xo X:Nd)(ss:List br)(xi:Nat)(rest:List br)(out:List Int)(R:Es):Prop where
 shf:cH n es
 len:ws.length<=1024
 x:MW ws.reverse w gs xo X lf.high ss xi rest
 ah:mn es ws.reverse out
 fout:out.take (gs.length+1)=zl.map (·.1)++zo.map (·.1)
 zl1:zl.length<=1
 zl0:zl=[]->zo=[]
 zo1:zl≠[]->zo.length=gs.length
 perm:es.Perm (fM zl++(cv zo++((pl,bA lf)::(cv gs++(cv [xo]++R)))))
 rlf:cX lf=aD
 rzl:∀z∈zl,cX z.2=aD
 rzl':∀z∈gl w lf zl,cX z.2=aD
 rgs:∀g∈gs,cy (aX g.2.1 g.2.2)=aD
 rzo:∀z∈zo,z.2.1≠[]/\cy (aX z.2.1 z.2.2)=aD
 rzo':∀z∈dB w lf.high zo gs,cy (aX z.2.1 z.2.2)=aD
 rxo:cy (aX xo.2.1 xo.2.2)=aD
 rX:cy (aX X.2.1 X.2.2)=aD
def pu(es:Es)(pl:Int)(lf:Lf)(w:Bool)(zl:List Nl)(gs zo:List Nd)(X:Nd):Es :=
 pE (bQ (dE es (fM (gl w lf zl)++cv (dB w lf.high zo gs))) X.1 (cw X.2.1 X.2.2)) (pl::gs.map (·.1))
def JB w h:∀zo gs,zo.length=gs.length->(dB w h zo gs).map (·.1)=zo.map (·.1)
 | [],[],_=>rfl
 |_::_,[],h=>by grind
 | [],_::_,h=>by grind
 |z::zo,g::gs,h=>by
  show z.1::(dB w _ zo gs).map (·.1)=_;rw[JB w _ zo gs (by grind)];rfl
def tl l:bo (cv l)=l.map (·.1):=by simp[bo,cv]
def QS l:bo (fM l)=l.map (·.1):=by simp[bo,fM]
def ox a b:bo (a++b)=bo a++bo b:=by simp[bo]
section
variable {n:Nat}{es:Es}{ws:List br}{pl:Int}{lf:Lf}{w:Bool}{zl:List Nl}{gs zo:List Nd}{xo X:Nd}{ss:List br}{xi:Nat}{rest:List br}{out:List Int}{R:Es}
def k9.keys(d:k9 n es ws pl lf w zl gs zo xo X ss xi rest out R):bo (fM zl++cv zo)=bo (fM (gl w lf zl)++cv (dB w lf.high zo gs)):=by
 rw[ox,ox,QS,QS,tl,tl];have h1:(gl w lf zl).map (·.1)=zl.map (·.1):=by simp[gl]
 rw[h1]
 by_cases h:zl=[]
 ·rw[d.zl0 h];rfl
 ·rw[JB _ _ _ _ (d.zo1 h)]
def k9.left(d:k9 n es ws pl lf w zl gs zo xo X ss xi rest out R):(pu es pl lf w zl gs zo X).Perm (fM (gl w lf zl)++(cv (dB w lf.high zo gs)++(cv [X]++R)))/\cH n (pu es pl lf w zl gs zo X):=by
 have hp:=d.perm;rw[<-c8]at hp;have h1:=Ge d.shf.nd hp d.keys;have hs1:=FT d.shf hp d.keys
 have hp2:(dE es (fM (gl w lf zl)++cv (dB w lf.high zo gs))).Perm ((X.1,cw xo.2.1 xo.2.2)::((((pl,bA lf)::cv gs))++(fM (gl w lf zl)++(cv (dB w lf.high zo gs)++R)))):=by
  refine h1.1.trans (kZ.2 λx=>?_);rw[d.x.pg];simp only[kG,lX,oa];simp only[cv,lU,pm];omega
 have hp3:=jU (b':=cw X.2.1 X.2.2) hs1.nd hp2;have hs3:=i4 hs1 (b:=cw X.2.1 X.2.2) (gk hp2)
 have hp4:(bQ (dE es (fM (gl w lf zl)++cv (dB w lf.high zo gs))) X.1 (cw X.2.1 X.2.2)).Perm (((pl,bA lf)::cv gs)++((X.1,cw X.2.1 X.2.2)::(fM (gl w lf zl)++(cv (dB w lf.high zo gs)++R)))):=by
  grind
 have h5:=IQ hs3 hp4
 have hk:bo ((pl,bA lf)::cv gs)=pl::gs.map (·.1):=by
  show pl::bo (cv gs)=_;rw[tl]
 rw[hk]at h5;refine⟨h5.1.trans (kZ.2 λx=>?_),h5.2⟩;simp only[kG,lX,oa];simp only[cv,lU,pm];omega
end
def Vg{Q D x sts i}(h:Q=(x::sts).reverse++D)(hi:i=(sts.length:Int)):(gx Q)[i.toNat]? = aA (mj x):=by
 subst hi;exact L6 h
section
variable {n:Nat}{r:Int}{es:Es}{o:d6}
def Qr(Q:List br)(hQ:Q.length<=10000):∀(ss sts:List br) (D:List br) (G:List Int),Q=(ss++sts).reverse++D->(∀s∈ss,s.2.1.length=1)->G.length+ss.length<=20000 ->
  Go qk aD 5 (fF 81) (.head 0 (zT (gx Q) ((sts.length:Int) - 1) r n (bZ es) (bI n (bi es)) (aO (G++ss.map (·.1))))) o ->
  Go qk aD 5 (fF 81) (.head 0 (zT (gx Q) (((ss++sts).length:Int) - 1) r n (bZ es) (bI n (bi es)) (aO G))) o
 | [],sts,D,G,_,_,_,hg=>by grind
 |(q,e,nx,i)::ss,sts,D,G,hd,h1,hG,hg=>by
  have hl:ss.length+sts.length+1+D.length=Q.length:=by grind
  have ih:=Qr Q hQ ss sts ((q,e,nx,i)::D) (G++[q]) (by grind) (λs hs=>h1 s (by grind)) (by grind) (by grind);have e1:=h1 (q,e,nx,i) (by simp);have hst:mj (q,e,nx,i) = .agg [.int aB q,.sl (aY (aX e nx).seps),.sl (aO (aX e nx).kids),.str (bp e),.int aB nx,.int aB ((i:Nat):Int)]:=rfl;have hx:=Vg (i:=((((q,e,nx,i)::ss++sts:List br)).length:Int) - 1) hd (by simp);have w:W aB (((((q,e,nx,i)::ss++sts:List br)).length:Int) - 1 - 1)=(((ss++sts:List br)).length:Int) - 1:=by rw[bd (by simp;omega)];simp
  refine UJ _ _ _ _ _ _ _ ?_ ih;unfold Lr
  have hkl:((aO (aX e nx).kids).length:Int)=1:=by
   have:(aX e nx).kids.length=1:=by grind
   rw[bR,this];rfl
  rw[aS (aZ (by grind)),qP hx,hst,qK,dL hkl,bn,aS (aZ (by grind)),qP hx,hst,qK,aS (aZ (by rw[bR];simp at hG |-;omega)),w];simp[aO]
def Qp:∀ps i (G:List Int) (es R:Es),G.length<=20000->G.drop i=bo ps->i<=G.length->cH n es->es.Perm (ps++R) ->
  Go qk aD 5 (fF 81) (.head 2 (w7 (G.length) (G.length) r n (bZ (pE es (bo ps))) (bI n (bi (pE es (bo ps)))) (aO G))) o ->
  Go qk aD 5 (fF 81) (.head 2 (w7 (G.length) i r n (bZ es) (bI n (bi es)) (aO G))) o
 | [],i,G,es,R,_,hd,hi,_,_,hg=>by
  have h1:=drop_nil hd;have e:i=G.length:=by omega
  subst e;exact hg
 |(p,b)::ps,i,G,es,R,hG,hd,hi,hS,hp,hg=>by
  obtain⟨h1,h2,h3⟩:=dZ hd;have ih:=Qp ps (i+1) G (fo es p) R hG h2 (by omega) (FP hS p) (Do hS.nd hp) hg;have w:W aB ((i)+1)=((i+1:Nat)):=by rw[bd (by omega)];omega
  refine UK _ _ _ _ _ _ _ ?_ ih;unfold Lu;rw[aZ (by omega),bn,aS (by simp),bq,aS (aZ (by rw[bR];omega)),fq h1,bL,cL RI (Qo hS (gk hp)),w]
end
def Pw w (h:Bs) (ez:Su) (hne:ez≠[]) nz nq:aI [aH (aY (aX ez nz).seps),aH (aO (aX ez nz).kids),aG (cond w h (aX ez nz).high),aC aB nq]=eI (aX (hS w h ez) nq):=by
 have h1:(aX ez nz).seps=(aX (hS w h ez) nq).seps:=(U0 w h ez).symm
 have h2:(aX ez nz).kids=(aX (hS w h ez) nq).kids:=by
  obtain⟨e',⟨z,hz⟩,rfl⟩:=ul hne;rw[pF];simp
 have h3:=(IW w h hne).symm;grind
section
variable {n:Nat}{r:Int}{o:d6}
def Qv(A G:List Int)(hA:A.length<=20000)(hGA:A.length<=G.length){x0:Int}{x1 x2:List V}{x3:List UInt8}{x4 x5:Int}{w:Bool}(hw:w=decide (x5 > 0))(h:Bs):∀(zo gs:List Nd) (i:Nat) (es R:Es),zo.length=gs.length->cH n es->es.Perm (cv zo++R)->(∀g∈gs,(g.1,cw g.2.1 g.2.2)∈R) ->
  (∀z∈zo,z.2.1≠[]/\cy (aX z.2.1 z.2.2)=aD)->(∀g∈gs,cy (aX g.2.1 g.2.2)=aD/\bp g.2.1=h)->(∀z∈dB w h zo gs,cy (aX z.2.1 z.2.2)=aD)->A.drop i=zo.map (·.1)->(∃T,G.drop i=gs.map (·.1)++T)->i<=A.length ->
  Go qk aD 5 (fF 81) (.head 1 (o6 (aO A) (A.length:Int) (A.length:Int) r n (bZ (dE es (cv (dB w h zo gs)))) (bI n (bi (dE es (cv (dB w h zo gs))))) (aO G) x0 x1 x2 x3 x4 x5)) o ->
  Go qk aD 5 (fF 81) (.head 1 (o6 (aO A) (A.length:Int) (i:Int) r n (bZ es) (bI n (bi es)) (aO G) x0 x1 x2 x3 x4 x5)) o
 | [],[],i,es,R,_,_,_,_,_,_,_,hd,_,hi,hg=>by
  have h1:=drop_nil hd;have e:i=A.length:=by omega
  subst e;exact hg
 | [],_::_,_,_,_,hl,_,_,_,_,_,_,_,_,_,_=>by grind
 |_::_,[],_,_,_,hl,_,_,_,_,_,_,_,_,_,_=>by grind
 |(z,ez,nz)::zo,(q,eq,nq)::gs,i,es,R,hl,hs,hp,hR,hz,hgs,hnew,hd,⟨T,hdG⟩,hi,hg=>by
  obtain⟨h1,h2,h3⟩:=dZ hd;obtain⟨g1,g2,g3⟩:=dZ (l:=G) (r:=gs.map (·.1)++T) (by rw[hdG];rfl);obtain⟨hne,hrz⟩:=hz (z,ez,nz) (by simp);obtain⟨hrq,hhq⟩:=hgs (q,eq,nq) (by simp);have hrn:=hnew (z,hS w h ez,nq) (by simp[dB]);have hgz:=nD hs.nd hp;have hgq:=gY hs.nd (hp.mem_iff.2 (mX _ (hR (q,eq,nq) (by simp))));have hp2:=jU (b':=cR (aX (hS w h ez) nq)) hs.nd hp;have hs2:=i4 hs (b:=cR (aX (hS w h ez) nq)) (gk hp)
  have ih:=Qv A G hA hGA (x0:=x0) (x1:=x1) (x2:=x2) (x3:=x3) (x4:=x4) hw h zo gs (i+1) _ ((z,cR (aX (hS w h ez) nq))::R) (by grind) hs2 (hp2.trans List.perm_middle.symm) (λg hg=>mY _ (hR g (by grind))) (λy hy=>hz y (by grind)) (λy hy=>hgs y (by grind)) (λy hy=>hnew y (by
   show y∈(z,hS w h ez,nq)::dB w h zo gs;grind)) h2 ⟨T,g2⟩ (by omega) hg
  have w1:W aB ((i:Int)+1)=((i+1:Nat):Int):=by rw[bd (by omega)];omega
  refine Lt _ _ _ _ _ _ _ _ _ _ _ _ _ _ ?_ ih;unfold FH;rw[aZ (by omega),bn,aS (by simp),bq,fq h1,bL,rv hs hgz hrz,bN,aS (by simp),aS (aZ (by rw[bR];omega)),fq g1,bL,rv hs hgq hrq,bN];show(bV aJ _ _ _ [_,_,.ifc 150 (.agg [.sl (aY (aX ez nz).seps),.sl (aO (aX ez nz).kids),.str (cond (decide (x5 > 0)) (bp eq) (aX ez nz).high),.int aB nq])] (tM r n es) _)=_;rw[hhq,<-hw,Pw w h ez hne nz nq,cL jP (uw hs hgz hrn),w1]
end
theorem V6(xo:Nd) xi:mj (xo.1,xo.2.1,xo.2.2,xi) = .agg [.int aB xo.1,.sl (aY (aX xo.2.1 xo.2.2).seps),.sl (aO (aX xo.2.1 xo.2.2).kids),.str (bp xo.2.1),.int aB xo.2.2,.int aB xi]:=rfl
section
variable {n:Nat}{r:Int}{es:Es}{ws:List br}{pl:Int}{lf:Lf}{w:Bool}{zl:List Nl}{gs zo:List Nd}{xo X:Nd}{ss:List br}{xi:Nat}{rest:List br}{out:List Int}{R:Es}{r':Int}{es':Es}
def Yp(d:k9 n es ws pl lf w zl gs zo xo X ss xi rest out R)(hsk:lp n r (pu es pl lf w zl gs zo X) r' es')(A:List Int) :
  ∃m,Go qk aD 5 (fF 81) (.head 1 (o6 (aO A) (A.length:Int) (A.length:Int) r n (bZ (dE es (fM (gl w lf zl)++cv (dB w lf.high zo gs)))) (bI n (bi (dE es (fM (gl w lf zl)++cv (dB w lf.high zo gs))))) (aO (pl::gs.map (·.1))) xo.1 (aY (aX xo.2.1 xo.2.2).seps) (aO (aX xo.2.1 xo.2.2).kids) (bp xo.2.1) xo.2.2 (xi:Int))) (.doneM (.tup []) m) /\
   ∀r0 n0 e0 b0,jZ aU (tm r0 n0 e0 b0) (.tup []) m=yh (r',n,bZ es',bI n (bi es')):=by
 have hp:=d.perm;rw[<-c8]at hp;have h1:=Ge d.shf.nd hp d.keys;have hs1:=FT d.shf hp d.keys
 have hp2:(dE es (fM (gl w lf zl)++cv (dB w lf.high zo gs))).Perm ((X.1,cw xo.2.1 xo.2.2)::((((pl,bA lf)::cv gs))++(fM (gl w lf zl)++(cv (dB w lf.high zo gs)++R)))):=by
  refine h1.1.trans (kZ.2 λx=>?_);rw[d.x.pg];simp only[kG,lX,oa];simp only[cv,lU,pm];omega
 have hgx:=nD hs1.nd hp2;have hp3:=jU (b':=cw X.2.1 X.2.2) hs1.nd hp2;have hs3:=i4 hs1 (b:=cw X.2.1 X.2.2) (gk hp2)
 have hp4:(bQ (dE es (fM (gl w lf zl)++cv (dB w lf.high zo gs))) X.1 (cw X.2.1 X.2.2)).Perm (((pl,bA lf)::cv gs)++((X.1,cw X.2.1 X.2.2)::(fM (gl w lf zl)++(cv (dB w lf.high zo gs)++R)))):=by
  grind
 have hk:bo ((pl,bA lf)::cv gs)=pl::gs.map (·.1):=by
  show pl::bo (cv gs)=_;rw[tl]
 have hgl:gs.length<=1024:=by
  have:=di se d.x.fst;rw[d.x.fgs,gm];simp at this;have:=d.len;omega
 have hdel:iT (aX xo.2.1 xo.2.2) (xi:Int)=(aX X.2.1 X.2.2,0):=by
  unfold iT;have:=d.x.lti;have:=d.x.two;rw[bc ⟨d.rxo,by omega,by grind,by grind⟩,bq,d.x.del]
 have hdp:=Ya (aX xo.2.1 xo.2.2) (xi:Int) (gv d.rxo);rw[hdel]at hdp;obtain⟨E2,hE2⟩:∃E2,E2=bQ (dE es (fM (gl w lf zl)++cv (dB w lf.high zo gs))) X.1 (cw X.2.1 X.2.2):=⟨_,rfl⟩
 obtain⟨G,hG⟩:∃G,G=pl::gs.map (·.1):=⟨_,rfl⟩
 rw[<-hE2]at hs3 hp4;rw[<-hG]at hk |-
 have hGl:G.length<=20000:=by grind
 have hdr:pu es pl lf w zl gs zo X=pE E2 G:=by rw[hE2,hG];rfl
 rw[hdr]at hsk;refine⟨tM r' n es'++[aN 3 (aO G) 0],?_,λr0 n0 e0 b0=>by kernel_rfl⟩
 have h3:Go qk aD 5 (fF 81) (.head 2 (w7 (G.length:Int) (G.length:Int) r n (bZ (pE E2 G)) (bI n (bi (pE E2 G))) (aO G))) (.doneM (.tup []) (tM r' n es'++[aN 3 (aO G) 0])):=by
  refine UK _ _ _ _ _ _ _ ?_ (.refl _);unfold Lu;rw[bF (by omega),be,cL aec (ahI hsk)]
 rw[<-hk]at h3;have h2:=Qp ((pl,bA lf)::cv gs) 0 G E2 _ hGl (by grind) (by omega) hs3 hp4 (by rw[hk]at h3 |-;exact h3);refine Lt _ _ _ _ _ _ _ _ _ _ _ _ _ _ ?_ h2;unfold FH;rw[bF (by omega),be];show(aT aJ _ [eI (aX xo.2.1 xo.2.2),_] _)=_;rw[aQ hdp,xn];show(bV aJ _ _ _ [_,.int aB xo.1,.ifc 150 (eI (aX X.2.1 X.2.2))] (tM r n (dE es (fM (gl w lf zl)++cv (dB w lf.high zo gs)))) _)=_;rw[<-d.x.pg,cL jP (uw hs1 hgx d.rX),bR,hE2];rfl
def Yr(d:k9 n es ws pl lf w zl gs zo xo X ss xi rest out R)(hsk:lp n r (pu es pl lf w zl gs zo X) r' es') :
  bW aJ aU 81 [.ptr 0 0 0,.sl (gx ws),.int aB pl] (tM r n es)=aA (yh (r',n,bZ es',bI n (bi es'))):=by
 have hlen:=d.len
 have hsl:ss.length+rest.length+1=ws.length:=by
  have:=di se d.x.fst;grind
 have hgs:gs.length=ss.length:=by rw[d.x.fgs,gm]
 have hgk:gs.map (·.1)=ss.map (·.1):=by rw[d.x.fgs,List.map_map];rfl
 obtain⟨A,hA⟩:∃A,A=zl.map (·.1)++zo.map (·.1):=⟨_,rfl⟩
 obtain⟨m,hE,hc⟩:=Yp d hsk A;have hQ:ws=(ss++(xo.1,xo.2.1,xo.2.2,xi)::rest).reverse++[]:=by rw[<-d.x.fst];simp
 have hQ2:ws=((xo.1,xo.2.1,xo.2.2,xi)::rest).reverse++ss.reverse:=by grind
 have w0:W aB (((gx ws).length:Int) - 1)=((ss++(xo.1,xo.2.1,xo.2.2,xi)::rest).length:Int) - 1:=by rw[uo,bd (by omega)];grind
 have hnd:2<=(aX xo.2.1 xo.2.2).kids.length:=by simpa using d.x.two
 have hloop:Go qk aD 5 (fF 81) (.head 1 (o6 (aO A) (A.length:Int) ((0:Nat):Int) r n (bZ es) (bI n (bi es)) (aO (pl::gs.map (·.1))) xo.1 (aY (aX xo.2.1 xo.2.2).seps) (aO (aX xo.2.1 xo.2.2).kids) (bp xo.2.1) xo.2.2 (xi:Int))) (.doneM (.tup []) m):=by
  have hzl1:=d.zl1
  match hzl:zl,hzl1 with
  | [],_ =>
   have hzo:=d.zl0 rfl;subst hzo;have:A=[]:=by grind
   subst this;exact hE
  | [(z,l)],_ =>
   have hzo:=d.zo1 (by simp);have hp:=d.perm;have hp:es.Perm ((z,bA l)::(cv zo++((pl,bA lf)::(cv gs++(cv [xo]++R))))):=hp;have hgz:=nD d.shf.nd hp;have hrl:cX l=true:=d.rzl (z,l) (by simp);have hrn:=d.rzl' (z,⟨l.prs,bif w then lf.high else l.high,lf.next⟩) (by simp[gl]);have hgp:c7 es pl=aA (bA lf):=gY d.shf.nd (hp.mem_iff.2 (by simp));have hp2:=jU (b':=bA ⟨l.prs,bif w then lf.high else l.high,lf.next⟩) d.shf.nd hp;have hs2:=i4 d.shf (b:=bA ⟨l.prs,bif w then lf.high else l.high,lf.next⟩) (gk hp);have hAl:A.length<=gs.length+1:=by grind
   have hE2:=Qv A (pl::gs.map (·.1)) (by omega) (by grind) (x0:=xo.1) (x1:=aY (aX xo.2.1 xo.2.2).seps) (x2:=aO (aX xo.2.1 xo.2.2).kids) (x3:=bp xo.2.1) (x4:=xo.2.2) d.x.fw lf.high zo gs 1 _ ((z,bA ⟨l.prs,bif w then lf.high else l.high,lf.next⟩)::((pl,bA lf)::(cv gs++(cv [xo]++R)))) hzo hs2
    (hp2.trans List.perm_middle.symm) (λg hg=>by
     refine mY _ (mY _ (sh _ (fi.2 ⟨g,hg,rfl⟩)))) d.rzo (λg hg=>⟨d.rgs g hg,d.x.hi g hg⟩) d.rzo' (by grind) ⟨[],by simp⟩ (by grind) hE
   have h1:A[0]? = aA z:=by grind
   have g1:(pl::gs.map (·.1))[0]? = aA pl:=rfl;have fw:=d.x.fw;refine Lt _ _ _ _ _ _ _ _ _ _ _ _ _ _ ?_ hE2;unfold FH;rw[aZ (by grind),bn,aS (by simp),bq,fq h1,bL,tS d.shf hgz hrl,bN,aS (by simp),aS (aZ (by rw[bR];simp)),fq g1,bL,tS d.shf hgp d.rlf,bN];rw[<-fw,cL jP (rT d.shf hgz hrn)];rfl
 have hgone:=Qr (r:=r) (es:=es) (n:=n) (o:=.doneM (.tup []) m) ws (by omega) ss ((xo.1,xo.2.1,xo.2.2,xi)::rest) [] [pl] hQ d.x.one (by grind) (by
  have hx:=Vg (i:=((((xo.1,xo.2.1,xo.2.2,xi)::rest:List br)).length:Int) - 1) hQ2 (by simp);have hah:=WH (r:=r) d.shf ws (by omega) d.ah (gs.length+1) (by omega);rw[d.fout,<-hA]at hah;have hG:[pl]++ss.map (·.1)=pl::gs.map (·.1):=by simp_all
  have hGl:((aO (pl::gs.map (·.1))).length:Int)=((gs.length+1:Nat):Int):=by rw[bR];simp
  rw[hG];refine UJ _ _ _ _ _ _ _ ?_ hloop;unfold Lr;rw[aS (aZ (by simp)),qP hx,V6,qK,ew (by rw[bR];omega),be,aS (aZ (by simp)),qP hx,V6,qK,hGl,co aeb hah,bN,bR];rfl)
 refine aaW _ _ _ _ _ _ ?_ ⟨_,_,hgone,hc _ _ _ _⟩;unfold Pf;rw[w0];rfl
end
def afq{r up p h a c}{sts:List br}(hp:kC r up p h a c sts)(h2:Cm up)(hu:up≠[]):∃s∈sts,2<=s.2.1.length:=by
 induction hp with
 |top=>grind
 |@st up q e1 p h e2 pre post sts hup ih =>
  cases up with
  |nil=>exact⟨_,dl ..,h2 _ rfl (q,e1++(p,h)::e2) (by simp)⟩
  |cons l up =>
   obtain⟨s,hs,h3⟩:=ih (λl' hl=>h2 l' (by grind)) (by simp);grind
section
variable {r:Int}{up:List IL}{p:Int}{h:Bs}{a c:Su}{sts:List br}{w:Bool}{up':List IL}{gs zo:List Nd}{xo X:Nd}
def agx(hr:Rm r up p h a c sts w up' gs zo xo X):(∀l∈up,dG okI l 0)->(∀g∈gs,cy (aX g.2.1 g.2.2)=aD)/\(∀z∈zo,z.2.1≠[]/\cy (aX z.2.1 z.2.2)=aD)/\cy (aX xo.2.1 xo.2.2)=true:=by
 induction hr with
 |@one up q p h pre post sts w up' gs zo xo X _ ih =>
  intro hI;have hl:=hI _ (dl ..);obtain⟨h1,h2,h3⟩:=ih λl hl=>hI l (by grind)
  obtain⟨_,hr⟩:okI [(p,h)] (bS post 0):=nK hl;refine⟨?_,?_,h3⟩
  ·grind
  ·intro z hz;rcases cG.1 hz with hz|hz
   ·rcases fS pre with rfl|⟨l,⟨y,ey⟩,rfl⟩
    ·cases hz
    ·rw[i5]at hl hz;rw[vr]at hz;have:z=(y,ey,q+1):=by grind
     subst this;rw[c8]at hl;exact nK hl
   grind
 |@left up q p y h hy e1 e2 pre post sts hup=>intro hI;exact⟨by simp,by simp,(nK (hI _ (dl ..))).2⟩
 |@first up q p h x e2 pre post sts hup=>intro hI;exact⟨by simp,by simp,(nK (hI _ (dl ..))).2⟩
def agv(hr:Rm r up p h a c sts w up' gs zo xo X):(∀l∈up,∀x∈l,x.2≠[])->(∀l∈up',dG okI l 0)->(∀z∈dB w h zo gs,cy (aX z.2.1 z.2.2)=aD)/\cy (aX X.2.1 X.2.2)=true:=by
 induction hr with
 |@one up q p h pre post sts w up' gs zo xo X hrm ih =>
  intro hn hI;have hl:=hI _ (dl ..);obtain⟨h1,h2⟩:=ih (λl hl=>hn l (by grind)) λl hl=>hI l (by grind)
  refine⟨?_,h2⟩;intro z hz;rcases fS pre with rfl|⟨l,⟨y,ey⟩,rfl⟩
  ·have:=(Fb hrm λl hl=>hn l (by grind)).1 rfl;subst this;cases hz
  ·rw[i5]at hl hz;rw[AA,c8]at hl;rw[vr]at hz;have hz:z∈(y,hS w h ey,bS post 0)::dB w h zo gs:=hz;rcases dC.1 hz with rfl|hz
   ·exact(nK hl).2
   grind
 |@left up q p y h hy e1 e2 pre post sts hup=>intro _ hI;exact⟨by simp[dB],(nK (hI _ (dl ..))).2⟩
 |@first up q p h x e2 pre post sts hup=>intro _ hI;exact⟨by simp[dB],(nK (hI _ (dl ..))).2⟩
end
def ae2{pre post:LL}{p:Int}{prs:List Pr}{h:Bs}{w:Bool}(ho:lk (pre++(p,prs,h)::post)):lk (hF w h pre++post):=by
 obtain⟨h1,h2,h3,h4,h5⟩:=vV ho;rcases fS pre with rfl|⟨l,⟨z,prz,hz⟩,rfl⟩
 ·exact h2
 ·rw[i5]at h1 h3 h5 |-
  rw[xG];obtain⟨q1,_,q3⟩:=fT.1 h1;cases w with
  |false=>exact fT.2 ⟨h1,h2,λy hy z hz=>h5 y hy z hz⟩
  |true =>
   refine fT.2 ⟨fT.2 ⟨q1,by simp,?_⟩,h2,?_⟩
   ·intro y hy x hx;have:x=(z,prz,h):=by grind
    subst this;have h6:=q3 y hy (z,prz,hz) (by simp);grind
   ·intro y hy x hx;grind
def adu{prz prs hz h w}(o:lS prz hz)(o2:lS prs h)(hl:bf hz h):lS prz (bif w then h else hz):=by
 cases w with
 |false=>exact o
 |true =>
  refine⟨o.ri,o.mem,?_,o.wt⟩;rcases o2.hi with h1|⟨h1,_⟩
  ·grind
  ·refine .inr ⟨h1,λx hx=>?_⟩;exact lt_trans ((o.hi.resolve_left hl.1).2 x hx) (hl.2.resolve_left (qV h1))
inductive mZ:List (List Int)->List Int->List Int->Prop
 |nil:mZ [] [] []
 |cons {A C:List Int} {z g:Int} {Ps:List (List Int)} {zs gs:List Int}:(A++z::g::C).Nodup->mZ Ps zs gs->mZ ((A++z::g::C)::Ps) (z::zs) (g::gs)
inductive mw:List (List Int)->List Int->Prop
 |nil:mw [] []
 |cons {C:List Int} {g:Int} {Ps:List (List Int)} {gs:List Int}:(g::C).Nodup->mw Ps gs->mw ((g::C)::Ps) (g::gs)
def adU{n r es ups b}(h:WT n r es ups b):(∀l∈ups,(bH l).Nodup)/\(bH b).Nodup:=by
 have hn:(bo (dV ups++cx dF b 0)).Nodup:=(List.Perm.nodup_iff (List.Perm.map (λx:Int × Bs=>x.1) h.rep)).1 h.shf.nd;rw[bo,li]at hn;obtain⟨h1,h2,_⟩:=uG.1 hn;have e2:(cx dF b 0).map (·.1)=bH b:=AG b 0;rw[e2]at h2
 have:∀{u:List IL},((dV u).map (·.1)).Nodup->∀l∈u,(bH l).Nodup:=by
  intro u
  induction u with
  |nil=>grind
  |cons x u ih =>
   intro hu l hl;rw[n8,li]at hu;have e3:(cx cw x 0).map (·.1)=bH x:=AG x 0;grind
 grind
def agt{r up p}{h:Bs}{a c:Su}{sts w up' gs zo}{xo X:Nd}(hr:Rm r up p h a c sts w up' gs zo xo X):(∀l∈up,∀x∈l,x.2≠[])->(∀l∈up,(bH l).Nodup) ->
  ∃Ps U,up.map bH=Ps++U/\Ps.length=gs.length/\(a≠[]->mZ Ps (zo.map (·.1)) (gs.map (·.1)))/\(a=[]->mw Ps (gs.map (·.1))):=by
 induction hr with
 |@one up q p h pre post sts w up' gs zo xo X _ ih =>
  intro hn hd;have hnp:∀x∈pre,x.2≠[]:=λx hx=>hn _ (dl ..) x (by grind)
  have hd0:=hd _ (dl ..);obtain⟨Ps,U,h1,h2,h3,h4⟩:=ih (λl hl=>hn l (by grind)) λl hl=>hd l (by grind)
  refine⟨bH (pre++(q,[(p,h)])::post)::Ps,U,by grind,by grind,?_,?_⟩
  ·intro ha;rcases fS pre with rfl|⟨l,⟨z,ez⟩,rfl⟩
   ·exact fY rfl ha
   ·rw[i5]at h3 hd0 |-
    have e:bH (l++[(z,ez)]++(q,[(p,h)])::post)=bH l++z::q::bH post:=by simp[bH]
    rw[e]at hd0 |-
    rw[vr];exact .cons hd0 (h3 (by simp[cP]))
  ·intro ha;have:=QT hnp ha;subst this;exact .cons hd0 (h4 rfl)
 |left _=>intro _ _;exact⟨[],_,rfl,rfl,λ_=>.nil,λ_=>.nil⟩
 |first _=>intro _ _;exact⟨[],_,rfl,rfl,λ_=>.nil,λ_=>.nil⟩
def N5:∀{s d b},Dn s d b->(∀l∈d,(bH l).Nodup)->(bH b).Nodup->∀l∈d,(bH (bM l)).Nodup
 |_,[],_,_,_,_,l,hl=>by grind
 |_,x::d,b,hd,hn,hb,l,hl=>by
  obtain⟨_,hk⟩:=gX hd;rcases dC.1 hl with rfl|hl
  ·cases d with
   |nil=>rw[jM hk,JO];grind
   |cons y d=>rw[(gX hk).1,JN];grind
  ·exact N5 hk (λl hl=>hn l (by grind)) hb l hl
def agu{r up p h a c sts w up' gs zo xo X}(hr:Rm r up p h a c sts w up' gs zo xo X):(∀l∈up,(bH (bM l)).Nodup)->(bH xo.2.1).Nodup:=by
 have hs:∀pre post q e,(bH (bM (pre++(q,e)::post))).Nodup->(bH e).Nodup:=by
  intro pre post q e h;refine List.Nodup.sublist ?_ h;simp only[bH,bM,li];grind
 induction hr with
 |one _ ih=>grind
 |left _=>grind
 |first _=>grind
def BY(n:Nat)(r:Int)(es:Es)(ws:List br)(pl:Int)(zl:List Nl)(gs zo:List Nd)(xo:Nd):Prop :=
 ∃ups b Ps U A C,WT n r es ups b/\(bH xo.2.1).Nodup/\ups.length=ws.length/\ups.reverse.map bH=Ps++U/\Ps.length=gs.length/\bH b=A++pl::C/\(bH b).Nodup/\A.getLast?.toList=zl.map (·.1)/\(zl≠[]->mZ Ps (zo.map (·.1)) (gs.map (·.1)))/\(zl=[]->mw Ps (gs.map (·.1)))
def Yq{n:Nat}{r:Int}{es:Es}{ups:List IL}{b:LL}(h:WF n r es ups b){p:Int}{h':Bs}{ws:List br}{pre post:LL}{prs:List Pr}(hp:kC r ups.reverse p h' (dh pre) (dh post) ws.reverse)(hb:b=pre++(p,prs,h')::post)(hws:ws.length=ups.length)(hu:ups≠[]) :
  ∃w zl gs zo xo X ss xi rest out R up',k9 n es ws p ⟨prs,h',bS post 0⟩ w zl gs zo xo X ss xi rest out R/\BY n r es ws p zl gs zo xo/\WT n r (pu es p ⟨prs,h',bS post 0⟩ w zl gs zo X) up' (hF w h' pre++post):=by
 have hul:=ml h.toWT;obtain⟨w,up',gs,zo,xo,X,hr⟩:=ags hp (afq hp h.rt (by simp_all));have hI:∀l∈ups.reverse,dG okI l 0:=λl hl=>h.okI l (by grind)
 have hn:=λl hl=>jE (hI l hl)
 obtain⟨hIn,hIf⟩:=qQ h.toWT;obtain⟨ss,xi,rest,hx⟩:=agz hr;obtain⟨out,ha1,ha2⟩:=agq h.shf hr hI λl hl=>hIn l (by grind)
 obtain⟨o1,o2,o3⟩:=agx hr hI;obtain⟨z0,z1⟩:=Fb hr hn;obtain⟨R0,hp1,hp2⟩:=agy hr hn;obtain⟨nd1,nd2⟩:=adU h.toWT;have ndx:=agu hr λl hl=>N5 h.dn nd1 nd2 l (by grind)
 obtain⟨Ps,U,lv1,lv2,lv3,lv4⟩:=agt hr hn λl hl=>nd1 l (by grind)
 have hF:=h.okF;rw[hb]at hF;obtain⟨ok1,ok3,ok2⟩:=(ia _ _ _).1 hF;have hrl:=ok3;obtain⟨lo,hx0,hx1⟩:=tu hrl;have hkh:h'=[]∨cz h'=true:=lo.hi.imp id λq=>q.1
 have hord:=h.ord;rw[hb]at hord;have hP:=EO hord;have eS0:dh (pre++(p,prs,h')::post)=dh pre++(p,h')::dh post:=by simp[dh]
 rw[eS0]at hP;have hI':=agw hr hI hP hkh;obtain⟨n1,n2⟩:=agv hr hn hI'
 have hes:=by
  have:=h.rep;rw[hb]at this;exact this.trans (List.Perm.append_right _ Ap.symm)
 have hes:=hes.trans (List.Perm.append_right _ hp1)
 have hdn:Dn [(r,[])] up'.reverse (Proofs.YtlphgcjepphhcaaGreat.hF w h' pre++post):=by
  have e:dh (Proofs.YtlphgcjepphhcaaGreat.hF w h' pre++post)=hS w h' (dh pre)++dh post:=by rw[<-air];simp[dh]
  have:=agr hr hn (d:=[]) (b:=Proofs.YtlphgcjepphhcaaGreat.hF w h' pre++post) (by rw[<-e];exact .leaf _);grind
 have hod:=ae2 (w:=w) hord;rcases fS pre with rfl|⟨l,⟨z,prz,hz⟩,rfl⟩
 ·have hzo:=z0 rfl;subst hzo
  have d:k9 n es ws p ⟨prs,h',bS post 0⟩ w [] gs [] xo X ss xi rest out (R0++cx dF post 0):=by
   refine⟨h.shf,by omega,hx,ha1,ha2,by simp,λ_=>rfl,λq=>fY rfl q,?_,hrl,by simp,by simp[gl],o1,o2,n1,o3,n2⟩;refine hes.trans (kZ.2 λx=>?_);rw[il,cx];simp only[kG,lX,oa,fM,cv,lU,pm,il];have:c1 x (p,dF (prs,h') (bS post 0))=c1 x (p,bA ⟨prs,h',bS post 0⟩):=rfl;omega
  refine⟨w,[],gs,[],xo,X,ss,xi,rest,out,_,up'.reverse,d,⟨ups,b,Ps,U,[],bH post,h.toWT,ndx,hws.symm,lv1,lv2,by rw[hb];rfl,nd2,rfl,λq=>fY rfl q,λ_=>lv4 rfl⟩,d.left.2,?_,hdn,λl hl=>hI' l (by grind),ok2,hod⟩;refine d.left.1.trans ?_;refine List.Perm.trans ?_ (List.Perm.append_right _ (hp2.symm.trans Ap.symm));show(fM []++(cv (dB w h' [] gs)++(cv [X]++(R0++cx dF post 0)))).Perm (_++cx dF (Proofs.YtlphgcjepphhcaaGreat.hF w h' []++post) 0);have:Proofs.YtlphgcjepphhcaaGreat.hF w h' []++post=post:=rfl;rw[this];refine kZ.2 λx=>?_
  simp only[kG,fM,lU,pm,il];omega
 ·rw[i5]at *
  have e1:dh (l++[(z,prz,hz)])=dh l++[(z,hz)]:=by simp[dh]
  rw[e1]at z1 ha2;rw[yp]at ha2;have hzl:=z1 (by simp);obtain⟨k1,k2,_⟩:=(ia _ _ _).1 ok1;have hrz:cX ⟨prz,hz,p+1⟩=true:=k2;obtain⟨zo',_,_⟩:=tu hrz;have hlt':=((vV hord).2.2.1 (z,prz,hz) (by simp)).1;have hnew:=rE (adu (w:=w) zo' lo hlt') hx0 hx1
  have d:k9 n es ws p ⟨prs,h',bS post 0⟩ w [(z,⟨prz,hz,p+1⟩)] gs zo xo X ss xi rest out (R0++(cx dF l (z+1)++cx dF post 0)):=by
   refine⟨h.shf,by omega,hx,ha1,ha2,by simp,λq=>by grind,λ_=>hzl,?_,hrl,by grind,by simpa[gl]using hnew,o1,o2,n1,o3,n2⟩;refine hes.trans (kZ.2 λx=>?_)
   have E:cx dF (l++[(z,prz,hz)]++(p,prs,h')::post) 0=cx dF l (z+1)++(z,bA ⟨prz,hz,p+1⟩)::(p,bA ⟨prs,h',bS post 0⟩)::cx dF post 0:=by
    rw[c8,lx];rfl
   rw[E];simp only[kG,lX,oa,fM,fJ,lU,pm,il];omega
  refine⟨w,[(z,⟨prz,hz,p+1⟩)],gs,zo,xo,X,ss,xi,rest,out,_,up'.reverse,d,⟨ups,b,Ps,U,bH (l++[(z,prz,hz)]),bH post,h.toWT,ndx,hws.symm,lv1,lv2,by rw[hb];simp[bH],nd2,by simp[bH],λ_=>lv3 (by simp_all),λq=>by grind⟩,d.left.2,?_,hdn,λl hl=>hI' l (by grind),?_,hod⟩
  ·refine d.left.1.trans ?_;refine List.Perm.trans ?_ (List.Perm.append_right _ (hp2.symm.trans Ap.symm))
   have E:cx dF (l++[(z,prz,bif w then h' else hz)]++post) 0=cx dF l (z+1)++(z,bA ⟨prz,bif w then h' else hz,bS post 0⟩)::cx dF post 0:=by
    rw[c8,lx];rfl
   rw[xG,E];refine kZ.2 λx=>?_
   simp only[kG,lX,fM,gl,fJ,lU,pm,il];omega
  ·rw[xG,c8];exact(ia _ _ _).2 ⟨k1,hnew,ok2⟩
inductive qu(n:Nat)(r:Int)(es:Es)(k:Bs):Int->Int->Es->Prop
 |arg (h:cz k=aE):qu n r es k 1 r es
 |no {ws:List br} {pl:Int} {l:Lf} (hs:cH n es) (hk:cz k=aD) (hw:jt es k r ws pl l) (hl:ws.length<=1024) (hr0:cX l=aD) (hh:cY (bD l.prs) k=aE):qu n r es k 7 r es
 |put {ws:List br} {pl:Int} {l:Lf} (hs:cH n es) (hk:cz k=aD) (hw:jt es k r ws pl l) (hl:ws.length<=1024) (hg:c7 es pl=aA (bA l)) (hr0:cX l=aD) (hh:cY (bD l.prs) k=aD) (hd:gC l.prs k≠[]∨ws=[]) (hr:cX ⟨gC l.prs k,l.high,l.next⟩=aD) :
  qu n r es k 0 r (bQ es pl (bA ⟨gC l.prs k,l.high,l.next⟩))
 |drop {ws:List br} {pl:Int} {l:Lf} {w:Bool} {zl:List Nl} {gs zo:List Nd} {xo X:Nd} {ss:List br} {xi:Nat} {rest:List br} {out:List Int} {R:Es} {r':Int} {es':Es} (hk:cz k=aD) (hw:jt es k r ws pl l) (hr0:cX l=aD) (hh:cY (bD l.prs) k=aD) (hd:gC l.prs k=[]) (hw0:ws≠[])
  (d:k9 n es ws pl l w zl gs zo xo X ss xi rest out R) (hsk:lp n r (pu es pl l w zl gs zo X) r' es') (hdl:BY n r es ws pl zl gs zo xo):qu n r es k 0 r' es'
def Ag{k:Bs}{r n es bs m v0 L}(h:uX k r n es bs=aA (.doneM v0 m))(hc:jZ aU (tm r n es bs) v0 m=oC L) :
  bW aJ aU 33 [.ptr 0 0 0,.str k] (tm r n es bs)=aA (oC L):=aak _ _ _ _ _ h (.done hc)
def Dp{n r es k e r' es'}(h:qu n r es k e r' es'):bW aJ aU 33 [.ptr 0 0 0,.str k] (tM r n es)=aA (oC (e,r',n,bZ es',bI n (bi es'))):=by
 cases h with
 |arg h =>
  refine Ag (v0:=.int aB 1) (m:=tM r n es) ?_ (by kernel_rfl);unfold uX;rw[aQ (jB k),h];rfl
 |@no ws pl l hs hk hw hl hr0 hh =>
  have hdl:=Hc l hr0 k;rw[hh]at hdl;apply Ag
  case h =>
   unfold uX;rw[aQ (jB k),bX,hk,cN,co rh (rQ hs hw (by omega)),bN];rw[aQ hdl];show(qI (aV [eL kX,aC aB 7]) _)=_;rw[nZ,jz (by decide),bn]
  case hc=>kernel_rfl
 |@put ws pl l hs hk hw hl hg hr0 hh hd hr =>
  have hdl:=Hc l hr0 k;rw[hh,bc rfl]at hdl
  by_cases h0:gC l.prs k=[]
  ·have hw0:=hd.resolve_left λq=>q h0
   subst hw0;apply Ag
   case h =>
    unfold uX;rw[aQ (jB k),bX,hk,cN,co rh (rQ hs hw (by omega)),bN];show(aT aJ _ [eL l,_] _)=_;rw[aQ hdl,nZ,ef rfl,be,bF (by rw[dq,h0];simp),be,dL (by rfl),bn];rw[cL jP (rT hs hg hr)]
   case hc=>kernel_rfl
  ·apply Ag
   case h =>
    unfold uX;rw[aQ (jB k),bX,hk,cN,co rh (rQ hs hw (by omega)),bN];show(aT aJ _ [eL l,_] _)=_;rw[aQ hdl,nZ,ef rfl,be,aZ (show((bw (gC l.prs k)).length:Int) > 0 by rw[dq];have:=lT.2 h0;omega),bn];rw[cL jP (rT hs hg hr)]
   case hc=>kernel_rfl
 |@drop ws pl l w zl gs zo xo X ss xi rest out R r' es' hk hw hr0 hh hd hw0 d hsk _ =>
  have hdl:=Hc l hr0 k;rw[hh,bc rfl]at hdl;have hlen:=d.len;apply Ag
  case h =>
   unfold uX;rw[aQ (jB k),bX,hk,cN,co rh (rQ d.shf hw (by omega)),bN];show(aT aJ _ [eL l,_] _)=_;rw[aQ hdl,nZ,ef rfl,be,bF (by rw[dq,hd];simp),be,ew (by rw[uo];simp_all),be,cL aer (Yr d hsk)]
  case hc=>kernel_rfl
def Yc{prs h k}(o:lS prs h)(hh:cY (bD prs) k=aD):lS (gC prs k) h:=by
 have hs:(gC prs k).Sublist prs:=by rw[Hb o.ri hh];simp_all
 refine⟨o.ri.sublist hs,λx hx=>o.mem x (hs.subset hx),o.hi.imp id λq=>⟨q.1,λx hx=>q.2 x (hs.subset hx)⟩,?_⟩;have h1:=zd prs (cK (bD prs) k);have h2:=zd (prs.drop (cK (bD prs) k)) 1;rw[uC]at h2;have:=o.wt;unfold gC;rw[wE];omega
def vR(k:Bs)(l:List Pr):List Pr:=l.filter λx=>!(x.1==k)
def R6{k l}(h:∀x∈l,lt x.1 k=aD∨lt k x.1=aD):vR k l=l:=u9 (p:=λx:Pr=>!(x.1==k)) λx hx=>by
 by_cases he:x.1=k
 ·have:=h x hx;rw[he,lF]at this;grind
 grind
def Mv(n:Nat)(r:Int)(es:Es)(ups:List IL)(b:LL)(k:Bs)(e r':Int)(es':Es)(ups':List IL)(b':LL):Prop :=
 (e=0/\cz k=aD/\cY (bD (cF b)) k=aD/\cF b'=vR k (cF b)) ∨
 (r'=r/\es'=es/\ups'=ups/\b'=b/\((e=1/\cz k=aE)∨(e=7/\cz k=aD/\cY (bD (cF b)) k=aE)))
def He{n:Nat}{r:Int}{es:Es}{ups:List IL}{b:LL}(h:WF n r es ups b)(k:Bs) :
  ∃e r' es' ups' b',WF n r' es' ups' b'/\qu n r es k e r' es'/\Mv n r es ups b k e r' es' ups' b':=by
 cases hk:cz k with
 |false=>exact⟨1,r,es,ups,b,h,.arg hk,.inr ⟨rfl,rfl,rfl,rfl,.inl ⟨rfl,hk⟩⟩⟩
 |true =>
  obtain⟨p,h',ws,pre,prs,post,q1,q2,q3,q4,q5,q6⟩:=Ga h.toWT hk;have hF:=h.okF;rw[q2]at hF;have hr:cX ⟨prs,h',bS post 0⟩=true:=EK hF;obtain⟨o,hx0,hx1⟩:=tu hr;have hul:=ml h.toWT;obtain⟨hgp,_⟩:=BS q6;have hord:=h.ord;rw[q2]at hord;have hpre:=(vV hord).2.2.1;obtain⟨hca,hcc⟩:=Mf hord hF q3 q4;have hris:=DX hord hF;have efl:cF (pre++(p,prs,h')::post)=cF pre++(prs++cF post):=by rw[pz,kO]
  rw[efl]at hris;have hhas:=Qu hca hcc hris;have hfb:cF b=cF pre++(prs++cF post):=by grind
  cases hh:cY (bD prs) k with
  |false=>exact⟨7,r,es,ups,b,h,.no h.shf hk q6 (by omega) hr hh,.inr ⟨rfl,rfl,rfl,rfl,.inr ⟨rfl,hk,by grind⟩⟩⟩
  |true =>
   have o2:=Yc o hh;have hr2:=rE o2 hx0 hx1
   have hfl:vR k (cF b)=cF pre++(gC prs k++cF post):=by
    rw[hfb];show(cF pre++(prs++cF post)).filter _=_;rw[oX,oX,Hb o.ri hh];have e1:=R6 (k:=k) (l:=cF pre) λx hx=>.inl (hca x hx)
    have e2:=R6 (k:=k) (l:=cF post) λx hx=>.inr (hcc x hx)
    unfold vR at e1 e2;grind
   have hin:cY (bD (cF b)) k=true:=by grind
   by_cases hd:gC prs k≠[]∨ws=[]
   ·have hat:=h.rep;rw[q2]at hat;have hat:=Eu hat;have hpm:=jU (b':=bA ⟨gC prs k,h',bS post 0⟩) h.shf.nd hat;obtain⟨ok1,ok3,ok2⟩:=(ia _ _ _).1 hF;have hne:=A3 h q2;refine⟨0,r,bQ es p (bA ⟨gC prs k,h',bS post 0⟩),ups,pre++(p,gC prs k,h')::post,⟨⟨i4 h.shf (gk hat),hpm.trans (Q4 (U:=dV ups) (pre:=pre) (post:=post) (p:=p) (x:=(gC prs k,h'))),?_,h.okI,(ia _ _ _).2 ⟨ok1,hr2,ok2⟩,Sp hord ?_⟩,?_,h.rt⟩,.put h.shf hk q6 (by omega) hgp hr hh hd hr2,.inl ⟨rfl,hk,hin,?_⟩⟩
    ·have e:dh (pre++(p,gC prs k,h')::post)=dh b:=by rw[q2];simp[dh]
     exact Hj e h.dn
    ·intro y hy x hx;refine(hpre y hy).2 x ?_;rw[Hb o.ri hh]at hx;grind
    ·grind
    ·rw[hfl,pz,kO]
   ·have hd0:gC prs k=[]:=Classical.byContradiction λq=>hd (.inl q)
    have hw0:ws≠[]:=λq=>hd (.inr q)
    have hu:ups≠[]:=by
     grind
    obtain⟨w,zl,gs,zo,xo,X,ss,xi,rest,out,R,up',d,hdl,hwt⟩:=Yq h q1 q2 q5 hu;have hne:=A3 h q2
    obtain⟨r',es',ups',h1,h2⟩:=U5 hwt (by
     intro x hx;rcases cG.1 hx with hx|hx
     ·rcases fS pre with rfl|⟨l,⟨z,prz,hz⟩,rfl⟩
      ·cases hx
      ·rw[i5]at hx hne;rw[xG]at hx;rcases cG.1 hx with hx|hx
       ·grind
       ·have:x=(z,prz,bif w then h' else hz):=by grind
        rw[this];exact hne (z,prz,hz) (.inl (by simp))
     grind)
    refine⟨0,r',es',ups',_,h2,.drop hk q6 hr hh hd0 hw0 d h1 hdl,.inl ⟨rfl,hk,hin,?_⟩⟩;rw[hfl,pz,abz,hd0];simp
def abx{n:Nat}{es:Es}(h:cH n es){j:Nat}(hj:kK n (bi es)=aA j):j<=es.length:=by
 unfold kK at hj;obtain⟨_,h2,h3⟩:=Mz.1 hj;have hjn:j < n:=by simpa using h2
 have hl:=uq h;unfold fO at hl;rw[gm]at hl;obtain⟨m,rfl⟩:∃m,n=j+m:=⟨n - j,by omega⟩
 rw[List.range_add,oX,gJ]at hl
 have hf:(eQ j).filter (bi es)=eQ j:=My.2 λi hi=>by
  have:=h3 i (by simpa using hi);simpa using this
 rw[hf,List.length_range]at hl;omega
def ac9{es:Es}{p q:Int}{b:Bs}(h:q∈bo (bQ es p b)):q∈bo es∨q=p:=by
 by_cases hp:p∈bo es
 ·rw[oG hp]at h;exact .inl h
 ·rw[qW hp]at h;rcases cG.1 h with h|h
  ·exact .inl h
  ·exact .inr (iN.1 h)
def Q5(es:Es)(p:Int)(b:Bs):es.length<=(bQ es p b).length:=by
 by_cases hp:p∈bo es
 ·rw[Bg hp];exact cZ _
 ·rw[E0 hp];omega
def sj(es es':Es):Prop:=es.length<=es'.length/\∀q∈bo es',q∈bo es∨q < (es'.length:Int)
def Rq(es:Es):sj es es:=⟨cZ _,λq h=>.inl h⟩
def vB{a b c:Es}(h1:sj a b)(h2:sj b c):sj a c:=⟨qw h1.1 h2.1,λq hq=>by
 rcases h2.2 q hq with h|h
 ·rcases h1.2 q h with h|h
  ·exact .inl h
  ·have:=h2.1;exact .inr (by omega)
 ·exact .inr h⟩
def vA{es:Es}{p:Int}{b:Bs}(hp:p∈bo es):sj es (bQ es p b):=⟨Q5 _ _ _,λq hq=>by rw[oG hp]at hq;exact .inl hq⟩
def Jk{n:Nat}{es:Es}(h:cH n es){j:Nat}(hj:kK n (bi es)=aA j)(hq:(j:Int)∉bo es){b:Bs}:sj es (bQ es j b):=by
 have:=abx h hj;refine⟨Q5 _ _ _,λq hq'=>?_⟩;rcases ac9 hq' with h|h
 ·exact .inl h
 ·rw[E0 hq];exact .inr (by omega)
def Az{es:Es}{p:Int}{b:Bs}(h:c7 es p=aA b):p∈bo es:=Classical.byContradiction λq=>by rw[vk.2 q]at h;cases h
def EZ{es:Es}{p q:Int}{b:Bs}(h:p∈bo es):p∈bo (bQ es q b):=by
 by_cases hq:q∈bo es
 ·rw[oG hq];exact h
 ·rw[qW hq];exact sh _ h
def J6{es:Es}{p:Int}{b:Bs}:p∈bo (bQ es p b):=by
 by_cases hq:p∈bo es
 ·rw[oG hq];exact hq
 ·rw[qW hq];simp
def aiV{n:Nat}{r:Int}{es:Es}{sts:List br}{k:Bs}{p to r':Int}{es':Es}(h:nV n r es sts k p to r' es'):sj es es':=by
 induction h with
 |@top es k p to j hs hf hj hq hr=>exact vB (Jk hs hf hq) (vA J6)
 |@room es sts k p to q e nx i e' hs hg hr hk hp hr'=>exact vA (Az hg)
 |@two es sts k p to q e nx i j ea eb fa fb r' es' hs hg hr hk hp hf hj hq hra hrb rfa rfb hspl hcase hup ih =>
  exact vB (vB (vB (Jk hs hf hq) (vA (EZ (Az hg)))) (vA (EZ J6))) ih
def SU{n:Nat}{r:Int}{es:Es}{k v:Bs}{ok:Bool}{e r':Int}{es':Es}(h:o4 n r es k v ok e r' es'):sj es es':=by
 cases h with
 |arg h=>exact Rq _
 |put hs hk hv hw hl hg hr0 hh hz hr=>exact vA (Az hg)
 |full=>exact Rq _
 |split hs hk hv hw hl hg hr0 hh hz hf hfj hj hq h2 hx rA0 rB0 rA rB hc hu =>
  exact vB (vB (vB (Jk hs hfj hq) (vA (EZ (Az hg)))) (vA (EZ J6))) (aiV hu)
def ac7{es:Es}{p q:Int}(h:q∈bo (fo es p)):q∈bo es:=by
 induction es with
 |nil=>exact h
 |cons x es ih =>
  obtain⟨a,y⟩:=x;unfold fo at h;split at h
  ·exact mY _ h
  ·rcases dC.1 h with h|h
   ·rw[h];exact dl ..
   ·exact mY _ (ih h)
def ahH{n:Nat}{r:Int}{es:Es}{r':Int}{es':Es}(h:lp n r es r' es'):∀q∈bo es',q∈bo es:=by
 induction h with
 |leaf=>exact λ_ h=>h
 |stop=>exact λ_ h=>h
 |one hs hg hr _ ih=>exact λq hq=>ac7 (ih q hq)
def Yd{n:Nat}{r:Int}{es:Es}{k:Bs}{e r':Int}{es':Es}(h:qu n r es k e r' es'):∀q∈bo es',q∈bo es:=by
 cases h with
 |arg=>exact λ_ h=>h
 |no=>exact λ_ h=>h
 |put hs hk hw hl hg hr0 hh hd hr=>exact λq hq=>by rwa [oG (Az hg)]at hq
 |@drop ws pl l w zl gs zo xo X ss xi rest out R r' es' hk hw hr0 hh hd hw0 d hsk _ =>
  intro q hq;have h1:=ahH hsk q hq;have hp:=d.left.1;have h2:q∈bo (fM (gl w l zl)++(cv (dB w l.high zo gs)++(cv [X]++R))):=(hp.map (·.1)).mem_iff.1 h1
  have h3:q∈bo (fM zl++(cv zo++((pl,bA l)::(cv gs++(cv [xo]++R))))):=by
   rw[<-c8,ox,<-d.keys]at h2;rcases cG.1 h2 with h2|h2
   ·rw[<-c8,ox];exact sh _ h2
   ·rw[ox]at h2;rcases cG.1 h2 with h2|h2
    ·have e1:bo (cv [X])=bo (cv [xo]):=by rw[tl,tl];simp[d.x.pg]
     rw[e1]at h2;rw[<-c8,ox];refine mX _ (mY _ ?_);show q∈bo (cv gs++(cv [xo]++R));rw[ox,ox];exact mX _ (sh _ h2)
    ·rw[<-c8,ox];refine mX _ (mY _ ?_);show q∈bo (cv gs++(cv [xo]++R));rw[ox,ox];exact mX _ (mX _ h2)
  exact(d.perm.map (·.1)).mem_iff.2 h3
def Jg:∀{l:IL},(∀x∈l,x.2≠[])->(∀x∈l.dropLast,15<=x.2.length)->l≠[]->15 * (l.length - 1)+1<=(bM l).length
 | [],_,_,h=>fY rfl h
 | [x],h,_,_=>by
  have:=lT.2 (h x (by simp));simp[bM];omega
 |x::y::t,h,hf,_=>by
  have ih:=Jg (l:=y::t) (λz hz=>h z (by grind)) (λz hz=>hf z (by grind)) (by simp);have h1:=hf x (by grind);rw[bM,lc,gJ];rw[bM]at ih;grind
def Dr{s:Su}{b:LL}(h:Dn s [] b):s.length=b.length:=by rw[jM h];simp[dh]
def Hk{s:Su}{l:IL}{d:List IL}{b:LL}(h:Dn s (l::d) b):s.length=l.length:=by
 have e:=di se (gX h).1;rw[e];simp[cP]
def N6:∀{d:List IL} {s:Su} {b:LL},Dn s d b->(∀l∈d,dG okI l 0)->Ft d->s≠[]->s.length<=b.length/\∀l∈d,l.length<=b.length
 | [],s,b,h,_,_,_=>⟨by rw[Dr h];grind,λl hl=>(nomatch hl)⟩
 |l::d,s,b,h,hI,hF,hs=>by
  have hl:=Hk h;obtain⟨e,hk⟩:=gX h;have hlne:l≠[]:=by grind
  have hne:=jE (hI _ (dl ..));have hkl:=Jg hne (hF _ (dl ..)) hlne;have hpos:=lT.2 hlne;obtain⟨i1,i2⟩:=N6 hk (λx hx=>hI x (by grind)) (λx hx=>hF x (by grind)) (AH hlne hne);grind
def Yl{l:IL}{d:List IL}{s:Su}{b:LL}(h:Dn s (l::d) b)(hI:∀l'∈l::d,dG okI l' 0)(hF:Ft (l::d))(h2:2<=s.length):16<=b.length:=by
 have hl:=Hk h;obtain⟨e,hk⟩:=gX h;have hlne:l≠[]:=by grind
 have hne:=jE (hI _ (dl ..));have hkl:=Jg hne (hF _ (dl ..)) hlne;have:=(N6 hk (λx hx=>hI x (by grind)) (λx hx=>hF x (by grind)) (AH hlne hne)).1;omega
def Tz{n:Nat}{r:Int}{es:Es}{l:IL}{d:List IL}{b:LL}(h:WF n r es (l::d) b):l.length=1/\2<=(bM l).length:=by
 obtain⟨e0,_⟩:=gX h.dn;obtain⟨e,rfl⟩:=TA e0;have:=h.rt [(r,e)] (by simp) (r,e) (iN.2 rfl);simp[bM];grind
def N1{n:Nat}{r:Int}{es:Es}{ups:List IL}{b:LL}(h:WF n r es ups b)(hr:Rs ups b)(hb:b.length<=15):ups.length<=1/\es.length<=b.length+1:=by
 have hl:es.length=(ig ups b).length:=by rw[<-(yq h.toWT).length_eq];simp[bo]
 cases ups with
 |nil=>exact⟨by simp,by rw[hl];simp[ig,bH]⟩
 |cons l d =>
  obtain⟨h1,h2⟩:=Tz h;cases d with
  |nil =>
   refine⟨by simp,?_⟩;rw[hl];simp[ig,bH,h1];omega
  |cons l2 d =>
   have:=Yl (gX h.dn).2 (λx hx=>h.okI x (by grind)) (λx hx=>hr.ft x (by grind)) h2;omega
def IC:∀{b:LL},(∀x∈b.dropLast,2<=x.2.1.length)->b≠[]->2 * (b.length - 1)<=(cF b).length
 | [],_,h=>fY rfl h
 | [x],_,_=>by simp
 |x::y::t,hf,_=>by
  have ih:=IC (b:=y::t) (λz hz=>hf z (by grind)) (by simp);have h1:=hf x (by grind);obtain⟨p,prs,hh⟩:=x;rw[kO,gJ];grind
def Qb:∀{b:LL} {n:Int},dG okF b n->bE (cF b)<=231 * b.length
 | [],_,_=>by simp[cF,bE]
 |(p,prs,h)::b,n,hF=>by
  have ih:=Qb (b:=b) hF.2;obtain⟨o,_,_⟩:=tu (show cX ⟨prs,h,bS b n⟩=aD from hF.1);have:=o.wt;rw[kO,wE,d8];omega
def rs0:Rs [] [(0,[],[])]:=⟨λl hl=>(nomatch hl),λx hx=>(nomatch hx),λx hx=>by grind,λx hx=>by simp[cF]at hx⟩
def VU{n:Nat}{r:Int}{es:Es}{ups:List IL}{b:LL}(h:WF n r es ups b)(h0:cF b=[]):ups=[]/\b=[(r,[],[])]/\es.length=1/\bo es=[r]:=by
 have hb:=xp h.dn h.okI (by simp)
 have hu:ups=[]:=by
  by_cases hu:ups=[]
  ·grind
  ·obtain⟨x,t,rfl⟩:=mW hb;have:=h.ne hu x (by simp);obtain⟨p,prs,hh⟩:=x;rw[kO]at h0;simp_all
 subst hu;have e:=jM h.dn;obtain⟨x,t,rfl⟩:=mW hb;obtain⟨p,prs,hh⟩:=x;rw[dh,fJ]at e;obtain⟨e1,e2⟩:=List.cons.inj e;obtain⟨rfl,rfl⟩:=Prod.mk.inj e1;have ht:t=[]:=ME.1 e2.symm;subst ht;have hp:prs=[]:=by rw[kO]at h0;simp_all
 subst hp;have hk:bo es=[r]:=List.perm_singleton.1 (yq h.toWT);refine⟨rfl,rfl,?_,hk⟩;have:=di se hk;simpa[bo]using this
def afh{n:Nat}{r:Int}{es:Es}{ups:List IL}{b:LL}(h:WT n r es ups b):es.length=(ups.flatMap bH).length+b.length:=by
 have:=(yq h).length_eq;rw[ig,gJ]at this;simpa[bo,bH]using this
def ado{n:Nat}{r:Int}{es:Es}{ups:List IL}{b:LL}(h:WF n r es ups b):b.length<=1∨b.length<=(cF b).length:=by
 by_cases hu:ups=[]
 ·left;subst hu;have:=Dr h.dn;grind
 ·right
  have key:∀(l:LL),(∀x∈l,x.2.1≠[])->l.length<=(cF l).length:=by
   intro l
   induction l with
   |nil=>grind
   |cons x l ih =>
    intro hd;have:=ih λy hy=>hd y (by grind)
    have h1:=lT.2 (hd x (by simp));obtain⟨p,prs,hh⟩:=x;rw[kO,gJ,d8];grind
  exact key b (h.ne hu)
def N3:∀{d:List IL} {s:Su} {b:LL},Dn s d b->(∀l∈d,dG okI l 0)->s.length<=b.length
 | [],s,b,h,_=>by rw[Dr h];grind
 |l::d,s,b,h,hI=>by
  have hl:=Hk h;obtain⟨e,hk⟩:=gX h;have ih:=N3 hk λx hx=>hI x (by grind)
  have hne:=jE (hI _ (dl ..))
  have key:∀(l:IL),(∀x∈l,x.2≠[])->l.length<=(bM l).length:=by
   intro l
   induction l with
   |nil=>grind
   |cons x l ih =>
    intro hd;have:=ih λy hy=>hd y (by grind)
    have h1:=lT.2 (hd x (by simp));rw[bM,lc,gJ,d8];rw[bM]at this;omega
  grind
def aeP{n:Nat}{r:Int}{es:Es}{ups:List IL}{b:LL}(h:WF n r es ups b)(hp:(cF b).length<=1):ups=[]/\es.length=1:=by
 have h1:=ado h;have hb:=lT.2 (xp h.dn h.okI (by simp))
 have hu:ups=[]:=by
  cases ups with
  |nil=>rfl
  |cons l d =>
   obtain⟨r1,r2⟩:=Tz h;have:=N3 (gX h.dn).2 λx hx=>h.okI x (by grind)
   omega
 subst hu;have:=afh h.toWT;grind
def rs1(r:Int):Rs [] [(r,[],[])]:=⟨λl hl=>(nomatch hl),λx hx=>(nomatch hx),λx hx=>by grind,λx hx=>by simp[cF]at hx⟩
def iW(m:Nat):Bs:=[UInt8.ofNat (97+m)]
def lD:Bs:=(eQ 31).map λi=>UInt8.ofNat (48+i % 10)
def mr(m:Nat):List Pr:=(eQ m).map λi=>(iW i,lD)
def Jl:∀m,m < 26->(∀x∈mr m,lt x.1 (iW m)=aD)/\du (mr m) (iW m) lD=mr (m+1)/\cY (bD (mr m)) (iW m)=aE/\cz (iW m)=aD/\bE (mr (m+1))=34 * (m+1):=by decide +kernel
def adP:∀m,m < 26->vR (iW m) ((mr 26).drop m)=(mr 26).drop (m+1)/\cY (bD ((mr 26).drop m)) (iW m)=true:=by decide +kernel
def adQ(m:Nat):bE [(iW m,lD)]=34/\(iW m).length=1/\eu lD=true:=⟨rfl,rfl,by decide +kernel⟩
structure Jf(r:Int)(es:Es)(ups:List IL)(b:LL)(L:List Pr):Prop where
 wf:WF 40 r es ups b
 rs:Rs ups b
 fl:cF b=L
 lo:∀q∈bo es,q < 30
def Jf.dep{r:Int}{es:Es}{ups:List IL}{b:LL}{L:List Pr}(h:Jf r es ups b L)(hL:L.length<=26):ups.length<=1/\es.length<=b.length+1/\b.length<=14:=by
 have hb:=xp h.wf.dn h.wf.okI (by simp);have h2:=IC h.rs.f2 hb;rw[h.fl]at h2;obtain⟨h3,h4⟩:=N1 h.wf h.rs (by omega);grind
def Qd{r:Int}{es:Es}{ups:List IL}{b:LL}{L:List Pr}(h:Jf r es ups b L)(hL:L.length<=25){k v:Bs}(hk:cz k=aD)(hv:eu v=aD)(h1:∀x∈L,lt x.1 k=aD)(h5:k.length<=5)(hw:bE [(k,v)]<=40) :
  ∃r' es' ups' b',Jf r' es' ups' b' (du L k v)/\o4 40 r es k v (!cY (bD L) k) 0 r' es':=by
 obtain⟨d1,d2,d3⟩:=h.dep (by omega);obtain⟨ok,e,r',es',ups',b',w1,w2,w3⟩:=J4 h.wf k v;rcases w3 with⟨rfl,_,_,q1,q2,q3,_⟩|⟨_,_,_,_,_,q|q⟩
 ·rw[h.fl]at q1 q2;subst q2;have hrs:=q3 (by rw[h.fl];grind) h5 hw h.rs;have hb':=xp w1.dn w1.okI (by simp);have hfl:(cF b').length<=26:=by rw[q1];have:=EX L k v;omega
  have h2:=IC hrs.f2 hb';obtain⟨h3,h4⟩:=N1 w1 hrs (by omega);refine⟨r',es',ups',b',⟨w1,hrs,q1,λq hq=>?_⟩,w2⟩;rcases(SU w2).2 q hq with hq|hq
  ·exact h.lo q hq
  grind
 all_goals grind
def PV{r:Int}{es:Es}{ups:List IL}{b:LL}{L:List Pr}(h:WF 40 r es ups b)(hf:cF b=L)(hl:∀q∈bo es,q < 30){k:Bs}(hk:cY (bD L) k=aD)(hkk:cz k=aD) :
  ∃r' es' ups' b',(WF 40 r' es' ups' b'/\cF b'=vR k L/\∀q∈bo es',q < 30)/\qu 40 r es k 0 r' es':=by
 obtain⟨e,r',es',ups',b',w1,w2,w3⟩:=He h k;rcases w3 with⟨rfl,_,_,q⟩|⟨_,_,_,_,q|q⟩
 ·rw[hf]at q;exact⟨r',es',ups',b',⟨w1,q,λq hq=>hl q (Yd w2 q hq)⟩,w2⟩
 all_goals grind
def CI(a:Bool)(b:Int)(c:Bool)(d:Int)(e:List UInt8)(f g h i j k l m:Int)(n:List (V × V))(o:List V): S:=⟨[aW aE,aL 0 0 0,bj,aL 1 0 0,bj,aW a,aC aB b,aW c,aC aB d,aG e,aC aB f,aC aB g,bj,aC aB h,bj,aC aB i,aC aB j,aG [48,49,50,51,52,53,54,55,56,57,48,49,50,51,52,53,54,55,56,57,48,49,50,51,52,53,54,55,56,57,48],aC bK k]++(JU 187),(wm l m n o)⟩
def CJ(a:Bool)(b:Int)(c:Bool)(d:Int)(e:List UInt8)(f g h i j k l m:Int)(n:List V)(o p q:Int)(r:List (V × V))(s:List V): S:=⟨[aW aE,aL 0 0 0,bj,aL 1 0 0,bj,aW a,aC aB b,aW c,aC aB d,aG e,aC aB f,aC aB g,bj,aC aB h,bj,aC aB i,aC aB j,aG [48,49,50,51,52,53,54,55,56,57,48,49,50,51,52,53,54,55,56,57,48,49,50,51,52,53,54,55,56,57,48],bj,bj,bj,aC aB k,aC aB l,aC aB m,aH n,aC bK o]++(JU 180),(wm p q r s)⟩
def O0: R :=
 gd (decide (0<=W aB (((47:Int).tdiv 8)))) <|
 gd (decide (W aB (((47:Int).tdiv 8))<=W aB (((47:Int).tdiv 8)))) <|
 gd (decide ((W aB (((47:Int).tdiv 8))).toNat<=16777216)) <|
 bV aJ aU pO 84 [aL 0 0 0] [aM 140 (aI [aL 1 0 0,dJ 2]) aE,aM 192 (aI [bl 3 0,aC aB 40]) aE,dI [],aN 5 (cA ((W aB (((47:Int).tdiv 8))).toNat) (aC bK 0)) 0] λc =>
 cond (c.2.1 != (0:Int))
 (aA (.done (aW aE)))
 (bV aJ aU gE 78 [aL 0 0 0,aC aB c.1,gK 120 (aI [aH [],aG [],aC aB 0])] (tm c.1 c.2.2.1 c.2.2.2.1 c.2.2.2.2) λg =>
  bV aJ aU oz 32 [aL 0 0 0,aG [97],aG [120]] (tm g.1 g.2.1 g.2.2.1 g.2.2.2) λd =>
  bV aJ aU oz 32 [aL 0 0 0,aG [97],aG [121]] (tm d.2.2.1 d.2.2.2.1 d.2.2.2.2.1 d.2.2.2.2.2) λa =>
  cJ aJ aU mR 39 [aL 0 0 0,aG [97]] (tm a.2.2.1 a.2.2.2.1 a.2.2.2.2.1 a.2.2.2.2.2) λh =>
  cd [aN 5 a.2.2.2.2.2 0,aM 192 (aI [bl 0 0,aC aB a.2.2.2.1]) aD,dI a.2.2.2.2.1,aM 140 (aI [aL 1 0 0,dJ 2]) aE,aM 128 (aI [aL 3 0 0,aC aB a.2.2.1]) aE] <|
  bV aJ aU oC 33 [aL 0 0 0,aG [97]] (tm a.2.2.1 a.2.2.2.1 a.2.2.2.2.1 a.2.2.2.2.2) λb =>
  cJ aJ aU mR 39 [aL 0 0 0,aG [97]] (tm b.2.1 b.2.2.1 b.2.2.2.1 b.2.2.2.2) λi =>
  cd [aN 5 b.2.2.2.2 0,aM 192 (aI [bl 0 0,aC aB b.2.2.1]) aD,dI b.2.2.2.1,aM 140 (aI [aL 1 0 0,dJ 2]) aE,aM 128 (aI [aL 3 0 0,aC aB b.2.1]) aE] <|
  bV aJ aU oz 32 [aL 0 0 0,aG [],aG [120]] (tm b.2.1 b.2.2.1 b.2.2.2.1 b.2.2.2.2) λe =>
  bV aJ aU oC 33 [aL 0 0 0,aG [97]] (tm e.2.2.1 e.2.2.2.1 e.2.2.2.2.1 e.2.2.2.2.2) λf =>
  aA (.head 0 (CI d.1 d.2.1 a.1 a.2.1 h.1 h.2 b.1 i.2 e.2.1 f.1 97 f.2.1 f.2.2.1 f.2.2.2.1 f.2.2.2.2)))
def aaq: Ep 45 [] (O0 ):=ep (by kernel_rfl) (by kernel_rfl)
def Li (g:Bool) (h:Int) (i:Bool) (j:Int) (k:List UInt8) (l m n o p f a b:Int) (c:List (V × V)) (d:List V): R :=
 cond (decide (f<=122))
 (bV aJ aU oz 32 [aL 0 0 0,aG [UInt8.ofNat f.toNat],aG [48,49,50,51,52,53,54,55,56,57,48,49,50,51,52,53,54,55,56,57,48,49,50,51,52,53,54,55,56,57,48]] (tm a b c d) λe =>
  cond (e.2.1 != (0:Int))
 (aA (.done (aW aE)))
 (aA (.head 0 (CI g h i j k l m n o p (W bK (f+1)) e.2.2.1 e.2.2.2.1 e.2.2.2.2.1 e.2.2.2.2.2))))
 (cJ aJ aU tG 43 [aL 0 0 0] (tm a b c d) λq =>
  cd (wm a b c d) <|
  cJ aJ aU tH 46 [aL 0 0 0] (tm a b c d) λr =>
  cd (wm a b c d) <|
  cJ aJ aU rc 40 [aL 0 0 0] (tm a b c d) λs =>
  cd (wm a b c d) <|
  cJ aJ aU vH 34 [aL 0 0 0,aG [120],aC aB 9] (tm a b c d) λt =>
  cd (wm a b c d) <|
  aA (.head 1 (CJ g h i j k l m n o p q (r.length:Int) s t 97 a b c d)))
theorem UB(a b c d e f g h i j k l m n o): Rd aE 0 45 0 (CI a b c d e f g h i j k l m n o) (Li a b c d e f g h i j k l m n o):=rd (by kernel_rfl)
def Lj (h:Bool) (i:Int) (j:Bool) (k:Int) (l:List UInt8) (m n o p q r s t:Int) (f:List V) (g d a:Int) (b:List (V × V)) (c:List V): R :=
 cond (decide (g<=122))
 (bV aJ aU oC 33 [aL 0 0 0,aG [UInt8.ofNat g.toNat]] (tm d a b c) λe =>
  cond (e.1 != (0:Int))
 (aA (.done (aW aE)))
 (aA (.head 1 (CJ h i j k l m n o p q r s t f (W bK (g+1)) e.2.1 e.2.2.1 e.2.2.2.1 e.2.2.2.2))))
 (cond h
 (cond (i==(0:Int))
 (cond (!j)
 (cond (k==(0:Int))
 (cond (l==[121])
 (cond (m==(0:Int))
 (cond (n==(0:Int))
 (cond (o==(7:Int))
 (cond (p==(1:Int))
 (cond (q==(7:Int))
 (cond (r==(1:Int))
 (cond (decide (s > 3))
 (cond (t==(0:Int))
 (cond ((f.length:Int)==(3:Int))
 (bk f 0 λu =>
  eJ u λv ad =>
  cond (v==[120])
 (bk f 0 λw =>
  eJ w λae x =>
  cond (x==[48,49,50,51,52,53,54,55,56,57,48,49,50,51,52,53,54,55,56,57,48,49,50,51,52,53,54,55,56,57,48])
 (cJ aJ aU tG 43 [aL 0 0 0] (tm d a b c) λy =>
  cd (wm d a b c) <|
  cond (y==(0:Int))
 (cJ aJ aU yd 42 [aL 0 0 0] (tm d a b c) λz =>
  cd (wm d a b c) <|
  cond ((z.length:Int)==(1:Int))
 (cJ aJ aU vI 44 [aL 0 0 0] (sm a b c) λaa =>
  cd (wm d a b c) <|
  cond (aa==(39:Int))
 (cJ aJ aU rc 40 [aL 0 0 0] (tm d a b c) λab =>
  cd (wm d a b c) <|
  cond (ab==(0:Int))
 (cJ aJ aU rc 40 [aL 0 0 0] (tm 39 a b c) λac =>
  cd (wm d a b c++[aM 128 (aI [aL 0 0 0,aC aB 39]) aE]) <|
  aA (.done (aW (ac==(4:Int)))))
 (aA (.done (aW aE))))
 (aA (.done (aW aE))))
 (aA (.done (aW aE))))
 (aA (.done (aW aE))))
 (aA (.done (aW aE))))
 (aA (.done (aW aE))))
 (aA (.done (aW aE))))
 (aA (.done (aW aE))))
 (aA (.done (aW aE))))
 (aA (.done (aW aE))))
 (aA (.done (aW aE))))
 (aA (.done (aW aE))))
 (aA (.done (aW aE))))
 (aA (.done (aW aE))))
 (aA (.done (aW aE))))
 (aA (.done (aW aE))))
 (aA (.done (aW aE))))
 (aA (.done (aW aE))))
 (aA (.done (aW aE))))
 (aA (.done (aW aE))))
theorem UC(a b c d e f g h i j k l m n o p q r s): Rd aE 0 45 1 (CJ a b c d e f g h i j k l m n o p q r s) (Lj a b c d e f g h i j k l m n o p q r s):=rd (by kernel_rfl)
def Xz{n:Nat}{r:Int}{es:Es}(h:cH n es)(h0:0<=r)(h1:r < (n:Int))(hr:r∉bo es):bW aJ aU 40 [.ptr 0 0 0] (tM r n es)=aA (rc (tM r n es) 4):=by
 have hm:gj (bZ es) (.int aB r)=aA none:=by rw[Jq,vk.2 hr];rfl
 have hread:bW aJ aU 58 [.ptr 0 0 0,.int aB r] (sM n es)=aA (pN (sM n es) ([],7)):=by
  refine O6 _ _ _ _ (o:=.doneM (.tup [.str [],.int aB 7]) (sM n es)) ?_ (.done (by kernel_rfl));unfold H8 mP;grind
 have hrt:bW aJ aU 82 [.ptr 0 0 0,.int aB r] (tM r n es)=aA (iu (tM r n es) ()):=by
  refine Ii _ _ _ _ _ (o:=.doneM .nilI (tM r n es)) ?_ (.done (by kernel_rfl));unfold DI;rw[co tI hread,bN,jz (by decide),bn]
 have hl:bW aJ Ad 85 [.ptr 0 0 0,.ptr 1 0 0,.int aB r,.str [],.str []] (lM r n es [] [] [])=aA (tK (0,aE,r,eH [r],(n:Int),bZ es,bI n (bi es),[],[])):=by
  have hs0:wo r [] [] r (eH []) (aO []) (aY []) (n:Int) (bZ es) (bI n (bi es))=aA (.doneM (.tup [.int aB 0,.bool aE]) (lm r (eH [r]) [] [] (n:Int) (bZ es) (bI n (bi es)))):=by
   unfold wo;rw[EF (sn:=[]) (by simp),mS,co tI hread,bN,acr (aev _) (aew _) (aex _) hrt,bN];rfl
  refine Ij _ _ _ _ _ _ _ _ _ _ (o:=.head 0 (w8 r [] [] r (eH []) (aO []) (aY []) (n:Int) (bZ es) (bI n (bi es)))) ?_ ⟨_,_,Lv _ _ _ _ _ _ _ _ _ _ hs0 (.refl _),by kernel_rfl⟩;unfold DJ mP;rw[EB (sn:=[]) (by simp)]
 refine OX _ _ _ _ (o:=.head 0 (uL aE (0:Int) (0:Int) r (n:Int) (bZ es) (bI n (bi es)) [])) ?_ ⟨_,_,Lg _ _ _ _ _ _ _ _ (o:=.doneM (.int aB 4) (tM r n es++[aN 3 [] 0])) ?_ (.refl _),by kernel_rfl⟩
 ·unfold H3;have h5:bW aJ Ad 85 [.ptr 0 0 0,.ptr 1 0 0,.int aB r,.str [],.str []] (lm r [] [] [] (n:Int) (bZ es) (bI n (bi es)))=_:=hl;rw[cL EE h5];rfl
 ·unfold FE;rfl
def abI{r:Int}{es:Es}{ups:List IL}{b:LL}{L:List Pr}(h:Jf r es ups b L)(hL:L.length<=25){k v:Bs}(hk:cz k=aD)(hv:eu v=aD)(h1:(du L k v).length<=1) :
  ∃r' es' ups' b',(WF 40 r' es' ups' b'/\cF b'=du L k v/\∀q∈bo es',q < 30)/\o4 40 r es k v (!cY (bD L) k) 0 r' es':=by
 obtain⟨d1,d2,d3⟩:=h.dep (by omega);obtain⟨ok,e,r',es',ups',b',w1,w2,w3⟩:=J4 h.wf k v;rcases w3 with⟨rfl,_,_,q1,q2,q3,_⟩|⟨_,_,_,_,_,q|q⟩
 ·rw[h.fl]at q1 q2;subst q2;have:=(aeP w1 (by grind)).2;refine⟨r',es',ups',b',⟨w1,q1,λq hq=>?_⟩,w2⟩;rcases(SU w2).2 q hq with hq|hq
  ·exact h.lo q hq
  grind
 all_goals grind
def Rh:lD=[48,49,50,51,52,53,54,55,56,57,48,49,50,51,52,53,54,55,56,57,48,49,50,51,52,53,54,55,56,57,48]:=by decide +kernel
def VJ(m:Nat)(hm:m < 26):([UInt8.ofNat (((97+m:Nat):Int)).toNat]:Bs)=iW m:=by rw[bq];rfl
def Qg:∀(d m:Nat),m+d=26->∀(r:Int) (es:Es) (ups:List IL) (b:LL),WF 40 r es ups b->cF b=(mr 26).drop m->(∀q∈bo es,q < 30)->∀(lv:Nat),3 < lv ->
  Go qk aE 0 (fF 45) (.head 1 (CJ aD 0 aE 0 [121] 0 0 7 1 7 1 (lv:Int) 0 (bw [(iW 23,lD),(iW 24,lD),(iW 25,lD)]) ((97+m:Nat):Int) r ((40:Nat):Int) (bZ es) (bI 40 (bi es)))) (.done (.bool aD))
 |0,m,hm,r,es,ups,b,h,hf,hl,lv,hlv=>by
  obtain rfl:m=26:=by omega
  have h0:cF b=[]:=hf.trans (by decide +kernel);obtain⟨rfl,rfl,e1,e2⟩:=VU h h0;have hd:=Hh h.toWT;have hp:=afa h.toWT;have hfr:=IG h.shf;have hc:=NH h;have hr30:r < 30:=hl r (by grind);have hn:=Xz (r:=39) h.shf (by omega) (by omega) (by grind);have htl:=uq h.shf;refine UC _ _ _ _ _ _ _ _ _ _ _ _ _ _ _ _ _ _ _ ?_ (.refl _);unfold Lj;have i0:(bw [(iW 23,lD),(iW 24,lD),(iW 25,lD)])[0]? = aA (.agg [.str (iW 23),.str lD]):=rfl;rw[bF (by omega),be];simp only[gg,bn,lQ]
  rw[aZ (by omega),bn,dL (by rw[dq];rfl),bn,
   cM i0,fZ,show(iW 23==[120])=aD from rfl,bn,cM i0,fZ,<-Rh,gg,bn,
   co Ju hd,bN,dL (by simp),bn,co aej hp,bN,dL (by rw[bR,htl,e1];rfl),bn,co Jv hfr,bN,dL (by grind),bn,
   co Jt hc,bN,dL rfl,bn,co Jt hn,bN]
  rfl
 |d+1,m,hm,r,es,ups,b,h,hf,hl,lv,hlv=>by
  have hm26:m < 26:=by omega
  obtain⟨l1,l2⟩:=adP m hm26;obtain⟨r',es',ups',b',⟨w1,w2,w3⟩,w4⟩:=PV h hf hl l2 (Jl m hm26).2.2.2.1;rw[l1]at w2
  have w:W bK (((97+m:Nat):Int)+1)=((97+(m+1):Nat):Int):=by
   have:((97+m:Nat):Int)+1=((97+(m+1):Nat):Int):=by omega
   rw[this];unfold W;have:∀j,j < 27->IntKind.u8.wrap ((97+j:Nat):Int)=((97+j:Nat):Int):=by decide +kernel
   grind
  refine UC _ _ _ _ _ _ _ _ _ _ _ _ _ _ _ _ _ _ _ ?_ (Qg d (m+1) (by omega) r' es' ups' b' w1 w2 w3 lv hlv);unfold Lj;rw[aZ (by omega),bn,VJ m hm26,cL EC (Dp w4),ef rfl,be,w]
def Qh:∀(d m:Nat),m+d=26->∀(r:Int) (es:Es) (ups:List IL) (b:LL),Jf r es ups b (mr m) ->
  Go qk aE 0 (fF 45) (.head 0 (CI aD 0 aE 0 [121] 0 0 7 1 7 ((97+m:Nat):Int) r ((40:Nat):Int) (bZ es) (bI 40 (bi es)))) (.done (.bool aD))
 |0,m,hm,r,es,ups,b,h=>by
  obtain rfl:m=26:=by omega
  obtain⟨d1,d2,d3⟩:=h.dep (by decide);have hw:=Qb h.wf.okF;rw[h.fl,(Jl 25 (by omega)).2.2.2.2]at hw
  have hu:ups.length=1:=by
   cases ups with
   |nil=>have:=Dr h.wf.dn;grind
   |cons x t=>grind
  have hd:=Hh h.wf.toWT;rw[hu]at hd;have hle:=Ji h.wf.toWT;have hc:=NH h.wf;have hs:=UY h.wf.toWT [120] 9;rw[h.fl,show kq [120] 9 [] (mr 26)=[(iW 23,lD),(iW 24,lD),(iW 25,lD)] by decide +kernel]at hs;have hb:(aO (bH b)).length=b.length:=by rw[bR];simp[bH]
  have:=Qg 26 0 rfl r es ups b h.wf h.fl h.lo b.length (by omega);refine UB _ _ _ _ _ _ _ _ _ _ _ _ _ _ _ ?_ this;unfold Li;rw[bF (by omega),be,co Ju hd,bN,co Jw hle,bN,co Jt hc,bN,co RO hs,bN,hb];rfl
 |d+1,m,hm,r,es,ups,b,h=>by
  have hm26:m < 26:=by omega
  obtain⟨l1,l2,l3,l4,l5⟩:=Jl m hm26;obtain⟨o1,o2,o3⟩:=adQ m;obtain⟨r',es',ups',b',w1,w2⟩:=Qd h (by simp[mr];omega) l4 o3 l1 (by omega) (by omega);rw[l2]at w1
  have w:W bK (((97+m:Nat):Int)+1)=((97+(m+1):Nat):Int):=by
   have:((97+m:Nat):Int)+1=((97+(m+1):Nat):Int):=by omega
   rw[this];unfold W;have:∀j,j < 27->IntKind.u8.wrap ((97+j:Nat):Int)=((97+j:Nat):Int):=by decide +kernel
   grind
  refine UB _ _ _ _ _ _ _ _ _ _ _ _ _ _ _ ?_ (Qh d (m+1) (by omega) r' es' ups' b' w1);unfold Li;rw[aZ (by omega),bn,VJ m hm26,<-Rh,cL AT (Bh w2),ef rfl,be,w]
def aby:bP aJ 45 []=aA (.bool aD):=by
 have h0:Jf 0 kJ [] [(0,[],[])] []:=⟨VV (V3 (by omega) (by omega)),rs0,rfl,λq hq=>by simp[kJ,bo]at hq;omega⟩
 obtain⟨r1,e1,u1,b1,j1,p1⟩:=Qd (k:=[97]) (v:=[120]) h0 (by simp) (by decide +kernel) (by decide +kernel) (λx hx=>nomatch hx) (by simp) (by decide +kernel);rw[show du [] [97] [120]=[(([97]:Bs),([120]:Bs))] by decide +kernel]at j1;obtain⟨r2,e2,u2,b2,⟨w2,f2,k2⟩,p2⟩:=abI (k:=[97]) (v:=[121]) j1 (by simp) (by decide +kernel) (by decide +kernel) (by decide +kernel);rw[show du [(([97]:Bs),([120]:Bs))] [97] [121]=[([97],[121])] by decide +kernel]at f2
 have g2:bW aJ aU 39 [.ptr 0 0 0,.str [97]] (tM r2 40 e2)=aA (mR (tM r2 40 e2) ([121],0)):=by
  obtain⟨v,e,g,q|⟨_,q|q⟩⟩:=Qk w2.toWT [97]
  ·grind
  ·exact fY q.2 (by decide)
  simp_all
 obtain⟨r3,e3,u3,b3,⟨w3,f3,k3⟩,p3⟩:=PV (k:=[97]) w2 f2 k2 (by decide +kernel) (by decide +kernel);rw[show vR [97] [(([97]:Bs),([121]:Bs))]=[] by decide +kernel]at f3
 have g3:bW aJ aU 39 [.ptr 0 0 0,.str [97]] (tM r3 40 e3)=aA (mR (tM r3 40 e3) ([],7)):=by
  obtain⟨v,e,g,q|⟨rfl,q|q⟩⟩:=Qk w3.toWT [97]
  ·grind
  ·exact fY q.2 (by decide)
  grind
 have p4:=Bh (n:=40) (r:=r3) (es:=e3) (k:=[]) (v:=[120]) (.arg (by decide +kernel))
 have p5:bW aJ aU 33 [.ptr 0 0 0,.str [97]] (tM r3 40 e3)=aA (oC (7,r3,((40:Nat):Int),bZ e3,bI 40 (bi e3))):=by
  obtain⟨e,r',es',ups',b',y1,y2,y3⟩:=He w3 [97];rcases y3 with⟨_,_,q,_⟩|⟨rfl,rfl,_,_,q|q⟩
  ·rw[f3]at q;exact fY q (by decide +kernel)
  ·exact fY q.2 (by decide)
  ·obtain⟨rfl,_⟩:=q;exact Dp y2
 have hend:Jf r3 e3 u3 b3 (mr 0):=by
  obtain⟨rfl,rfl,_,_⟩:=VU w3 f3;exact⟨w3,rs1 _,f3,k3⟩
 have hT:=Vt (n:=40) (by omega) (by omega);have hW:=VY (n:=40) (by omega) (by omega);refine aaq ?_ (Qh 26 0 rfl r3 e3 u3 b3 hend);unfold O0;rw[aS (by decide +kernel),aS (by grind),aS (by decide +kernel)];show(bV aJ _ _ _ _ (nM 40) _)=_;rw[cL yi hT,ef rfl,be];show(bV aJ _ _ _ _ (tm 0 ((40:Nat):Int) (bZ [(0,[])]) (bI 40 (bi [(0,[])]))) _)=_;rw[cL jP hW];show(bV aJ _ _ _ _ (tM 0 40 kJ) _)=_;rw[cL AT (Bh p1)];show(bV aJ _ _ _ _ (tM r1 40 e1) _)=_;rw[cL AT (Bh p2)];show(cJ aJ _ _ _ _ (tM r2 40 e2) _)=_;rw[co Js g2,bN];show(bV aJ _ _ _ _ (tM r2 40 e2) _)=_;rw[cL EC (Dp p3)];show(cJ aJ _ _ _ _ (tM r3 40 e3) _)=_;rw[co Js g3,bN];show(bV aJ _ _ _ _ (tM r3 40 e3) _)=_;rw[cL AT p4];show(bV aJ _ _ _ _ (tM r3 40 e3) _)=_;rw[cL EC p5];rfl
def afw{n:Nat}{r:Int}{es:Es}{ups:List IL}{b:LL}{k v:Bs}{ok:Bool}{e r':Int}{es':Es}{ups':List IL}{b':LL}(h:MV n r es ups b k v ok e r' es' ups' b'):(cF b').length<=(cF b).length+1:=by
 rcases h with⟨_,_,_,h,_⟩|⟨_,_,_,_,h,_⟩
 ·rw[h];exact EX _ _ _
 grind
def Yb{n:Nat}{r:Int}{es:Es}{ups:List IL}{b:LL}{k:Bs}{e r':Int}{es':Es}{ups':List IL}{b':LL}(h:Mv n r es ups b k e r' es' ups' b'):(cF b').length<=(cF b).length:=by
 rcases h with⟨_,_,_,h⟩|⟨_,_,_,h,_⟩
 ·rw[h];exact List.length_filter_le _ _
 grind
def agX(l:Lf)(h:jr l):∀r k a,l.prs.drop k=r->a<=2000+2002 * k ->
  Go qk aE 0 (fF 197) (.head 0 (CF a k (bw l.prs) l.high l.next)) (.done (.int aB (a+bE r:Nat))):=by
 have hl:=h.prs;intro r
 induction r with
 |nil =>
  intro k a hr _;have h1:=drop_nil hr;refine Ut _ _ _ _ _ ?_ (.refl _);unfold K9;rw[dq,bF (by omega)];rfl
 |cons x r ih =>
  intro k a hr ha;obtain⟨h1,h2,h3⟩:=dZ hr;have hx:=h.pr x (dH h1);have w:W aB (k+1)=(k+1:Nat):=by rw[bd (by omega)];omega
  have w1:W aB (a+2)=(a+2:Nat):=by rw[bd (by omega)];omega
  have w2:W aB ((a+2:Nat)+x.1.length)=(a+2+x.1.length:Nat):=by rw[bd (by omega)];omega
  have w3:W aB ((a+2+x.1.length:Nat)+x.2.length)=(a+2+x.1.length+x.2.length:Nat):=by rw[bd (by omega)];omega
  have e:a+bE (x::r)=a+2+x.1.length+x.2.length+bE r:=by rw[bE];omega
  rw[e];refine Ut _ _ _ _ _ ?_ (ih (k+1) (a+2+x.1.length+x.2.length) h2 (by omega));unfold K9;rw[dq,aZ (by omega),bn,aS (by simp),bq,fG h1,fZ,aS (by simp),fG h1,fZ,w,w1,w2,w3]
def agU l (h:jr l):bP aJ 197 [eL l]=aA (.int aB (iJ l)):=by
 have hh:=h.high;have w:W aB (5+(l.high.length))=(5+l.high.length:Nat):=by rw[bd (by omega)];omega
 refine ZQ _ _ _ ?_ (agX l h l.prs 0 _ rfl (by omega));unfold OO;grind
def Fh ps (hl:ps.length<=1000) (hp:∀p∈ps,p.1.length<=1000/\p.2.length<=1000):bP aJ 144 [.sl (bw ps)]=aA (.int aB (bE ps)):=by
 have hs:jr ⟨ps,[],0⟩:=⟨hl,hp,by simp⟩
 have:=LO hs
 have w:W aB (((iJ ⟨ps,[],0⟩)) - 5)=(bE ps):=by
  have e:iJ ⟨ps,[],0⟩=5+bE ps:=rfl;rw[bd (by omega)];omega
 refine Za _ ?_;show(aT aJ _ [eL ⟨ps,[],0⟩] _)=_;rw[aQ (agU _ hs),bL,w]
def BN(l:Lf):Bool:=decide (l.high.length<=16) && (decide (0<=l.next) && (decide (l.next<=1024) && decide (bE l.prs<=231)))
def agN l (h:jr l) {k} (hk:l.prs.length<=k):yH (k) (bw l.prs) l.high l.next=aA (.done (.bool (BN l))):=by
 unfold yH BN;rw[dq,bF (by omega),aQ (Fh l.prs h.prs h.pr),bL,show decide (((bE l.prs):Int)<=231)=decide (bE l.prs<=231) from pq.2 (by omega)];grind
def y9(s:Bs):bP aJ 48 [.str s]=aA (.bool (eu s)):=by
 refine aau _ ?_;unfold H5 eu;rw[pq.2 (show(s.length:Int)<=32↔s.length<=32 by omega)]
def adM{k}(h:cz k=aD):lt [] k=true:=by
 cases k with
 |nil=>cases h
 |cons a k=>rfl
def agO(l:Lf)(h:jr l):∀(r:List Pr) (k:Nat) (p:Bs),l.prs.drop k=r->(k=0/\p=[]∨∃v,0 < k/\l.prs[k - 1]? = aA (p,v)) ->
  Go qk aE 0 (fF 101) (.head 0 (qA (k:Int) (bw l.prs) l.high l.next)) (.done (.bool (iY p r && ((l.high==[] ||r.all λx=>lt x.1 l.high) && BN l)))):=by
 have hl:=h.prs;have hh:=h.high;intro r
 induction r with
 |nil =>
  intro k p hr _;have h1:=drop_nil hr;refine wh _ _ _ _ ?_ (.refl _);rw[agN l h h1];simp[iY]
 |cons x r ih =>
  intro k p hr hp;obtain⟨h1,h2,h3⟩:=dZ hr;have hx:=h.pr x (dH h1);have w:W aB ((k:Int)+1)=((k+1:Nat):Int):=by rw[bd (by omega)];omega
  have e0:cz x.1=aD->yH (k:Int) (bw l.prs) l.high l.next=cond (!eu x.2) (aA (.done (aW aE))) (cond (!lt p x.1) (aA (.done (aW aE))) (cond (!(l.high==[])) (cond (!lt x.1 l.high) (aA (.done (aW aE))) (aA (.head 0 (qA ((k+1:Nat):Int) (bw l.prs) l.high l.next)))) (aA (.head 0 (qA ((k+1:Nat):Int) (bw l.prs) l.high l.next))))):=by
   intro hk;unfold yH;rw[dq,aZ (by omega),bn,aS (by simp),bq,fG h1,fZ,aQ (jA x.1),bX,hk,cN,be,aS (by simp),fG h1,fZ,aQ (y9 x.2),bX];rcases hp with⟨rfl,rfl⟩|⟨v,hk0,hkp⟩
   ·rw[adM hk,cN,be,bF (by omega),be,aS (by simp),fG h1,fZ,aQ (mb x.1 l.high (by omega)),bX,w]
   ·have w2:W aB ((k:Int) - 1)=((k - 1:Nat):Int):=by rw[bd (by omega)];omega
    rw[aZ (by omega),bn,w2,aS (by simp),bq,fG hkp,fZ,aS (by simp),fG h1,fZ,aQ (mb p x.1 (by omega)),bX,aS (by simp),fG h1,fZ,aQ (mb x.1 l.high (by omega)),bX,w]
  rw[iY];cases q1:cz x.1 with
  |false =>
   refine wh _ _ _ _ ?_ (.refl _);unfold yH;rw[dq,aZ (by omega),bn,aS (by simp),bq,fG h1,fZ,aQ (jA x.1),bX,q1];rfl
  |true =>
   have e0:=e0 q1;cases q2:eu x.2 with
   |false=>exact wh _ _ _ _ (e0.trans (by grind)) (.refl _)
   |true =>
    cases q3:lt p x.1 with
    |false=>exact wh _ _ _ _ (e0.trans (by grind)) (.refl _)
    |true =>
     have hn:=ih (k+1) x.1 h2 (.inr ⟨x.2,by omega,by grind⟩);cases q4:(l.high==[])with
     |true =>
      refine wh _ _ _ _ (e0.trans (by rw[q2,q3,q4];rfl)) ?_;grind
     |false =>
      cases q5:lt x.1 l.high with
      |false =>
       refine wh _ _ _ _ (e0.trans (by rw[q2,q3,q4,q5];rfl)) ?_;rw[B4,q5];simp only[uz,nO,zg];exact .refl _
      |true =>
       refine wh _ _ _ _ (e0.trans (by rw[q2,q3,q4,q5];rfl)) ?_;grind
def Tl{h}:∀r p,iY p r=aD->lt (j9 p r) h=(lt p h && r.all λx=>lt x.1 h)
 | [],p,_=>by simp[j9]
 |x::r,p,hr=>by
  rw[iY]at hr;simp[cT]at hr;have ih:=Tl (h:=h) r x.1 hr.2;have e:j9 p (x::r)=j9 x.1 r:=by unfold j9;grind
  rw[e,ih,B4];cases hx:lt x.1 h with
  |false=>simp
  |true=>rw[lt_trans hr.1.2 hx];rfl
def agP(l:Lf):(iY [] l.prs && ((l.high==[] ||l.prs.all λx=>lt x.1 l.high) && BN l))=cX l:=by
 unfold cX sW vh BN gt;cases hr:iY [] l.prs with
 |false=>rfl
 |true =>
  rw[Tl l.prs [] hr];cases hh:l.high with
  |nil=>grind
  |cons a t =>
   have e:lt [] (a::t)=true:=rfl;simp[cz,fP]
   all_goals grind
def tX l (h:jr l):bP aJ 101 [eL l]=aA (.bool (cX l)):=by
 have:=agO l h l.prs 0 [] rfl (.inl ⟨rfl,rfl⟩);rw[agP]at this;exact Yu _ _ _ rfl this
def Ks(s:Bs)(h:s.length<=255):bP aJ 102 [.str s]=aA (.str (cQ s)):=by
 refine Yv _ ?_;unfold Hm;have w1:W bK ((s.length))=(s.length):=by rw[nW];omega
 rw[w1,aS (by grind)];rfl
def af5(l:Lf)(hl:l.prs.length<=1000):∀r (k:Nat) (d:Bs),l.prs.drop k=r->(∀x∈r,x.1.length<=255/\x.2.length<=255)->d.length+bE r<=100000 ->
  Go qk aE 0 (fF 62) (.head 0 (CL d (k:Int) (bw l.prs) l.high l.next)) (.done (.str (d++eV r))):=by
 intro r
 induction r with
 |nil =>
  intro k d hr _ _;have h1:=drop_nil hr;refine UF _ _ _ _ _ ?_ (.refl _);unfold Ln;rw[dq,bF (by omega),be,eV,fR]
 |cons x r ih =>
  intro k d hr h hd;obtain⟨h1,h2,h3⟩:=dZ hr;obtain⟨hx1,hx2⟩:=h x (by simp);have w:W aB ((k:Int)+1)=((k+1:Nat):Int):=by rw[bd (by omega)];omega
  rw[bE]at hd;have:=ih (k+1) (d++(cQ x.1++cQ x.2)) h2 (λy hy=>h y (by grind)) (by grind);rw[eV,<-c8];refine UF _ _ _ _ _ ?_ this;unfold Ln;rw[dq,aZ (by omega),bn,aS (by simp),bq,fG h1,fZ,aQ (Ks x.1 hx1),de,aS (by simp),fG h1,fZ,aQ (Ks x.2 hx2),de,aS (by grind),aS (by grind),w]
def Kg(l:Lf)(hs:jr l):bP aJ 62 [eL l]=aA (.str (if cX l then bA l else [])):=by
 cases h:cX l with
 |false =>
  refine O9 _ _ _ ?_ (.refl _);unfold H9;rw[aQ (tX l hs),bX,h];rfl
 |true =>
  obtain⟨h1,h2,h3,h4,h5⟩:=nL.1 h;have hm:=tW h1;have hg:=wF λx hx=>(hm x hx).1
  have hh:=tc h2;obtain⟨nn,hnn⟩:∃nn:Nat,l.next=(nn:Int):=⟨l.next.toNat,by omega⟩
  have hps:∀x∈l.prs,x.1.length<=255/\x.2.length<=255:=λx hx=>by
   have q1:=(fd (hm x hx).1).2;have q2:=(hm x hx).2;simp only[eu,mI]at q2;omega
  have hl:=af5 l hs.prs l.prs 0 ([76,UInt8.ofNat l.prs.length]++cW 2 nn++cQ l.high) rfl hps (by simp[eK];omega)
  have hfin:[76,UInt8.ofNat l.prs.length]++cW 2 nn++cQ l.high++eV l.prs=bA l:=by
   unfold bA sJ;grind
  rw[hfin]at hl;refine O9 _ _ _ ?_ hl;have w1:W bK ((l.prs.length:Int))=((l.prs.length:Nat):Int):=by rw[nW];omega
  have w2:W bK (((nn:Int)).tmod 256)=((nn % 256:Nat):Int):=by
   rw[show((nn:Int)).tmod 256=((nn % 256:Nat):Int) from rfl,nW];omega
  have w3:W bK (W aB (((nn:Int)).tdiv 256))=((nn / 256 % 256:Nat):Int):=by
   rw[show((nn:Int)).tdiv 256=((nn / 256:Nat):Int) from rfl,bd (by omega),nW]
  unfold H9;rw[aQ (tX l hs),bX,h,cN,aS (by simp),aQ (Ks l.high (by omega)),de,aS (by grind),dq,hnn,w1,w2,w3,bq];rfl
def qa l (h:cX l=aD):bP aJ 62 [eL l]=aA (.str (bA l)):=by
 have:=Kg l (tT h);grind
abbrev zL:V:=.tup [eL kX,.int aB 4]
def Sz s (hs:s.length<=252):iX s (s.length)=(s,0):=by
 unfold iX;rw[bh (by omega),bh (by omega),bq,nS,List.replicate_zero,fR]
def afR{s}(hs:s.length<=252){l}(h:cX l=aD)(he:s=bA l)(hp:l.prs≠[]):KT s 0 l.high l.next (bw l.prs)=aA (.done (.tup [eL l,.int aB 0])):=by
 subst he;show(aT aJ _ [eL l] _)=_;rw[aQ (qa l h),de,aQ (ER _ _ (by grind)),iD,Sz _ hs];rw[gg,aQ (tX l (tT h)),h];rfl
def afS{s}(hs:s.length<=252){h' nx}(h:cX ⟨[],h',nx⟩=aD)(he:s=bA ⟨[],h',nx⟩):KS s 0 h' nx=aA (.done (.tup [eL ⟨[],h',nx⟩,.int aB 0])):=by
 subst he;show(aT aJ _ [eL ⟨[],h',nx⟩] _)=_;rw[aQ (qa _ h),de,aQ (ER _ _ (by grind)),iD,Sz _ hs];show(cond (0 != 0) _ (cond ((0) != 0) _ (cond (!(bA ⟨[],h',nx⟩==bA ⟨[],h',nx⟩)) _ (aT aJ _ [eL ⟨[],h',nx⟩] _))))=_;rw[gg,aQ (tX _ (tT h)),h];rfl
def PE{l}(h:cX l=aD):5<=(bA l).length/\(bA l).length<=252:=by
 obtain⟨h1,h2,h3,h4,h5⟩:=nL.1 h;have hh:=tc h2;rw[Ao];unfold iJ;omega
def afT(l:Lf)(h:cX l=aD)(c:UInt8)(hc:(bA l)[1]? = aA c)(hcn:c.toNat=l.prs.length):∀(r dn:List Pr) (A:Bs),bA l=A++eV r->l.prs=dn++r->dn≠[] ->
  Go qk aE 0 (fF 146) (.head 0 (wX (bA l) (A.length:Int) 0 (dn.length:Int) l.high l.next (bw dn))) (.done (.tup [eL l,.int aB 0])):=by
 obtain⟨q1,q2⟩:=PE h;have hss:dS (bA l):=by grind
 have hm:=tW (nL.1 h).1;have hll:=(tT h).prs;have wc:W aB ((c.toNat:Int))=((l.prs.length:Nat):Int):=by rw[hcn,bd (by omega)]
 intro r
 induction r with
 |nil =>
  intro dn A hA hd hne;rw[fR]at hd
  have e:t8 (bA l) (A.length:Int) 0 (dn.length:Int) l.high l.next (bw dn)=aA (.head 1 (zG (bA l) 0 l.high l.next (bw dn))):=by
   unfold t8;rw[cM hc,wc,hd,bF (by omega),be]
  refine yK _ _ _ _ _ _ _ e (Ue _ _ _ _ _ ?_ (.refl _));rw[<-hd];exact afR q2 h rfl (by grind)
 |cons x r ih =>
  intro dn A hA hd hne;have hx:=hm x (by grind);have hx1:=(fd hx.1).2;have hx2:=by have:=hx.2;simpa[eu]using this
  have hlen:=di se hd;simp only[gJ,d8]at hlen
  have e1:d0 (bA l) (A.length:Nat)=(x.1,(((A++cQ x.1).length:Nat):Int),0):=by
   rw[hA,eV,c8,qj A x.1 _ (by omega)];grind
  have e2:d0 (bA l) (((A++cQ x.1).length:Nat):Int)=(x.2,(((A++cQ x.1++cQ x.2).length:Nat):Int),0):=by
   rw[hA,eV,c8,<-c8 A,qj (A++cQ x.1) x.2 _ (by omega)];grind
  have w:W aB ((dn.length:Int)+1)=(((dn++[x]).length:Nat):Int):=by rw[bd (by omega)];simp
  have ih:=ih (dn++[x]) (A++cQ x.1++cQ x.2) (by rw[hA,eV];simp) (by grind) (by simp);refine yK _ _ _ _ _ _ _ ?_ ih;unfold t8;rw[cM hc,wc,aZ (by omega),bn,dL rfl,bn,aQ (iz e1 hss),d9,ef rfl,be,aQ (iz e2 hss),d9,aS (aZ (by rw[dq];grind)),w];simp[bw]
def afV(l:Lf)(h:cX l=aD):bP aJ 146 [.str (bA l)]=aA (.tup [eL l,.int aB 0]):=by
 obtain⟨q1,q2⟩:=PE h;obtain⟨h1,h2,h3,h4,h5⟩:=nL.1 h;have hm:=tW h1;have hg:=wF λx hx=>(hm x hx).1
 have hh:=tc h2;have hss:dS (bA l):=by grind
 obtain⟨nn,hnn⟩:∃nn:Nat,l.next=(nn:Int):=⟨l.next.toNat,by omega⟩
 have i1:(bA l)[1]? = aA (UInt8.ofNat l.prs.length):=rfl;have i2:(bA l)[2]? = aA (UInt8.ofNat (nn % 256)):=by unfold bA sJ;rw[hnn];rfl
 have i3:(bA l)[3]? = aA (UInt8.ofNat (nn / 256 % 256)):=by unfold bA sJ;rw[hnn];rfl
 have c1:(UInt8.ofNat l.prs.length).toNat=l.prs.length:=by simp;omega
 have c2:(UInt8.ofNat (nn % 256)).toNat=nn % 256:=by simp
 have c3:(UInt8.ofNat (nn / 256 % 256)).toNat=nn / 256:=by simp;omega
 have hA:bA l=[76,UInt8.ofNat l.prs.length,UInt8.ofNat (nn % 256),UInt8.ofNat (nn / 256 % 256)]++(cQ l.high++eV l.prs):=by
  unfold bA sJ;rw[hnn];rfl
 have t4:d0 (bA l) 4=(l.high,((5+l.high.length:Nat):Int),0):=by
  have:=qj [76,UInt8.ofNat l.prs.length,UInt8.ofNat (nn % 256),UInt8.ofNat (nn / 256 % 256)] l.high (eV l.prs) (by omega);grind
 have w2:W aB ((nn % 256:Nat):Int)=((nn % 256:Nat):Int):=bd (by omega);have w3:W aB ((nn / 256:Nat):Int)=((nn / 256:Nat):Int):=bd (by omega);have w4:W aB (256 * ((nn / 256:Nat):Int))=256 * ((nn / 256:Nat):Int):=bd (by omega);have w5:W aB (((nn % 256:Nat):Int)+256 * ((nn / 256:Nat):Int))=l.next:=by rw[bd (by omega),hnn];omega
 have he:Dw (bA l)=aA (.head 0 (Cz (bA l) ((5+l.high.length:Nat):Int) 0 l.high l.next)):=by
  unfold Dw;rw[bF (by omega),be,bF (by omega),be,cM i2,cM i3,aQ (iz t4 hss),d9,c2,c3,w2,w3,w4,w5]
 refine OB _ he ?_;have wc:W aB (((UInt8.ofNat l.prs.length).toNat:Int))=((l.prs.length:Nat):Int):=by rw[c1,bd (by omega)]
 cases hp:l.prs with
 |nil =>
  have el:l=⟨[],l.high,l.next⟩:=by rw[<-hp]
  have hz:rH (bA l) ((5+l.high.length:Nat):Int) 0 l.high l.next=aA (.head 1 (zF (bA l) 0 l.high l.next)):=by
   unfold rH;rw[cM i1,wc,hp,bF (by simp),be]
  refine yJ _ _ _ _ _ hz (Ud _ _ _ _ ?_ (.refl _));have:=afS (s:=bA l) q2 (h':=l.high) (nx:=l.next) (by grind) (by grind);grind
 |cons x r =>
  have hx:=hm x (by grind);have hx1:=(fd hx.1).2;have hx2:x.2.length<=32:=by have:=hx.2;simpa[eu]using this
  have hB:bA l=([76,UInt8.ofNat l.prs.length,UInt8.ofNat (nn % 256),UInt8.ofNat (nn / 256 % 256)]++cQ l.high)++eV (x::r):=by grind
  obtain⟨B,hBe⟩:∃B:Bs,B=[76,UInt8.ofNat l.prs.length,UInt8.ofNat (nn % 256),UInt8.ofNat (nn / 256 % 256)]++cQ l.high:=⟨_,rfl⟩
  have hBl:B.length=5+l.high.length:=by grind
  rw[<-hBe]at hB
  have e1:d0 (bA l) (B.length:Nat)=(x.1,(((B++cQ x.1).length:Nat):Int),0):=by
   rw[hB,eV,c8,qj B x.1 _ (by omega)];grind
  have e2:d0 (bA l) (((B++cQ x.1).length:Nat):Int)=(x.2,(((B++cQ x.1++cQ x.2).length:Nat):Int),0):=by
   rw[hB,eV,c8,<-c8 B,qj (B++cQ x.1) x.2 _ (by omega)];grind
  have hz:rH (bA l) ((5+l.high.length:Nat):Int) 0 l.high l.next=aA (.head 0 (wX (bA l) ((B++cQ x.1++cQ x.2).length:Nat) 0 (([x]:List Pr).length:Int) l.high l.next (bw [x]))):=by
   unfold rH;rw[cM i1,wc,aZ (by grind),bn,dL rfl,bn,<-hBl,aQ (iz e1 hss),d9,ef rfl,be,aQ (iz e2 hss),d9,aS (by simp)];rfl
  exact yJ _ _ _ _ _ hz (afT l h _ i1 c1 r [x] _ (by rw[hB,eV];simp) (by grind) (by simp))
def BO s n:(d0 s n).1.length<=255:=by
 unfold d0;split
 ·split
  ·simp
  ·split
   ·simp
   ·rename_i c r _ _;have:=c.toNat_lt;grind
 ·simp
def S4{s:Bs}(hs:s.length<=252)(h5:5<=s.length)(h0:s[0]? = aA 78)(l:Lf)(hl:jr l):∃p pe,bP aJ 195 [.str (if cX l then bA l else []),.int aB (s.length:Int)]=aA (.tup [.str p,.int aB pe])/\(pe=0->(p==s)=aE):=by
 have hsz:=LO hl;refine⟨_,_,ER _ _ ?_,?_⟩
 ·split
  ·simp only[dS];rw[Ao];omega
  grind
 ·intro hp;refine Bool.eq_false_iff.2 λe=>?_
  have e:=eq_of_beq e;have h1:((iX (if cX l then bA l else []) (s.length:Int)).1)[0]? = aA 78:=by grind
  generalize hx:(if cX l then bA l else [])=x at h1
  have hx0:x[0]?≠aA 78:=by
   rw[<-hx];cases cX l with
   |false=>simp
   |true=>rw[bc rfl];unfold bA;simp
  unfold iX at h1;grind
def afU{s:Bs}(hs:s.length<=252)(h5:5<=s.length)(h0:s[0]? = aA 78):bP aJ 146 [.str s]=aA zL:=by
 have hss:dS s:=by grind
 obtain⟨c,hc⟩:∃c,s[1]? = aA c:=⟨_,cI (by omega)⟩
 obtain⟨c2,hc2⟩:∃c,s[2]? = aA c:=⟨_,cI (by omega)⟩
 obtain⟨c3,hc3⟩:∃c,s[3]? = aA c:=⟨_,cI (by omega)⟩
 have hcl:=c.toNat_lt;have wc:W aB ((c.toNat:Int))=((c.toNat:Nat):Int):=bd (by omega)
 have loop:∀(d i:Nat) (at0 e:Int) (hi:Bs) (nx:Int) (dn:List Pr),i+d=c.toNat->hi.length<=255->dn.length=i->(∀p∈dn,p.1.length<=1000/\p.2.length<=1000) ->
   Go qk aE 0 (fF 146) (.head 0 (wX s at0 e (i:Int) hi nx (bw dn))) (.done zL):=by
  have fin:∀(e:Int) (hi:Bs) (nx:Int) (dn:List Pr),hi.length<=255->dn.length<=256->(∀p∈dn,p.1.length<=1000/\p.2.length<=1000)->Go qk aE 0 (fF 146) (.head 1 (zG s e hi nx (bw dn))) (.done zL):=by
   intro e hi nx dn h1 h2 h3;have hsm:jr ⟨dn,hi,nx⟩:=⟨(show dn.length<=1000 by omega),h3,(show hi.length<=1000 by omega)⟩
   obtain⟨p,pe,q1,q2⟩:=S4 hs h5 h0 ⟨dn,hi,nx⟩ hsm;refine Ue _ _ _ _ _ ?_ (.refl _);unfold KT;rw[aQ (Kg _ hsm),de,aQ q1,iD]
   by_cases he:e=0
   ·by_cases hpe:pe=0
    ·rw[ef he,be,ef hpe,be,q2 hpe];rfl
    ·rw[ef he,be,jz hpe];rfl
   ·rw[jz he];rfl
  intro d
  induction d with
  |zero =>
   intro i at0 e hi nx dn hid h1 h2 h3;refine yK _ _ _ _ _ _ _ ?_ (fin e hi nx dn h1 (by omega) h3);unfold t8;rw[cM hc,wc,bF (by omega),be]
  |succ d ih =>
   intro i at0 e hi nx dn hid h1 h2 h3
   by_cases he:e=0
   ·obtain⟨t1,m1,e1,q1⟩:∃t m e,d0 s at0=(t,m,e):=⟨_,_,_,rfl⟩
    obtain⟨t2,m2,e2,q2⟩:∃t m' e,d0 s m1=(t,m',e):=⟨_,_,_,rfl⟩
    have l1:=BO s at0;have l2:=BO s m1;rw[q1]at l1;rw[q2]at l2;simp only at l1 l2
    by_cases he1:e1=0
    ·have w:W aB ((i:Int)+1)=((i+1:Nat):Int):=by rw[bd (by omega)];omega
     have:=ih (i+1) m2 e2 hi nx (dn++[(t1,t2)]) (by omega) h1 (by grind) (λp hp=>by
      grind)
     refine yK _ _ _ _ _ _ _ ?_ this;unfold t8;rw[cM hc,wc,aZ (by omega),bn,dL he,bn,aQ (iz q1 hss),d9,ef he1,be,aQ (iz q2 hss),d9,aS (aZ (by rw[dq];grind)),w];simp[bw]
    ·refine yK _ _ _ _ _ _ _ ?_ (.refl _);unfold t8;rw[cM hc,wc,aZ (by omega),bn,dL he,bn,aQ (iz q1 hss),d9,jz he1];rfl
   ·refine yK _ _ _ _ _ _ _ ?_ (fin e hi nx dn h1 (by omega) h3);unfold t8;rw[cM hc,wc,aZ (by omega),bn,ew he,be]
 obtain⟨t,m,e,q⟩:∃t m e,d0 s 4=(t,m,e):=⟨_,_,_,rfl⟩
 have lt0:=BO s 4;rw[q]at lt0;simp only at lt0;refine OB _ (o:=.head 0 (Cz s m e t (W aB (W aB (c2.toNat:Int)+W aB (256 * W aB (c3.toNat:Int)))))) ?_ ?_
 ·unfold Dw;rw[bF (by omega),be,bF (by omega),be,cM hc2,cM hc3,aQ (iz q hss),d9]
 ·generalize W aB (W aB (c2.toNat:Int)+W aB (256 * W aB (c3.toNat:Int)))=nx
  have fin0:Go qk aE 0 (fF 146) (.head 1 (zF s e t nx)) (.done zL):=by
   have hsm:jr ⟨[],t,nx⟩:=⟨kz _,(λp hp=>nomatch hp),(show t.length<=1000 by omega)⟩
   obtain⟨p,pe,q1,q2⟩:=S4 hs h5 h0 ⟨[],t,nx⟩ hsm;refine Ud _ _ _ _ ?_ (.refl _);unfold KS;show(aT aJ _ [eL ⟨[],t,nx⟩] _)=_;rw[aQ (Kg _ hsm),de,aQ q1,iD]
   by_cases he:e=0
   ·by_cases hpe:pe=0
    ·rw[ef he,be,ef hpe,be,q2 hpe];rfl
    ·rw[ef he,be,jz hpe];rfl
   ·rw[jz he];rfl
  by_cases h1:c.toNat=0
  ·refine yJ _ _ _ _ _ ?_ fin0;unfold rH;rw[cM hc,wc,bF (by omega),be]
  ·by_cases he:e=0
   ·obtain⟨t1,m1,e1,q1⟩:∃t m' e,d0 s m=(t,m',e):=⟨_,_,_,rfl⟩
    obtain⟨t2,m2,e2,q2⟩:∃t m' e,d0 s m1=(t,m',e):=⟨_,_,_,rfl⟩
    have l1:=BO s m;have l2:=BO s m1;rw[q1]at l1;rw[q2]at l2;simp only at l1 l2
    by_cases he1:e1=0
    ·have:=loop (c.toNat - 1) 1 m2 e2 t nx [(t1,t2)] (by omega) lt0 rfl (λp hp=>by grind);refine yJ _ _ _ _ _ ?_ this;unfold rH;rw[cM hc,wc,aZ (by omega),bn,dL he,bn,aQ (iz q1 hss),d9,ef he1,be,aQ (iz q2 hss),d9,aS (by simp)];rfl
    ·refine yJ _ _ _ _ _ ?_ (.refl _);unfold rH;rw[cM hc,wc,aZ (by omega),bn,dL he,bn,aQ (iz q1 hss),d9,jz he1];rfl
   ·refine yJ _ _ _ _ _ ?_ fin0;unfold rH;rw[cM hc,wc,aZ (by omega),bn,ew he,be]
def S9(l:Lf)(hl:l.prs.length<=1000)(hp:∀p∈l.prs,p.1.length<=1000) k (hk:k.length<=1000):∀r i,l.prs.drop i=r->i+cK (bD r) k=cK (bD l.prs) k ->
  Go qk aE 0 (fF 147) (.head 0 (CB k i (bw l.prs) l.high l.next)) (.done (.tup [.int aB (cK (bD l.prs) k),.bool (cY (bD l.prs) k)]))
 | [],i,hd,he=>by
  have h1:=drop_nil hd;have e:cK (bD l.prs) k=i:=by rw[<-he];rfl
  have h2:cY (bD l.prs) k=false:=by
   unfold cY;rw[e,wM (by rw[mO];grind)]
  refine KU _ _ _ _ _ ?_ (.refl _);unfold Fu;rw[dq,bF (by omega),be,be,e,h2]
 |x::r,i,hd,he=>by
  obtain⟨h1,h2,h3⟩:=dZ hd;have w:W aB ((i)+1)=(i+1:Nat):=by rw[bd (by omega)];omega
  rw[bD,fJ,AJ]at he;cases hx:lt x.1 k with
  |true =>
   rw[bc hx]at he;refine KU _ _ _ _ _ ?_ (S9 l hl hp k hk r (i+1) h2 (by rw[bD];omega));unfold Fu;rw[dq,aZ (by omega),bn,aS (by simp),bq,fG h1,fZ,aQ (mb x.1 k (by omega)),bX,hx,bn,w]
  |false =>
   rw[bh (by grind)]at he
   have h4:cY (bD l.prs) k=(x.1==k):=by
    unfold cY;rw[<-he,gn,tp h1]
   refine KU _ _ _ _ _ ?_ (.refl _);unfold Fu;rw[dq,aZ (by omega),bn,aS (by simp),bq,fG h1,fZ,aQ (mb x.1 k (by omega)),bX,hx,be,bn,aS (by simp),fG h1,fZ,<-he,h4,gn]
def Kj l (h:jr l) (k:Bs) (hk:k.length<=1000):bP aJ 147 [eL l,.str k]=aA (.tup [.int aB (cK (bD l.prs) k),.bool (cY (bD l.prs) k)]) :=
 Zd _ _ _ _ rfl (S9 l h.prs (λp hp=>(h.pr p hp).1) k hk l.prs 0 rfl (by omega))
def Tb l (h:cX l=aD) (k:Bs) (hk:k.length<=1000):bP aJ 105 [eL l,.str k]=aA (if cY (bD l.prs) k then .tup [.str (xE l.prs k),.int aB 0] else .tup [.str [],.int aB 7]):=by
 have g:=lA h;refine Yy _ _ _ _ ?_;unfold Ho;rw[aQ (tX l g.sm),bX,h,cN,aQ (Kj l g.sm k hk),sO];cases hh:cY (bD l.prs) k with
 |false=>rfl
 |true =>
  obtain⟨h2,_⟩:=pb hh;rw[mO]at h2;have h3:=cI h2;rw[bq,fG h3,xE,h3];rfl
def agL l (h:cX l=aD) k v (hk:cz k=aD) (hv:eu v=aD) x (hx:x=if cY (bD l.prs) k then cK (bD l.prs) k+1 else cK (bD l.prs) k) :
  Kx x (bw l.prs) l.high l.next ((bw l.prs).take (cK (bD l.prs) k)++[aI [aG k,aG v]])=aA (.done (kj l k v)):=by
 have g:=lA h;have g1:=g.len;have g2:=g.wt;have hle:cK (bD l.prs) k<=l.prs.length:=by rw[<-mO];exact vu _ k
 have hxl:x<=l.prs.length:=by
  rw[hx];split
  ·rename_i hh;obtain⟨h2,_⟩:=pb hh;rw[mO]at h2;omega
  grind
 have e1:(bw l.prs).take (cK (bD l.prs) k)++[aI [aG k,aG v]]=bw (l.prs.take (cK (bD l.prs) k)++[(k,v)]):=by simp[bw]
 have e2:((bw l.prs).take (bw l.prs).length).drop x=bw (l.prs.drop x):=by rw[jI,EV]
 have e3:bw (l.prs.take (cK (bD l.prs) k)++[(k,v)])++bw (l.prs.drop x)=bw (du l.prs k v):=by
  rw[Bc,hx];rfl
 have hlen:=EX l.prs k v
 have hw:=Fh (du l.prs k v) (by omega) (λp hp=>by
  rcases ru hp with rfl|hp
  ·have:=(fd hk).2;simp only[eu]at hv;grind
  ·exact g.sm.pr p hp)
 have hl2:(l.prs.take (cK (bD l.prs) k)++[(k,v)]).length<=1001:=by grind
 unfold Kx;rw[aS (jG _),aS (by simp),bq,aS (aZ (by rw[dq];grind)),e2,aS (jG _),e1,aS (aZ (by rw[dq,dq,lh];omega)),e3,aQ hw,bL];unfold kj
 by_cases hz:bE (du l.prs k v)<=231
 ·grind
 ·rw[bh hz,aZ (by omega)];rfl
def Bp l (h:cX l=aD) k v (hk:cz k=aD) (hv:eu v=aD) (hh:l.high=[]∨lt k l.high=aD):bP aJ 106 [eL l,.str k,.str v]=aA (kj l k v):=by
 have g:=lA h;have g1:=g.len;have g2:=g.wt;have hk2:=(fd hk).2;have hhl:=g.sm.high;have hle:cK (bD l.prs) k<=l.prs.length:=by rw[<-mO];exact vu _ k
 have w:W aB (cK (bD l.prs) k+1)=(cK (bD l.prs) k+1:Nat):=by rw[bd (by omega)];omega
 have e1:((bw l.prs).take (cK (bD l.prs) k)).length<=1000:=by grind
 have hs:TZ k v (bw l.prs) l.high l.next=aA (.head 1 (Cq (if cY (bD l.prs) k then cK (bD l.prs) k+1 else cK (bD l.prs) k:Nat) (bw l.prs) l.high l.next ((bw l.prs).take (cK (bD l.prs) k)++[aI [aG k,aG v]]))):=by
  show(aT aJ _ [eL l,_] _)=_;rw[aQ (Kj l g.sm k (by omega)),sO,aS (jG _),aS (by simp),bq,aS (aZ (by rw[dq];grind)),aS (by rw[yu];exact jG _),aS (aZ (by omega)),aS (aZ (by grind)),w]
  all_goals grind
 refine YB _ _ _ _ _ (o:=.head 0 (Cp k v (bw l.prs) l.high l.next)) ?_ (ag6 _ _ _ _ _ hs (ag7 _ _ _ _ _ (agL l h k v hk hv _ rfl) (.refl _)));show(aT aJ _ [eL l] _)=_;rw[aQ (tX l g.sm),bX,h,cN,aQ (jA k),bX,hk,aQ (y9 v),bX,hv,aQ (mb k l.high (by omega)),bX];grind
def Ke l (h:cX l=aD) (k:Bs) (hk:k.length<=1000):bP aJ 110 [eL l,.str k]=aA (if cY (bD l.prs) k then .tup [eL ⟨gC l.prs k,l.high,l.next⟩,.int aB 0] else .tup [eL kX,.int aB 7]):=by
 have g:=lA h;have g1:=g.len;have g2:=g.wt;refine YE _ _ _ _ ?_;unfold Hq;rw[aQ (tX l g.sm),bX,h,cN,aQ (Kj l g.sm k hk),sO];cases hh:cY (bD l.prs) k with
 |false=>rfl
 |true =>
  obtain⟨h2,_⟩:=pb hh;rw[mO]at h2;have w:W aB (((cK (bD l.prs) k))+1)=(cK (bD l.prs) k+1:Nat):=by rw[bd (by omega)];omega
  have e2:((bw l.prs).take (bw l.prs).length).drop (cK (bD l.prs) k+1)=bw (l.prs.drop (cK (bD l.prs) k+1)):=by rw[jI,EV]
  rw[aS (jG _),aS (by simp),aS (aZ (by rw[dq];omega)),yu,aS (jG _),aS (aZ (by rw[dq,jW];omega)),aS (jG _),w,aS (aZ (by omega)),bq,aS (aZ (by rw[dq];omega)),e2,aS (jG _),aS (aZ (by rw[dq,dq,jW,lh];omega)),Bc];rfl
def V5{l:List Pr}(h:∀p∈l,p.1.length<=1000/\p.2.length<=1000) n:∀p∈l.take n,p.1.length<=1000/\p.2.length<=1000:=λp hp=>h p (uF hp)
def TL l (hl:l.prs.length<=1000) pg (hp:0<=pg/\pg < 1024) (n:Nat) (hn:n < l.prs.length):Kz pg (n) (bw l.prs) l.high l.next=aA (.done (qh l pg n)):=by
 have e2:((bw l.prs).take (bw l.prs).length).drop n=bw (l.prs.drop n):=by rw[jI,EV]
 have h2:(l.prs.drop n)[0]? = aA l.prs[n]:=by grind
 unfold Kz;rw[aS (jG _),aS (by simp),bq,aS (aZ (by rw[dq];omega)),yu,aS (jG _),aS (aZ (by rw[dq,jW];omega)),aS (jG _),aS (by simp),aS (aZ (by rw[dq];omega)),e2,aS (jG _),aS (aZ (by rw[dq,lh];omega)),fG h2,fZ,bd (by omega)];unfold qh;grind
def agV(l:Lf)(hl:l.prs.length<=1000)(hs:∀p∈l.prs,p.1.length<=1000/\p.2.length<=1000)(pg:Int)(hp:0<=pg/\pg < 1024):∀(r:List Pr) (n had:Nat),l.prs.drop n=r->r≠[]->0 < n->had=bE (l.prs.take n) ->
  Go qk aE 0 (fF 108) (.head 0 (zw pg (n:Int) (bw l.prs) l.high l.next)) (.done (qh l pg (n+lY (bE l.prs) had r))):=by
 intro r
 induction r with
 |nil=>grind
 |cons x r ih =>
  intro n had hr _ hn hhad;obtain⟨h1,h2,h3⟩:=dZ hr;have w1:W aB (((bw l.prs).length:Int) - 1)=((l.prs.length - 1:Nat):Int):=by rw[dq,bd (by omega)];omega
  have hrl:r.length+n+1=l.prs.length:=by
   grind
  have hwt:=Mj (V5 hs n);have htl:(l.prs.take n).length<=1000:=by grind
  have w2:W aB (2 * ((bE (l.prs.take n):Nat):Int))=((2 * had:Nat):Int):=by rw[bd (by omega),hhad];omega
  cases hrr:r with
  |nil =>
   subst hrr
   have hz:Bt pg (n:Int) (bw l.prs) l.high l.next=aA (.head 1 (zx pg (n:Int) (bw l.prs) l.high l.next)):=by
    unfold Bt;grind
   exact Ky _ _ _ _ _ hz (T1 _ _ _ _ _ (TL l hl pg hp n (by omega)) (.refl _))
  |cons y t =>
   have hrt:r.length=t.length+1:=by grind
   unfold lY
   have e0:Bt pg (n:Int) (bw l.prs) l.high l.next=cond (decide (2 * had < bE l.prs)) (aA (.head 0 (zw pg ((n+1:Nat):Int) (bw l.prs) l.high l.next))) (aA (.head 1 (zx pg (n:Int) (bw l.prs) l.high l.next))):=by
    have w3:W aB ((n:Int)+1)=((n+1:Nat):Int):=by rw[bd (by omega)];omega
    unfold Bt;rw[w1,aZ (by omega),bn,aS (jG _),aS (by simp),bq,aS (aZ (by rw[dq];omega)),yu,aQ (Fh _ htl (V5 hs n)),bL,aQ (Fh _ hl hs),bL,w2,w3,pq.2 (show((2 * had:Nat):Int) < (bE l.prs:Int)↔2 * had < bE l.prs by omega)]
   by_cases hA:2 * had < bE l.prs
   ·rw[bc hA];have:=ih (n+1) (had+bE [x]) h2 (by grind) (by omega) (by rw[MJ,h1,wE,hhad];rfl);rw[hrr,ky]at this;exact Ky _ _ _ _ _ (e0.trans (by grind)) this
   ·rw[bh hA];exact Ky _ _ _ _ _ (e0.trans (by grind)) (T1 _ _ _ _ _ (TL l hl pg hp n (by omega)) (.refl _))
def agW l (h:cX l=aD) (h2:2<=l.prs.length) pg (hp:0<=pg/\pg < 1024):bP aJ 108 [eL l,.int aB pg]=aA (qh l pg (d7 l.prs)):=by
 have g:=lA h;have g1:=g.len;have g2:=g.wt
 obtain⟨x,y,r,hx⟩:∃x y r,l.prs=x::y::r:=by
  match hl:l.prs,h2 with
  |x::y::r,_=>grind
 have hd:l.prs.drop 1=y::r:=by grind
 have:=agV l (by omega) g.sm.pr pg hp (y::r) 1 (bE [x]) hd (by simp) (by omega) (by grind);have eh:d7 l.prs=1+lY (bE l.prs) (bE [x]) (y::r):=by rw[hx];rfl
 rw[<-eh]at this;refine YD _ _ _ _ ?_ this;unfold Oe;rw[aQ (tX l g.sm),bX,h,cN,dq,bF (by omega),bF (by omega),bF (by omega)];rfl
def c9(n:Nat)(f:Nat->Bool):List V:=(eQ n).map λj=>aW (f j)
def nj n f:(c9 n f).length=n:=by simp[c9]
def nY{n i} f (h:i < n):(c9 n f)[i]? = aA (.bool (f i)):=by simp[c9,B8 h]
def Ns{n i} f b (h:i < n):(c9 n f).set i (.bool b)=c9 n (eA f i b):=by
 apply uD;intro j
 by_cases hj:j < n
 ·rw[nY _ hj,Gq]
  by_cases e:i=j
  ·subst e;rw[bc rfl,bc (by rw[nj];grind),eA,bc rfl]
  ·rw[bh e,nY _ hj,eA,bh λq=>e q.symm]
 ·rw[wM (by rw[sg,nj];omega),wM (by rw[nj];omega)]
def ago n (hn:n<=1024) f i:bW aJ aU 143 [.ptr 0 0 0,.int aB i] (rb (c9 n f))=aA (yb (rb (c9 n f)) (kW n f i)):=by
 refine Y9 _ _ (o:=.doneM (.bool (kW n f i)) (rb (c9 n f))) ?_ (.done (by kernel_rfl));unfold Oz kW
 by_cases h0:0<=i
 ·rw[aZ (show i ≥ 0 from h0),bn,nj]
  by_cases h1:i < n
  ·obtain⟨j,rfl⟩:∃j:Nat,i=(j):=⟨i.toNat,by omega⟩
   rw[aZ h1,bn,aS (by simp),aS (aZ (by omega)),eW,cM (nY f (by omega)),bX,aZ (by omega),fP]
  grind
 grind
def agY n (hn:n<=1024) f (i:Nat) (hi:i < n) (hf:f i=aE):bW aJ aU 142 [.ptr 0 0 0,.int aB i] (rb (c9 n f))=aA (AO (0,c9 n (eA f i aD))):=by
 refine Y8 _ _ (o:=.doneM (.int aB 0) (rb (c9 n (eA f i aD)))) ?_ (.done (by kernel_rfl));unfold Oy;rw[aZ (by omega),bn,nj,aZ (by omega),cN,be,aS (by simp),bq,aS (aZ hi),eW,cM (nY f hi),bX,hf,be,aS (by simp),aS (aZ hi),cM (nY f hi),bX,Ns f aD hi]
def agb n (hn:n<=1024) f (i:Nat) (hi:i < n) (hf:f i=aD):bW aJ aU 202 [.ptr 0 0 0,.int aB i] (rb (c9 n f))=aA (AS (0,c9 n (eA f i aE))):=by
 refine ZY _ _ (o:=.doneM (.int aB 0) (rb (c9 n (eA f i aE)))) ?_ (.done (by kernel_rfl));unfold OQ;rw[aZ (by omega),bn,nj,aZ (by omega),cN,be,aS (by simp),bq,aS (aZ hi),eW,cM (nY f hi),bX,hf,cN,be,aS (by simp),aS (aZ hi),cM (nY f hi),bX,Ns f aE hi]
def TM n (hn:n<=1024) f k (hk:k < n) (hfk:f k=aE) (ha:∀j,j < k->f j=aD):∀(d i:Nat),i+d=k ->
  Go qk aD 2 (fF 99) (.head 0 (z6 0 i (c9 n f))) (.doneM (.tup [.int aB (k),.int aB 0]) (rb (c9 n (eA f k aD))))
 |0,i,hi=>by
  obtain rfl:i=k:=by omega
  refine UR _ _ _ ?_ (.refl _);unfold LI;rw[nj,aZ (by omega),bn,aS (by simp),bq,aS (aZ hk),eW,cM (nY f hk),bX,hfk,lQ,bn,cL aed (agY n hn f i hk hfk)]
 |d+1,i,hi=>by
  have w:W aB ((i)+1)=(i+1:Nat):=by rw[bd (by omega)];omega
  refine UR _ _ _ ?_ (TM n hn f k hk hfk ha d (i+1) (by omega));unfold LI;rw[nj,aZ (by omega),bn,aS (by simp),bq,aS (aZ (by omega)),eW,cM (nY f (by omega)),bX,ha i (by omega),cN,be,w]
def agZ n (hn:n<=1024) f k (hk:kK n f=aA k):bW aJ aU 99 [.ptr 0 0 0,.int aB 0] (rb (c9 n f))=aA (AZ (k,0,c9 n (eA f k aD))):=by
 obtain⟨h1,h2,h3⟩:=Mz.1 hk;have hkn:k < n:=by grind
 refine aa6 _ _ (o:=.head 0 (z6 0 0 (c9 n f))) ?_ ⟨_,_,TM n hn f k hkn (by grind) (λj hj=>by grind) k 0 (by omega),by kernel_rfl⟩;unfold Pp;rw[aZ (show(0:Int) ≥ 0 by omega),nj,aZ (show 0 < (n:Int) by omega)];rfl
def TN n (hn:n<=1024) f:∀(d i:Nat),i+d=n ->
  Go qk aD 2 (fF 93) (.head 0 (zZ i (c9 n f) (aO (fO i f)))) (.doneM (.own 3) (rb (c9 n f)++[aN 3 [] 0,aN 3 (aO (fO n f)) 0]))
 |0,i,hi=>by
  obtain rfl:i=n:=by omega
  refine LH _ _ _ ?_ (.refl _);unfold FL;rw[nj,bF (by omega),be]
 |d+1,i,hi=>by
  have w:W aB ((i)+1)=(i+1:Nat):=by rw[bd (by omega)];omega
  have hl:=Mb i f;have ih:=TN n hn f d (i+1) (by omega)
  have e:fO (i+1) f=if f i=aD then fO i f++[(i:Int)] else fO i f:=by
   unfold fO;rw[List.range_succ,oX];grind
  rw[e]at ih;cases hf:f i with
  |true =>
   refine LH _ _ _ ?_ ih;unfold FL;rw[nj,aZ (by omega),aS (by simp),bq,aS (aZ (by omega)),eW,cM (nY f (by omega)),hf,aS (aZ (by rw[bR];grind)),w];simp[aO,iV]
  |false =>
   rw[hf,bh (by simp)]at ih;refine LH _ _ _ ?_ ih;unfold FL;rw[nj,aZ (by omega),bn,aS (by simp),bq,aS (aZ (by omega)),eW,cM (nY f (by omega)),bX,hf,be,w]
def TP n (hn:n<=1024) f:bW aJ aU 93 [.ptr 0 0 0] (rb (c9 n f))=aA (vP (rb (c9 n f)) (aO (fO n f))) :=
 aa4 _ rfl ⟨_,_,TN n hn f n 0 (by omega),by kernel_rfl⟩
structure dx(n:Nat)(es:Es)(Ls:List Bs):Prop where
 len:Ls.length=n
 at_:∀p b,c7 es p=aA b->Ls[p.toNat]? = aA b
abbrev lJ(n:Nat)(es:Es)(Ls:List Bs):List O:=rs (aY Ls) (c9 n (bi es))
abbrev rM(r:Int)(n:Nat)(es:Es)(Ls:List Bs):List O:=rm r (aY Ls) (c9 n (bi es))
section
variable {n:Nat}{es:Es}{Ls:List Bs}{p:Int}
def acR(hS:cH n es)(hp:p∈bo es):kW n (bi es) p=true:=by
 have hr:=hS.rng p hp;unfold kW bi;grind
def S3(hS:cH n es)(hL:dx n es Ls)(hp:p∈bo es):bW aJ aU 100 [.ptr 0 0 0,.int aB p] (lJ n es Ls)=aA (vE (lJ n es Ls) 0):=by
 have hr:=hS.rng p hp;refine Ys _ _ _ (o:=.doneM (.int aB 0) (lJ n es Ls)) ?_ (.done (by kernel_rfl));unfold Oa;rw[bF (by omega),be,dW,hL.len,bF (by omega),be,co aee (ago n hS.le (bi es) p),bN,acR hS hp,cN,be]
def Bq(hS:cH n es)(hL:dx n es Ls){b}(hg:c7 es p=aA b):bW aJ aU 94 [.ptr 0 0 0,.int aB p] (lJ n es Ls)=aA (tL (lJ n es Ls) (b,0)):=by
 have hp:=fp hg;have hr:=hS.rng p hp;have hb:=hL.at_ p b hg;refine aa5 _ _ _ (o:=.doneM (.tup [.str b,.int aB 0]) (lJ n es Ls)) ?_ (.done (by kernel_rfl));unfold Pn;rw[co RD (S3 hS hL hp),bN,ef rfl,be,aS (aZ hr.1),aS (aZ (by rw[dW,hL.len];omega)),eW,gM hb,de]
def kf(hS:cH n es)(hL:dx n es Ls)(hp:0<=p/\p < n) b:dx n (bQ es p b) (Ls.set p.toNat b):=by
 refine⟨by rw[sg];exact hL.len,λq c hq=>?_⟩;rw[D6]at hq;rw[Gq];split at hq
 ·rename_i e;cases hq;rw[bc (by rw[e]),bc (by rw[hL.len];omega)]
 ·have hq2:=hS.rng q (fp hq);rw[bh (by omega)];exact hL.at_ q c hq
def aiJ(hp:p∈bo es) b:bi (bQ es p b)=bi es:=Md λq=>by rw[oG hp]
def lK(hS:cH n es)(hL:dx n es Ls)(hp:p∈bo es){b:Bs}(hb:b.length<=252):bW aJ aU 61 [.ptr 0 0 0,.int aB p,.str b] (lJ n es Ls)=aA (jg (0,aY (Ls.set p.toNat b),c9 n (bi (bQ es p b)))):=by
 have hr:=hS.rng p hp;obtain⟨c,hc⟩:∃c,Ls[p.toNat]? = aA c:=⟨_,cI (by rw[hL.len];omega)⟩
 have e:(aY Ls).set p.toNat (aG b)=aY (Ls.set p.toNat b):=by simp[aY]
 rw[aiJ hp];refine aaC _ _ _ _ (o:=.doneM (.int aB 0) (rs (aY (Ls.set p.toNat b)) (c9 n (bi es)))) ?_ (.done (by kernel_rfl));unfold O8;rw[co RD (S3 hS hL hp),bN,dL rfl,bn,bF (by omega),be,bn,aS (aZ hr.1),aS (aZ (by rw[dW,hL.len];omega)),eW,gM hc,de,e]
def Ff(hS:cH n es)(hL:dx n es Ls){j}(hf:kK n (bi es)=aA j)(hj:j < n)(hq:(j:Int)∉bo es):bW aJ aU 60 [.ptr 0 0 0] (lJ n es Ls)=aA (re ((j),0,aY (Ls.set j []),c9 n (bi (bQ es j [])))):=by
 obtain⟨c,hc⟩:∃c,Ls[j]? = aA c:=⟨_,cI (by rw[hL.len];omega)⟩
 have e:(aY Ls).set j (aG [])=aY (Ls.set j []):=by simp[aY]
 have ht:eA (bi es) j aD=bi (bQ es j []):=by
  unfold eA bi;rw[qW hq];grind
 have h1:=agZ n hS.le (bi es) j hf;rw[ht]at h1;refine aaB _ _ (o:=.doneM (.tup [.int aB (j),.int aB 0]) (rs (aY (Ls.set j [])) (c9 n (bi (bQ es j []))))) ?_ (.done (by kernel_rfl));unfold O7;rw[cL aeC h1,dL rfl,bn,aS (by simp),bq,aS (aZ (by rw[dW,hL.len];omega)),eW,gM hc,de,e]
def Ta(hS:cH n es)(hL:dx n es Ls):bW aJ aU 107 [.ptr 0 0 0] (lJ n es Ls)=aA (xV (lJ n es Ls) (n - es.length:Nat)):=by
 have hn:=hS.le;have hl:=vy hS
 have w:W aB ((aY Ls).length - (aO (fO n (bi es))).length)=(n - es.length:Nat):=by
  rw[dW,hL.len,bR,uq hS,bd (by omega)];omega
 refine YC _ _ (o:=.doneM (.int aB (n - es.length:Nat)) (lJ n es Ls)) ?_ (.done (by kernel_rfl));unfold Od;rw[co RX (TP n hn (bi es)),bN,w]
def QR(hn:(bo es).Nodup)(hp:p∈bo es):∀q,q∈bo (fo es p)↔q∈bo es/\q≠p:=by
 intro q;obtain⟨⟨a,b⟩,hm,rfl⟩:=fi.1 hp;obtain⟨A,B,rfl⟩:=List.append_of_mem hm
 have hA:a∉bo A:=by
  intro h;rw[bo,li]at hn;exact(uG.1 hn).2.2 a h a (by simp) rfl
 have hB:a∉bo B:=by
  intro h;rw[bo,li]at hn;exact(nP.1 (uG.1 hn).2.1).1 h
 rw[Hd hA];simp only[bo,li,fJ,cG,dC];constructor
 ·rintro(h|h)
  ·exact⟨.inl h,λe=>hA (e ▸ h)⟩
  ·exact⟨.inr (.inr h),λe=>hB (e ▸ h)⟩
 grind
def Ql{q b}:∀{es},(bo es).Nodup->c7 (fo es p) q=aA b->c7 es q=aA b
 | [],_,h=>h
 |(a,x)::es,hn,h=>by
  obtain⟨h1,h2⟩:=nP.1 hn;unfold fo at h;split at h
  ·rw[c7]
   by_cases e:q=a
   ·exact fY (e ▸ fp h) h1
   grind
  ·rw[c7]at h |-
   split
   ·grind
   ·rename_i e;rw[bh e]at h;exact Ql h2 h
def Rk(hS:cH n es)(hL:dx n es Ls):dx n (fo es p) Ls:=⟨hL.len,λq b hq=>hL.at_ q b (Ql hS.nd hq)⟩
def Tc(hS:cH n es)(hL:dx n es Ls)(hp:p∈bo es):bW aJ aU 153 [.ptr 0 0 0,.int aB p] (lJ n es Ls)=aA (yc (0,aY Ls,c9 n (bi (fo es p)))):=by
 have hr:=hS.rng p hp;obtain⟨j,rfl⟩:∃j:Nat,p=j:=⟨p.toNat,by omega⟩
 have ht:eA (bi es) j aE=bi (fo es j):=by
  funext k;unfold eA bi
  by_cases e:k=j
  ·subst e;rw[bc rfl,bF];rw[QR hS.nd hp];simp
  ·rw[bh e];refine pq.2 ?_;rw[QR hS.nd hp];grind
 have h1:=agb n hS.le (bi es) j (by omega) (aZ hp);rw[ht]at h1;refine Zm _ _ _ (o:=.doneM (.int aB 0) (rs (aY Ls) (c9 n (bi (fo es j))))) ?_ (.done (by kernel_rfl));unfold OE;rw[cL aei h1]
end
section
variable {r:Int}{n:Nat}{es:Es}{Ls:List Bs}{p:Int}
def oI(hS:cH n es)(hL:dx n es Ls){l}(hg:c7 es p=aA (bA l))(hr:cX l=aD):bW aJ aU 104 [.ptr 0 0 0,.int aB p] (rM r n es Ls)=aA (nJ (rM r n es Ls) (bw l.prs,l.high,l.next,aD)):=by
 apply Oc
 ·unfold Hn;rw[co AY (Bq hS hL hg),bN,aQ (afV l hr),n4,dL rfl,bn]
 ·exact .done (by kernel_rfl)
def Tt(hS:cH n es)(hL:dx n es Ls){m}(hg:c7 es p=aA (cR m))(hr:cy m=aD):bW aJ aU 104 [.ptr 0 0 0,.int aB p] (rM r n es Ls)=aA (nJ (rM r n es Ls) ([],[],0,aE)):=by
 have h5:5<=(cR m).length:=by rw[uZ hr];unfold fg;omega
 apply Oc
 ·unfold Hn;rw[co AY (Bq hS hL hg),bN,aQ (afU (ny hr) h5 (PD hr))];rw[n4,dL rfl,bn]
 ·exact .done (by kernel_rfl)
def qc(hS:cH n es)(hL:dx n es Ls){m}(hg:c7 es p=aA (cR m))(hr:cy m=aD):bW aJ aU 95 [.ptr 0 0 0,.int aB p] (rM r n es Ls)=aA (jQ (rM r n es Ls) (aY m.seps,aO m.kids,m.high,m.next,aD)):=by
 have hb:=ny hr
 have hd:bP aJ 138 [.str (cR m)]=aA (.tup [eI m,.int aB 0]):=by
  have:=SB hr 0 (by rw[<-uZ hr];omega);rw[show fW 0=[] from rfl,fR]at this;rw[NV _ (by grind),this];rfl
 apply Po
 ·unfold Il;rw[co AY (Bq hS hL hg),bN,aQ hd,uU,dL rfl,bn]
 ·exact .done (by kernel_rfl)
def Bl(hS:cH n es)(hL:dx n es Ls){l}(hg:c7 es p=aA (bA l))(hr:cX l=aD):bW aJ aU 95 [.ptr 0 0 0,.int aB p] (rM r n es Ls)=aA (jQ (rM r n es Ls) ([],[],[],0,aE)):=by
 have hd:bP aJ 138 [.str (bA l)]=aA (.tup [.agg [.sl [],.sl [],.str [],.int aB 0],.int aB 4]):=by
  have hp:ki (bA l)=none:=by
   unfold ki;rw[bc (.inr (.inr (by simp[bA])))]
  rw[NV _ (by have:=pw hr;omega),hp];rfl
 apply Po
 ·unfold Il;rw[co AY (Bq hS hL hg),bN,aQ hd,uU,dL rfl,bn]
 ·exact .done (by kernel_rfl)
end
def dQ(ws:List br)(pl:Int):List Int:=ws.map (·.1)++[pl]
abbrev ai1(r:Int)(n:Nat)(es:Es)(Ls:List Bs)(l:List Int):d6:=.doneM (.own 6) (rM r n es Ls++[aN 3 [] 0,aN 3 (aO l) 0,aM 152 (aI [aH [],aH [],aG [],aC aB 0]) aE])
def ag5{r:Int}{n:Nat}{es:Es}{Ls}(hS:cH n es)(hL:dx n es Ls){k:Bs}(hk:k.length<=1000){p:Int}{ws}{pl:Int}{l:Lf}(h:jt es k p ws pl l):∀acc,acc.length+ws.length<=10000 ->
  ∃i:List V × List V × Bs × Int × Bool,bW aJ aU 95 [.ptr 0 0 0,.int aB p] (rM r n es Ls)=aA (jQ (rM r n es Ls) i) /\
   Go qk aD 5 (fF 103) (.head 0 (Co k i.2.2.2.2 r (aY Ls) (c9 n (bi es)) (aO (acc++[p])) i.1 i.2.1 i.2.2.1 i.2.2.2.1)) (ai1 r n es Ls (acc++dQ ws pl)):=by
 induction h with
 |@leaf p l hg hr =>
  intro acc _;refine⟨_,Bl hS hL hg hr,TY _ _ _ _ _ _ _ _ _ _ ?_ (.refl _)⟩;rfl
 |@inn p e nx i p' sts pl l hg hr hf hi hw ih =>
  intro acc ha;obtain⟨i2,h1,h2⟩:=ih (acc++[p]) (by grind);have e2:acc++[p]++dQ sts pl=acc++dQ ((p,e,nx,i)::sts) pl:=by simp[dQ]
  rw[e2]at h2;refine⟨_,qc hS hL hg hr,TY _ _ _ _ _ _ _ _ _ _ ?_ h2⟩;have hfd:=PZ (aX e nx) k (gv hr) hk;rw[hf]at hfd;unfold TX;rw[aQ hfd,De,ef rfl,aS (by simp),bq,fq hi,bL,aS (aZ (by rw[bR];grind)),fq hi,bL,co md h1,bN];simp[aO,iV]
def tZ{r n es Ls}(hS:cH n es)(hL:dx n es Ls){k}(hk:k.length<=1000){ws pl l}(h:jt es k r ws pl l)(hw:ws.length<=10000) :
  bW aJ aU 103 [.ptr 0 0 0,.str k] (rM r n es Ls)=aA (tC (rM r n es Ls) (aO (dQ ws pl))):=by
 obtain⟨i,h1,h2⟩:=ag5 (r:=r) hS hL hk h [] (by grind);refine Yx _ _ _ _ ?_ ⟨_,_,h2,by kernel_rfl⟩;unfold Ob;rw[co md h1,bN];rfl
def oR ws pl:(aO (dQ ws pl)).length=ws.length+1:=by rw[bR];simp[dQ]
def ai4 ws pl:(dQ ws pl)[ws.length]? = aA pl:=by unfold dQ;grind
theorem EP m e:vW (m,e)=aV [eI m,aC aB e]:=rfl
def ag4{n:Nat}{r:Int}{es:Es}{sts:List br}{k:Bs}{p to r':Int}{es':Es}(h:nV n r es sts k p to r' es'):cz k=aD->sts.length<=10000->∀Ls,dx n es Ls ->
  ∃Ls',dx n es' Ls'/\bW aJ aU 109 [.ptr 0 0 0,.sl (aO (sts.map (·.1)).reverse),.str k,.int aB p,.int aB to] (rM r n es Ls)=aA (xW (r',aY Ls',c9 n (bi es'))):=by
 induction h with
 |@top es k p to j hs hf hj hq hr =>
  intro _ _ Ls hL;have hs1:=qg hs (b:=[]) hj hq;have hL1:=kf hs hL (p:=(j:Int)) (by omega) [];rw[bq]at hL1;have hL2:=kf hs1 hL1 (p:=(j:Int)) (by omega) (cR (aX [(p,k),(to,[])] 0));refine⟨_,hL2,?_⟩;apply Hp
  ·unfold Du;rw[dL (by simp[aO]),bn,cL ED (Ff hs hL hf hj hq)];show(aT aJ _ [eI (aX [(p,k),(to,[])] 0)] _)=_;rw[aQ (sV _ (gv hr)),de];rw[cL lG (lK hs1 hL1 (fp xF) (ny hr))]
  ·exact .done (by kernel_rfl)
 |@room es sts k p to q e nx i e' hs hg hr hk hp hr' =>
  intro _ hl Ls hL;simp only[d8]at hl;have hr0:=hs.rng q (fp hg);have hk2:=(fd hk).2;have hL2:=kf hs hL hr0 (cR (aX e' nx));have w:W aB (((aO ((((q,e,nx,i)::sts).map (·.1)).reverse)).length:Int) - 1)=((sts.length:Nat):Int):=by rw[bR,zm,gm,d8,bd (by omega)];omega
  have hi:(((q,e,nx,i)::sts).map (·.1)).reverse[sts.length]? = aA q:=by grind
  have hput:=EY (aX e nx) k to (gv hr) (by omega);rw[hp]at hput;refine⟨_,hL2,?_⟩;apply Hp
  ·unfold Du;rw[ew (by rw[bR];grind),be,w,aS (by simp),bq,fq hi,bL,co md (qc hs hL hg hr),bN];rw[aQ hput,EP,uU,dL rfl,bn];rw[aQ (sV _ (gv hr')),de,cL lG (lK hs hL (fp hg) (ny hr'))]
  ·exact .done (by kernel_rfl)
 |@two es sts k p to q e nx i j ea eb fa fb r' es' hs hg hr hk hp hf hj hq hra hrb rfa rfb hspl hcase hup ih =>
  intro _ hl Ls hL;simp only[d8]at hl;have hr0:=hs.rng q (fp hg);have hk2:=(fd hk).2;have hs1:=qg hs (b:=[]) hj hq;have hL1:=kf hs hL (p:=(j:Int)) (by omega) [];rw[bq]at hL1;have hqj:q≠(j:Int):=λe=>hq (e ▸ fp hg)
  have hg1:c7 (bQ es j []) q=aA _:=(s8 hqj).trans hg;have hs2:=i4 hs1 (b:=cR (aX fa ((j:Int)+1))) (fp hg1);have hL2:=kf hs1 hL1 hr0 (cR (aX fa ((j:Int)+1)));have hg2:c7 (bQ (bQ es j []) q (cR (aX fa ((j:Int)+1)))) j=aA []:=(s8 hqj.symm).trans xF;have hL3:=kf hs2 hL2 (p:=(j:Int)) (by omega) (cR (aX fb nx));rw[bq]at hL3
  have hmid:cz (bp fa)=true:=by
   obtain⟨f1,_,f3,_⟩:=k6 hr;unfold rL at hspl;grind
  have hml:=(fd hmid).2;obtain⟨Ls',hL',hrec⟩:=ih hmid (by omega) _ hL3;have w:W aB (((aO ((((q,e,nx,i)::sts).map (·.1)).reverse)).length:Int) - 1)=((sts.length:Nat):Int):=by rw[bR,zm,gm,d8,bd (by omega)];omega
  have hi:(((q,e,nx,i)::sts).map (·.1)).reverse[sts.length]? = aA q:=by grind
  have hput:=EY (aX e nx) k to (gv hr) (by omega);rw[hp]at hput;have hsp:=ah6 (aX e nx) j (gv hr);rw[hspl]at hsp
  have htk:(aO ((((q,e,nx,i)::sts).map (·.1)).reverse)).take sts.length=aO (sts.map (·.1)).reverse:=by
   rw[fJ,Cd,<-oq];exact qi _ _ (by rw[bR];simp)
  have h0:KA (aO ((((q,e,nx,i)::sts).map (·.1)).reverse)) q (j:Int) (bp fa) r (aY (Ls.set j [])) (c9 n (bi (bQ es j []))) (aY (aX fa ((j:Int)+1)).seps) (aO (aX fa ((j:Int)+1)).kids) (bp fa) ((j:Int)+1) (aY (aX fb nx).seps) (aO (aX fb nx).kids) (bp fb) nx =
    aA (.doneM (.tup []) (rm r' (aY Ls') (c9 n (bi es'))++[aM 152 (eI (aX fa ((j:Int)+1))) aE,aM 152 (eI (aX fb nx)) aE])):=by
   unfold KA;rw[aQ (sV _ (gv rfa)),de];rw[cL lG (lK hs1 hL1 (fp hg1) (ny rfa))];rw[aQ (sV _ (gv rfb)),de];have hw2:=lK hs2 hL2 (fp hg2) (ny rfb);rw[bq]at hw2;rw[cL lG hw2,aS (k7 _),w,aS (by simp),bq,aS (aZ (by rw[bR];simp)),htk];rw[cL RF hrec]
  refine⟨Ls',hL',Hp _ _ _ _ _ _ _ (o:=.head 0 (Cr (aO ((((q,e,nx,i)::sts).map (·.1)).reverse)) q (j:Int) (bp fa) r (aY (Ls.set j [])) (c9 n (bi (bQ es j []))) (aY (aX fa ((j:Int)+1)).seps) (aO (aX fa ((j:Int)+1)).kids) (bp fa) ((j:Int)+1) (aY (aX fb nx).seps) (aO (aX fb nx).kids) (bp fb) nx)) ?_ ⟨_,_,ag8 _ _ _ _ _ _ _ _ _ _ _ _ _ _ _ h0 (.refl _),by kernel_rfl⟩⟩;unfold Du;rw[ew (by rw[bR];grind),be,w,aS (by simp),bq,fq hi,bL,co md (qc hs hL hg hr),bN];rw[aQ hput,EP,uU,ew (by decide),be,cL ED (Ff hs hL hf hj hq)];rw[aQ hsp];rw[X1,aQ (mb k (bp fa) (by omega)),bX];rcases hcase with⟨c1,c2,rfl⟩|⟨c1,rfl,c2⟩
  ·have hp2:=EY (aX ea ((j:Int)+1)) k to (gv hra) (by omega);rw[c2]at hp2;rw[c1,bn];rw[aQ hp2,EP,uU]
  ·have hp2:=EY (aX eb nx) k to (gv hrb) (by omega);rw[c2]at hp2;rw[c1,be];rw[aQ hp2,EP,uU]
end Go.Proofs.YtlphgcjepphhcaaGreat
