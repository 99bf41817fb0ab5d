/-
  Texts that the last one stands on.
-/
import Derived.Test.YtlphgcjepphhcaaGreatY5
open Nat renaming le_refl->bK,mod_eq_of_lt->zJ,add_zero->d0,lt_or_ge->kN,zero_le->iB,zero_add->ew,add_assoc->iA,add_comm->p8,eq_zero_or_pos->zI,sub_self->jB,le_trans->j4,min_eq_left->w7
open List renaming length_cons->cG,mem_of_getElem?->cH,map_nil->gM,map_cons->di,mem_cons->bO,append_assoc->bw,cons_append->dv,length_nil->dR,length_append->cO,length_take->d9,length_drop->eO,take_append_of_le_length->wZ,take_of_length_le->kJ,take_length->jZ,pairwise_cons->fV,mem_map->ef,getElem?_eq_getElem->bG,getElem?_eq_none->wV,replicate->bH,length_replicate->wY,take_zero->pY,nil_append->dp,drop_eq_nil_of_le->oI,append_nil->dH,take_append_drop->iz,getElem?_eq_some_iff->bn,mem_append->br,mem_of_mem_take->nc,mem_of_mem_drop->lx,drop_drop->oH,length->oJ,drop_zero->si,take_succ_cons->uI,all_eq_true->dB,getElem?_append_left->dx,getElem?_append_right->df,drop_eq_getElem_cons->sh,nodup_cons->uG,mem_cons_self->cz,perm_middle->oK,map_append->fK,nodup_append->zD,nodup_nil->Do,length_map->dh,range->dI,perm_ext_iff_of_nodup->Rq,mem_filter->m9,mem_range->zC,filter_eq_self->I7,length_range->zA,getLastD_eq_getLast?->Dm,dropLast_append_of_ne_nil->I6,eq_nil_or_concat->eK,drop_append->sg,reverse_cons->md,pairwise_map->Je,mem_flatMap->ib,pairwise_append->dZ,exists_cons_of_ne_nil->m5,flatMap_cons->fT,append_eq_nil_iff->pX,length_pos_iff->iM,mem_append_left->kH,mem_append_right->m8,getLast?_eq_some_getLast->Rn,getElem?_map->dQ,getElem_mem->wX,length_reverse->zB,map_eq_nil_iff->Jc,perm_append_comm->Dr,dropLast_concat->se,dropLast_cons_of_ne_nil->mZ,mem_cons_of_mem->iN,mem_singleton->eV,concat_eq_append->hX,getElem?_of_mem->wW,getElem?_take->ia,getElem?_drop->gB,pairwise_iff_getElem->Dq,eq_nil_of_length_eq_zero->m4,reverse_reverse->Dt,filter_append->m7,any_eq_true->zx,any_eq_false->mY,drop_eq_nil_iff->Dj,filter_cons_of_neg->Dk,filter_cons_of_pos->Dl,set_append_right->Du,singleton_append->Jh,flatten_cons->I8,map_replicate->Jd,take_add_one->zF
open Bool renaming true_and->du,and_eq_true->bD,or_eq_true->mU,not_true->bv,false_or->gL,not_eq_true'->i7,or_true->pR,and_false->iL,not_false->gi
open Option renaming bind_some->aL,getD_some->uO
open Int renaming toNat_of_nonneg->I4
namespace Go.Proofs.YtlphgcjepphhcaaGreat
open Go Go.Lite
set_option linter.unusedSimpArgs false
set_option linter.unusedVariables false
set_option maxRecDepth 10000
abbrev Pr:=Bs × Bs
structure Lf where
 prs:List Pr
 high:Bs
 next:Int
abbrev pV (p:Pr):V:=.agg [.str p.1,.str p.2]
def aN (l:List Pr):List V:=l.map pV
abbrev eL (l:Lf):V:=.agg [.sl (aN l.prs),.str l.high,.int .i64 l.next]
theorem cL (l:List Pr):(aN l).length=l.length:=by simp [aN]
theorem eA {l:List Pr} {n:Nat} {x:Pr} {k:V->R} (h:l[n]? = some x):aS (aN l) n k=k (pV x):=F0 h
structure qa (l:Lf):Prop where
 prs:l.prs.length<=1000
 pr:∀p∈l.prs,p.1.length<=1000/\p.2.length<=1000
 high:l.high.length<=1000
def bc:List Pr->Nat
 | []=>0
 | p::r=>2+p.1.length+p.2.length+bc r
theorem Q5:∀{l:List Pr},(∀p∈l,p.1.length<=1000/\p.2.length<=1000)->bc l<=2002 * l.length
 | [],_=>bK _
 | p::r,h=>by
  have h1:=h p (by simp)
  have h2:=Q5 (l:=r) fun x hx=>h x (by simp [hx])
  simp only [bc,cG]
  omega
def ix (l:Lf):Nat:=5+l.high.length+bc l.prs
theorem abl {l:Lf} (h:qa l):ix l<=2100000:=by
 have h1:=Q5 h.pr
 have h2:=h.prs
 have h3:=h.high
 unfold ix
 omega
theorem IM (p:Pr) (h1:p.1.length<=1000) (h2:p.2.length<=1000):bo aA 165 [pV p]=some (.int .i64 ((2+p.1.length+p.2.length:Nat):Int)):=by
 refine Un _ _ ?_
 unfold EM
 rw [aU (n:=2+(p.1.length:Int)) (by omega),aU (by omega)]
 simp
theorem abm (l:List Pr) (hl:l.length<=1000) (hs:∀p∈l,p.1.length<=1000/\p.2.length<=1000):∀(r:List Pr) (k a:Nat),l.drop k=r->a<=2000+2002 * k ->
  Go qk false 0 (fF 159) (.head 0 (uQ (a:Int) (aN l) (l.length:Int) (k:Int))) (.done (.int .i64 ((a+bc r:Nat):Int))):=by
 intro r
 induction r with
 | nil =>
  intro k a hr ha
  have h1:=drop_nil hr
  refine Pl _ _ _ _ ?_ (.refl _)
  unfold HC
  rw [decide_eq_false (by omega)];rfl
 | cons x r ih =>
  intro k a hr ha
  obtain ⟨h1,h2,h3⟩:=er hr
  have hx:=hs x (cH h1)
  refine Pl _ _ _ _ (o:=.head 0 (uQ ((a+(2+x.1.length+x.2.length):Nat):Int) (aN l) (l.length:Int) ((k+1:Nat):Int))) ?_ ?_
  ·unfold HC
   rw [decide_eq_true (by omega),cond_true,aB (by simp),aY,eA h1]
   show (aE aA _ [pV x] _)=_
   rw [aH (IM x hx.1 hx.2),bX,aU (by omega),aU (by omega)]
   simp
  ·have:=ih (k+1) (a+(2+x.1.length+x.2.length)) h2 (by omega)
   rw [bc,show a+(2+x.1.length+x.2.length+bc r)=a+(2+x.1.length+x.2.length)+bc r from by omega]
   exact this
theorem Ij (l:Lf) (h:qa l):bo aA 159 [eL l]=some (.int .i64 (ix l:Int)):=by
 have hh:=h.high
 refine Uh _ _ _ (o:=.head 0 (uQ ((5+l.high.length:Nat):Int) (aN l.prs) (l.prs.length:Int) ((0:Nat):Int))) ?_ (abm l.prs h.prs h.pr l.prs 0 _ rfl (by omega))
 unfold KZ
 rw [cL,aU (by omega)]
 simp
def vu (l:Lf):Bool:=decide (21+bc l.prs<=252)
theorem Fw (l:Lf) (h:qa l):bo aA 118 [eL l]=some (.bool (vu l)):=by
 refine TT _ _ _ ?_
 have h1:=abl h
 have h2:=h.high
 unfold EC
 rw [aH (Ij l h),bX,aU (n:=(ix l:Int) - (l.high.length:Int)) (by omega),aU (by omega)]
 unfold vu
 rw [decide_eq_decide.2 (show (ix l:Int) - (l.high.length:Int)+16<=252↔21+bc l.prs<=252 by unfold ix;omega)]
def dq (s:Bs):Bool:=decide (s.length<=32)
theorem wP (s:Bs):bo aA 74 [.str s]=some (.bool (dq s)):=by
 refine Va _ ?_
 unfold E7 dq
 rw [decide_eq_decide.2 (show (s.length:Int)<=32↔s.length<=32 by omega)]
def ky (p:Bs):List Pr->Bool
 | []=>true
 | x::r=>bq x.1 && dq x.2 && lt p x.1 && ky x.1 r
def lW (p:Bs) (l:List Pr):Bs:=(l.map (·.1)).getLastD p
def sV (l:Lf):Bool:=decide (0<=l.next) && decide (l.next<=1024) && vu l
def cJ (l:Lf):Bool:=ky [] l.prs && fh (lW [] l.prs) l.high && sV l
theorem aac (l:Lf) (h:qa l):∀(r:List Pr) (k:Nat) (p:Bs),l.prs.drop k=r ->
  Go qk false 0 (fF 115) (.head 0 (xe p (aN l.prs) (l.prs.length:Int) (k:Int) (aN l.prs) l.high l.next)) (.done (.bool (ky p r && fh (lW p r) l.high && sV l))):=by
 have hl:=h.prs
 intro r
 induction r with
 | nil =>
  intro k p hr
  have h1:=drop_nil hr
  refine yU _ _ _ _ _ _ _ ?_ (.refl _)
  unfold Cm
  rw [decide_eq_false (by omega),cond_false]
  simp only [aH (Fw l h),bS,aH (iX l.high),ky,du,lW,gM,List.getLastD_nil,fh,sV]
  cases l.high==[] with
  | true =>
   by_cases h1:0<=l.next
   ·rw [decide_eq_true h1]
    cases decide (l.next<=1024)<;>rfl
   ·rw [decide_eq_false h1]
    rfl
  | false =>
   cases bq l.high with
   | false=>rfl
   | true =>
    show (cond (lt p l.high) _ _)=_
    cases lt p l.high with
    | false=>rfl
    | true =>
     by_cases h1:0<=l.next
     ·rw [decide_eq_true h1]
      cases decide (l.next<=1024)<;>rfl
     ·rw [decide_eq_false h1]
      rfl
 | cons x r ih =>
  intro k p hr
  obtain ⟨h1,h2,h3⟩:=er hr
  have w:W .i64 ((k:Int)+1)=((k+1:Nat):Int):=by rw [aU (by omega)];omega
  have e0:Cm p (aN l.prs) (l.prs.length:Int) (k:Int) (aN l.prs) l.high l.next=cond (!bq x.1) (some (.done (V.bool false))) (cond (!dq x.2) (some (.done (V.bool false))) (cond (!lt p x.1) (some (.done (V.bool false))) (some (.head 0 (xe x.1 (aN l.prs) (l.prs.length:Int) ((k+1:Nat):Int) (aN l.prs) l.high l.next))))):=by
   unfold Cm
   rw [decide_eq_true (by omega),cond_true,aB (by simp),aY,eA h1,eo,aH (iX x.1),bS,aH (wP x.2),bS,MZ x.1 p,w]
  have e1:(ky p (x::r) && fh (lW p (x::r)) l.high && sV l)=(bq x.1 && (dq x.2 && (lt p x.1 && (ky x.1 r && fh (lW x.1 r) l.high && sV l)))):=by
   unfold lW
   rw [ky,di,List.getLastD_cons]
   simp only [Bool.and_assoc]
  rw [e1]
  cases q1:bq x.1 with
  | false=>exact yU _ _ _ _ _ _ _ (e0.trans (by rw [q1];rfl)) (.refl _)
  | true =>
   cases q2:dq x.2 with
   | false=>exact yU _ _ _ _ _ _ _ (e0.trans (by rw [q1,q2];rfl)) (.refl _)
   | true =>
    cases q3:lt p x.1 with
    | false=>exact yU _ _ _ _ _ _ _ (e0.trans (by rw [q1,q2,q3];rfl)) (.refl _)
    | true =>
     refine yU _ _ _ _ _ _ _ (e0.trans (by rw [q1,q2,q3];rfl)) ?_
     simp only [du]
     exact ih (k+1) x.1 h2
theorem wb (l:Lf) (h:qa l):bo aA 115 [eL l]=some (.bool (cJ l)):=by
 refine TN _ _ _ ?_ (aac l h l.prs 0 [] rfl)
 unfold KH
 rw [cL]
 rfl
theorem yM:∀{l:List Pr} {p:Bs},ky p l=true->∀x∈l,bq x.1=true/\dq x.2=true
 | [],_,_,x,hx=>by cases hx
 | y::l,p,h,x,hx=>by
  simp only [ky,bD] at h
  rcases bO.1 hx with rfl | hx
  ·exact h.1.1
  ·exact yM h.2 x hx
theorem zn:∀{l:List Pr},(∀x∈l,bq x.1=true)->3 * l.length<=bc l
 | [],_=>bK _
 | x::l,h=>by
  have h1:=(iE (h x (by simp))).1
  have h2:=zn (l:=l) fun y hy=>h y (by simp [hy])
  simp only [bc,cG]
  omega
theorem VH {l:Lf}:sV l=true↔0<=l.next/\l.next<=1024/\bc l.prs<=231:=by
 unfold sV vu
 simp only [bD,decide_eq_true_eq]
 constructor
 ·rintro ⟨⟨a,b⟩,c⟩;exact ⟨a,b,by omega⟩
 ·rintro ⟨a,b,c⟩;exact ⟨⟨a,b⟩,by omega⟩
theorem rq {l:Lf}:cJ l=true↔ky [] l.prs=true/\fh (lW [] l.prs) l.high=true/\0<=l.next/\l.next<=1024/\bc l.prs<=231:=by
 unfold cJ
 rw [bD,bD,VH,and_assoc]
theorem yc {p h:Bs} (e:fh p h=true):h.length<=16:=by
 unfold fh at e
 simp only [mU,bD,beq_iff_eq] at e
 rcases e with rfl | ⟨e,_⟩
 ·simp
 ·exact (iE e).2
theorem Cg {l:Lf} (h:cJ l=true):qa l:=by
 obtain ⟨h1,h2,_,_,h3⟩:=rq.1 h
 have hm:=yM h1
 have hg:=zn fun x hx=>(hm x hx).1
 have hh:=yc h2
 refine ⟨by omega,fun p hp=>?_,by omega⟩
 have q1:=(iE (hm p hp).1).2
 have q2:=(hm p hp).2
 simp only [dq,decide_eq_true_eq] at q2
 omega
def gx:List Pr->Bs
 | []=>[]
 | p::r=>cC p.1++cC p.2++gx r
theorem OT:∀l:List Pr,(gx l).length=bc l
 | []=>rfl
 | p::l=>by rw [gx,bc];simp [OT l];omega
def Av (l:Lf):Bs:=UInt8.ofNat l.prs.length::(cj 2 l.next.toNat++(cC l.high++gx l.prs))
def bI (l:Lf):Bs:=76::Av l
theorem Ff (l:Lf):(bI l).length=ix l:=by
 unfold bI Av ix
 simp [eB,OT]
 omega
theorem VF (l:List Pr) (hll:l.length<=1000):∀(r:List Pr) (k:Nat) (d:Bs),l.drop k=r->(∀x∈r,x.1.length<=255/\x.2.length<=255)->d.length+bc r<=100000 ->
  Go qk false 0 (fF 120) (.head 0 (xf (d++fp (bc r)) (d.length:Int) (aN l) (l.length:Int) (k:Int))) (.done (.str (d++gx r))):=by
 intro r
 induction r with
 | nil =>
  intro k d hr _ _
  have h1:=drop_nil hr
  refine Pe _ _ _ _ _ ?_ (.refl _)
  unfold Hs
  rw [decide_eq_false (by omega)]
  simp [bc,gx]
 | cons x r ih =>
  intro k d hr h hd
  obtain ⟨h1,h2,h3⟩:=er hr
  obtain ⟨hx1,hx2⟩:=h x (by simp)
  have w:W .i64 ((k:Int)+1)=((k+1:Nat):Int):=by rw [aU (by omega)];omega
  have hw:bc (x::r)=x.1.length+1+(x.2.length+1+bc r):=by rw [bc];omega
  rw [hw] at hd |-
  have e1:=yG d x.1 (x.1.length+1+(x.2.length+1+bc r)) (d.length:Int) rfl hx1 (by omega)
  rw [show x.1.length+1+(x.2.length+1+bc r) - (x.1.length+1)=x.2.length+1+bc r by omega] at e1
  have e2:=yG (d++cC x.1) x.2 (x.2.length+1+bc r) ((d.length:Int)+x.1.length+1) (by simp;omega) hx2 (by omega)
  rw [show x.2.length+1+bc r - (x.2.length+1)=bc r by omega] at e2
  refine Pe _ _ _ _ _ (o:=.head 0 (xf (d++cC x.1++cC x.2++fp (bc r)) ((d++cC x.1++cC x.2).length:Int) (aN l) (l.length:Int) ((k+1:Nat):Int))) ?_ ?_
  ·unfold Hs
   rw [decide_eq_true (by omega),cond_true,aB (by simp),aY,eA h1,eo,aH (yH e1 (by simp [c7];omega) (by simp only [c7];omega)),gP,
    aH (yH e2 (by simp [c7];omega) (by simp only [c7];omega)),gP,w]
   have:(d.length:Int)+x.1.length+1+x.2.length+1=((d++cC x.1++cC x.2).length:Int):=by simp;omega
   rw [this]
  ·have:=ih (k+1) (d++cC x.1++cC x.2) h2 (fun y hy=>h y (by simp [hy])) (by simp;omega)
   rw [gx]
   simpa [bw] using this
theorem LF (l:Lf) (h:cJ l=true):bo aA 120 [eL l]=some (.str (bI l)):=by
 have hsm:=Cg h
 obtain ⟨h1,h2,h3,h4,h5⟩:=rq.1 h
 have hm:=yM h1
 have hg:=zn fun x hx=>(hm x hx).1
 have hh:=yc h2
 obtain ⟨nn,hnn⟩:∃nn:Nat,l.next=(nn:Int):=⟨l.next.toNat,by omega⟩
 obtain ⟨c,hc⟩:∃c:UInt8,c=UInt8.ofNat l.prs.length:=⟨_,rfl⟩
 have e0:rj [76] ((ix l:Nat):Int)=([76]++fp (1+(2+(l.high.length+1+bc l.prs))),0):=by
  have hz:ix l=1+(1+(2+(l.high.length+1+bc l.prs))):=by unfold ix;omega
  unfold rj
  rw [if_neg (by omega),if_neg (by simp;omega),aY,hz]
  congr 3
  simp
 have e1:=vY [76] (1+(2+(l.high.length+1+bc l.prs))) 1 l.prs.length 1 1 rfl rfl (by omega) (by omega) (by omega) (by omega)
 have f1:cj 1 l.prs.length=[c]:=by
  rw [hc]
  show [UInt8.ofNat (l.prs.length % 256)]=_
  rw [zJ (by omega)]
 rw [f1,show 1+(2+(l.high.length+1+bc l.prs)) - 1=2+(l.high.length+1+bc l.prs) by omega] at e1
 have e2:=vY ([76]++[c]) (2+(l.high.length+1+bc l.prs)) 2 nn 2 2 rfl rfl (by omega) (by omega) (by omega) (by omega)
 rw [show 2+(l.high.length+1+bc l.prs) - 2=l.high.length+1+bc l.prs by omega] at e2
 have e3:=yG ([76]++[c]++cj 2 nn) l.high (l.high.length+1+bc l.prs) 4 (by simp [eB]) (by omega) (by omega)
 rw [show l.high.length+1+bc l.prs - (l.high.length+1)=bc l.prs by omega] at e3
 have hd:([76]++[c]++cj 2 nn++cC l.high).length=4+l.high.length+1:=by simp [eB];omega
 have hl:=VF l.prs hsm.prs l.prs 0 ([76]++[c]++cj 2 nn++cC l.high) rfl (fun x hx=>by
  have q1:=(iE (hm x hx).1).2
  have q2:=(hm x hx).2
  simp only [dq,decide_eq_true_eq] at q2
  omega) (by rw [hd];omega)
 have hfin:[76]++[c]++cj 2 nn++cC l.high++gx l.prs=bI l:=by
  unfold bI Av
  rw [hnn,hc]
  simp
 rw [hfin] at hl
 have w0:W .u64 (l.prs.length:Int)=(l.prs.length:Int):=mh (by omega)
 have w1:W .u64 (nn:Int)=(nn:Int):=mh (by omega)
 have hat:(4:Int)+(l.high.length:Int)+1=(([76]++[c]++cj 2 nn++cC l.high).length:Nat):=by rw [hd];omega
 refine TX _ _ _ ?_ hl
 unfold KL
 have s76:[UInt8.ofNat ((76:Int)).toNat]=([76]:Bs):=rfl
 rw [aH (wb l hsm),bS,h,bv,cond_false,aH (Ij l hsm),bX,s76,aH (Ob e0 (by decide)),lL,cL,w0,
  aH (vZ e1 (by omega) (by simp [c7];omega)),lL,hnn,w1,aH (vZ e2 (by omega) (by simp [c7];omega)),lL,
  aH (yH e3 (by simp [c7,eB];omega) (by simp only [c7];omega)),gP,hat]
 rfl
theorem zh (A t B:Bs) (h:t.length<=255):gy (A++(cC t++B)) ((A.length:Nat):Int)=(t,((A.length+1+t.length:Nat):Int),0):=by
 unfold gy
 rw [if_pos (by simp;omega),aY,List.drop_left]
 have hc:(UInt8.ofNat t.length).toNat=t.length:=by simp;omega
 simp only [cC,dv]
 rw [if_neg (by rw [hc];simp),hc]
 simp
abbrev OE (ps:List Pr) (high:Bs) (next:Int) (at_:Nat):V:=.tup [.agg [.sl (aN ps),.str high,.int .i64 next],.int .i64 (at_:Int),.bool true]
theorem OF (s:Bs) (hs:c7 s) (n:Nat) (hn:n<=1000) (high:Bs) (next:Int):∀(r dn:List Pr) (A:Bs),s=A++gx r->n=dn.length+r.length->(∀x∈r,x.1.length<=255/\x.2.length<=255) ->
  Go qk false 0 (fF 175) (.head 1 (zZ s (n:Int) (A.length:Int) (n:Int) (dn.length:Int) high next (aN dn))) (.done (OE (dn++r) high next s.length))
 | [],dn,A,hA,hl,_=>by
  refine Pq _ _ _ _ _ _ _ _ ?_ (.refl _)
  unfold HH
  simp only [dR,d0] at hl
  rw [decide_eq_false (by omega),cond_false,hA]
  simp [gx]
 | x::r,dn,A,hA,hl,hx=>by
  obtain ⟨hx1,hx2⟩:=hx x (by simp)
  simp only [cG] at hl
  have e1:gy s (A.length:Nat)=(x.1,(((A++cC x.1).length:Nat):Int),0):=by
   rw [hA,gx,bw,zh A x.1 _ hx1]
   simp;omega
  have e2:gy s (((A++cC x.1).length:Nat):Int)=(x.2,(((A++cC x.1++cC x.2).length:Nat):Int),0):=by
   rw [hA,gx,bw,<-bw A,zh (A++cC x.1) x.2 _ hx2]
   simp;omega
  have w:W .u64 ((dn.length:Int)+1)=(((dn++[x]).length:Nat):Int):=by rw [mh (by omega)];simp
  have ih:=OF s hs n hn high next r (dn++[x]) (A++cC x.1++cC x.2) (by rw [hA,gx];simp) (by simp;omega) (fun y hy=>hx y (by simp [hy]))
  rw [show dn++[x]++r=dn++x::r by simp] at ih
  refine Pq _ _ _ _ _ _ _ _ (o:=.head 2 (oP s (n:Int) (A.length:Int) (n:Int) (dn.length:Int) 0 high next [] [] (aN dn))) ?_
   (aaP _ _ _ _ _ _ _ _ _ _ (o:=.head 2 (oP s (n:Int) ((A++cC x.1).length:Nat) (n:Int) (dn.length:Int) 1 high next x.1 [] (aN dn))) ?_
   (aaQ _ _ _ _ _ _ _ _ _ _ (o:=.head 2 (oP s (n:Int) ((A++cC x.1++cC x.2).length:Nat) (n:Int) (dn.length:Int) 2 high next x.1 x.2 (aN dn))) ?_
   (aaR _ _ _ _ _ _ _ _ _ _ ?_ ih)))
  ·unfold HH
   rw [decide_eq_true (by omega),cond_true]
  ·unfold Pv
   rw [aH (jV e1 hs),gP,de rfl,cond_false]
  ·unfold Pw
   rw [aH (jV e2 hs),gP,de rfl,cond_false]
  ·unfold Px
   rw [aB (decide_eq_true (by simp only [cL,cO,d9,eO,cG,dR];omega)),w]
   simp [aN]
theorem ZZ (l:Lf) (h:cJ l=true):bo aA 175 [.str (bI l)]=some (OE l.prs l.high l.next (bI l).length):=by
 have hsm:=Cg h
 obtain ⟨h1,h2,h3,h4,h5⟩:=rq.1 h
 have hm:=yM h1
 have hg:=zn fun x hx=>(hm x hx).1
 have hh:=yc h2
 have hlen:=Ff l
 have hs:c7 (bI l):=by rw [c7,hlen];unfold ix;omega
 obtain ⟨nn,hnn⟩:∃nn:Nat,l.next=(nn:Int):=⟨l.next.toNat,by omega⟩
 have hpr:∀x∈l.prs,x.1.length<=255/\x.2.length<=255:=fun x hx=>by
  have q1:=(iE (hm x hx).1).2
  have q2:=(hm x hx).2
  simp only [dq,decide_eq_true_eq] at q2
  omega
 have g1:fY (bI l) 1 1=(((l.prs.length:Nat):Int),0):=by
  unfold fY
  rw [if_pos (yO (by omega) (by omega) (by omega) (by rw [hlen];unfold ix;omega))]
  have:(bI l).drop 1=UInt8.ofNat l.prs.length::(cj 2 l.next.toNat++(cC l.high++gx l.prs)):=rfl
  show (((dY (((bI l).drop 1).take 1):Nat):Int),(0:Int))=_
  rw [this]
  simp [dY]
  omega
 have q16:(256:Nat) ^ 2=65536:=by decide
 have g2:fY (bI l) 2 2=(l.next,0):=by
  unfold fY
  rw [if_pos (yO (by omega) (by omega) (by omega) (by rw [hlen];unfold ix;omega))]
  have:(bI l).drop 2=cj 2 l.next.toNat++(cC l.high++gx l.prs):=rfl
  show (((dY (((bI l).drop 2).take 2):Nat):Int),(0:Int))=_
  rw [this,wZ (by rw [eB];omega),kJ (by rw [eB];omega),C1 2 l.next.toNat (by omega)]
  rw [hnn];simp
 have hA:(76::UInt8.ofNat l.prs.length::cj 2 l.next.toNat:Bs).length=4:=by simp [eB]
 have g3:gy (bI l) 4=(l.high,(((76::UInt8.ofNat l.prs.length::(cj 2 l.next.toNat++cC l.high):Bs).length:Nat):Int),0):=by
  have e:bI l=(76::UInt8.ofNat l.prs.length::cj 2 l.next.toNat)++(cC l.high++gx l.prs):=rfl
  have:=zh (76::UInt8.ofNat l.prs.length::cj 2 l.next.toNat) l.high (gx l.prs) (by omega)
  rw [hA] at this
  rw [e]
  refine this.trans ?_
  simp [eB];omega
 have hAA:bI l=(76::UInt8.ofNat l.prs.length::(cj 2 l.next.toNat++cC l.high))++gx l.prs:=by simp [bI,Av]
 generalize hAd:(76::UInt8.ofNat l.prs.length::(cj 2 l.next.toNat++cC l.high):Bs)=A at g3 hAA
 have w:W .i64 l.next=l.next:=aU (by omega)
 refine K3 _ (o:=.head 0 (DI (bI l) (l.prs.length:Int) (A.length:Int) l.high l.next)) ?_ (aaL _ _ _ _ _ rfl ?_)
 ·unfold EP
  rw [aH (jl g1 hs),jh,aH (jl g2 hs),jh,aH (jV g3 hs),gP,de rfl,cond_false,cond_false,cond_false,w]
  rfl
 ·cases hp:l.prs with
  | nil =>
   refine Pp _ _ _ _ _ _ ?_ (.refl _)
   unfold HG
   rw [decide_eq_false (by simp),cond_false]
   rw [hp] at hAA
   rw [hAA]
   simp [gx,aN]
  | cons x r =>
   rw [hp] at hAA hpr
   have hN:l.prs.length<=1000:=by omega
   rw [hp,cG] at hN
   obtain ⟨hx1,hx2⟩:=hpr x (by simp)
   have e1:gy (bI l) (A.length:Nat)=(x.1,(((A++cC x.1).length:Nat):Int),0):=by
    rw [hAA,gx,bw,zh A x.1 _ hx1]
    simp;omega
   have e2:gy (bI l) (((A++cC x.1).length:Nat):Int)=(x.2,(((A++cC x.1++cC x.2).length:Nat):Int),0):=by
    rw [hAA,gx,bw,<-bw A,zh (A++cC x.1) x.2 _ hx2]
    simp;omega
   have fin:=OF (bI l) hs (r.length+1) hN l.high l.next r [x] (A++cC x.1++cC x.2) (by rw [hAA,gx];simp) (by simp;omega) (fun y hy=>hpr y (by simp [hy]))
   rw [cG]
   refine Pp _ _ _ _ _ _ (o:=.head 2 (oO (bI l) ((r.length+1:Nat):Int) (A.length:Int) ((r.length+1:Nat):Int) 0 l.high l.next [] [])) ?_
    (aaM _ _ _ _ _ _ _ _ (o:=.head 2 (oO (bI l) ((r.length+1:Nat):Int) ((A++cC x.1).length:Nat) ((r.length+1:Nat):Int) 1 l.high l.next x.1 [])) ?_
    (aaN _ _ _ _ _ _ _ _ (o:=.head 2 (oO (bI l) ((r.length+1:Nat):Int) ((A++cC x.1++cC x.2).length:Nat) ((r.length+1:Nat):Int) 2 l.high l.next x.1 x.2)) ?_
    (aaO _ _ _ _ _ _ _ _ ?_ fin)))
   ·unfold HG
    rw [decide_eq_true (by omega),cond_true]
   ·unfold Ps
    rw [aH (jV e1 hs),gP,de rfl,cond_false]
   ·unfold Pt
    rw [aH (jV e2 hs),gP,de rfl,cond_false]
   ·unfold Pu
    rw [aB (decide_eq_true (by simp))]
    rfl
theorem Ti (l:Lf) (h:cJ l=true):bo aA 129 [.str (bI l)]=some (.tup [eL l,.int .i64 0]):=by
 have hsm:=Cg h
 obtain ⟨h1,h2,h3,h4,h5⟩:=rq.1 h
 have hh:=yc h2
 have hlen:=Ff l
 have hs:c7 (bI l):=by rw [c7,hlen];unfold ix;omega
 refine KS _ ?_
 unfold AR
 rw [decide_eq_false (by rw [hlen];unfold ix;omega),cond_false,aH (ZZ l h),Ks,bv,cond_false]
 show (aE aA _ [eL l] _)=_
 rw [aH (wb l hsm),bS,h,bv,cond_false,aB (by simp),aY,aB (by simp),jZ,List.drop_length,aH (JS [] (by simp [c7])),eg]
 rfl
def aW (l:List Pr):List Bs:=l.map (·.1)
theorem tj {l:List Pr} {i:Nat} {x:Pr} (h:l[i]? = some x):(aW l)[i]? = some x.1:=by simp [aW,h]
theorem o9 (l:List Pr):(aW l).length=l.length:=by simp [aW]
theorem OI:∀{l:List Pr} {p:Bs},ky p l=true->(∀x∈l,lt p x.1=true)/\jD (aW l)
 | [],_,_=>⟨fun _ h=>(by cases h),.nil⟩
 | y::l,p,h=>by
  simp only [ky,bD] at h
  obtain ⟨h1,h2⟩:=OI h.2
  refine ⟨fun x hx=>?_,fV.2 ⟨fun k hk=>?_,h2⟩⟩
  ·rcases bO.1 hx with rfl | hx
   ·exact h.1.2
   ·exact lt_trans h.1.2 (h1 x hx)
  ·obtain ⟨x,hx,rfl⟩:=ef.1 hk
   exact h1 x hx
theorem aad {l:Lf} (h:cJ l=true):jD (aW l.prs):=(OI (rq.1 h).1).2
theorem S1 (a b:Bs):bo aA 158 [.str a,.str b]=some (.int .i64 (if a==b then 0 else if lt a b then -1 else 1)):=B3 (g:=AG) rfl rfl
theorem Fp (p:Pr) (k:Bs):bo aA 157 [pV p,.str k]=some (.int .i64 (if p.1==k then 0 else if lt p.1 k then -1 else 1)):=by
 refine Uf _ _ _ ?_
 unfold EH
 rw [aH (S1 p.1 k),bX]
theorem Kk (a k:Bs):decide ((if a==k then (0:Int) else if lt a k then -1 else 1) < 0)=lt a k:=by
 by_cases h:a=k
 ·subst h;rw [gG];simp
 ·rw [if_neg (by simpa using h)];cases lt a k<;>rfl
theorem SZ (a k:Bs):((if a==k then (0:Int) else if lt a k then -1 else 1)==0)=(a==k):=by
 by_cases h:a=k
 ·subst h;simp
 ·rw [if_neg (by simpa using h),beq_eq_false_iff_ne.2 h];cases lt a k<;>rfl
theorem Sq (m:List Pr) (hs:jD (aW m)) (k:Bs) (hl:m.length<=1000000):∀(d i j:Nat),j - i<=d->i<=bN (aW m) k->bN (aW m) k<=j->j<=m.length ->
  Go qk false 0 (fF 156) (.head 0 (qe (aN m) k m.length i j)) (.done (.tup [.int .i64 (bN (aW m) k),.bool (b9 (aW m) k)])):=by
 intro d
 induction d with
 | zero =>
  intro i j hd hi hj hn
  have e:i=bN (aW m) k:=by omega
  refine HB _ _ _ _ _ ?_ (.refl _)
  unfold Ct
  rw [decide_eq_false (by omega),cond_false]
  by_cases aD:i < m.length
  ·have h1:m[i]? = some m[i]:=bG aD
   have e2:b9 (aW m) k=(m[i].1==k):=by unfold b9;rw [<-e,tj h1]
   rw [<-e,decide_eq_true (by omega),cond_true,aB (by simp),aY,eA h1,eo]
   show (aE aA _ [pV m[i],_] _)=_
   rw [aH (Fp _ _),bX,e2,SZ]
  ·have e2:b9 (aW m) k=false:=by unfold b9;rw [<-e,wV (by rw [o9];omega)]
   rw [<-e,e2,decide_eq_false (by omega)]
   rfl
 | succ d ih =>
  intro i j hd hi hj hn
  by_cases hij:i < j
  ·have hh:=Mq (i:=i) (j:=j) (by omega)
   generalize hg:(i+j) / 2=h at hh
   have hb:i<=h/\h < j:=by omega
   have h1:m[h]? = some m[h]:=bG (by omega)
   have hlb:=BC hs k (tj h1)
   have w:W .i64 ((h:Int)+1)=((h+1:Nat):Int):=by rw [aU (by omega)];omega
   cases hx:lt m[h].1 k with
   | true =>
    refine HB _ _ _ _ _ (o:=.head 0 (qe (aN m) k m.length ((h+1:Nat):Int) j)) ?_ (ih (h+1) j (by omega) (by have:=hlb.1 hx;omega) hj hn)
    unfold Ct
    rw [decide_eq_true (by omega),cond_true,hh,aB (by simp),aY,eA h1,eo]
    show (aE aA _ [pV m[h],_] _)=_
    rw [aH (Fp _ _),bX,Kk,hx,cond_true,w]
   | false =>
    have hge:bN (aW m) k<=h:=by
     rcases kN h (bN (aW m) k) with q | q
     ·rw [hlb.2 q] at hx;cases hx
     ·exact q
    refine HB _ _ _ _ _ (o:=.head 0 (qe (aN m) k m.length i h)) ?_ (ih i h (by omega) hi hge (by omega))
    unfold Ct
    rw [decide_eq_true (by omega),cond_true,hh,aB (by simp),aY,eA h1,eo]
    show (aE aA _ [pV m[h],_] _)=_
    rw [aH (Fp _ _),bX,Kk,hx,cond_false]
  ·exact ih i j (by omega) hi hj hn
theorem Fs (l:Lf) (hs:jD (aW l.prs)) (hl:l.prs.length<=1000) (k:Bs):bo aA 116 [eL l,.str k]=some (.tup [.int .i64 (bN (aW l.prs) k),.bool (b9 (aW l.prs) k)]):=by
 refine TP _ _ _ _ ?_
 unfold EA
 have:bo aA 156 [.sl (aN l.prs),.str k,.fn 157 []]=some (.tup [.int .i64 (bN (aW l.prs) k),.bool (b9 (aW l.prs) k)]):=by
  refine Ue _ _ (o:=.head 0 (qe (aN l.prs) k l.prs.length ((0:Nat):Int) l.prs.length)) ?_ (Sq l.prs hs k (by omega) _ 0 l.prs.length (bK _) (iB _) (by rw [<-o9];exact yo _ k) (bK _))
  unfold KY
  rw [cL]
  rfl
 rw [aH this,xH]
theorem ou (l:List Pr):dm 2 (aN l)=true:=IP fun _=>rfl
theorem A9 (l:List Pr):((aN l).all fun x=>x.cells.all V.flat1)=true:=by simp [aN,V.cells,V.flat1]
theorem Ot (l:List Pr) (k:Nat):(aN l).take k=aN (l.take k):=by simp [aN,List.map_take]
theorem Zx (l:List Pr) (k:Nat):(aN l).drop k=aN (l.drop k):=by simp [aN,List.map_drop]
theorem Oq (a b:List Pr):aN a++aN b=aN (a++b):=by simp [aN]
theorem GD (l w:List Pr) (i j:Nat) (hi:i<=l.length) (hj:j<=l.length) (hl:l.length<=1000) (hw:w.length<=1000) :
  bo aA 117 [.sl (aN l),.int .i64 (i:Int),.int .i64 (j:Int),.sl (aN w)]=some (.fr 41 (aN (l.take i++w++l.drop j))):=by
 refine TR _ _ _ _ ?_
 unfold EB
 have hwl:W .i64 (((aN l).length:Int)+((aN w).length:Int))=((l.length+w.length:Nat):Int):=by rw [cL,cL,aU (by omega)];omega
 have hmid:(bH ((i:Int)).toNat (V.agg [V.str [],V.str []])).take 0++((aN l).take ((i:Int)).toNat).take (min ((aN l).take ((i:Int)).toNat).length ((bH ((i:Int)).toNat (V.agg [V.str [],V.str []])).length))++(bH ((i:Int)).toNat (V.agg [V.str [],V.str []])).drop (0+min ((aN l).take ((i:Int)).toNat).length ((bH ((i:Int)).toNat (V.agg [V.str [],V.str []])).length))=aN (l.take i):=by
  rw [aY,Ot]
  have h1:(aN (l.take i)).length=i:=by rw [cL,d9];omega
  rw [h1,wY,Nat.min_self,ew,pY,dp,kJ (by omega),oI (by simp),dH]
 have hend:((aN l).take (aN l).length).drop ((j:Int)).toNat=aN (l.drop j):=by rw [jZ,aY,Zx]
 simp only [hmid,hend,hwl]
 rw [aB (by simp),aB (decide_eq_true (by omega)),aB (decide_eq_true (by rw [aY];omega)),aB (ou _),aB (by simp),aB (decide_eq_true (by rw [aY,cL];omega)),aB (by rw [aY,Ot];exact ou _),
  aB (by simp),aB (ou _),aB (decide_eq_true (by simp only [cL,cO,d9,eO,cG,dR];omega)),aB (ou _),aB (by simp),aB (decide_eq_true (by rw [aY,cL];omega)),aB (ou _),Oq,aB (decide_eq_true (by simp only [cL,cO,d9,eO,cG,dR];omega)),Oq,aB (A9 _)]
set_option maxRecDepth 100000
theorem wQ:∀a b:List Pr,bc (a++b)=bc a+bc b
 | [],b=>by simp [bc]
 | x::a,b=>by rw [dv,bc,bc,wQ a b];omega
theorem wR (l:List Pr) (n:Nat):bc l=bc (l.take n)+bc (l.drop n):=by rw [<-wQ,iz]
theorem C4 {x:Pr} (h1:bq x.1=true) (h2:dq x.2=true):3<=bc [x]/\bc [x]<=50:=by
 have:=iE h1
 simp only [dq,decide_eq_true_eq] at h2
 simp only [bc]
 omega
theorem Q6:∀{l:List Pr},(∀x∈l,bq x.1=true/\dq x.2=true)->bc l<=50 * l.length
 | [],_=>bK _
 | x::r,h=>by
  have h1:=C4 (h x (by simp)).1 (h x (by simp)).2
  have h2:=Q6 (l:=r) fun y hy=>h y (by simp [hy])
  simp only [bc,cG] at *
  omega
theorem GC (l:List Pr) (i j:Nat) (hi:i<=l.length) (hj:j<=l.length) (hl:l.length<=1000):bo aA 117 [.sl (aN l),.int .i64 (i:Int),.int .i64 (j:Int),.sl []]=some (.fr 41 (aN (l.take i++l.drop j))):=by
 have:=GD l [] i j hi hj hl (by simp)
 rwa [dH] at this
structure Re (l:Lf):Prop where
 right:cJ l=true
 sm:qa l
 mem:∀x∈l.prs,bq x.1=true/\dq x.2=true
 ri:jD (aW l.prs)
 len:3 * l.prs.length<=bc l.prs
 wt:bc l.prs<=231
 high:l.high.length<=16
theorem qE {l:Lf} (h:cJ l=true):Re l:=by
 have h1:=rq.1 h
 have hm:=yM h1.1
 exact ⟨h,Cg h,hm,aad h,zn fun x hx=>(hm x hx).1,h1.2.2.2.2,yc h1.2.1⟩
theorem sH {m:List Bs} {k:Bs} (h:b9 m k=true):∃h2:bN m k < m.length,m[bN m k]=k:=by
 unfold b9 at h
 cases hx:m[bN m k]? with
 | none=>rw [hx] at h;cases h
 | some p =>
  rw [hx] at h
  obtain ⟨h2,h3⟩:=bn.1 hx
  exact ⟨h2,by rw [h3];simpa using h⟩
def xY (l:List Pr) (k:Bs):Bs:=(l[bN (aW l) k]?.getD ([],[])).2
theorem Mg (l:Lf) (h:cJ l=true) (k:Bs):bo aA 76 [eL l,.str k]=some (if b9 (aW l.prs) k then .tup [.str (xY l.prs k),.int .i64 0] else .tup [.str [],.int .i64 7]):=by
 have g:=qE h
 have g1:=g.len;have g2:=g.wt
 refine Vf _ _ _ _ ?_
 unfold E8
 rw [aH (wb l g.sm),bS,h,bv,cond_false,aH (Fs l g.ri (by omega) k),xH]
 cases hh:b9 (aW l.prs) k with
 | false=>rfl
 | true =>
  obtain ⟨h2,_⟩:=sH hh
  rw [o9] at h2
  have h3:l.prs[bN (aW l.prs) k]? = some l.prs[bN (aW l.prs) k]:=bG h2
  rw [bv,cond_false,aB (by simp),aY,eA h3,eo,if_pos rfl,xY,h3]
  rfl
def cd (l:List Pr) (k v:Bs):List Pr:=l.take (bN (aW l) k)++[(k,v)]++l.drop (if b9 (aW l) k then bN (aW l) k+1 else bN (aW l) k)
abbrev tl:Lf:=⟨[],[],0⟩
def pA (l:Lf) (k v:Bs):V:=if bc (cd l.prs k v)<=231 then .tup [eL ⟨cd l.prs k v,l.high,l.next⟩,.int .i64 0] else .tup [eL tl,.int .i64 6]
theorem B8 (l:List Pr) (k v:Bs):(cd l k v).length<=l.length+1:=by
 have:=yo (aW l) k
 rw [o9] at this
 unfold cd
 simp only [cO,d9,eO,cG,dR]
 split<;>omega
theorem rn {l:List Pr} {k v:Bs} {x:Pr} (h:x∈cd l k v):x=(k,v)∨x∈l:=by
 unfold cd at h
 rcases br.1 h with h | h
 ·rcases br.1 h with h | h
  ·exact .inr (nc h)
  ·exact .inl (by simpa using h)
 ·exact .inr (lx h)
theorem B9 (l:List Pr) (k v:Bs):bc (cd l k v)<=bc l+bc [(k,v)]:=by
 have h1:=wR l (bN (aW l) k)
 have h2:=wR (l.drop (bN (aW l) k)) 1
 rw [oH] at h2
 unfold cd
 rw [wQ,wQ]
 split
 ·omega
 ·omega
theorem L1 (l:Lf):vu l=decide (bc l.prs<=231):=by
 unfold vu
 by_cases h:bc l.prs<=231
 ·rw [decide_eq_true (show 21+bc l.prs<=252 by omega),decide_eq_true h]
 ·rw [decide_eq_false (show ¬21+bc l.prs<=252 by omega),decide_eq_false h]
theorem Oy (l:Lf) (h:cJ l=true) (k v:Bs) (hk:bq k=true) (hv:dq v=true) {q:R} :
  q=(aE aA 116 [eL l,.str k] fun r_3=>lI r_3 fun i is=>cond is
   (aE aA 117 [.sl (aN l.prs),.int .i64 i,.int .i64 (W .i64 (i+1)),.sl [.agg [.str k,.str v]]] fun r_4=>kF 41 r_4 fun o=>aE aA 118 [.agg [.sl o,.str l.high,.int .i64 l.next]] fun r_5=>kB r_5 fun b=>cond (!b) (some (.done (.tup [.agg [.sl [],.str [],.int .i64 0],.int .i64 6]))) (some (.done (.tup [.agg [.sl o,.str l.high,.int .i64 l.next],.int .i64 0]))))
   (aE aA 117 [.sl (aN l.prs),.int .i64 i,.int .i64 i,.sl [.agg [.str k,.str v]]] fun r_4=>kF 41 r_4 fun o=>aE aA 118 [.agg [.sl o,.str l.high,.int .i64 l.next]] fun r_5=>kB r_5 fun b=>cond (!b) (some (.done (.tup [.agg [.sl [],.str [],.int .i64 0],.int .i64 6]))) (some (.done (.tup [.agg [.sl o,.str l.high,.int .i64 l.next],.int .i64 0]))))) ->
  q=some (.done (pA l k v)):=by
 rintro rfl
 have g:=qE h
 have g1:=g.len;have g2:=g.wt
 have hle:=yo (aW l.prs) k
 rw [o9] at hle
 have hsm:qa ⟨cd l.prs k v,l.high,l.next⟩:=by
  refine ⟨by have:=B8 l.prs k v;simp only;omega,fun x hx=>?_,by have:=g.high;simp only;omega⟩
  rcases rn hx with rfl | hx
  ·have:=(iE hk).2
   simp only [dq,decide_eq_true_eq] at hv
   simp only;omega
  ·exact g.sm.pr x hx
 have e1:([.agg [.str k,.str v]]:List V)=aN [(k,v)]:=rfl
 rw [aH (Fs l g.ri (by omega) k),xH,e1]
 cases hh:b9 (aW l.prs) k with
 | true =>
  obtain ⟨h2,_⟩:=sH hh
  rw [o9] at h2
  have w:W .i64 (((bN (aW l.prs) k:Nat):Int)+1)=((bN (aW l.prs) k+1:Nat):Int):=by rw [aU (by omega)];omega
  have ep:l.prs.take (bN (aW l.prs) k)++[(k,v)]++l.prs.drop (bN (aW l.prs) k+1)=cd l.prs k v:=by unfold cd;rw [hh,if_pos rfl]
  rw [cond_true,w,aH (GD l.prs [(k,v)] _ _ hle (by omega) (by omega) (by simp)),dC,ep]
  have:=Fw ⟨cd l.prs k v,l.high,l.next⟩ hsm
  rw [L1] at this
  simp only at this
  rw [aH this,bS]
  unfold pA
  by_cases hf:bc (cd l.prs k v)<=231
  ·rw [decide_eq_true hf,if_pos hf];rfl
  ·rw [decide_eq_false hf,if_neg hf];rfl
 | false =>
  have ep:l.prs.take (bN (aW l.prs) k)++[(k,v)]++l.prs.drop (bN (aW l.prs) k)=cd l.prs k v:=by unfold cd;rw [hh];rfl
  rw [cond_false,aH (GD l.prs [(k,v)] _ _ hle (by omega) (by omega) (by simp)),dC,ep]
  have:=Fw ⟨cd l.prs k v,l.high,l.next⟩ hsm
  rw [L1] at this
  simp only at this
  rw [aH this,bS]
  unfold pA
  by_cases hf:bc (cd l.prs k v)<=231
  ·rw [decide_eq_true hf,if_pos hf];rfl
  ·rw [decide_eq_false hf,if_neg hf];rfl
theorem yF (l:Lf) (h:cJ l=true) (k v:Bs) (hk:bq k=true) (hv:dq v=true) (hh:l.high=[]∨lt k l.high=true):bo aA 77 [eL l,.str k,.str v]=some (pA l k v):=by
 have g:=qE h
 refine Vh _ _ _ _ _ ?_
 unfold E9
 rw [aH (wb l g.sm),bS,h,bv,cond_false,aH (iX k),bS,hk,bv,cond_false,aH (wP v),bS,hv,bv,cond_false]
 by_cases e:l.high=[]
 ·rw [show (!(l.high==[]))=false by rw [e];rfl,cond_false]
  exact Oy l h k v hk hv rfl
 ·have hl:Op.bytesLess k l.high=true:=hh.resolve_left e
  rw [show (!(l.high==[]))=true by simpa using e,cond_true,hl,bv,cond_false]
  exact Oy l h k v hk hv rfl
def gm (l:List Pr) (k:Bs):List Pr:=l.take (bN (aW l) k)++l.drop (bN (aW l) k+1)
theorem Em (l:Lf) (h:cJ l=true) (k:Bs):bo aA 80 [eL l,.str k]=some (if b9 (aW l.prs) k then .tup [eL ⟨gm l.prs k,l.high,l.next⟩,.int .i64 0] else .tup [eL tl,.int .i64 7]):=by
 have g:=qE h
 have g1:=g.len;have g2:=g.wt
 refine Vm _ _ _ _ ?_
 unfold Fa
 rw [aH (wb l g.sm),bS,h,bv,cond_false,aH (Fs l g.ri (by omega) k),xH]
 cases hh:b9 (aW l.prs) k with
 | false=>rfl
 | true =>
  obtain ⟨h2,_⟩:=sH hh
  rw [o9] at h2
  have w:W .i64 (((bN (aW l.prs) k:Nat):Int)+1)=((bN (aW l.prs) k+1:Nat):Int):=by rw [aU (by omega)];omega
  rw [bv,cond_false,w,aH (GC l.prs _ _ (by omega) (by omega) (by omega)),dC]
  rfl
def ml (A:Nat):Nat->List Pr->Nat
 | _,[]=>0
 | _,[_]=>0
 | had,x::y::r=>if 2 * had < A then 1+ml A (had+bc [x]) (y::r) else 0
def cY (l:List Pr):Nat:=match l with | []=>0 | [_]=>0 | x::y::r=>1+ml (bc l) (bc [x]) (y::r)
def zc (l:Lf) (pg:Int) (n:Nat):V:=.tup [eL ⟨l.prs.take n,(l.prs[n]?.getD ([],[])).1,pg+1⟩,eL ⟨l.prs.drop n,l.high,l.next⟩,.int .i64 0]
theorem Qd (l:Lf) (hl:l.prs.length<=1000) (pg:Int) (hp:0<=pg/\pg < 1024) (n:Nat) (hn:n < l.prs.length) {q:R} :
  q=(aE aA 117 [.sl (aN l.prs),.int .i64 (n:Int),.int .i64 ((aN l.prs).length:Int),.sl []] fun r_2=>kF 41 r_2 fun a=>gd (decide (0<=(n:Int)))<|aS (aN l.prs) ((n:Int)).toNat fun v=>dE v fun key _=>aE aA 117 [.sl (aN l.prs),.int .i64 0,.int .i64 (n:Int),.sl []] fun r_3=>kF 41 r_3 fun b =>
   some (.done (.tup [.agg [.sl a,.str key,.int .i64 (W .i64 (pg+1))],.agg [.sl b,.str l.high,.int .i64 l.next],.int .i64 0]))) ->
  q=some (.done (zc l pg n)):=by
 rintro rfl
 have h1:l.prs[n]? = some l.prs[n]:=bG hn
 have o1:=GC l.prs n l.prs.length (by omega) (by omega) hl
 have o2:bo aA 117 [.sl (aN l.prs),.int .i64 0,.int .i64 (n:Int),.sl []]=some (.fr 41 (aN (l.prs.take 0++l.prs.drop n))):=GC l.prs 0 n (by omega) (by omega) hl
 rw [List.drop_length,dH] at o1
 rw [pY,dp] at o2
 rw [cL,aH o1,dC,aB (by simp),aY,eA h1,eo,aH o2,dC,aU (by omega)]
 unfold zc
 rw [h1]
 rfl
theorem abL (l:Lf) (hl:l.prs.length<=1000) (hs:∀p∈l.prs,p.1.length<=1000/\p.2.length<=1000) (pg:Int) (hp:0<=pg/\pg < 1024) (A:Nat):∀(r:List Pr) (n had:Nat),l.prs.drop n=r->r≠[]->0 < n->had<=2002 * n ->
  Go qk false 0 (fF 122) (.head 0 (qc pg (A:Int) (n:Int) (had:Int) (aN l.prs) l.high l.next)) (.done (zc l pg (n+ml A had r))):=by
 intro r
 induction r with
 | nil=>intro n had _ h;exact absurd rfl h
 | cons x r ih =>
  intro n had hr _ hn hhad
  obtain ⟨h1,h2,h3⟩:=er hr
  have hx:=hs x (cH h1)
  have w1:W .i64 (((aN l.prs).length:Int) - 1)=((l.prs.length - 1:Nat):Int):=by rw [cL,aU (by omega)];omega
  have hrl:r.length+n+1=l.prs.length:=by
   have:=congrArg oJ hr
   simp at this
   omega
  have w2:W .i64 (2 * (had:Int))=((2 * had:Nat):Int):=by rw [aU (by omega)];omega
  cases hrr:r with
  | nil =>
   subst hrr
   simp only [dR] at hrl
   refine Co _ _ _ _ _ _ _ ?_ (.refl _)
   unfold yW
   rw [w1,decide_eq_false (by omega),cond_false]
   exact Qd l hl pg hp n (by omega) rfl
  | cons y t =>
   have hrt:r.length=t.length+1:=by rw [hrr];rfl
   unfold ml
   by_cases hA:2 * had < A
   ·rw [if_pos hA]
    have:=ih (n+1) (had+bc [x]) h2 (by rw [hrr];simp) (by omega) (by simp only [bc];omega)
    rw [hrr,iA] at this
    refine Co _ _ _ _ _ _ _ (o:=.head 0 (qc pg (A:Int) ((n+1:Nat):Int) ((had+bc [x]:Nat):Int) (aN l.prs) l.high l.next)) ?_ this
    unfold yW
    have w3:W .i64 ((n:Int)+1)=((n+1:Nat):Int):=by rw [aU (by omega)];omega
    have w4:W .i64 ((had:Int)+((2+x.1.length+x.2.length:Nat):Int))=((had+bc [x]:Nat):Int):=by simp only [bc];rw [aU (by omega)];omega
    rw [w1,decide_eq_true (by omega),cond_true,cZ (by omega),cond_false,w2,decide_eq_true (by omega),cond_true,aB (by simp),aY,eA h1,eo]
    show (aE aA _ [pV x] _)=_
    rw [aH (IM x hx.1 hx.2),bX,w3,w4]
   ·rw [if_neg hA]
    refine Co _ _ _ _ _ _ _ ?_ (.refl _)
    unfold yW
    rw [w1,decide_eq_true (by omega),cond_true,cZ (by omega),cond_false,w2,decide_eq_false (by omega),cond_false]
    exact Qd l hl pg hp n (by omega) rfl
theorem abK (l:Lf) (h:cJ l=true) (h2:2<=l.prs.length) (pg:Int) (hp:0<=pg/\pg < 1024):bo aA 122 [eL l,.int .i64 pg]=some (zc l pg (cY l.prs)):=by
 have g:=qE h
 have g1:=g.len;have g2:=g.wt;have g3:=g.high
 obtain ⟨x,y,r,hx⟩:∃x y r,l.prs=x::y::r:=by
  match hl:l.prs,h2 with
  | x::y::r,_=>exact ⟨x,y,r,rfl⟩
 have hpx:=g.sm.pr x (by rw [hx];simp)
 have h0:l.prs[0]? = some x:=by rw [hx];rfl
 have hd:l.prs.drop 1=y::r:=by rw [hx];rfl
 have:=abL l (by omega) g.sm.pr pg hp (bc l.prs) (y::r) 1 (bc [x]) hd (by simp) (by omega) (by simp only [bc];omega)
 have eh:cY l.prs=1+ml (bc l.prs) (bc [x]) (y::r):=by rw [hx];rfl
 rw [<-eh] at this
 refine TY _ _ _ _ (o:=.head 0 (qc pg ((bc l.prs:Nat):Int) 0 0 (aN l.prs) l.high l.next)) ?_ (Co _ _ _ _ _ _ _ (o:=.head 0 (qc pg ((bc l.prs:Nat):Int) ((1:Nat):Int) ((bc [x]:Nat):Int) (aN l.prs) l.high l.next)) ?_ this)
 ·unfold KN
  have hsz:W .i64 (W .i64 (W .i64 ((ix l:Nat) - (4:Int)) - 1) - (l.high.length:Int))=((bc l.prs:Nat):Int):=by
   unfold ix
   rw [aU (n:=(((5+l.high.length+bc l.prs:Nat):Int) - 4)) (by omega),aU (n:=(((5+l.high.length+bc l.prs:Nat):Int) - 4 - 1)) (by omega),aU (by omega)]
   omega
  rw [aH (wb l g.sm),bS,h,bv,cond_false,cL,decide_eq_false (by omega),cond_false,decide_eq_false (by omega),cond_false,decide_eq_false (by omega),cond_false,aH (Ij l g.sm),bX,hsz]
 ·unfold yW
  have w1:W .i64 (((aN l.prs).length:Int) - 1)=((l.prs.length - 1:Nat):Int):=by rw [cL,aU (by omega)];omega
  have w4:W .i64 (0+((2+x.1.length+x.2.length:Nat):Int))=((bc [x]:Nat):Int):=by simp only [bc];rw [aU (by omega)];omega
  have h00:l.prs[((0:Int)).toNat]? = some x:=h0
  rw [w1,decide_eq_true (by omega),cond_true,show ((0:Int)==0)=true from rfl,cond_true,aB (by simp),eA h00,eo]
  show (aE aA _ [pV x] _)=_
  rw [aH (IM x hpx.1 hpx.2),bX,w4]
  rfl
theorem Km (A:Nat):∀(r:List Pr) (had:Nat),(∀x∈r,bc [x]<=50)->r≠[]->had<=165->had+bc r=A->2 * had < A+100->A<=231 ->
  ml A had r < r.length/\had+bc (r.take (ml A had r))<=165/\bc (r.drop (ml A had r))<=116
 | [],_,_,h,_,_,_,_=>absurd rfl h
 | [x],had,hw,_,h1,h2,_,_=>by
  have:=hw x (by simp)
  simp only [ml,pY,si,cG,dR]
  simp only [bc] at *
  omega
 | x::y::r,had,hw,_,h1,h2,h3,hA=>by
  have hx:=hw x (by simp)
  unfold ml
  by_cases h:2 * had < A
  ·rw [if_pos h]
   have ih:=Km A (y::r) (had+bc [x]) (fun z hz=>hw z (by simp [hz])) (by simp) (by omega) (by simp only [bc] at *;omega) (by omega) hA
   rw [p8 1]
   simp only [uI,List.drop_succ_cons,cG] at *
   refine ⟨by omega,?_,ih.2.2⟩
   have:=ih.2.1
   simp only [bc] at *
   omega
  ·rw [if_neg h]
   simp only [pY,si,cG,bc] at *
   omega
theorem Mr {l:List Pr} (h2:2<=l.length) (hw:∀x∈l,bc [x]<=50) (hA:bc l<=231):0 < cY l/\cY l < l.length/\bc (l.take (cY l))<=165/\bc (l.drop (cY l))<=116:=by
 match l,h2 with
 | x::y::r,_ =>
  have hx:=hw x (by simp)
  have:=Km (bc (x::y::r)) (y::r) (bc [x]) (fun z hz=>hw z (by simp [hz])) (by simp) (by omega) (by simp only [bc];omega) (by simp only [bc] at *;omega) hA
  have e:cY (x::y::r)=ml (bc (x::y::r)) (bc [x]) (y::r)+1:=p8 1 _
  rw [e]
  simp only [uI,List.drop_succ_cons,cG] at *
  refine ⟨by omega,by omega,?_,this.2.2⟩
  have:=this.2.1
  simp only [bc] at *
  omega
theorem Zf {n:bP} (h:bQ n=true) (k:Nat) (hk:jT n+k<=252):rk (cF n++fp k)=some n:=by
 obtain ⟨h1,h2,h3,h4,h5,h6,h7⟩:=od h
 have hg:=rI h3
 have hlen:(cF n++fp k).length=jT n+k:=by simp [Fg h]
 obtain ⟨nn,hnn⟩:∃nn:Nat,n.next=(nn:Int):=⟨n.next.toNat,by omega⟩
 obtain ⟨k0,ks,hks⟩:∃k ks,n.kids=k::ks:=by
  cases hk:n.kids with
  | nil=>rw [hk] at h1;simp at h1
  | cons k ks=>exact ⟨k,ks,rfl⟩
 have hk0:=vV (h2 k0 (by rw [hks];simp))
 obtain ⟨kn,rfl⟩:∃kn:Nat,k0=(kn:Int):=⟨k0.toNat,by omega⟩
 have hkl:ks.length=n.seps.length:=by rw [hks] at h1;simpa using h1
 have hz:=Q9 h
 rw [hks,List.tail_cons] at hz
 have e0:cF n++fp k=78::UInt8.ofNat n.seps.length::(cj 2 nn++(cC n.high++cj 2 kn++(fG (n.seps.zip ks)++fp k))):=by
  unfold cF Au Bh
  rw [if_pos h,hks,hnn]
  simp
 have hl2:=eB 2 nn
 obtain ⟨b2,b3,hb⟩:∃b2 b3,cj 2 nn=[b2,b3]:=⟨_,_,rfl⟩
 have hun:dY (cj 2 nn)=nn:=C1 2 nn (by have:(256:Nat) ^ 2=65536:=by decide
                                       omega)
 have e1:(cF n++fp k).drop 4=cC n.high++cj 2 kn++(fG (n.seps.zip ks)++fp k):=by rw [e0,hb];rfl
 have e2:((cF n++fp k).drop 2).take 2=cj 2 nn:=by rw [e0,hb];rfl
 have e3:(cF n++fp k).getD 1 0=UInt8.ofNat n.seps.length:=by rw [e0];rfl
 have e4:(UInt8.ofNat n.seps.length).toNat=(n.seps.zip ks).length:=by simp;omega
 have e5:(cF n++fp k).head? = some 78:=by rw [e0];rfl
 have hmin:jT n=7+n.high.length+cD n.seps:=rfl
 unfold rk
 rw [if_neg (by rw [hlen,e5];simp;omega),e1,N9 (by omega) (by omega),aL]
 simp only
 rw [e3,e4,Oa _ _ hz,aL,e2,hun]
 have e6:(n.seps.zip ks).map (·.1)=n.seps:=List.map_fst_zip (by omega)
 have e7:(n.seps.zip ks).map (·.2)=ks:=List.map_snd_zip (by omega)
 simp only [e6,e7]
 have e8:(⟨n.seps,(kn:Int)::ks,n.high,(nn:Int)⟩:bP)=n:=by
  rw [<-hks,<-hnn]
 rw [e8]
 unfold oY
 rw [h,Sb.2 (by simp)]
 rfl
theorem JO:∀{l:List Bs} {k:Bs} {j:Nat} {s:Bs},j < fc l k->l[j]? = some s->lt k s=false
 | [],k,j,s,h,_=>by simp [fc] at h
 | x::l,k,j,s,h,hs=>by
  rw [sF] at h
  cases hx:lt k x with
  | true=>rw [hx] at h;simp at h
  | false =>
   rw [hx] at h
   cases j with
   | zero=>simp at hs;rw [<-hs];exact hx
   | succ j=>exact JO (l:=l) (by simpa using h) (by simpa using hs)
theorem JP:∀{l:List Bs} {k:Bs} {s:Bs},l[fc l k]? = some s->lt k s=true
 | [],k,s,h=>by simp at h
 | x::l,k,s,h=>by
  rw [sF] at h
  cases hx:lt k x with
  | true=>rw [hx] at h;simp at h;rw [<-h];exact hx
  | false =>
   rw [hx] at h
   exact JP (l:=l) (by simpa using h)
theorem qM (s:Bs) (a:List Bs) (p:Bs):(s::a).getLastD p=a.getLastD s:=by
 cases a with
 | nil=>rfl
 | cons y a=>simp [List.getLastD]
theorem Bw:∀(a b:List Bs) (p:Bs),(a++b).getLastD p=b.getLastD (a.getLastD p)
 | [],b,p=>rfl
 | s::a,b,p=>by rw [dv,qM,qM,Bw a b s]
theorem Ch:∀(a b:List Bs) (p:Bs),eG p (a++b)=(eG p a && eG (a.getLastD p) b)
 | [],b,p=>rfl
 | s::a,b,p=>by rw [dv,eG,eG,Ch a b s,qM];cases bq s<;>cases lt p s<;>rfl
theorem XJ {a:List Bs} (h:a≠[]) (p:Bs):a[a.length - 1]? = some (a.getLastD p):=by
 cases a with
 | nil=>exact (h rfl).elim
 | cons s a =>
  rw [List.getLastD_cons]
  simp [List.getLastD,List.getLast?_eq_getElem?]
  cases a with
  | nil=>rfl
  | cons y a=>simp [List.getLast_eq_getElem]
theorem wJ:∀a b:List Bs,cD (a++b)=cD a+cD b
 | [],b=>by simp [cD]
 | s::a,b=>by simp only [dv,cD,wJ a b];omega
theorem ru {n:bP}:bQ n=true↔n.kids.length=n.seps.length+1/\(∀k∈n.kids,dV k=true)/\eG [] n.seps=true/\fh (n.seps.getLastD []) n.high=true/\qx n=true:=by
 unfold bQ
 simp only [bD,decide_eq_true_eq,dB]
 constructor
 ·rintro ⟨⟨⟨⟨a,b⟩,c⟩,d⟩,e⟩;exact ⟨a,b,c,d,e⟩
 ·rintro ⟨a,b,c,d,e⟩;exact ⟨⟨⟨⟨a,b⟩,c⟩,d⟩,e⟩
theorem sW {n:bP}:qx n=true↔0<=n.next/\n.next<=1024/\23+cD n.seps<=252:=by
 unfold qx lQ
 simp only [bD,decide_eq_true_eq]
 constructor
 ·rintro ⟨⟨a,b⟩,c⟩;exact ⟨a,b,by omega⟩
 ·rintro ⟨a,b,c⟩;exact ⟨⟨a,b⟩,by omega⟩
structure Jp (n:bP) (key:Bs) (kid:Int):Prop where
 right:bQ n=true
 isKey:bq key=true
 high:(n.high==[] || lt key n.high)=true
 page:dV kid=true
 new:¬(0 < fc n.seps key/\n.seps[fc n.seps key - 1]? = some key)
 fit:lQ (l9 n key kid (fc n.seps key))=true
theorem ZO {n:bP} {key:Bs} {kid:Int} (h:Jp n key kid):bQ (l9 n key kid (fc n.seps key))=true:=by
 obtain ⟨hr,hk,hh,hp,hn,hf⟩:=h
 obtain ⟨r1,r2,r3,r4,r5⟩:=ru.1 hr
 obtain ⟨e1,e2,e3⟩:=sW.1 r5
 have hle:=JM n.seps key
 generalize hi:fc n.seps key=i at hn hf hle |-
 obtain ⟨A,hA⟩:∃A,A=n.seps.take i:=⟨_,rfl⟩
 obtain ⟨B,hB⟩:∃B,B=n.seps.drop i:=⟨_,rfl⟩
 have hAB:n.seps=A++B:=by rw [hA,hB,iz]
 have hAl:A.length=i:=by rw [hA,d9];omega
 rw [hAB,Ch] at r3
 simp only [bD] at r3
 have hlast:lt (A.getLastD []) key=true:=by
  by_cases h0:A=[]
  ·rw [h0];exact qK hk
  ·have hi0:0 < i:=by
    rcases zI i with h | h
    ·rw [h] at hAl;exact (h0 (List.length_eq_zero_iff.1 hAl)).elim
    ·exact h
   have hg:=XJ h0 []
   rw [hAl] at hg
   have hg2:n.seps[i - 1]? = some (A.getLastD []):=by
    rw [hAB,dx (by omega)];exact hg
   have h1:lt key (A.getLastD [])=false:=JO (l:=n.seps) (by omega) hg2
   refine mG h1 fun e=>hn ⟨hi0,?_⟩
   rw [hg2,<-e]
 have hBr:eG key B=true:=by
  cases hB2:B with
  | nil=>rfl
  | cons s r =>
   rw [hB2] at r3
   have r32:=r3.2
   simp only [eG,bD] at r32 |-
   have hs:n.seps[i]? = some s:=by
    rw [hAB,df (by omega),hAl,jB,hB2];rfl
   have:lt key s=true:=JP (l:=n.seps) (by rw [hi];exact hs)
   exact ⟨⟨r32.1.1,this⟩,r32.2⟩
 have hseps:(l9 n key kid i).seps=A++(key::B):=by
  show n.seps.take i++[key]++n.seps.drop i=_
  rw [<-hA,<-hB,bw];rfl
 refine ru.2 ⟨?_,?_,?_,?_,?_⟩
 ·show (n.kids.take (i+1)++[kid]++n.kids.drop (i+1)).length=(n.seps.take i++[key]++n.seps.drop i).length+1
  simp
  omega
 ·intro k hk'
  rcases br.1 hk' with hk' | hk'
  ·rcases br.1 hk' with hk' | hk'
   ·exact r2 k (nc hk')
   ·simp at hk';rw [hk'];exact hp
  ·exact r2 k (lx hk')
 ·rw [hseps,Ch,eG,r3.1,hk,hlast,hBr];rfl
 ·rw [hseps,Bw,qM]
  show fh (B.getLastD key) n.high=true
  rw [hAB,Bw] at r4
  cases hB2:B with
  | nil =>
   show fh key n.high=true
   rw [hB2] at r4
   unfold fh at r4 |-
   cases hz:n.high==[] with
   | true=>rfl
   | false =>
    rw [hz] at r4 hh
    simp only [gL,bD] at r4 hh |-
    exact ⟨r4.1,hh⟩
  | cons s r=>rw [hB2,qM] at r4;rw [qM];exact r4
 ·refine sW.2 ⟨e1,e2,?_⟩
  unfold lQ at hf
  simp only [decide_eq_true_eq] at hf
  omega
theorem aah {p:Bs} {l:List Bs} (h:eG p l=true):eG [] l=true:=by
 cases l with
 | nil=>rfl
 | cons s r =>
  simp only [eG,bD] at h |-
  exact ⟨⟨h.1.1,qK h.1.1⟩,h.2⟩
theorem Qf {n:bP} (hr:bQ n=true) (h3:3<=n.kids.length):∃A mid B,n.seps=A++mid::B/\A.length=n.seps.length / 2/\n.seps.getD (n.seps.length / 2) []=mid/\n.seps.take (n.seps.length / 2)=A/\n.seps.drop (n.seps.length / 2+1)=B:=by
 obtain ⟨r1,_⟩:=ru.1 hr
 have hm:n.seps.length / 2 < n.seps.length:=by omega
 generalize n.seps.length / 2=m at hm
 refine ⟨n.seps.take m,n.seps[m],n.seps.drop (m+1),?_,by simp;omega,?_,rfl,rfl⟩
 ·rw [<-sh hm,iz]
 ·simp [List.getD,bG hm]
theorem abM {n:bP} {to:Int} (hr:bQ n=true) (h3:3<=n.kids.length) (ht:dV to=true):bQ (uq n to)=true/\bQ (ut n)=true:=by
 obtain ⟨A,mid,B,e1,e2,e3,e4,e5⟩:=Qf hr h3
 obtain ⟨r1,r2,r3,r4,r5⟩:=ru.1 hr
 obtain ⟨g1,g2,g3⟩:=sW.1 r5
 have ht2:=vV ht
 have hlen:n.seps.length=A.length+(B.length+1):=by rw [e1];simp
 have r3':=r3
 rw [e1,Ch,eG] at r3'
 simp only [bD] at r3'
 obtain ⟨rA,⟨⟨kM,lM⟩,rB⟩⟩:=r3'
 have hz:cD n.seps=cD A+(3+mid.length+cD B):=by rw [e1,wJ,cD]
 constructor
 ·refine ru.2 ⟨?_,?_,?_,?_,?_⟩
  ·show (n.kids.take _).length=(n.seps.take _).length+1
   simp;omega
  ·exact fun k hk=>r2 k (nc hk)
  ·show eG [] (n.seps.take _)=true
   rw [e4];exact rA
  ·show fh ((n.seps.take _).getLastD []) (n.seps.getD _ [])=true
   rw [e4,e3]
   unfold fh
   rw [kM,lM]
   simp
  ·refine sW.2 ⟨by show 0<=to+1;omega,by show to+1<=1024;omega,?_⟩
   show 23+cD (n.seps.take _)<=252
   rw [e4];omega
 ·refine ru.2 ⟨?_,?_,?_,?_,?_⟩
  ·show (n.kids.drop _).length=(n.seps.drop _).length+1
   simp;omega
  ·exact fun k hk=>r2 k (lx hk)
  ·show eG [] (n.seps.drop _)=true
   rw [e5];exact aah rB
  ·show fh ((n.seps.drop _).getLastD []) n.high=true
   rw [e5]
   rw [e1,Bw,qM] at r4
   cases B with
   | nil =>
    unfold fh at r4 |-
    cases hq:n.high==[] with
    | true=>rfl
    | false =>
     rw [hq] at r4
     simp only [gL,bD] at r4 |-
     exact ⟨r4.1,qK r4.1⟩
   | cons s r=>rw [qM] at r4 |-;exact r4
  ·refine sW.2 ⟨g1,g2,?_⟩
   show 23+cD (n.seps.drop _)<=252
   rw [e5];omega
abbrev Es:=List (Int × Bs)
def aZ (es:Es):List (V × V):=es.map fun x=>(V.int .i64 x.1,V.str x.2)
def cP:Es->Int->Option Bs
 | [],_=>none
 |(a,x)::es,p=>if p=a then some x else cP es p
def bp:Es->Int->Bs->Es
 | [],p,x=>[(p,x)]
 |(a,y)::es,p,x=>if p=a then (a,x)::es else (a,y)::bp es p x
def fL:Es->Int->Es
 | [],_=>[]
 |(a,y)::es,p=>if p=a then es else (a,y)::fL es p
theorem xN (p a:Int):d5 (.int .i64 p) (.int .i64 a)=some (decide (p=a)):=by
 by_cases h:p=a
 ·subst h;simp [d5]
 ·rw [decide_eq_false h];simp [d5,h]
theorem Gr (p:Int):∀es:Es,eU (aZ es) (.int .i64 p)=some ((cP es p).map V.str)
 | []=>rfl
 |(a,x)::es=>by
  show ((d5 (.int .i64 p) (.int .i64 a)).bind fun b=>if b then some (some (V.str x)) else eU (aZ es) (.int .i64 p))=_
  rw [xN,aL,Gr p es,cP]
  by_cases h:p=a
  ·rw [decide_eq_true h,if_pos h];rfl
  ·rw [decide_eq_false h,if_neg h];rfl
theorem Gt (p:Int) (b:Bs):∀es:Es,iY (aZ es) (.int .i64 p) (.str b)=some (aZ (bp es p b))
 | []=>rfl
 |(a,x)::es=>by
  show ((d5 (.int .i64 p) (.int .i64 a)).bind fun q=>if q then some ((V.int .i64 a,V.str b)::aZ es) else (iY (aZ es) (.int .i64 p) (.str b)).map ((V.int .i64 a,V.str x)::·))=_
  rw [xN,aL,Gt p b es,bp]
  by_cases h:p=a
  ·rw [decide_eq_true h,if_pos h];rfl
  ·rw [decide_eq_false h,if_neg h];rfl
theorem Nu (p:Int):∀es:Es,lZ (aZ es) (.int .i64 p)=some (aZ (fL es p))
 | []=>rfl
 |(a,x)::es=>by
  show ((d5 (.int .i64 p) (.int .i64 a)).bind fun q=>if q then some (aZ es) else (lZ (aZ es) (.int .i64 p)).map ((V.int .i64 a,V.str x)::·))=_
  rw [xN,aL,Nu p es,fL]
  by_cases h:p=a
  ·rw [decide_eq_true h,if_pos h];rfl
  ·rw [decide_eq_false h,if_neg h];rfl
def aO (es:Es):List Int:=es.map (·.1)
theorem vz {p:Int}:∀{es:Es},cP es p=none↔p∉aO es
 | []=>by simp [cP,aO]
 |(a,x)::es=>by
  rw [cP]
  by_cases h:p=a
  ·rw [if_pos h];simp [aO,h]
  ·rw [if_neg h,vz];simp [aO,h]
theorem jJ {p:Int} {b:Bs}:∀{es:Es},(aO es).Nodup->(p,b)∈es->cP es p=some b
 |(a,x)::es,hn,h=>by
  have hn:=uG.1 hn
  rw [cP]
  rcases bO.1 h with h1 | h1
  ·cases h1;rw [if_pos rfl]
  ·have hp:p∈aO es:=List.mem_map_of_mem (f:=(·.1)) h1
   rw [if_neg (fun e:p=a=>hn.1 (e ▸ hp))]
   exact jJ hn.2 h1
theorem Ox {p:Int} {b b':Bs} {B:Es}:∀{A:Es},p∉aO A->bp (A++(p,b)::B) p b'=A++(p,b')::B
 | [],_=>if_pos rfl
 |(a,x)::A,h=>by
  have h1:p≠a:=fun e=>h (by simp [aO,e])
  rw [dv,bp,if_neg h1,Ox fun q=>h (by simp only [aO,di,bO];exact .inr q)]
  rfl
theorem tW {p:Int} {b:Bs}:∀{es:Es},p∉aO es->bp es p b=es++[(p,b)]
 | [],_=>rfl
 |(a,x)::es,h=>by
  have h1:p≠a:=fun e=>h (by simp [aO,e])
  rw [bp,if_neg h1,tW fun q=>h (by simp only [aO,di,bO];exact .inr q)]
  rfl
theorem Ku {p:Int} {b:Bs} {B:Es}:∀{A:Es},p∉aO A->fL (A++(p,b)::B) p=A++B
 | [],_=>if_pos rfl
 |(a,x)::A,h=>by
  have h1:p≠a:=fun e=>h (by simp [aO,e])
  rw [dv,fL,if_neg h1,Ku fun q=>h (by simp only [aO,di,bO];exact .inr q)]
  rfl
theorem Oj {es r:Es} {p:Int} {b:Bs} (hn:(aO es).Nodup) (h:es.Perm ((p,b)::r)):∃A B,es=A++(p,b)::B/\r.Perm (A++B)/\p∉aO A:=by
 obtain ⟨A,B,rfl⟩:=List.append_of_mem (h.mem_iff.2 (cz ..))
 refine ⟨A,B,rfl,((h.symm.trans oK).cons_inv),?_⟩
 unfold aO at hn
 rw [fK] at hn
 have:=(zD.1 hn).2.2
 intro hp
 exact this p hp p (by simp) rfl
theorem nJ {es r:Es} {p:Int} {b:Bs} (hn:(aO es).Nodup) (h:es.Perm ((p,b)::r)):cP es p=some b:=jJ hn (h.mem_iff.2 (cz ..))
theorem kw {es r:Es} {p:Int} {b b':Bs} (hn:(aO es).Nodup) (h:es.Perm ((p,b)::r)):(bp es p b').Perm ((p,b')::r):=by
 obtain ⟨A,B,rfl,h2,h3⟩:=Oj hn h
 rw [Ox h3]
 exact List.perm_middle.trans (h2.symm.cons _)
theorem En {es r:Es} {p:Int} {b:Bs} (hn:(aO es).Nodup) (h:es.Perm ((p,b)::r)):(fL es p).Perm r:=by
 obtain ⟨A,B,rfl,h2,h3⟩:=Oj hn h
 rw [Ku h3]
 exact h2.symm
theorem n8 {es:Es} {p:Int} {b:Bs} (h:p∈aO es):aO (bp es p b)=aO es:=by
 induction es with
 | nil=>simp [aO] at h
 | cons x es ih =>
  obtain ⟨a,x⟩:=x
  rw [bp]
  by_cases e:p=a
  ·rw [if_pos e];rfl
  ·rw [if_neg e]
   have h:p∈aO es:=by
    rcases bO.1 h with h | h
    ·exact absurd h e
    ·exact h
   show a::aO (bp es p b)=a::aO es
   rw [ih h]
def aM (es:Es) (k:Nat):Bool:=decide ((k:Int)∈aO es)
theorem ack {es es':Es} (h:∀p,p∈aO es↔p∈aO es'):aM es=aM es':=by
 funext k
 unfold aM
 by_cases hk:(k:Int)∈aO es
 ·rw [decide_eq_true hk,decide_eq_true ((h _).1 hk)]
 ·rw [decide_eq_false hk,decide_eq_false fun q=>hk ((h _).2 q)]
structure cx (n:Nat) (es:Es):Prop where
 le:n<=1024
 nd:(aO es).Nodup
 rng:∀p∈aO es,0<=p/\p < (n:Int)
theorem NG:∀{l:List Int},l.Nodup->(∀p∈l,0<=p)->(l.map Int.toNat).Nodup
 | [],_,_=>Do
 | a::l,h,h0=>by
  have h:=uG.1 h
  rw [di]
  refine uG.2 ⟨fun q=>?_,NG h.2 fun p hp=>h0 p (by simp [hp])⟩
  obtain ⟨b,hb,e⟩:=ef.1 q
  have h1:=h0 a (by simp)
  have h2:=h0 b (by simp [hb])
  have:a=b:=by omega
  exact h.1 (this ▸ hb)
theorem VX {p:Nat->Bool} {l:List Nat} (h:l.Nodup):(l.filter p).Nodup:=List.Pairwise.filter p h
theorem pJ {n:Nat} {es:Es} (h:cx n es):(fo n (aM es)).length=es.length:=by
 unfold fo
 rw [dh]
 have hn:=NG h.nd fun p hp=>(h.rng p hp).1
 have:((dI n).filter (aM es)).Perm ((aO es).map Int.toNat):=by
  rw [Rq (VX List.nodup_range) hn]
  intro k
  rw [m9,ef,zC]
  unfold aM
  rw [decide_eq_true_eq]
  constructor
  ·rintro ⟨_,hk⟩
   exact ⟨_,hk,by simp⟩
  ·rintro ⟨q,hq,rfl⟩
   have:=h.rng q hq
   have e:((q.toNat:Nat):Int)=q:=by omega
   rw [e]
   exact ⟨by omega,hq⟩
 rw [this.length_eq,dh,aO,dh]
theorem qO {n:Nat} {es:Es} (h:cx n es):es.length<=n:=by rw [<-pJ h];exact Qv _ _
theorem FH {n:Nat} {es:Es} (h:cx n es) (hl:es.length < n):∃k,k < n/\lP n (aM es)=some k/\(k:Int)∉aO es:=by
 cases hf:lP n (aM es) with
 | none =>
  unfold lP at hf
  rw [List.find?_eq_none] at hf
  have hall:(dI n).filter (aM es)=dI n:=I7.2 fun k hk=>by
   have:=hf k hk
   simpa using this
  have:=pJ h
  unfold fo at this
  rw [hall,dh,zA] at this
  omega
 | some k =>
  have h1:=List.mem_of_find?_eq_some hf
  have h2:=List.find?_some hf
  refine ⟨k,by simpa using h1,rfl,?_⟩
  simp only [aM,i7,decide_eq_false_iff_not] at h2
  exact h2
theorem jS {n:Nat} {es:Es} (h:cx n es) {p:Int} {b:Bs} (hp:p∈aO es):cx n (bp es p b):=by
 refine ⟨h.le,?_,?_⟩
 ·rw [n8 hp];exact h.nd
 ·rw [n8 hp];exact h.rng
theorem qL {es:Es} {p:Int} {b:Bs} (h:p∉aO es):aO (bp es p b)=aO es++[p]:=by
 rw [tW h];simp [aO]
theorem wz {n:Nat} {es:Es} (h:cx n es) {k:Nat} (hk:k < n) (hp:(k:Int)∉aO es) {b:Bs}:cx n (bp es k b):=by
 refine ⟨h.le,?_,?_⟩
 ·rw [qL hp]
  refine zD.2 ⟨h.nd,by simp,?_⟩
  intro a ha b hb e
  have:b=(k:Int):=by simpa using hb
  exact hp (this ▸ e ▸ ha)
 ·rw [qL hp]
  intro p hq
  rcases br.1 hq with hq | hq
  ·exact h.rng p hq
  ·have:p=(k:Int):=by simpa using hq
   omega
abbrev sM (n:Nat) (es:Es):List O:=sm (n:Int) (aZ es) (aR n (aM es))
theorem yJ {n:Nat} {es:Es} (h:cx n es) {p:Int} {b:Bs} (hg:cP es p=some b):bT aA aF 58 [.ptr 0 0 0,.int .i64 p] (sM n es)=some (mJ (sM n es) (b,0)):=by
 have hp:p∈aO es:=Classical.byContradiction fun q=>by rw [vz.2 q] at hg;cases hg
 have hr:=h.rng p hp
 refine Li _ _ _ _ (o:=.doneM (.tup [.str b,.int .i64 0]) (sM n es)) ?_ (.done (by kernel_rfl))
 unfold E4
 have hm:eU (aZ es) (.int .i64 p)=some (some (.str b)):=by rw [Gr,hg];rfl
 rw [decide_eq_false (by omega),cond_false,decide_eq_false (by omega),cond_false,Yn hm,eg]
theorem Q3 {n:Nat} {es:Es} (h:cx n es) {p:Int} {b b':Bs} (hg:cP es p=some b) (hb:b'.length<=252):bT aA aF 119 [.ptr 0 0 0,.int .i64 p,.str b'] (sM n es)=some (qT (0,n,aZ (bp es p b'),aR n (aM (bp es p b')))):=by
 have hp:p∈aO es:=Classical.byContradiction fun q=>by rw [vz.2 q] at hg;cases hg
 have ht:aM (bp es p b')=aM es:=ack fun q=>by rw [n8 hp]
 rw [ht]
 refine TV _ _ _ _ _ (o:=.doneM (.int .i64 0) (sm n (aZ (bp es p b')) (aR n (aM es)))) ?_ (.done (by kernel_rfl))
 unfold KJ
 rw [bR tI (yJ h hg),bz,de rfl,cond_false,decide_eq_false (by omega),cond_false,Gt,gw]
theorem CW {n:Nat} {es:Es} (h:cx n es) {k:Nat} (hk:lP n (aM es)=some k) (hq:(k:Int)∉aO es):bT aA aF 84 [.ptr 0 0 0] (sM n es)=some (jO (k,0,n,aZ (bp es k []),aR n (aM (bp es k [])))):=by
 have ht:aM (bp es k [])=eY (aM es) k true:=by
  funext j
  unfold eY aM
  rw [qL hq]
  by_cases e:j=k
  ·rw [if_pos e,decide_eq_true];simp [e]
  ·rw [if_neg e]
   by_cases hj:(j:Int)∈aO es
   ·rw [decide_eq_true hj,decide_eq_true];simp [hj]
   ·rw [decide_eq_false hj,decide_eq_false]
    intro hc
    rcases br.1 hc with hc | hc
    ·exact hj hc
    ·have:(j:Int)=(k:Int):=by simpa using hc
     omega
 rw [ht]
 refine Vp _ _ _ (o:=.doneM (.tup [.int .i64 (k:Int),.int .i64 0]) (sm n (aZ (bp es k [])) (aR n (eY (aM es) k true)))) ?_ (.done (by kernel_rfl))
 unfold Ln
 rw [bW NB (ace n h.le (aM es) k hk),cN rfl,cond_true,Gt,gw]
theorem xV {n:Nat} {es:Es} (h:cx n es):bT aA aF 44 [.ptr 0 0 0] (sM n es)=some (mI (sM n es) ((n - es.length:Nat):Int)):=by
 refine UY _ _ _ (o:=.doneM (.int .i64 ((n - es.length:Nat):Int)) (sM n es)) ?_ (.done (by kernel_rfl))
 unfold Lc
 rw [bR YE (Wk n h.le (aM es)),bz,Bc,pJ h]
abbrev Su:=List (Int × Bs)
def aQ (e:Su):Bs:=(e.getLastD (0,[])).2
abbrev aG (e:Su) (nx:Int):bP:=⟨e.dropLast.map (·.2),e.map (·.1),aQ e,nx⟩
theorem gn (a:Su) {b:Su} (h:b≠[]):aQ (a++b)=aQ b:=by
 unfold aQ
 rw [Dm,Dm,List.getLast?_append]
 cases hb:b.getLast? with
 | none=>exact absurd (List.getLast?_eq_none_iff.1 hb) h
 | some x=>rfl
theorem lj (x:Int × Bs) {b:Su} (h:b≠[]):aQ (x::b)=aQ b:=gn [x] h
theorem qv (a:Su) (x:Int × Bs) (b:Su):(a++x::b).dropLast=a++(x::b).dropLast:=I6 (by simp)
theorem CL {e:Su}:(e.dropLast.map (·.2)).length=e.length - 1:=by simp
theorem Ko (k:Bs):∀(e:Su),e≠[]->∃e1 p h e2,e=e1++(p,h)::e2/\fc (e.dropLast.map (·.2)) k=e1.length/\(∀y∈e1,lt k y.2=false)/\(e2≠[]->lt k h=true)
 | [],h=>absurd rfl h
 | [(p,h)],_=>⟨[],p,h,[],rfl,rfl,by simp,by simp⟩
 |(p,h)::y::r,_=>by
  rw [List.dropLast_cons_cons,di,sF]
  cases hk:lt k h with
  | true=>exact ⟨[],p,h,y::r,rfl,by simp,by simp,fun _=>hk⟩
  | false =>
   obtain ⟨e1,p',h',e2,e,h1,h2,h3⟩:=Ko k (y::r) (by simp)
   refine ⟨(p,h)::e1,p',h',e2,by rw [e];rfl,by rw [h1];simp,?_,h3⟩
   intro z hz
   rcases bO.1 hz with rfl | hz
   ·exact hk
   ·exact h2 z hz
theorem JN (k:Bs):∀(e1:Su) (p:Int) (h:Bs) (e2:Su),(∀y∈e1,lt k y.2=false)->(e2≠[]->lt k h=true)->fc ((e1++(p,h)::e2).dropLast.map (·.2)) k=e1.length
 | [],p,h,[],_,_=>rfl
 | [],p,h,y::r,_,h2=>by
  rw [dp,List.dropLast_cons_cons,di,sF,h2 (by simp)];rfl
 | x::e1,p,h,e2,h1,h2=>by
  have ih:=JN k e1 p h e2 (fun y hy=>h1 y (by simp [hy])) h2
  have:((x::e1)++(p,h)::e2).dropLast=x::(e1++(p,h)::e2).dropLast:=by
   cases e1 with
   | nil=>rfl
   | cons z t=>rfl
  rw [this,di,sF,h1 x (by simp),ih]
  rfl
theorem mR {α:Type} (a b:List α) {n:Nat} (h:a.length=n):(a++b).take n=a:=by subst h;exact List.take_left ..
theorem qu {α:Type} (a b:List α) {n:Nat} (h:a.length=n):(a++b).drop n=b:=by subst h;exact List.drop_left ..
theorem Bt (e1:Su) (p:Int) (h:Bs) (e2:Su) (k:Bs) (to nx:Int):l9 (aG (e1++(p,h)::e2) nx) k to e1.length=aG (e1++(p,k)::(to,h)::e2) nx:=by
 have hl1:(e1.map (·.2)).length=e1.length:=by simp
 have hm:List.map (·.1) (e1++(p,h)::e2)=(e1.map (·.1)++[p])++e2.map (·.1):=by simp
 have hl2:(e1.map (·.1)++[p]).length=e1.length+1:=by simp
 unfold l9 aG
 simp only
 rw [hm,mR _ _ hl2,qu _ _ hl2,qv,qv]
 cases e2 with
 | nil =>
  have e5:[(p,h)].dropLast=[]:=rfl
  have e6:[(p,k),(to,h)].dropLast=[(p,k)]:=rfl
  have a1:aQ (e1++[(p,h)])=h:=(gn e1 (by simp)).trans rfl
  have a2:aQ (e1++[(p,k),(to,h)])=h:=(gn e1 (by simp)).trans rfl
  rw [e5,e6,a1,a2,dH,kJ (by simp),oI (by simp)]
  simp
 | cons y r =>
  have e3:((p,h)::y::r).dropLast=(p,h)::(y::r).dropLast:=rfl
  have e4:((p,k)::(to,h)::y::r).dropLast=(p,k)::(to,h)::(y::r).dropLast:=rfl
  have a1:aQ (e1++(p,h)::y::r)=aQ (y::r):=(gn e1 (by simp)).trans (lj _ (by simp))
  have a2:aQ (e1++(p,k)::(to,h)::y::r)=aQ (y::r):=(gn e1 (by simp)).trans ((lj _ (by simp)).trans (lj _ (by simp)))
  rw [e3,e4,a1,a2,fK,mR _ _ hl1,qu _ _ hl1]
  simp
theorem abJ (ea eb:Su) (hb:eb≠[]) (to nx:Int) (hm:(aG (ea++eb) nx).seps.length / 2+1=ea.length):uq (aG (ea++eb) nx) to=aG ea (to+1)/\ut (aG (ea++eb) nx)=aG eb nx:=by
 have hsl:(aG (ea++eb) nx).seps.length=(ea++eb).length - 1:=CL
 obtain ⟨a',x,rfl⟩:∃a' x,ea=a'++[x]:=by
  rcases eK ea with h | ⟨l,x,h⟩
  ·subst h;simp at hm
  ·exact ⟨l,x,by simpa using h⟩
 have hm':(aG (a'++[x]++eb) nx).seps.length / 2=a'.length:=by simp at hm |-;omega
 have hd:(a'++[x]++eb).dropLast=a'++x::eb.dropLast:=by
  rw [I6 hb];simp
 have hda:(a'++[x]).dropLast=a':=by simp
 have hs:(aG (a'++[x]++eb) nx).seps=a'.map (·.2)++x.2::eb.dropLast.map (·.2):=by
  show (a'++[x]++eb).dropLast.map (·.2)=_
  rw [hd];simp
 have hk:(aG (a'++[x]++eb) nx).kids=(a'.map (·.1)++[x.1])++eb.map (·.1):=by
  show (a'++[x]++eb).map (·.1)=_
  simp
 constructor
 ·unfold uq
  rw [hm',hs,hk]
  refine congr (congr (congr (congrArg bP.mk ?_) ?_) ?_) rfl
  ·rw [hda];simp
  ·rw [wZ (by simp),kJ (by simp)];simp
  ·rw [gn _ (by simp)]
   simp [aQ]
 ·unfold ut
  rw [hm',hs,hk]
  refine congr (congr (congr (congrArg bP.mk ?_) ?_) ?_) rfl
  ·rw [sg];simp
  ·rw [sg];simp
  ·show aQ (a'++[x]++eb)=aQ eb
   rw [gn _ hb]
def be {α:Type}:List (Int × α)->Int->Int
 | [],n=>n
 |(q,_)::_,_=>q+1
def bj {α:Type} (f:α->Int->Bs):List (Int × α)->Int->Es
 | [],_=>[]
 |(p,x)::r,n=>(p,f x (be r n))::bj f r n
def cI {α:Type} (g:α->Int->Prop):List (Int × α)->Int->Prop
 | [],_=>True
 |(p,x)::r,n=>g x (be r n)/\cI g r n
section
variable {α:Type} {f:α->Int->Bs} {g:α->Int->Prop}
theorem NQ:∀(a b:List (Int × α)) (n:Int),be (a++b) n=be a (be b n)
 | [],_,_=>rfl
 | _::_,_,_=>rfl
theorem jG:∀(a b:List (Int × α)) (n:Int),bj f (a++b) n=bj f a (be b n)++bj f b n
 | [],_,_=>rfl
 |(p,x)::a,b,n=>by rw [dv,bj,bj,jG a b n,NQ];rfl
theorem fP:∀(a b:List (Int × α)) (n:Int),cI g (a++b) n↔cI g a (be b n)/\cI g b n
 | [],b,n=>by simp [cI]
 |(p,x)::a,b,n=>by rw [dv,cI,cI,fP a b n,NQ,and_assoc]
theorem Gh:∀(a:List (Int × α)) (n:Int),aO (bj f a n)=a.map (·.1)
 | [],_=>rfl
 |(p,x)::a,n=>by
  show p::aO (bj f a n)=_
  rw [Gh a n];rfl
end
abbrev oG:=List Pr × Bs
abbrev LL:=List (Int × oG)
abbrev IL:=List (Int × Su)
def cS (x:oG) (nx:Int):Bs:=bI ⟨x.1,x.2,nx⟩
def bC (e:Su) (nx:Int):Bs:=cF (aG e nx)
def okF (x:oG) (nx:Int):Prop:=cJ ⟨x.1,x.2,nx⟩=true
def okI (e:Su) (nx:Int):Prop:=e≠[]/\bQ (aG e nx)=true
def bZ (b:LL):Su:=b.map fun x=>(x.1,x.2.2)
def bE (l:IL):Su:=l.map fun x=>(x.1,aQ x.2)
def bf (l:IL):Su:=l.flatMap (·.2)
inductive Dn:Su->List IL->LL->Prop
 | leaf (b:LL):Dn (bZ b) [] b
 | inn (l:IL) (d:List IL) (b:LL):Dn (bf l) d b->Dn (bE l) (l::d) b
inductive i9 (r:Int):List IL->Int->Bs->Su->Su->List (Int × Su × Int × Nat)->Prop
 | top:i9 r [] r [] [] [] []
 | st {up:List IL} {q:Int} {e1:Su} {p:Int} {h:Bs} {e2:Su} {pre post:IL} {sts:List (Int × Su × Int × Nat)} :
  i9 r up q (aQ (e1++(p,h)::e2)) (bE pre) (bE post) sts ->
  i9 r ((pre++(q,e1++(p,h)::e2)::post)::up) p h (bf pre++e1) (e2++bf post) ((q,e1++(p,h)::e2,be post 0,e1.length)::sts)
theorem GM {r:Int} {up:List IL} {p:Int} {h:Bs} {a c:Su} {sts:List (Int × Su × Int × Nat)} (hp:i9 r up p h a c sts):∀{d:List IL} {b:LL},Dn (a++(p,h)::c) d b->Dn [(r,[])] (up.reverse++d) b:=by
 induction hp with
 | top=>intro d b h;exact h
 | @st up q e1 p h e2 pre post sts _ ih =>
  intro d b hd
  have e:bf pre++e1++(p,h)::(e2++bf post)=bf (pre++(q,e1++(p,h)::e2)::post):=by simp [bf]
  rw [e] at hd
  have:=Dn.inn _ _ _ hd
  have e':bE (pre++(q,e1++(p,h)::e2)::post)=bE pre++(q,aQ (e1++(p,h)::e2))::bE post:=by simp [bE]
  rw [e'] at this
  have:=ih this
  rwa [md,bw]
def aD (a b:Bs):Prop:=a≠[]/\(b=[]∨lt a b=true)
def jC (b:LL):Prop:=b.Pairwise fun y z=>aD y.2.2 z.2.2/\∀x∈z.2.1,lt x.1 y.2.2=false
theorem FW {a b c:Bs} (h1:aD a b) (h2:aD b c):aD a c:=by
 refine ⟨h1.1,?_⟩
 rcases h2.2 with h | h
 ·exact .inl h
 ·rcases h1.2 with h' | h'
  ·exact absurd h' h2.1
  ·exact .inr (lt_trans h' h)
theorem Yc {k a b:Bs} (h:lt k a=true) (h2:aD a b):b=[]∨lt k b=true:=by
 rcases h2.2 with h' | h'
 ·exact .inl h'
 ·exact .inr (lt_trans h h')
theorem M0 {k a b:Bs} (h:lt k b=false) (h2:lt a b=true):lt k a=false:=by
 cases h':lt k a with
 | false=>rfl
 | true=>rw [lt_trans h' h2] at h;cases h
theorem Ql:∀(l:IL),(∀x∈l,x.2≠[])->((bE l).map (·.2)).Sublist ((bf l).map (·.2))
 | [],_=>.slnil
 |(p,e)::l,h=>by
  have ih:=Ql l fun x hx=>h x (by simp [hx])
  have he:e≠[]:=h (p,e) (by simp)
  obtain ⟨a',x,rfl⟩:∃a' x,e=a'++[x]:=by
   rcases eK e with h | ⟨l,x,h⟩
   ·exact absurd h he
   ·exact ⟨l,x,by simpa using h⟩
  have e1:bf ((p,a'++[x])::l)=a'++x::bf l:=by simp [bf]
  have e2:bE ((p,a'++[x])::l)=(p,x.2)::bE l:=by
   simp [bE,aQ]
  rw [e1,e2,fK,di,di]
  exact (ih.cons_cons _).trans (List.sublist_append_right ..)
theorem Fe {m:bP} (h:bQ m=true):(cF m).length<=252:=by
 have h1:=Fg h
 obtain ⟨_,_,_,h4,_,_,h7⟩:=od h
 unfold jT at h1
 omega
theorem VE {l:Lf} (h:cJ l=true):(bI l).length<=252:=by
 have g:=qE h
 have h1:=Ff l
 have h2:=g.wt;have h3:=g.high
 unfold ix at h1
 omega
theorem Tf {m:bP} (h:bQ m=true):bo aA 130 [.str (cF m)]=some (.tup [eI m,.int .i64 0]):=by
 have h1:=Fg h
 have h2:=Fe h
 have:=Zf h 0 (by omega)
 rw [show fp 0=[] from rfl,dH] at this
 rw [Tl _ (by rw [c7];omega),this]
 rfl
theorem VD {m:bP} (h:bQ m=true):(cF m)[0]? = some 78:=by
 unfold cF
 rw [if_pos h]
 rfl
theorem Tg {s:Bs} (hs:s.length<=252) (h:s[0]? = some 78):bo aA 129 [.str s]=some (.tup [eL tl,.int .i64 4]):=by
 have hsm:c7 s:=by rw [c7];omega
 have hr:bo aA 175 [.str s]=some (.tup [.agg [.sl [],.str [],.int .i64 0],.int .i64 0,.bool false]):=by
  refine K3 _ ?_ (.refl _)
  unfold EP
  obtain ⟨x1,e1,h1⟩:∃x e,fY s 1 1=(x,e):=⟨_,_,rfl⟩
  obtain ⟨x2,e2,h2⟩:∃x e,fY s 2 2=(x,e):=⟨_,_,rfl⟩
  obtain ⟨t,m,e3,h3⟩:∃t m e,gy s 4=(t,m,e):=⟨_,_,_,rfl⟩
  rw [aH (jl h1 hsm),jh,aH (jl h2 hsm),jh,aH (jV h3 hsm),gP]
  cases e1 != (0:Int) with
  | true=>rfl
  | false =>
   cases e2 != (0:Int) with
   | true=>rfl
   | false =>
    cases e3 != (0:Int) with
    | true=>rfl
    | false =>
     rw [cond_false,cond_false,cond_false,cQ h]
     rfl
 refine KS _ ?_
 unfold AR
 rw [decide_eq_false (by omega),cond_false,aH hr,Ks]
 rfl
theorem BU {p:Int} {x:oG}:∀{pre post:LL} {n:Int},cI okF (pre++(p,x)::post) n->okF x (be post n):=fun h=>((fP _ _ _).1 h).2.1
theorem l8 {p:Int} {x:Su}:∀{pre post:IL} {n:Int},cI okI (pre++(p,x)::post) n->okI x (be post n):=fun h=>((fP _ _ _).1 h).2.1
theorem Gq {α:Type} {f:α->Int->Bs} (pre:List (Int × α)) (p:Int) (x:α) (post:List (Int × α)) (n:Int):(p,f x (be post n))∈bj f (pre++(p,x)::post) n:=by
 rw [jG,bj];simp
theorem ji {s:Su} {b:LL} (h:Dn s [] b):s=bZ b:=by cases h;rfl
theorem ff {s:Su} {l:IL} {d:List IL} {b:LL} (h:Dn s (l::d) b):s=bE l/\Dn (bf l) d b:=by cases h;exact ⟨rfl,‹_›⟩
theorem Td {b:LL} {a c:Su} {p:Int} {h:Bs} (e:a++(p,h)::c=bZ b):∃pre prs post,b=pre++(p,prs,h)::post/\a=bZ pre/\c=bZ post:=by
 unfold bZ at e
 obtain ⟨pre,b2,rfl,h1,h2⟩:=List.map_eq_append_iff.1 e.symm
 obtain ⟨x,post,rfl,h3,h4⟩:=List.map_eq_cons_iff.1 h2
 obtain ⟨q,prs,hh⟩:=x
 simp only [Prod.mk.injEq] at h3
 obtain ⟨rfl,rfl⟩:=h3
 exact ⟨pre,prs,post,rfl,h1.symm,h4.symm⟩
theorem Tc {l:IL} {a c:Su} {p:Int} {h:Bs} (e:a++(p,h)::c=bE l):∃pre x post,l=pre++(p,x)::post/\aQ x=h/\a=bE pre/\c=bE post:=by
 unfold bE at e
 obtain ⟨pre,b2,rfl,h1,h2⟩:=List.map_eq_append_iff.1 e.symm
 obtain ⟨x,post,rfl,h3,h4⟩:=List.map_eq_cons_iff.1 h2
 obtain ⟨q,x⟩:=x
 simp only [Prod.mk.injEq] at h3
 obtain ⟨rfl,rfl⟩:=h3
 exact ⟨pre,x,post,rfl,rfl,h1.symm,h4.symm⟩
def HP (s:Su):Prop:=s.Pairwise fun a b=>aD a.2 b.2
theorem Mw {s:Su}:HP s↔(s.map (·.2)).Pairwise aD:=List.pairwise_map.symm
theorem Gx {α:Type} {g:α->Int->Prop}:∀{l:List (Int × α)} {n:Int},cI g l n->∀x∈l,∃m,g x.2 m
 |(p,y)::l,n,h,x,hx=>by
  rcases bO.1 hx with rfl | hx
  ·exact ⟨_,h.1⟩
  ·exact Gx h.2 x hx
theorem gU {l:IL} {n:Int} (h:cI okI l n):∀x∈l,x.2≠[]:=fun x hx=>let ⟨_,h⟩:=Gx h x hx;h.1
theorem Bl {l:IL} (hn:∀x∈l,x.2≠[]) (h:HP (bf l)):HP (bE l):=Mw.2 (List.Pairwise.sublist (Ql l hn) (Mw.1 h))
theorem AP:∀{d:List IL} {s:Su} {b:LL},Dn s d b->(∀l∈d,∀x∈l,x.2≠[])->HP (bZ b)->HP s
 | [],s,b,hd,_,h=>by rw [ji hd];exact h
 | l::d,s,b,hd,hn,h=>by
  obtain ⟨e,hd⟩:=ff hd
  rw [e]
  exact Bl (hn l (by simp)) (AP hd (fun l' hl=>hn l' (by simp [hl])) h)
theorem BX {b:LL} (h:jC b):HP (bZ b):=by
 unfold HP bZ
 rw [Je]
 exact h.imp fun h=>h.1
theorem XE {k:Bs} {pre:IL} (hn:∀x∈pre,x.2≠[]) (hP:HP (bf pre)) (h0:∀y∈bE pre,y.2≠[]) (hk:∀y∈bE pre,lt k y.2=false):∀y∈bf pre,lt k y.2=false:=by
 intro y hy
 obtain ⟨z,hz,hy⟩:=ib.1 hy
 have hzs:(z.1,aQ z.2)∈bE pre:=ef.2 ⟨z,hz,rfl⟩
 have h1:=h0 _ hzs
 have h2:=hk _ hzs
 have hP:HP z.2:=(List.pairwise_flatMap.1 hP).1 z hz
 obtain ⟨a',x,e⟩:∃a' x,z.2=a'++[x]:=by
  rcases eK z.2 with h | ⟨l,x,h⟩
  ·exact absurd h (hn z hz)
  ·exact ⟨l,x,by simpa using h⟩
 rw [e] at hy hP h1 h2
 have ex:aQ (a'++[x])=x.2:=gn a' (by simp)
 simp only [ex] at h1 h2
 rcases br.1 hy with hy | hy
 ·have:=(dZ.1 hP).2.2 y hy x (by simp)
  exact M0 h2 (this.2.resolve_left h1)
 ·have:y=x:=by simpa using hy
  rw [this];exact h2
theorem WL {a c:Su} {x:Int × Bs} (h:HP (a++x::c)):∀y∈a,y.2≠[]:=fun y hy=>((dZ.1 h).2.2 y hy x (by simp)).1
abbrev tM (r:Int) (n:Nat) (es:Es):List O:=tm r (n:Int) (aZ es) (aR n (aM es))
theorem ZY {r:Int} {n:Nat} {es:Es} (h:cx n es) {p:Int} {l:Lf} (hg:cP es p=some (bI l)) (hr:cJ l=true):bT aA aF 82 [.ptr 0 0 0,.int .i64 p] (tM r n es)=some (fN (tM r n es) (aN l.prs,l.high,l.next)):=by
 refine Fb _ _ _ _ _ (o:=.doneM (.ifc 120 (eL l)) (tM r n es++[O.row 41 [] 0,O.box 120 (eL l) false])) ?_ (.done (by kernel_rfl))
 unfold AV
 rw [bR tI (yJ h hg),bz,de rfl,cond_false,aH (Ti _ hr),mn,cN rfl,cond_true]
theorem ZX {r:Int} {n:Nat} {es:Es} (h:cx n es) {p:Int} {m:bP} (hg:cP es p=some (cF m)) (hr:bQ m=true):bT aA aF 82 [.ptr 0 0 0,.int .i64 p] (tM r n es)=some (fO (tM r n es) (bd m.seps,aC m.kids,m.high,m.next)):=by
 refine Fb _ _ _ _ _ (o:=.doneM (.ifc 150 (eI m)) (tM r n es++[O.row 41 [] 0,O.box 120 (eL tl) false,O.row 9 [] 0,O.row 3 [] 0,O.box 150 (eI m) false])) ?_ (.done (by kernel_rfl))
 unfold AV
 rw [bR tI (yJ h hg),bz,de rfl,cond_false,aH (Tg (Fe hr) (VD hr)),mn,cZ (by decide),cond_false,aH (Tf hr),vh,cN rfl,cond_true]
section
variable {r:Int} {n:Nat} {es:Es} {p:Int}
theorem rp (h:cx n es) {l:Lf} (hg:cP es p=some (bI l)) (hr:cJ l=true) {k:List V × List UInt8 × Int->R} {k2:List V × List V × List UInt8 × Int->R} {k3:Unit->R} :
  gp aA aF (fN (tM r n es)) (fO (tM r n es)) (f0 (tM r n es)) 82 [.ptr 0 0 0,.int .i64 p] (tM r n es) k k2 k3=k (aN l.prs,l.high,l.next):=WR (Yx _) (ZY h hg hr)
theorem pB (h:cx n es) {m:bP} (hg:cP es p=some (cF m)) (hr:bQ m=true) {k:List V × List UInt8 × Int->R} {k2:List V × List V × List UInt8 × Int->R} {k3:Unit->R} :
  gp aA aF (fN (tM r n es)) (fO (tM r n es)) (f0 (tM r n es)) 82 [.ptr 0 0 0,.int .i64 p] (tM r n es) k k2 k3=k2 (bd m.seps,aC m.kids,m.high,m.next):=WS (Yy _) (Yz _) (ZX h hg hr)
theorem pP (h:cx n es) {b:Bs} {l:Lf} (hg:cP es p=some b) (hr:cJ l=true):bT aA aF 78 [.ptr 0 0 0,.int .i64 p,.ifc 120 (eL l)] (tM r n es)=some (ej (r,n,aZ (bp es p (bI l)),aR n (aM (bp es p (bI l))))):=by
 refine Vj _ _ _ _ _ _ _ _ (o:=.doneM (.tup []) (tM r n (bp es p (bI l))++[O.row 41 [] 0,O.box 120 (eL l) false])) ?_ (.done (by kernel_rfl))
 unfold Lj
 rw [aH (LF _ hr),eg,bW Ny (Q3 h hg (VE hr))]
theorem rO (h:cx n es) {b:Bs} {m:bP} (hg:cP es p=some b) (hr:bQ m=true):bT aA aF 78 [.ptr 0 0 0,.int .i64 p,.ifc 150 (eI m)] (tM r n es)=some (ej (r,n,aZ (bp es p (cF m)),aR n (aM (bp es p (cF m))))):=by
 refine Vk _ _ _ _ _ _ _ _ _ (o:=.doneM (.tup []) (tM r n (bp es p (cF m))++[O.row 9 [] 0,O.row 3 [] 0,O.box 150 (eI m) false])) ?_ (.done (by kernel_rfl))
 unfold Ll
 rw [aH (LH _ (mO hr)),eg,bW Ny (Q3 h hg (Fe hr))]
end
abbrev aJ:=Int × Su × Int × Nat
def kD (x:aJ):V:=.agg [.int .i64 x.1,.sl (bd (aG x.2.1 x.2.2.1).seps),.sl (aC (aG x.2.1 x.2.2.1).kids),.str (aQ x.2.1),.int .i64 x.2.2.1,.int .i64 (x.2.2.2:Int)]
def eX (l:List aJ):List V:=l.map kD
theorem rH (l:List aJ):(eX l).length=l.length:=by simp [eX]
theorem Fv {m:bP} {k:Bs} (h:bQ m=true) (hk:bq k=true) (hh:m.high=[]∨lt k m.high=true):jH m k=(((fc m.seps k:Nat):Int),0):=by
 unfold jH
 rw [if_pos]
 rw [h,hk]
 rcases hh with hh | hh
 ·rw [hh];rfl
 ·rw [hh];simp
inductive j6 (es:Es) (k:Bs):Int->List aJ->Int->Lf->Prop
 | leaf {p:Int} {l:Lf} (hg:cP es p=some (bI l)) (hr:cJ l=true):j6 es k p [] p l
 | inn {p:Int} {e:Su} {nx:Int} {i:Nat} {p':Int} {sts:List aJ} {pl:Int} {l:Lf} (hg:cP es p=some (cF (aG e nx))) (hr:bQ (aG e nx)=true) (hf:jH (aG e nx) k=((i:Int),0)) (hi:(aG e nx).kids[i]? = some p') :
  j6 es k p' sts pl l->j6 es k p ((p,e,nx,i)::sts) pl l
theorem QT {r:Int} {n:Nat} {es:Es} (hS:cx n es) {k:Bs} (hk:bq k=true) :
  ∀(d:List IL) (b:LL) (up:List IL) (p:Int) (h:Bs) (a c:Su) (sts:List aJ),i9 r up p h a c sts->Dn (a++(p,h)::c) d b->(∀y∈a,lt k y.2=false)->(h=[]∨lt k h=true) ->
  (∀l∈d,cI okI l 0)->cI okF b 0->(∀l∈d,∀x∈bj bC l 0,x∈es)->(∀x∈bj cS b 0,x∈es)->HP (bZ b) ->
  ∃p' h' ws pre prs post,i9 r (d.reverse++up) p' h' (bZ pre) (bZ post) (ws.reverse++sts)/\b=pre++(p',prs,h')::post/\(∀y∈bZ pre,lt k y.2=false)/\(h'=[]∨lt k h'=true)/\ws.length=d.length /\
   j6 es k p ws p' ⟨prs,h',be post 0⟩
 | [],b,up,p,h,a,c,sts,hp,hd,ha,hh,_,hF,_,hE,_=>by
  obtain ⟨pre,prs,post,rfl,rfl,rfl⟩:=Td (ji hd)
  have hr:cJ ⟨prs,h,be post 0⟩=true:=BU hF
  have hg:cP es p=some (bI ⟨prs,h,be post 0⟩):=jJ hS.nd (hE _ (Gq (f:=cS) pre p (prs,h) post 0))
  exact ⟨p,h,[],pre,prs,post,hp,rfl,ha,hh,rfl,.leaf hg hr⟩
 | l::d,b,up,p,h,a,c,sts,hp,hd,ha,hh,hI,hF,hEI,hE,hP=>by
  have hPs:=AP hd (fun l hl=>gU (hI l hl)) hP
  obtain ⟨e,hdk⟩:=ff hd
  clear hd
  obtain ⟨pre,x,post,rfl,rfl,rfl,rfl⟩:=Tc e
  obtain ⟨hne,hr⟩:okI x (be post 0):=l8 (hI _ (cz ..))
  have hg:cP es p=some (cF (aG x (be post 0))):=jJ hS.nd (hEI _ (cz ..) _ (Gq (f:=bC) pre p x post 0))
  obtain ⟨e1,p',h',e2,rfl,h1,h2,h3⟩:=Ko k x hne
  have hfind:=Fv hr hk hh
  have hfi:jH (aG (e1++(p',h')::e2) (be post 0)) k=(((e1.length:Nat):Int),0):=hfind.trans (by rw [h1])
  have hkid:((e1++(p',h')::e2).map (·.1))[e1.length]? = some p':=by simp
  have hk2:bf (pre++(p,e1++(p',h')::e2)::post)=bf pre++e1++(p',h')::(e2++bf post):=by simp [bf]
  rw [hk2] at hdk
  have hpre:∀y∈bf pre++e1,lt k y.2=false:=by
   intro y hy
   rcases br.1 hy with hy | hy
   ·have hPk:=AP hdk (fun l hl=>gU (hI l (by simp [hl]))) hP
    rw [bw] at hPk
    exact XE (fun x hx=>gU (hI _ (cz ..)) x (by simp [hx])) (dZ.1 hPk).1 (WL hPs) ha y hy
   ·exact h2 y hy
  have hh':h'=[]∨lt k h'=true:=by
   by_cases h2e:e2=[]
   ·subst h2e
    have:aQ (e1++[(p',h')])=h':=(gn e1 (by simp)).trans rfl
    rw [this] at hh
    exact hh
   ·exact .inr (h3 h2e)
  obtain ⟨p2,h2',ws,pre',prs,post',q1,q2,q3,q4,q5,q6⟩:=QT hS hk d b _ p' h' _ _ _ (.st hp) hdk hpre hh' (fun l hl=>hI l (by simp [hl])) hF (fun l hl=>hEI l (by simp [hl])) hE hP
  refine ⟨p2,h2',(p,e1++(p',h')::e2,be post 0,e1.length)::ws,pre',prs,post',?_,q2,q3,q4,by simp [q5],.inn hg hr hfi hkid q6⟩
  rw [md,bw,md,bw]
  exact q1
theorem acN {r:Int} {n:Nat} {es:Es} (hS:cx n es) {k:Bs} {p:Int} {ws:List aJ} {pl:Int} {l:Lf} (h:j6 es k p ws pl l):∀acc:List aJ,acc.length+ws.length<=10000 ->
  Go qk true 5 (fF 75) (.head 0 (Ac k p r n (aZ es) (aR n (aM es)) (eX acc))) (.doneM (.tup [.own 5,.agg [.sl (aN l.prs),.str l.high,.int .i64 l.next],.int .i64 pl]) (tM r n es++[O.row 176 (eX (acc++ws)) 0,O.box 120 (.agg [.sl (aN l.prs),.str l.high,.int .i64 l.next]) false])):=by
 induction h with
 | @leaf p l hg hr =>
  intro acc _
  rw [dH]
  refine PI _ _ _ _ _ _ _ ?_ (.refl _)
  unfold HU
  rw [rp hS hg hr,bz]
 | @inn p e nx i p' sts pl l hg hr hf hi _ ih =>
  intro acc ha
  have ih:=ih (acc++[(p,e,nx,i)]) (by simp at ha |-;omega)
  rw [bw] at ih
  refine PI _ _ _ _ _ _ _ ?_ ih
  unfold HU
  rw [pB hS hg hr,bz]
  show (aE aA _ [eI (aG e nx),_] _)=_
  rw [aH (L0 _ k (mO hr)),Kq,hf,de rfl,cond_false,aB (decide_eq_true (by rw [rH];simp at ha |-;omega)),aB (by simp),aY]
  have hi2:aS (aC (aG e nx).kids) i=fun k=>k (V.int .i64 p'):=by
   funext kk
   exact fi hi
  rw [hi2]
  simp only [bX]
  simp [eX,kD]
theorem rN {r:Int} {n:Nat} {es:Es} (hS:cx n es) {k:Bs} {ws:List aJ} {pl:Int} {l:Lf} (h:j6 es k r ws pl l) (hw:ws.length<=10000) :
  bT aA aF 75 [.ptr 0 0 0,.str k] (tM r n es)=some (nT (tM r n es) (eX ws,aN l.prs,l.high,l.next,pl)) :=
 Ve _ _ _ _ _ rfl ⟨_,_,acN hS h [] (by simpa using hw),by kernel_rfl⟩
def cX (ups:List IL):Es:=ups.flatMap fun l=>bj bC l 0
structure WT (n:Nat) (r:Int) (es:Es) (ups:List IL) (b:LL):Prop where
 shf:cx n es
 rep:es.Perm (cX ups++bj cS b 0)
 dn:Dn [(r,[])] ups b
 okI:∀l∈ups,cI okI l 0
 okF:cI okF b 0
 ord:jC b
theorem Ev:∀{d:List IL} {s:Su} {b:LL},Dn s d b->(∀l∈d,cI okI l 0)->s≠[]->∀l∈d,l≠[]
 | [],_,_,_,_,_=>by simp
 | l::d,s,b,hd,hI,hs=>by
  obtain ⟨e,hdk⟩:=ff hd
  have hl:l≠[]:=by rintro rfl;exact hs e
  intro l' hl'
  rcases bO.1 hl' with rfl | hl'
  ·exact hl
  ·refine Ev hdk (fun x hx=>hI x (by simp [hx])) ?_ l' hl'
   obtain ⟨x,t,rfl⟩:=m5 hl
   have:=gU (hI _ (cz ..)) x (by simp)
   intro h0
   rw [bf,fT,pX] at h0
   exact this h0.1
theorem AY {α:Type} {f:α->Int->Bs}:∀(l:List (Int × α)) (n:Int),(bj f l n).length=l.length
 | [],_=>rfl
 |(p,x)::l,n=>by rw [bj,cG,AY l n];rfl
theorem LG:∀{ups:List IL},(∀l∈ups,l≠[])->ups.length<=(cX ups).length
 | [],_=>bK _
 | l::ups,h=>by
  have:=LG (ups:=ups) fun x hx=>h x (by simp [hx])
  have h1:0 < l.length:=iM.2 (h l (by simp))
  rw [cX,fT,cO,AY,cG]
  have e:(cX ups).length=(List.flatMap (fun l=>bj bC l 0) ups).length:=rfl
  omega
theorem ot {n:Nat} {r:Int} {es:Es} {ups:List IL} {b:LL} (h:WT n r es ups b):ups.length<=1024:=by
 have h1:=LG (Ev h.dn h.okI (by simp))
 have h2:=h.rep.length_eq
 have h3:=qO h.shf
 have h4:=h.shf.le
 rw [cO] at h2
 omega
theorem IK {n:Nat} {r:Int} {es:Es} {ups:List IL} {b:LL} (h:WT n r es ups b) {k:Bs} (hk:bq k=true) :
  ∃p h' ws pre prs post,i9 r ups.reverse p h' (bZ pre) (bZ post) ws.reverse/\b=pre++(p,prs,h')::post/\(∀y∈bZ pre,lt k y.2=false)/\(h'=[]∨lt k h'=true)/\ws.length=ups.length/\j6 es k r ws p ⟨prs,h',be post 0⟩:=by
 obtain ⟨p,h',ws,pre,prs,post,q1,q2,q3,q4,q5,q6⟩:=QT (r:=r) h.shf hk ups b [] r [] [] [] [] .top h.dn (by simp) (.inl rfl) h.okI h.okF
  (fun l hl x hx=>h.rep.mem_iff.2 (kH _ (ib.2 ⟨l,hl,hx⟩))) (fun x hx=>h.rep.mem_iff.2 (m8 _ hx)) (BX h.ord)
 rw [dH,dH] at q1
 exact ⟨p,h',ws,pre,prs,post,q1,q2,q3,q4,q5,q6⟩
theorem Qn:∀{l:List Bs},(∀s∈l,bq s=true)->cD l<=19 * l.length
 | [],_=>bK _
 | s::l,h=>by
  have h1:=iE (h s (by simp))
  have h2:=Qn (l:=l) fun x hx=>h x (by simp [hx])
  simp only [cD,cG]
  omega
structure oF (e1:Su) (p:Int) (h:Bs) (e2:Su) (nx:Int) (k:Bs) (to:Int):Prop where
 right:bQ (aG (e1++(p,h)::e2) nx)=true
 key:bq k=true
 pg:dV to=true
 lo:∀y∈e1,aD y.2 k
 hi:h=[]∨lt k h=true
 hp:HP (e1++(p,h)::e2)
theorem FV {a k:Bs} (hk:bq k=true) (h:aD a k):lt k a=false:=by
 rcases h.2 with h' | h'
 ·subst h';cases hk
 ·exact ki h'
theorem MD {e1:Su} {p:Int} {h:Bs} {e2:Su} {nx:Int} {k:Bs} {to:Int} (f:oF e1 p h e2 nx k to):fc (aG (e1++(p,h)::e2) nx).seps k=e1.length:=by
 refine JN k e1 p h e2 (fun y hy=>FV f.key (f.lo y hy)) fun hne=>?_
 obtain ⟨y,r,rfl⟩:=m5 hne
 have:HP ((p,h)::y::r):=(dZ.1 f.hp).2.1
 have:=(fV.1 this).1 y (by simp)
 exact f.hi.resolve_left this.1
theorem Bo {e1:Su} {p:Int} {h:Bs} {e2:Su} {nx:Int} {k:Bs} {to:Int} (f:oF e1 p h e2 nx k to):aQ (e1++(p,h)::e2)=[]∨lt k (aQ (e1++(p,h)::e2))=true:=by
 rw [gn _ (by simp)]
 cases e2 with
 | nil=>exact f.hi
 | cons y r =>
  rw [lj _ (by simp)]
  have h1:HP ((p,h)::y::r):=(dZ.1 f.hp).2.1
  obtain ⟨x,hx⟩:∃x,(y::r).getLast? = some x:=⟨_,Rn (by simp)⟩
  have hm:=List.mem_of_getLast? hx
  have e:aQ (y::r)=x.2:=by unfold aQ;rw [Dm,hx];rfl
  have:=(fV.1 h1).1 x hm
  rw [e]
  exact Yc (f.hi.resolve_left this.1) this
theorem yg {e1:Su} {p:Int} {h:Bs} {e2:Su} {nx:Int} {k:Bs} {to:Int} (f:oF e1 p h e2 nx k to) :
  mM (aG (e1++(p,h)::e2) nx) k to=if 23+cD (aG (e1++(p,k)::(to,h)::e2) nx).seps<=252 then (aG (e1++(p,k)::(to,h)::e2) nx,0) else (ko,6):=by
 have ha:=MD f
 have hf:=Fv f.right f.key (Bo f)
 unfold mM
 rw [hf,ha,if_pos ⟨rfl,f.pg⟩,Bt,if_neg]
 ·unfold lQ
  by_cases hz:23+cD (aG (e1++(p,k)::(to,h)::e2) nx).seps<=252
  ·rw [if_pos hz,if_pos (by simpa using hz)]
  ·rw [if_neg hz,if_neg (by simpa using hz)]
 ·rintro ⟨h0,h1⟩
  have hlt1:e1.length - 1 < e1.length:=by omega
  have:(aG (e1++(p,h)::e2) nx).seps[e1.length - 1]? = some e1[e1.length - 1].2:=by
   show ((e1++(p,h)::e2).dropLast.map (·.2))[e1.length - 1]? = _
   rw [qv,fK,dx (by simpa using hlt1),dQ,bG hlt1]
   rfl
  rw [this] at h1
  have hm:e1[e1.length - 1]∈e1:=wX hlt1
  have:=f.lo _ hm
  rw [Option.some.inj h1] at this
  rcases this.2 with h' | h'
  ·exact this.1 h'
  ·rw [gG] at h';cases h'
theorem Bp {e1:Su} {p:Int} {h:Bs} {e2:Su} {nx:Int} {k:Bs} {to:Int} (f:oF e1 p h e2 nx k to) (hz:23+cD (aG (e1++(p,k)::(to,h)::e2) nx).seps<=252):bQ (aG (e1++(p,k)::(to,h)::e2) nx)=true:=by
 have ha:=MD f
 have hf:Jp (aG (e1++(p,h)::e2) nx) k to:=by
  refine ⟨f.right,f.key,?_,f.pg,?_,?_⟩
  ·rcases Bo f with h | h
   ·show (aQ (e1++(p,_)::e2)==[] || _)=true
    rw [h];rfl
   ·show (_ || lt k (aQ (e1++(p,_)::e2)))=true
    rw [h,pR]
  ·have:=yg f
   rw [if_pos hz] at this
   intro hc
   unfold mM at this
   rw [Fv f.right f.key (Bo f),if_pos ⟨rfl,f.pg⟩,if_pos hc] at this
   simp only [Prod.mk.injEq] at this
   exact absurd this.2 (by decide)
  ·rw [ha,Bt];unfold lQ;simpa using hz
 have:=ZO hf
 rwa [ha,Bt] at this
theorem o8 {s:Bs} (h:bq s=true):s≠[]:=by rintro rfl;cases h
theorem Bq (e1:Su) (p:Int) (h:Bs) (e2:Su) (k:Bs) (to nx:Int):cD (aG (e1++(p,k)::(to,h)::e2) nx).seps=cD (aG (e1++(p,h)::e2) nx).seps+(3+k.length):=by
 have:=Bt e1 p h e2 k to nx
 rw [<-this]
 show cD ((aG (e1++(p,h)::e2) nx).seps.take e1.length++[k]++(aG (e1++(p,h)::e2) nx).seps.drop e1.length)=_
 have h2:cD (aG (e1++(p,h)::e2) nx).seps=cD ((aG (e1++(p,h)::e2) nx).seps.take e1.length)+cD ((aG (e1++(p,h)::e2) nx).seps.drop e1.length):=by
  rw [<-wJ,iz]
 rw [wJ,wJ,h2]
 simp only [cD]
 omega
theorem Bi {e:Su} (h:e≠[]):∃x∈e,aQ e=x.2:=by
 obtain ⟨a',x,rfl⟩:∃a' x,e=a'++[x]:=by
  rcases eK e with h' | ⟨l,x,h'⟩
  ·exact absurd h' h
  ·exact ⟨l,x,by simpa using h'⟩
 exact ⟨x,by simp,gn a' (by simp)⟩
theorem FU (e1:Su) (p:Int) (h:Bs) (c:Su) (k:Bs) (to:Int):aQ (e1++(p,k)::(to,h)::c)=aQ (e1++(p,h)::c):=by
 cases c with
 | nil =>
  have a1:aQ (e1++[(p,h)])=h:=(gn e1 (by simp)).trans rfl
  have a2:aQ (e1++[(p,k),(to,h)])=h:=(gn e1 (by simp)).trans rfl
  exact a2.trans a1.symm
 | cons z c =>
  have a1:aQ (e1++(p,h)::z::c)=aQ (z::c):=(gn e1 (by simp)).trans (lj _ (by simp))
  have a2:aQ (e1++(p,k)::(to,h)::z::c)=aQ (z::c):=(gn e1 (by simp)).trans ((lj _ (by simp)).trans (lj _ (by simp)))
  exact a2.trans a1.symm
structure RD (e:Su) (nx:Int) (k:Bs) (to q:Int) (e' fa fb:Su):Prop where
 cut:e'=fa++fb
 na:fa≠[]
 nb:fb≠[]
 ra:bQ (aG fa (q+1))=true
 rb:bQ (aG fb nx)=true
 mid:bq (aQ fa)=true
 six:6<=fa.length/\6<=fb.length
 big:(∀y∈e,y.2.length<=5)->k.length<=5->15<=fa.length
 run:∃ea eb,bQ (aG ea (q+1))=true/\bQ (aG eb nx)=true/\wE (aG e nx) q=(aG ea (q+1),aG eb nx,aQ fa,0) /\
  ((lt k (aQ fa)=true/\mM (aG ea (q+1)) k to=(aG fa (q+1),0)/\eb=fb)∨(lt k (aQ fa)=false/\ea=fa/\mM (aG eb nx) k to=(aG fb nx,0)))
theorem Qo:∀{l:List Bs},(∀s∈l,s.length<=5)->cD l<=8 * l.length
 | [],_=>bK _
 | s::l,h=>by
  have h1:=h s (by simp)
  have h2:=Qo (l:=l) fun x hx=>h x (by simp [hx])
  simp only [cD,cG]
  omega
theorem Xa {e1:Su} {p:Int} {h:Bs} {e2:Su} {nx:Int} {k:Bs} {to q:Int} (f:oF e1 p h e2 nx k to) (hz:¬23+cD (aG (e1++(p,k)::(to,h)::e2) nx).seps<=252) (hq:dV q=true) :
  ∃fa fb,RD (e1++(p,h)::e2) nx k to q (e1++(p,k)::(to,h)::e2) fa fb:=by
 rw [Bq] at hz
 have hkl:=(iE f.key).2
 obtain ⟨r1,r2,r3,r4,r5,r6,r7⟩:=od f.right
 have h19:=Qn r3
 have hsl:(aG (e1++(p,h)::e2) nx).seps.length=(e1++(p,h)::e2).length - 1:=CL
 have h3:3<=(aG (e1++(p,h)::e2) nx).kids.length:=by omega
 obtain ⟨A,mid,B,s1,s2,s3,s4,s5⟩:=Qf f.right h3
 have hss:=abM (to:=q) f.right h3 hq
 have hspl:wE (aG (e1++(p,h)::e2) nx) q=(uq (aG (e1++(p,h)::e2) nx) q,ut (aG (e1++(p,h)::e2) nx),mid,0):=by
  unfold wE
  rw [if_pos ⟨f.right,h3,hq⟩,s3]
 have hsz:cD (aG (e1++(p,h)::e2) nx).seps=cD A+(3+mid.length)+cD B:=by
  rw [s1,wJ];simp only [cD];omega
 have hAl:A.length+B.length+1=(aG (e1++(p,h)::e2) nx).seps.length:=by rw [s1];simp;omega
 have hA4:=rI (l:=A) fun x hx=>r3 x (by rw [s1];simp [hx])
 have hB4:=rI (l:=B) fun x hx=>r3 x (by rw [s1];simp [hx])
 have hmk:bq mid=true:=r3 mid (by rw [s1];simp)
 have hml:=(iE hmk).1
 have hbig:(∀y∈e1++(p,h)::e2,y.2.length<=5)->k.length<=5->15<=(aG (e1++(p,h)::e2) nx).seps.length / 2+1:=by
  intro hy hk5
  have h8:cD (aG (e1++(p,h)::e2) nx).seps<=8 * (aG (e1++(p,h)::e2) nx).seps.length:=Qo fun s hs=>by
   obtain ⟨y,hy1,rfl⟩:=ef.1 hs
   exact hy y ((List.dropLast_sublist _).subset hy1)
  omega
 generalize hm:(aG (e1++(p,h)::e2) nx).seps.length / 2+1=m at *
 obtain ⟨ea,hea⟩:∃ea,ea=(e1++(p,h)::e2).take m:=⟨_,rfl⟩
 obtain ⟨eb,heb⟩:∃eb,eb=(e1++(p,h)::e2).drop m:=⟨_,rfl⟩
 have hab:e1++(p,h)::e2=ea++eb:=by rw [hea,heb,iz]
 have hel:ea.length=m:=by rw [hea,d9];omega
 have hbl:eb.length+m=(e1++(p,h)::e2).length:=by rw [heb,eO];omega
 have hna:ea≠[]:=by rintro rfl;simp at hel;omega
 have hsixA:6<=ea.length:=by omega
 have hsixB:6<=eb.length:=by omega
 have hnb:eb≠[]:=by rintro rfl;simp only [dR,ew] at hbl;omega
 have hsp:=abJ ea eb hnb q nx (by rw [<-hab,hm,hel])
 rw [<-hab] at hsp
 have hmid:aQ ea=mid:=by
  have:=congrArg bP.high hsp.1
  exact this.symm.trans s3
 have hsa:(aG ea (q+1)).seps=A:=by
  have:=congrArg bP.seps hsp.1
  exact this.symm.trans s4
 have hsb:(aG eb nx).seps=B:=by
  have:=congrArg bP.seps hsp.2
  rw [<-s5,<-hm]
  exact this.symm
 have hra:bQ (aG ea (q+1))=true:=by rw [<-hsp.1];exact hss.1
 have hrb:bQ (aG eb nx)=true:=by rw [<-hsp.2];exact hss.2
 rw [hsp.1,hsp.2,<-hmid] at hspl
 rw [<-hmid] at hmk hml
 have hHP:=f.hp
 rw [hab] at hHP
 have hHa:HP ea:=(dZ.1 hHP).1
 have hHb:HP eb:=(dZ.1 hHP).2.1
 rcases List.append_eq_append_iff.1 hab with ⟨c,hc1,hc2⟩ | ⟨c,hc1,hc2⟩
 ·-- ea=e1++c
  cases c with
  | nil =>
   rw [dH] at hc1
   subst hc1
   rw [dp] at hc2
   subst hc2
   have f2:oF [] p h e2 nx k to:=⟨hrb,f.key,f.pg,by simp,f.hi,hHb⟩
   have hp2:=yg f2
   have hz2:23+cD (aG ([]++(p,k)::(to,h)::e2) nx).seps<=252:=by rw [Bq,dp,hsb];omega
   rw [if_pos hz2] at hp2
   obtain ⟨x,hx,e⟩:=Bi hna
   refine ⟨ea,(p,k)::(to,h)::e2,rfl,hna,by simp,hra,Bp f2 hz2,hmk,⟨hsixA,by simp at hsixB |-;omega⟩,fun h1 h2=>hel ▸ hbig h1 h2,ea,(p,h)::e2,hra,hrb,hspl,.inr ⟨?_,rfl,hp2⟩⟩
   rw [e]
   exact FV f.key (f.lo x hx)
  | cons y c =>
   rw [dv] at hc2
   obtain ⟨rfl,hc3⟩:=List.cons.inj hc2
   clear hc2
   subst hc1
   subst hc3
   have f2:oF e1 p h c (q+1) k to:=⟨hra,f.key,f.pg,f.lo,f.hi,hHa⟩
   have hp2:=yg f2
   have hz2:23+cD (aG (e1++(p,k)::(to,h)::c) (q+1)).seps<=252:=by rw [Bq,hsa];omega
   rw [if_pos hz2] at hp2
   have hhi:=FU e1 p h c k to
   refine ⟨e1++(p,k)::(to,h)::c,eb,by simp,by simp,hnb,Bp f2 hz2,hrb,by rw [hhi];exact hmk,⟨by simp at hsixA |-;omega,hsixB⟩,fun h1 h2=>by have h3:=hbig h1 h2;rw [<-hel] at h3;simp at h3 |-;omega,e1++(p,h)::c,eb,hra,hrb,by rw [hhi];exact hspl,.inl ⟨?_,hp2,rfl⟩⟩
   rw [hhi]
   exact (Bo f2).resolve_left (o8 hmk)
 ·-- e1=ea++c
  subst hc1
  subst hc2
  have f2:oF c p h e2 nx k to:=⟨hrb,f.key,f.pg,fun y hy=>f.lo y (by simp [hy]),f.hi,hHb⟩
  have hp2:=yg f2
  have hz2:23+cD (aG (c++(p,k)::(to,h)::e2) nx).seps<=252:=by rw [Bq,hsb];omega
  rw [if_pos hz2] at hp2
  obtain ⟨x,hx,e⟩:=Bi hna
  refine ⟨ea,c++(p,k)::(to,h)::e2,by simp,hna,by simp,hra,Bp f2 hz2,hmk,⟨hsixA,by simp at hsixB |-;omega⟩,fun h1 h2=>hel ▸ hbig h1 h2,ea,c++(p,h)::e2,hra,hrb,hspl,.inr ⟨?_,rfl,hp2⟩⟩
  rw [e]
  exact FV f.key (f.lo x (by simp [hx]))
theorem WK {a c:Su} {p to:Int} {k h:Bs} (hP:HP (a++(p,h)::c)) (hlo:∀y∈a,aD y.2 k) (hkh:aD k h):HP (a++(p,k)::(to,h)::c):=by
 obtain ⟨h1,h2,h3⟩:=dZ.1 hP
 obtain ⟨h4,h5⟩:=fV.1 h2
 refine dZ.2 ⟨h1,fV.2 ⟨?_,fV.2 ⟨h4,h5⟩⟩,?_⟩
 ·intro y hy
  rcases bO.1 hy with rfl | hy
  ·exact hkh
  ·exact FW hkh (h4 y hy)
 ·intro y hy z hz
  rcases bO.1 hz with rfl | hz
  ·exact hlo y hy
  ·rcases bO.1 hz with rfl | hz
   ·exact h3 y hy (p,h) (by simp)
   ·exact h3 y hy z (by simp [hz])
def ql:List aJ->List V
 | []=>[]
 | s::r=>.tup [.int .i64 (r.length:Int),kD s]::ql r
theorem JR:∀sts:List aJ,(qj (eX sts.reverse)).map V.tup=ql sts
 | []=>rfl
 | s::r=>by
  have ih:=JR r
  unfold qj at ih |-
  rw [md,eX,fK,List.zipIdx_append,fK,List.reverse_append,fK]
  rw [eX] at ih
  rw [ih]
  simp [ql]
theorem R8 (sts:List aJ) (h:sts.length<=16777216):As [.ref (.sl (eX sts.reverse)) 0]=some (qj (eX sts.reverse)):=by
 refine if_pos ⟨by rw [rH,zB];exact h,?_⟩
 rw [dB]
 intro x hx
 obtain ⟨s,_,rfl⟩:=ef.1 hx
 rfl
theorem mt (l:IL) (up:List IL):cX (l::up)=bj bC l 0++cX up:=rfl
theorem R5 {es R:Es} {pre post:IL} {q:Int} {x:Su} {up:List IL} {X:Es} (h:es.Perm (cX ((pre++(q,x)::post)::up)++X)):es.Perm ((q,bC x (be post 0))::(bj bC pre (q+1)++bj bC post 0++(cX up++X))):=by
 rw [mt,jG,bj] at h
 refine h.trans ?_
 simp only [bw,dv]
 exact oK
structure DL (n:Nat) (r:Int) (es:Es) (up:List IL) (d:List IL) (b:LL) (X:Es) (p to:Int) (k h:Bs) (a c:Su):Prop where
 shf:cx n es
 dn:Dn (a++(p,k)::(to,h)::c) d b
 hp:HP (a++(p,h)::c)
 lo:∀y∈a,aD y.2 k
 hi:h=[]∨lt k h=true
 key:bq k=true
 pg:dV p=true
 pgt:dV to=true
 okI:∀l∈up,cI okI l 0
 rep:es.Perm (cX up++X)
 room:es.length+up.length+1<=n
theorem FJ {p q:Int} {x:Bs}:∀{es:Es},cP (bp es p x) q=if q=p then some x else cP es q
 | []=>by
  show (if q=p then some x else none)=_
  rfl
 |(a,y)::es=>by
  rw [bp]
  by_cases h:p=a
  ·subst h
   rw [if_pos rfl,cP,cP]
   by_cases e:q=p
   ·rw [if_pos e,if_pos e]
   ·rw [if_neg e,if_neg e,if_neg e]
  ·rw [if_neg h,cP,cP,FJ]
   by_cases e:q=a
   ·rw [if_pos e,if_pos e,if_neg fun e2=>h (e2.symm.trans e)]
   ·rw [if_neg e,if_neg e]
theorem FK {p:Int} {x:Bs} {es:Es}:cP (bp es p x) p=some x:=by rw [FJ,if_pos rfl]
theorem Bf {p q:Int} {x:Bs} {es:Es} (h:q≠p):cP (bp es p x) q=cP es q:=by rw [FJ,if_neg h]
theorem xZ {es:Es} {p:Int} {b:Bs} (h:cP es p=some b):p∈aO es:=Classical.byContradiction fun q=>by rw [vz.2 q] at h;cases h
inductive nk (n:Nat) (r:Int):Es->List aJ->Bs->Int->Int->Int->Es->Prop
 | top {es:Es} {k:Bs} {p to:Int} {j:Nat} (hs:cx n es) (hf:lP n (aM es)=some j) (hj:j < n) (hq:(j:Int)∉aO es) (hr:bQ (aG [(p,k),(to,[])] 0)=true) :
  nk n r es [] k p to j (bp (bp es j []) j (cF (aG [(p,k),(to,[])] 0)))
 | room {es:Es} {sts:List aJ} {k:Bs} {p to q:Int} {e:Su} {nx:Int} {i:Nat} {e':Su} (hs:cx n es) (hg:cP es q=some (cF (aG e nx))) (hr:bQ (aG e nx)=true) (hk:bq k=true) (hp:mM (aG e nx) k to=(aG e' nx,0)) (hr':bQ (aG e' nx)=true) :
  nk n r es ((q,e,nx,i)::sts) k p to r (bp es q (cF (aG e' nx)))
 | two {es:Es} {sts:List aJ} {k:Bs} {p to q:Int} {e:Su} {nx:Int} {i j:Nat} {ea eb fa fb:Su} {r':Int} {es':Es} (hs:cx n es) (hg:cP es q=some (cF (aG e nx))) (hr:bQ (aG e nx)=true) (hk:bq k=true) (hp:mM (aG e nx) k to=(ko,6))
  (hf:lP n (aM es)=some j) (hj:j < n) (hq:(j:Int)∉aO es) (hra:bQ (aG ea ((j:Int)+1))=true) (hrb:bQ (aG eb nx)=true) (rfa:bQ (aG fa ((j:Int)+1))=true) (rfb:bQ (aG fb nx)=true)
  (hspl:wE (aG e nx) j=(aG ea ((j:Int)+1),aG eb nx,aQ fa,0)) (hcase:(lt k (aQ fa)=true/\mM (aG ea ((j:Int)+1)) k to=(aG fa ((j:Int)+1),0)/\eb=fb)∨(lt k (aQ fa)=false/\ea=fa/\mM (aG eb nx) k to=(aG fb nx,0))) :
  nk n r (bp (bp (bp es j []) q (cF (aG fa ((j:Int)+1)))) j (cF (aG fb nx))) sts (aQ fa) q j r' es'->nk n r es ((q,e,nx,i)::sts) k p to r' es'
def Jx (n:Nat) (r:Int) (es:Es) (k:Bs) (p to:Int) (sts:List aJ) (r':Int) (es':Es):Prop :=
 ∃m,Go qk true 5 (fF 123) (.head 0 (xh (ql sts) r n (aZ es) (aR n (aM es)) k p to)) (.doneM (.tup []) m)/\∀r0 n0 e0 b0,iR aF (tm r0 n0 e0 b0) (.tup []) m=nR (r',n,aZ es',aR n (aM es'))
def zO (up:List IL):Prop:=∀l,up.getLast? = some l->∀x∈l,2<=x.2.length
def Ft (up:List IL):Prop:=∀l∈up,∀x∈l.dropLast,15<=x.2.length
def Fk (up:List IL):Prop:=∀l∈up.dropLast,∀x∈l,6<=x.2.length
def zP (up:List IL):Prop:=∀l∈up,∀x∈l,∀y∈x.2,y.2.length<=5
def RE (n:Nat) (r:Int) (es:Es) (up:List IL) (k:Bs) (p to:Int) (sts:List aJ) (d:List IL) (b:LL) (X:Es) (c:Su):Prop :=
 ∃r' up' es',cx n es'/\Dn [(r',[])] (up'.reverse++d) b/\(∀l∈up',cI okI l 0)/\es'.Perm (cX up'++X)/\up'≠[]/\(zO up->zO up')/\(c=[]->zP up->k.length<=5->Ft up->Ft up')/\(Fk up->Fk up')/\nk n r es sts k p to r' es'
theorem Zz {r:Int} {q:Int} {h:Bs} {pre post:IL} {sts:List aJ} (hp:i9 r [] q h (bE pre) (bE post) sts):pre=[]/\post=[]:=by
 generalize hA:bE pre=A at hp
 generalize hC:bE post=C at hp
 cases hp
 exact ⟨Jc.1 hA,Jc.1 hC⟩
theorem NM {l:IL} {n:Int} (h:cI okI l n) (h0:bf l=[]):l=[]:=by
 cases l with
 | nil=>rfl
 | cons y t =>
  rw [bf,fT,pX] at h0
  exact absurd h0.1 (gU h y (by simp))
theorem QR {n:Nat} {r:Int} {es:Es} {k:Bs} {p to:Int} {sts:List aJ} {r':Int} {es':Es} {m:List O} (h:yX (ql sts) r n (aZ es) (aR n (aM es)) k p to=some (.doneM (.tup []) m))
  (hc:∀r0 n0 e0 b0,iR aF (tm r0 n0 e0 b0) (.tup []) m=nR (r',n,aZ es',aR n (aM es'))):Jx n r es k p to sts r' es' :=
 ⟨m,Pg _ _ _ _ _ _ _ _ h (.refl _),hc⟩
theorem Zk (A B U X:Es):(A++B++(U++X)).Perm (U++(A++(B++X))):=by
 rw [<-bw (A++B),<-bw A,<-bw U]
 exact List.Perm.append_right X Dr
theorem Cb {es:Es} {p:Int} {b:Bs} (h:p∉aO es):(bp es p b).length=es.length+1:=by rw [tW h];simp
theorem yI {es:Es} {p:Int} {b:Bs} (h:p∈aO es):(bp es p b).length=es.length:=by
 have:=congrArg oJ (n8 (b:=b) h)
 simpa [aO] using this
theorem gS {es R:Es} {p:Int} {b:Bs} (h:es.Perm ((p,b)::R)):p∈aO es:=ef.2 ⟨(p,b),h.mem_iff.2 (cz ..),rfl⟩
theorem XB {k h:Bs} (hk:bq k=true) (h1:h=[]∨lt k h=true):aD k h:=⟨o8 hk,h1⟩
theorem CN {n:Nat} {es:Es} (h:cx n es) {p:Int} (hp:p∈aO es):dV p=true:=by
 have:=h.rng p hp
 have:=h.le
 unfold dV
 rw [decide_eq_true (by omega),decide_eq_true (by omega)];rfl
theorem aaq {p to:Int} {k:Bs} (hk:bq k=true) (hp:dV p=true) (ht:dV to=true):bQ (aG [(p,k),(to,[])] 0)=true:=by
 have hkl:=iE hk
 refine ru.2 ⟨rfl,?_,?_,rfl,?_⟩
 ·intro x hx
  have:x=p∨x=to:=by simpa using hx
  rcases this with rfl | rfl<;>assumption
 ·show eG [] [k]=true
  unfold eG
  rw [hk,qK hk];rfl
 ·refine sW.2 ⟨Int.le_refl 0,(by decide:(0:Int)<=1024),?_⟩
  show 23+cD [k]<=252
  simp only [cD];omega
theorem acJ {n:Nat} {r:Int} {up:List IL} {p:Int} {h:Bs} {a c:Su} {sts:List aJ} (hp:i9 r up p h a c sts):∀{k:Bs} {to:Int} {es:Es} {d:List IL} {b:LL} {X:Es},DL n r es up d b X p to k h a c->RE n r es up k p to sts d b X c:=by
 induction hp with
 | top =>
  intro k to es d b X f
  obtain ⟨q,hq,hf,hq2⟩:=FH f.shf (by have:=f.room;simp at this;omega)
  have hqn:((q:Int))∉aO es:=hq2
  have hs1:=wz f.shf (b:=[]) hq hq2
  have hr:=aaq f.key f.pg f.pgt
  have hg:cP (bp es q []) q=some []:=nJ hs1.nd ((tW hq2 ▸ (Dr:(es++[((q:Int),[])]).Perm _):(bp es q []).Perm (((q:Int),[])::es)))
  have hpm:(bp es q []).Perm (((q:Int),[])::es):=by rw [tW hq2];exact Dr
  have hpm2:=kw (b':=cF (aG [(r,k),(to,[])] 0)) hs1.nd hpm
  refine ⟨q,[[((q:Int),[(r,k),(to,[])])]],bp (bp es q []) q (cF (aG [(r,k),(to,[])] 0)),jS hs1 (gS hpm),?_,?_,?_,?_,?_,?_,?_,?_⟩
  ·have e:Dn (bf [((q:Int),[(r,k),(to,[])])]) d b:=f.dn
   exact Dn.inn _ _ _ e
  ·intro l hl
   have:l=[((q:Int),[(r,k),(to,[])])]:=by simpa using hl
   rw [this]
   exact ⟨⟨by simp,hr⟩,trivial⟩
  ·refine hpm2.trans ?_
   refine List.Perm.cons _ ?_
   exact f.rep
  ·simp
  ·intro _ l hl x hx
   have:l=[((q:Int),[(r,k),(to,[])])]:=by simpa using hl.symm
   subst this
   have:x=((q:Int),[(r,k),(to,[])]):=by simpa using hx
   subst this;simp
  ·intro _ _ _ _ l hl x hx
   have:l=[((q:Int),[(r,k),(to,[])])]:=by simpa using hl
   subst this
   cases hx
  ·intro _ l hl
   cases hl
  ·exact .top f.shf hf hq hq2 hr
 | @st up q e1 p h e2 pre post sts hup ih =>
  intro k to es d b X f
  obtain ⟨hne,hr⟩:okI (e1++(p,h)::e2) (be post 0):=l8 (f.okI _ (cz ..))
  have hat:=R5 (R:=[]) f.rep
  have hqk:=gS hat
  have hgq:=nJ f.shf.nd hat
  obtain ⟨ok1,_,ok2⟩:=(fP _ _ _).1 (f.okI _ (cz ..))
  have hkh:=XB f.key f.hi
  have hPn:HP (bf pre++e1++(p,k)::(to,h)::(e2++bf post)):=WK f.hp f.lo hkh
  have hPe:HP (e1++(p,h)::e2):=by
   have:=f.hp
   rw [bw] at this
   have:=(dZ.1 this).2.1
   have e:e1++(p,h)::(e2++bf post)=(e1++(p,h)::e2)++bf post:=by simp
   rw [e] at this
   exact (dZ.1 this).1
  have hin:oF e1 p h e2 (be post 0) k to:=⟨hr,f.key,f.pgt,fun y hy=>f.lo y (by simp [hy]),f.hi,hPe⟩
  have hput:=yg hin
  by_cases hz:23+cD (aG (e1++(p,k)::(to,h)::e2) (be post 0)).seps<=252
  ·-- it has room
   rw [if_pos hz] at hput
   have hr2:=Bp hin hz
   have hsh:=jS f.shf (b:=cF (aG (e1++(p,k)::(to,h)::e2) (be post 0))) hqk
   have hpm:=kw (b':=cF (aG (e1++(p,k)::(to,h)::e2) (be post 0))) f.shf.nd hat
   refine ⟨r,(pre++(q,e1++(p,k)::(to,h)::e2)::post)::up,_,hsh,?_,?_,?_,?_,?_,?_,?_,?_⟩
   ·have e:bf pre++e1++(p,k)::(to,h)::(e2++bf post)=bf (pre++(q,e1++(p,k)::(to,h)::e2)::post):=by simp [bf]
    have hd:=f.dn
    rw [e] at hd
    have:=Dn.inn _ _ _ hd
    have e':bE (pre++(q,e1++(p,k)::(to,h)::e2)::post)=bE pre++(q,aQ (e1++(p,h)::e2))::bE post:=by simp [bE,FU]
    rw [e'] at this
    have:=GM hup this
    rwa [md,bw]
   ·intro l hl
    rcases bO.1 hl with rfl | hl
    ·exact (fP _ _ _).2 ⟨ok1,⟨by simp,hr2⟩,ok2⟩
    ·exact f.okI l (by simp [hl])
   ·refine hpm.trans ?_
    rw [mt,jG,bj]
    simp only [bw,dv]
    exact List.perm_middle.symm
   ·simp
   ·intro h2 l hl x hx
    cases up with
    | nil =>
     have:l=pre++(q,e1++(p,k)::(to,h)::e2)::post:=by simpa using hl.symm
     subst this
     have h2:=h2 _ rfl
     rcases br.1 hx with hx | hx
     ·exact h2 x (by simp [hx])
     ·rcases bO.1 hx with rfl | hx
      ·simp;omega
      ·exact h2 x (by simp [hx])
    | cons y up=>exact h2 l (by simpa using hl) x hx
   ·intro hc _ _ hF l hl x hx
    have h0:=NM ok2 (pX.1 hc).2
    subst h0
    rcases bO.1 hl with rfl | hl
    ·rw [se] at hx
     exact hF _ (cz ..) x (by rw [se];exact hx)
    ·exact hF l (by simp [hl]) x hx
   ·intro hF l hl x hx
    cases up with
    | nil=>cases hl
    | cons y up =>
     rw [mZ (by simp)] at hl
     rcases bO.1 hl with rfl | hl
     ·have h0:=hF (pre++(q,e1++(p,h)::e2)::post) (by rw [mZ (by simp)];exact cz ..)
      rcases br.1 hx with hx | hx
      ·exact h0 x (by simp [hx])
      ·rcases bO.1 hx with rfl | hx
       ·have:=h0 (q,e1++(p,h)::e2) (by simp)
        simp at this |-;omega
       ·exact h0 x (by simp [hx])
     ·exact hF l (by rw [mZ (by simp)];exact iN _ hl) x hx
   ·exact .room f.shf hgq hr f.key hput hr2
  ·-- it is two
   rw [if_neg hz] at hput
   obtain ⟨j,hj,hjf,hj2⟩:=FH f.shf (by have:=f.room;simp at this;omega)
   have hs1:=wz f.shf (b:=[]) hj hj2
   have hjr:=CN hs1 (p:=(j:Int)) (by rw [qL hj2];simp)
   obtain ⟨fa,fb,t⟩:=Xa hin hz hjr
   obtain ⟨ea,eb,hra,hrb,hspl,hcase⟩:=t.run
   have hqj:(q:Int)≠(j:Int):=fun e=>hj2 (e ▸ hqk)
   have hp1:(bp es j []).Perm ((q,bC (e1++(p,h)::e2) (be post 0))::(((j:Int),[])::(bj bC pre (q+1)++bj bC post 0++(cX up++X)))):=by
    rw [tW hj2]
    exact List.perm_append_comm.trans ((List.Perm.cons _ hat).trans (List.Perm.swap ..))
   have hg1:=nJ hs1.nd hp1
   have hp2:=kw (b':=cF (aG fa ((j:Int)+1))) hs1.nd hp1
   have hs2:=jS hs1 (b:=cF (aG fa ((j:Int)+1))) (gS hp1)
   have hp2':=hp2.trans (List.Perm.swap ..)
   have hg2:=nJ hs2.nd hp2'
   have hp3:=kw (b':=cF (aG fb (be post 0))) hs2.nd hp2'
   have hs3:=jS hs2 (b:=cF (aG fb (be post 0))) (gS hp2')
   have hlen3:(bp (bp (bp es j []) q (cF (aG fa ((j:Int)+1)))) j (cF (aG fb (be post 0)))).length=es.length+1:=by
    rw [yI (gS hp2'),yI (gS hp1),Cb hj2]
   have hfe:aQ fb=aQ (e1++(p,h)::e2):=by
    rw [<-FU e1 p h e2 k to,t.cut,gn _ t.nb]
   have ek:bf pre++e1++(p,k)::(to,h)::(e2++bf post)=bf (pre++(q,fa)::(j,fb)::post):=by
    have e0:bf (pre++(q,fa)::(j,fb)::post)=bf pre++((fa++fb)++bf post):=by simp [bf]
    rw [e0,<-t.cut];simp
   have es1:bE (pre++(q,fa)::((j:Int),fb)::post)=bE pre++(q,aQ fa)::((j:Int),aQ (e1++(p,h)::e2))::bE post:=by simp [bE,hfe]
   have hd:=f.dn
   rw [ek] at hd hPn
   have hd:=Dn.inn _ _ _ hd
   rw [es1] at hd
   have hokl:cI okI (pre++(q,fa)::((j:Int),fb)::post) 0:=(fP _ _ _).2 ⟨ok1,⟨t.na,t.ra⟩,⟨t.nb,t.rb⟩,ok2⟩
   have hPs:=Bl (gU hokl) hPn
   rw [es1] at hPs
   have hPo:HP (bE pre++(q,aQ (e1++(p,h)::e2))::bE post):=by
    have e0:bf pre++e1++(p,h)::(e2++bf post)=bf (pre++(q,e1++(p,h)::e2)::post):=by simp [bf]
    have h0:=f.hp
    rw [e0] at h0
    have:=Bl (gU (f.okI _ (cz ..))) h0
    have e':bE (pre++(q,e1++(p,h)::e2)::post)=bE pre++(q,aQ (e1++(p,h)::e2))::bE post:=by simp [bE]
    rwa [e'] at this
   have hlo:∀y∈bE pre,aD y.2 (aQ fa):=fun y hy=>(dZ.1 hPs).2.2 y hy (q,aQ fa) (by simp)
   have hhi:aD (aQ fa) (aQ (e1++(p,h)::e2)):=(fV.1 (dZ.1 hPs).2.1).1 ((j:Int),aQ (e1++(p,h)::e2)) (by simp)
   have hf2:DL n r (bp (bp (bp es j []) q (cF (aG fa ((j:Int)+1)))) j (cF (aG fb (be post 0)))) up ((pre++(q,fa)::((j:Int),fb)::post)::d) b (bj bC (pre++(q,fa)::((j:Int),fb)::post) 0++X) q j (aQ fa) (aQ (e1++(p,h)::e2)) (bE pre) (bE post):=by
    refine ⟨hs3,hd,hPo,hlo,hhi.2,t.mid,CN f.shf hqk,hjr,fun l hl=>f.okI l (by simp [hl]),?_,by have:=f.room;rw [hlen3];simp at this |-;omega⟩
    refine hp3.trans ?_
    rw [jG,bj,bj]
    refine ((List.Perm.swap ..).trans ?_)
    have h1:(cX up++(bj bC pre (q+1)++(q,bC fa ((j:Int)+1))::((j:Int),bC fb (be post 0))::bj bC post 0++X)).Perm ((q,bC fa ((j:Int)+1))::((j:Int),bC fb (be post 0))::(cX up++(bj bC pre (q+1)++(bj bC post 0++X)))):=by
     have e0:cX up++(bj bC pre (q+1)++(q,bC fa ((j:Int)+1))::((j:Int),bC fb (be post 0))::bj bC post 0++X)=(cX up++bj bC pre (q+1))++(q,bC fa ((j:Int)+1))::((j:Int),bC fb (be post 0))::(bj bC post 0++X):=by simp
     rw [e0]
     refine List.perm_middle.trans (List.Perm.cons _ (List.perm_middle.trans (List.Perm.cons _ ?_)))
     rw [bw]
    refine List.Perm.trans ?_ h1.symm
    refine List.Perm.cons _ (List.Perm.cons _ ?_)
    exact Zk _ _ _ _
   obtain ⟨r',up',es',g1,g2,g3,g4,g5,g6,g8,g9,g7⟩:=ih hf2
   refine ⟨r',(pre++(q,fa)::((j:Int),fb)::post)::up',es',g1,?_,?_,?_,?_,?_,?_,?_,?_⟩
   ·rw [md,bw];exact g2
   ·intro l hl
    rcases bO.1 hl with rfl | hl
    ·exact hokl
    ·exact g3 l hl
   ·refine g4.trans ?_
    rw [mt,<-bw]
    exact List.Perm.append_right X Dr
   ·simp
   ·intro h2 l hl x hx
    obtain ⟨z,up2,rfl⟩:=m5 g5
    refine g6 ?_ l (by simpa using hl) x hx
    cases up with
    | nil=>intro l hl;cases hl
    | cons y up=>intro l hl;exact h2 l (by simpa using hl)
   ·intro hc hs hk5 hF l hl x hx
    have h0:=NM ok2 (pX.1 hc).2
    have hse:∀y∈e1++(p,h)::e2,y.2.length<=5:=hs _ (cz ..) (q,e1++(p,h)::e2) (by simp)
    have hbg:=t.big hse hk5
    have hk5':(aQ fa).length<=5:=by
     obtain ⟨z,hz,e⟩:=Bi t.na
     rw [e]
     have:z∈e1++(p,k)::(to,h)::e2:=by rw [t.cut];exact kH _ hz
     rcases br.1 this with h1 | h1
     ·exact hse z (by simp [h1])
     ·rcases bO.1 h1 with rfl | h1
      ·exact hk5
      ·rcases bO.1 h1 with rfl | h1
       ·exact hse (p,h) (by simp)
       ·exact hse z (by simp [h1])
    have hup3:=g8 (by rw [h0];rfl) (fun l hl=>hs l (by simp [hl])) hk5' (fun l hl=>hF l (by simp [hl]))
    subst h0
    rcases bO.1 hl with rfl | hl
    ·rw [show pre++[(q,fa),((j:Int),fb)]=(pre++[(q,fa)])++[((j:Int),fb)] by simp,se] at hx
     rcases br.1 hx with hx | hx
     ·exact hF _ (cz ..) x (by rw [se];exact hx)
     ·rw [eV.1 hx];exact hbg
    ·exact hup3 l hl x hx
   ·intro hF l hl x hx
    obtain ⟨z,up2,rfl⟩:=m5 g5
    have hup2:=g9 (fun l hl=>hF l (by
     cases up with
     | nil=>cases hl
     | cons y up=>rw [mZ (by simp)];exact iN _ hl))
    rw [mZ (by simp)] at hl
    rcases bO.1 hl with rfl | hl
    ·have h0:∀y,y∈pre∨y∈post->6<=y.2.length:=by
      intro y hy
      cases up with
      | nil =>
       have hd0:=Zz hup
       rcases hy with hy | hy
       ·rw [hd0.1] at hy;cases hy
       ·rw [hd0.2] at hy;cases hy
      | cons w up =>
       exact hF (pre++(q,e1++(p,h)::e2)::post) (by rw [mZ (by simp)];exact cz ..) y (by rcases hy with hy | hy<;>simp [hy])
     rcases br.1 hx with hx | hx
     ·exact h0 x (.inl hx)
     ·rcases bO.1 hx with rfl | hx
      ·exact t.six.1
      ·rcases bO.1 hx with rfl | hx
       ·exact t.six.2
       ·exact h0 x (.inr hx)
    ·exact hup2 l hl x hx
   ·exact .two f.shf hgq hr f.key hput hjf hj hj2 hra hrb t.ra t.rb hspl hcase g7
theorem acK {n:Nat} {r:Int} {es:Es} {k:Bs} {p to:Int} {sts:List aJ} {r':Int} {es':Es} (h:nk n r es sts k p to r' es'):Jx n r es k p to sts r' es':=by
 induction h with
 | @top es k p to j hs hf hj hq hr =>
  have hs1:=wz hs (b:=[]) hj hq
  apply QR
  case h =>
   unfold yX
   rw [show ql []=[] from rfl,Z8,bW pn (CW hs hf hq)]
   show (aT aA _ _ _ [_,_,.ifc 150 (eI (aG [(p,k),(to,[])] 0))] (tM j n (bp es j [])) _)=_
   rw [bW gI (rO hs1 FK hr)]
   try exact rfl
  case hc=>intro r0 n0 e0 b0;kernel_rfl
 | @room es sts k p to q e nx i e' hs hg hr hk hp hr' =>
  have hpc:=B6 (aG e nx) k to (mO hr) (by have:=(iE hk).2;omega)
  have hst:kD (q,e,nx,i) = .agg [.int .i64 q,.sl (bd (aG e nx).seps),.sl (aC (aG e nx).kids),.str (aQ e),.int .i64 nx,.int .i64 (i:Int)]:=rfl
  apply QR
  case h =>
   unfold yX
   simp only [ql,v8,jp,ju,bX,jw,hst,mo]
   show (aE aA _ [eI (aG e nx),_,_] _)=_
   rw [aH hpc,hp,vh,cN rfl,cond_true]
   show (aT aA _ _ _ [_,_,.ifc 150 (eI (aG e' nx))] (tM r n es) _)=_
   rw [bW gI (rO hs hg hr')]
   try exact rfl
  case hc=>intro r0 n0 e0 b0;kernel_rfl
 | @two es sts k p to q e nx i j ea eb fa fb r' es' hs hg hr hk hp hf hj hq hra hrb rfa rfb hspl hcase _ ih =>
  obtain ⟨m,g5,g6⟩:=ih
  have hpc:=B6 (aG e nx) k to (mO hr) (by have:=(iE hk).2;omega)
  have hst:kD (q,e,nx,i) = .agg [.int .i64 q,.sl (bd (aG e nx).seps),.sl (aC (aG e nx).kids),.str (aQ e),.int .i64 nx,.int .i64 (i:Int)]:=rfl
  have hsc:=abI (aG e nx) j (mO hr)
  rw [hspl] at hsc
  have hs1:=wz hs (b:=[]) hj hq
  have hqj:q≠(j:Int):=fun e=>hq (e ▸ xZ hg)
  have hg1:cP (bp es j []) q=some _:=(Bf hqj).trans hg
  have hs2:=jS hs1 (b:=cF (aG fa ((j:Int)+1))) (xZ hg1)
  have hg2:cP (bp (bp es j []) q (cF (aG fa ((j:Int)+1)))) j=some []:=(Bf hqj.symm).trans FK
  refine ⟨m,Pg _ _ _ _ _ _ _ _ ?_ g5,g6⟩
  unfold yX
  simp only [ql,v8,jp,ju,bX,jw,hst,mo]
  show (aE aA _ [eI (aG e nx),_,_] _)=_
  rw [aH hpc,hp,vh,cZ (by decide),cond_false,bW pn (CW hs hf hq)]
  show (aE aA _ [eI (aG e nx),_] _)=_
  rw [aH hsc,Te]
  rcases hcase with ⟨hl,hpa,rfl⟩ | ⟨hl,rfl,hpb⟩
  ·have hpc2:=B6 (aG ea ((j:Int)+1)) k to (mO hra) (by have:=(iE hk).2;omega)
   rw [hpa] at hpc2
   have hl':Op.bytesLess k (aQ fa)=true:=hl
   rw [hl',cond_true]
   show (aE aA _ [eI (aG ea ((j:Int)+1)),_,_] _)=_
   rw [aH hpc2,vh]
   show (aT aA _ _ _ [_,_,.ifc 150 (eI (aG fa ((j:Int)+1)))] (tM r n (bp es j [])) _)=_
   rw [bW gI (rO hs1 hg1 rfa)]
   show (aT aA _ _ _ [_,_,.ifc 150 (eI (aG eb nx))] (tM r n (bp (bp es j []) q (cF (aG fa ((j:Int)+1))))) _)=_
   rw [bW gI (rO hs2 hg2 rfb)]
  ·have hpc2:=B6 (aG eb nx) k to (mO hrb) (by have:=(iE hk).2;omega)
   rw [hpb] at hpc2
   have hl':Op.bytesLess k (aQ ea)=false:=hl
   rw [hl',cond_false]
   show (aE aA _ [eI (aG eb nx),_,_] _)=_
   rw [aH hpc2,vh]
   show (aT aA _ _ _ [_,_,.ifc 150 (eI (aG ea ((j:Int)+1)))] (tM r n (bp es j [])) _)=_
   rw [bW gI (rO hs1 hg1 rfa)]
   show (aT aA _ _ _ [_,_,.ifc 150 (eI (aG fb nx))] (tM r n (bp (bp es j []) q (cF (aG ea ((j:Int)+1))))) _)=_
   rw [bW gI (rO hs2 hg2 rfb)]
structure jX (prs:List Pr) (h:Bs):Prop where
 ri:prs.Pairwise fun x y=>lt x.1 y.1=true
 mem:∀x∈prs,bq x.1=true/\dq x.2=true
 hi:h=[]∨(bq h=true/\∀x∈prs,lt x.1 h=true)
 wt:bc prs<=231
theorem wh {l:List Pr}:jD (aW l)↔l.Pairwise fun x y=>lt x.1 y.1=true:=Je
theorem OH:∀{l:List Pr} {p:Bs},(l.Pairwise fun x y=>lt x.1 y.1=true)->(∀x∈l,bq x.1=true/\dq x.2=true)->(∀x∈l,lt p x.1=true)->ky p l=true
 | [],_,_,_,_=>rfl
 | x::l,p,h1,h2,h3=>by
  obtain ⟨h4,h5⟩:=fV.1 h1
  have ih:=OH (p:=x.1) h5 (fun y hy=>h2 y (by simp [hy])) h4
  obtain ⟨q1,q2⟩:=h2 x (by simp)
  unfold ky
  rw [q1,q2,h3 x (by simp),ih];rfl
theorem XI {l:List Pr} {h:Bs} (hk:bq h=true) (ha:∀x∈l,lt x.1 h=true):lt (lW [] l) h=true:=by
 rcases eK l with rfl | ⟨a,x,rfl⟩
 ·exact qK hk
 ·have:lW [] (a.concat x)=x.1:=by simp [lW]
  rw [this];exact ha x (by simp)
theorem pF {prs:List Pr} {h:Bs} {nx:Int} (o:jX prs h) (h0:0<=nx) (h1:nx<=1024):cJ ⟨prs,h,nx⟩=true:=by
 refine rq.2 ⟨OH o.ri o.mem fun x hx=>qK (o.mem x hx).1,?_,h0,h1,o.wt⟩
 unfold fh
 rcases o.hi with h | ⟨hk,ha⟩
 ·simp only [h];rfl
 ·simp only [hk,XI hk ha];simp
theorem pd {prs:List Pr} {h:Bs} {nx:Int} (o:cJ ⟨prs,h,nx⟩=true):jX prs h/\0<=nx/\nx<=1024:=by
 have g:=qE o
 obtain ⟨h1,h2,h3,h4,h5⟩:=rq.1 o
 have hr:=wh.1 g.ri
 refine ⟨⟨hr,g.mem,?_,h5⟩,h3,h4⟩
 simp only [fh,mU,bD] at h2
 rcases h2 with h2 | ⟨h2,h6⟩
 ·exact .inl (by simpa using h2)
 ·refine .inr ⟨h2,fun x hx=>?_⟩
  rcases eK prs with rfl | ⟨a,y,rfl⟩
  ·cases hx
  ·have e:lW [] (a.concat y)=y.1:=by simp [lW]
   rw [e] at h6
   rw [hX] at hx hr
   rcases br.1 hx with hx | hx
   ·exact lt_trans ((dZ.1 hr).2.2 x hx y (by simp)) h6
   ·have:x=y:=by simpa using hx
    rw [this];exact h6
theorem CX {l:List Pr} (hr:jD (aW l)) (k:Bs):∀x∈l.take (bN (aW l) k),lt x.1 k=true:=by
 intro x hx
 obtain ⟨i,hi⟩:=wW hx
 rw [ia] at hi
 split at hi
 ·exact (BC hr k (tj hi)).2 ‹_›
 ·cases hi
theorem AQ {l:List Pr} (hr:jD (aW l)) (k:Bs):∀x∈l.drop (if b9 (aW l) k then bN (aW l) k+1 else bN (aW l) k),lt k x.1=true:=by
 intro x hx
 obtain ⟨i,hi⟩:=wW hx
 rw [gB] at hi
 have hp:=wh.1 hr
 have hat:∀{a b:Nat} {y z:Pr},l[a]? = some y->l[b]? = some z->a < b->lt y.1 z.1=true:=by
  intro a b y z ha hb hab
  obtain ⟨h1,rfl⟩:=bn.1 ha
  obtain ⟨h2,rfl⟩:=bn.1 hb
  exact Dq.1 hp a b h1 h2 hab
 cases hh:b9 (aW l) k with
 | true =>
  rw [hh,if_pos rfl] at hi
  obtain ⟨h2,h3⟩:=sH hh
  have h2':bN (aW l) k < l.length:=by rwa [o9] at h2
  have h4:l[bN (aW l) k]? = some l[bN (aW l) k]:=bG h2'
  have h5:=hat h4 hi (by omega)
  have h6:l[bN (aW l) k].1=k:=by
   have:=tj h4
   rw [bG h2] at this
   rw [h3] at this
   exact (Option.some.inj this).symm
  rwa [h6] at h5
 | false =>
  rw [hh] at hi
  have hi:l[bN (aW l) k+i]? = some x:=hi
  have aD:bN (aW l) k < l.length:=by
   have:=(bn.1 hi).1
   omega
  have h4:l[bN (aW l) k]? = some l[bN (aW l) k]:=bG aD
  have h5:lt l[bN (aW l) k].1 k=false:=by
   cases hq:lt l[bN (aW l) k].1 k with
   | false=>rfl
   | true=>have:=(BC hr k (tj h4)).1 hq;omega
  have h6:l[bN (aW l) k].1≠k:=by
   intro e
   unfold b9 at hh
   rw [tj h4] at hh
   simp [e] at hh
  have h7:=mG h5 h6
  rcases zI i with rfl | hpos
  ·rw [d0,h4] at hi
   rw [<-Option.some.inj hi];exact h7
  ·exact lt_trans h7 (hat h4 hi (by omega))
theorem GV {prs:List Pr} {h k v:Bs} (o:jX prs h) (hk:bq k=true) (hv:dq v=true) (hh:h=[]∨lt k h=true) (hw:bc (cd prs k v)<=231):jX (cd prs k v) h:=by
 have hr:=wh.2 o.ri
 refine ⟨?_,fun x hx=>?_,?_,hw⟩
 ·unfold cd
  have h1:=CX hr k
  have h2:=AQ hr k
  refine dZ.2 ⟨dZ.2 ⟨o.ri.sublist (List.take_sublist ..),by simp,?_⟩,o.ri.sublist (List.drop_sublist ..),?_⟩
  ·intro x hx y hy
   have:y=(k,v):=by simpa using hy
   rw [this];exact h1 x hx
  ·intro x hx y hy
   rcases br.1 hx with hx | hx
   ·exact lt_trans (h1 x hx) (h2 y hy)
   ·have:x=(k,v):=by simpa using hx
    rw [this];exact h2 y hy
 ·rcases rn hx with rfl | hx
  ·exact ⟨hk,hv⟩
  ·exact o.mem x hx
 ·rcases o.hi with h' | ⟨h1,h2⟩
  ·exact .inl h'
  ·refine .inr ⟨h1,fun x hx=>?_⟩
   rcases rn hx with rfl | hx
   ·exact hh.resolve_left (o8 h1)
   ·exact h2 x hx
theorem WC {prs:List Pr} {h:Bs} (o:jX prs h) (m:Nat) {x:Pr} (hx:prs[m]? = some x) (h0:0 < m):jX (prs.take m) x.1/\jX (prs.drop m) h/\aD x.1 h/\bq x.1=true/\(∀y∈prs.drop m,lt y.1 x.1=false)/\∃y∈prs,lt y.1 x.1=true:=by
 obtain ⟨hm,e⟩:=bn.1 hx
 have hd:prs.drop m=x::prs.drop (m+1):=by rw [<-e];exact sh hm
 have hri:=o.ri
 rw [<-iz m prs] at hri
 obtain ⟨r1,r2,r3⟩:=dZ.1 hri
 have hxm:x∈prs:=cH hx
 have hw:=wR prs m
 have ow:=o.wt
 have hkx:=(o.mem x hxm).1
 refine ⟨⟨r1,fun y hy=>o.mem y (nc hy),.inr ⟨hkx,fun y hy=>r3 y hy x (by rw [hd];simp)⟩,by omega⟩,⟨r2,fun y hy=>o.mem y (lx hy),?_,by omega⟩,⟨o8 hkx,?_⟩,hkx,?_,?_⟩
 ·rcases o.hi with h' | ⟨h1,h2⟩
  ·exact .inl h'
  ·exact .inr ⟨h1,fun y hy=>h2 y (lx hy)⟩
 ·rcases o.hi with h' | ⟨h1,h2⟩
  ·exact .inl h'
  ·exact .inr (h2 x hxm)
 ·intro y hy
  rw [hd] at hy r2
  rcases bO.1 hy with rfl | hy
  ·exact gG _
  ·exact ki ((fV.1 r2).1 y hy)
 ·have h00:0 < prs.length:=by omega
  refine ⟨prs[0],wX h00,?_⟩
  rw [<-e]
  exact Dq.1 o.ri 0 m h00 hm h0
theorem tP {pre post:LL} {p:Int} {prs:List Pr} {h:Bs} (ho:jC (pre++(p,prs,h)::post)) :
  jC pre/\jC post/\(∀y∈pre,aD y.2.2 h/\∀x∈prs,lt x.1 y.2.2=false)/\(∀z∈post,aD h z.2.2/\∀x∈z.2.1,lt x.1 h=false)/\(∀y∈pre,∀z∈post,aD y.2.2 z.2.2/\∀x∈z.2.1,lt x.1 y.2.2=false):=by
 obtain ⟨h1,h2,h3⟩:=dZ.1 ho
 obtain ⟨h4,h5⟩:=fV.1 h2
 exact ⟨h1,h5,fun y hy=>h3 y hy (p,prs,h) (by simp),fun z hz=>h4 z hz,fun y hy z hz=>h3 y hy z (by simp [hz])⟩
theorem N5 {pre post:LL} {p:Int} {prs prs':List Pr} {h:Bs} (ho:jC (pre++(p,prs,h)::post)) (hn:∀y∈pre,∀x∈prs',lt x.1 y.2.2=false):jC (pre++(p,prs',h)::post):=by
 obtain ⟨h1,h2,h3,h4,h5⟩:=tP ho
 refine dZ.2 ⟨h1,fV.2 ⟨h4,h2⟩,?_⟩
 intro y hy z hz
 rcases bO.1 hz with rfl | hz
 ·exact ⟨(h3 y hy).1,hn y hy⟩
 ·exact h5 y hy z hz
theorem Y6 {pre post:LL} {p j:Int} {prs A B:List Pr} {h s:Bs} (ho:jC (pre++(p,prs,h)::post)) (hA:∀y∈pre,∀x∈A,lt x.1 y.2.2=false) (hB:∀y∈pre,∀x∈B,lt x.1 y.2.2=false)
  (hs:∀y∈pre,aD y.2.2 s) (hsh:aD s h) (hsB:∀x∈B,lt x.1 s=false):jC (pre++(p,A,s)::(j,B,h)::post):=by
 obtain ⟨h1,h2,h3,h4,h5⟩:=tP ho
 refine dZ.2 ⟨h1,fV.2 ⟨?_,fV.2 ⟨h4,h2⟩⟩,?_⟩
 ·intro z hz
  rcases bO.1 hz with rfl | hz
  ·exact ⟨hsh,hsB⟩
  ·obtain ⟨q1,q2⟩:=h4 z hz
   refine ⟨FW hsh q1,fun x hx=>M0 (q2 x hx) (hsh.2.resolve_left q1.1)⟩
 ·intro y hy z hz
  rcases bO.1 hz with rfl | hz
  ·exact ⟨hs y hy,hA y hy⟩
  ·rcases bO.1 hz with rfl | hz
   ·exact ⟨(h3 y hy).1,hB y hy⟩
   ·exact h5 y hy z hz
def aK (b:LL):List Pr:=b.flatMap fun x=>x.2.1
theorem acI {n:Nat} {r:Int} {es:Es} {p to:Int} {k:Bs} {sts:List aJ} {r':Int} {es':Es} (hl:sts.length<=10000) (h:nk n r es sts k p to r' es') :
  bT aA aF 123 [.ptr 0 0 0,.sl (eX sts.reverse),.str k,.int .i64 p,.int .i64 to] (tM r n es)=some (nR (r',n,aZ es',aR n (aM es'))):=by
 obtain ⟨m,g5,g6⟩:=acK h
 refine TZ _ _ _ _ _ _ _ _ ?_ ⟨_,_,g5,g6 _ _ _ _⟩
 unfold KO
 rw [R8 sts (by omega),gw,JR]
theorem xM {up:List IL}:(cX up.reverse).Perm (cX up):=by
 induction up with
 | nil=>exact .refl _
 | cons l up ih =>
  rw [md,cX,List.flatMap_append]
  refine List.perm_append_comm.trans ?_
  have e:List.flatMap (fun l=>bj bC l 0) [l]=bj bC l 0:=by simp
  rw [e]
  exact List.Perm.append_left _ ih
theorem BD {es U:Es} {pre post:LL} {p:Int} {x:oG} (h:es.Perm (U++bj cS (pre++(p,x)::post) 0)):es.Perm ((p,cS x (be post 0))::(bj cS pre (p+1)++bj cS post 0++U)):=by
 rw [jG,bj] at h
 refine h.trans (List.perm_append_comm.trans ?_)
 simp only [bw,dv]
 exact oK
theorem M3 {U:Es} {pre post:LL} {p:Int} {x:oG}:((p,cS x (be post 0))::(bj cS pre (p+1)++bj cS post 0++U)).Perm (U++bj cS (pre++(p,x)::post) 0):=(BD (.refl _)).symm
theorem Eu:∀{d:List IL} {s:Su} {b b':LL},bZ b'=bZ b->Dn s d b->Dn s d b'
 | [],s,b,b',e,h=>by rw [ji h,<-e];exact .leaf _
 | l::d,s,b,b',e,h=>by
  obtain ⟨e1,h⟩:=ff h
  rw [e1]
  exact .inn _ _ _ (Eu e h)
theorem lR (a b:LL):aK (a++b)=aK a++aK b:=by simp [aK]
theorem iv (p:Int) (prs:List Pr) (h:Bs) (b:LL):aK ((p,prs,h)::b)=prs++aK b:=by simp [aK]
theorem XN {z a s:Bs} (h1:lt z a=false) (h2:lt z s=true):lt a s=true:=by
 by_cases e:z=a
 ·rw [<-e];exact h2
 ·exact lt_trans (mG h1 e) h2
structure WF (n:Nat) (r:Int) (es:Es) (ups:List IL) (b:LL):Prop extends WT n r es ups b where
 ne:ups≠[]->∀x∈b,x.2.1≠[]
 rt:zO ups.reverse
theorem XO {r:Int} {b:LL} {pre post:LL} {x:Int × oG} (h:Dn [(r,[])] [] b) (hb:b=pre++x::post):pre=[]/\post=[]:=by
 have:=congrArg oJ (ji h)
 rw [hb] at this
 simp [bZ] at this
 exact ⟨m4 (by omega),m4 (by omega)⟩
theorem yw {n:Nat} {r:Int} {es:Es} {ups:List IL} {b:LL} (h:WF n r es ups b) {pre post:LL} {x:Int × oG} (hb:b=pre++x::post):∀y,y∈pre∨y∈post->y.2.1≠[]:=by
 intro y hy
 by_cases hu:ups=[]
 ·have hd:=h.dn
  rw [hu] at hd
  obtain ⟨rfl,rfl⟩:=XO hd hb
  rcases hy with hy | hy<;>cases hy
 ·exact h.ne hu y (by rw [hb];rcases hy with hy | hy<;>simp [hy])
theorem QK {n:Nat} {r:Int} {es:Es} {ups:List IL} {b:LL} (h:WF n r es ups b) {p:Int} {h':Bs} {sts:List aJ} {pre post:LL} {prs:List Pr} (hp:i9 r ups.reverse p h' (bZ pre) (bZ post) sts) (hb:b=pre++(p,prs,h')::post)
  {A B:List Pr} {s:Bs} {j:Nat} (hj:j < n) (hj2:(j:Int)∉aO es) (oA:jX A s) (oB:jX B h') (hA0:A≠[]) (hB0:B≠[]) (hsh:aD s h') (hks:bq s=true) (hlo:∀y∈pre,aD y.2.2 s) (hA:∀y∈pre,∀x∈A,lt x.1 y.2.2=false) (hB:∀y∈pre,∀x∈B,lt x.1 y.2.2=false) (hsB:∀x∈B,lt x.1 s=false)
  (hroom:es.length+ups.length+2<=n) :
  ∃r' es' ups',WF n r' es' ups' (pre++(p,A,s)::((j:Int),B,h')::post)/\nk n r (bp (bp (bp es j []) p (bI ⟨A,s,(j:Int)+1⟩)) j (bI ⟨B,h',be post 0⟩)) sts s p j r' es'/\(post=[]->zP ups->s.length<=5->Ft ups->Ft ups')/\(Fk ups.reverse->Fk ups'.reverse):=by
 have hne:=yw h hb
 subst hb
 have hn:=h.shf.le
 have hul:=ot h.toWT
 have hat:=BD h.rep
 have hpk:=gS hat
 obtain ⟨ok1,ok3,ok2⟩:=(fP _ _ _).1 h.okF
 obtain ⟨o,hx0,hx1⟩:=pd (show cJ ⟨prs,h',be post 0⟩=true from ok3)
 have hrA:=pF oA (nx:=(j:Int)+1) (by omega) (by omega)
 have hrB:=pF oB hx0 hx1
 have hs1:=wz h.shf (b:=[]) hj hj2
 have hp1:(bp es j []).Perm ((p,cS (prs,h') (be post 0))::(((j:Int),[])::(bj cS pre (p+1)++bj cS post 0++cX ups))):=by
  rw [tW hj2]
  exact List.perm_append_comm.trans ((List.Perm.cons _ hat).trans (List.Perm.swap ..))
 have hg1:=nJ hs1.nd hp1
 have hp2:=kw (b':=bI ⟨A,s,(j:Int)+1⟩) hs1.nd hp1
 have hs2:=jS hs1 (b:=bI ⟨A,s,(j:Int)+1⟩) (gS hp1)
 have hp2':=hp2.trans (List.Perm.swap ..)
 have hg2:=nJ hs2.nd hp2'
 have hp3:=kw (b':=bI ⟨B,h',be post 0⟩) hs2.nd hp2'
 have hs3:=jS hs2 (b:=bI ⟨B,h',be post 0⟩) (gS hp2')
 have hlen3:(bp (bp (bp es j []) p (bI ⟨A,s,(j:Int)+1⟩)) j (bI ⟨B,h',be post 0⟩)).length=es.length+1:=by
  rw [yI (gS hp2'),yI (gS hp1),Cb hj2]
 have eS:bZ (pre++(p,A,s)::((j:Int),B,h')::post)=bZ pre++(p,s)::((j:Int),h')::bZ post:=by simp [bZ]
 have eS0:bZ (pre++(p,prs,h')::post)=bZ pre++(p,h')::bZ post:=by simp [bZ]
 have hd:Dn (bZ pre++(p,s)::((j:Int),h')::bZ post) [] (pre++(p,A,s)::((j:Int),B,h')::post):=by
  rw [<-eS];exact .leaf _
 have hP:=BX h.ord
 rw [eS0] at hP
 have hf:DL n r (bp (bp (bp es j []) p (bI ⟨A,s,(j:Int)+1⟩)) j (bI ⟨B,h',be post 0⟩)) ups.reverse [] (pre++(p,A,s)::((j:Int),B,h')::post) (bj cS (pre++(p,A,s)::((j:Int),B,h')::post) 0) p j s h' (bZ pre) (bZ post):=by
  refine ⟨hs3,hd,hP,fun y hy=>?_,hsh.2,hks,CN h.shf hpk,CN hs1 (by rw [qL hj2];simp),fun l hl=>h.okI l (by simpa using hl),?_,by rw [hlen3,zB];omega⟩
  ·obtain ⟨z,hz,rfl⟩:=ef.1 hy
   exact hlo z hz
  ·refine hp3.trans ?_
   rw [jG,bj,bj]
   refine ((List.Perm.swap ..).trans ?_)
   have h1:(cX ups.reverse++(bj cS pre (p+1)++(p,cS (A,s) ((j:Int)+1))::((j:Int),cS (B,h') (be post 0))::bj cS post 0)).Perm ((p,cS (A,s) ((j:Int)+1))::((j:Int),cS (B,h') (be post 0))::(cX ups.reverse++(bj cS pre (p+1)++bj cS post 0))):=by
    rw [<-bw]
    refine List.perm_middle.trans (List.Perm.cons _ (List.perm_middle.trans (List.Perm.cons _ ?_)))
    rw [bw]
   refine List.Perm.trans ?_ h1.symm
   refine List.Perm.cons _ (List.Perm.cons _ ?_)
   exact List.perm_append_comm.trans (List.Perm.append_right _ xM.symm)
 obtain ⟨r',up',es',g1,g2,g3,g4,g5,g6,g8,g9,g7⟩:=acJ hp hf
 refine ⟨r',es',up'.reverse,⟨⟨g1,?_,?_,fun l hl=>g3 l (by simpa using hl),?_,Y6 h.ord hA hB hlo hsh hsB⟩,?_,?_⟩,g7,fun h0 h1 h2 h3 l hl=>g8 (by rw [h0];rfl) (fun l hl=>h1 l (by simpa using hl)) h2 (fun l hl=>h3 l (by simpa using hl)) l (by simpa using hl),fun h0=>by rw [Dt];exact g9 h0⟩
 ·exact g4.trans (List.Perm.append_right _ xM.symm)
 ·rw [dH] at g2;exact g2
 ·exact (fP _ _ _).2 ⟨ok1,hrA,hrB,ok2⟩
 ·intro _ x hx
  rcases br.1 hx with hx | hx
  ·exact hne x (.inl hx)
  ·rcases bO.1 hx with rfl | hx
   ·exact hA0
   ·rcases bO.1 hx with rfl | hx
    ·exact hB0
    ·exact hne x (.inr hx)
 ·rw [Dt];exact g6 h.rt
abbrev ij (l:List Pr):Prop:=l.Pairwise fun x y=>lt x.1 y.1=true
theorem Kl {α:Type} (l:List α) (i j:Nat) (h:i<=j):l=l.take i++((l.drop i).take (j - i)++l.drop j):=by
 have:l.drop j=(l.drop i).drop (j - i):=by rw [oH];congr 1;omega
 rw [this,iz,iz]
theorem Nx {l:List Pr} {k:Bs} (hr:jD (aW l)):∀x∈(l.drop (bN (aW l) k)).take ((if b9 (aW l) k then bN (aW l) k+1 else bN (aW l) k) - bN (aW l) k),x.1=k:=by
 intro x hx
 cases hh:b9 (aW l) k with
 | false=>rw [hh] at hx;simp at hx
 | true =>
  rw [hh,if_pos rfl,show bN (aW l) k+1 - bN (aW l) k=1 by omega] at hx
  obtain ⟨h2,h3⟩:=sH hh
  have h2':bN (aW l) k < l.length:=by rwa [o9] at h2
  rw [sh h2',uI,pY] at hx
  have e:x=l[bN (aW l) k]:=eV.1 hx
  have h4:l[bN (aW l) k]? = some l[bN (aW l) k]:=bG h2'
  have:=tj h4
  rw [bG h2,h3] at this
  rw [e]
  exact (Option.some.inj this).symm
theorem lc {α:Type} {p:α->Bool} {l:List α} (h:∀x∈l,p x=true):l.filter p=l:=I7.2 h
theorem nF {α:Type} {p:α->Bool} {l:List α} (h:∀x∈l,p x=false):l.filter p=[]:=List.filter_eq_nil_iff.2 fun x hx=>by rw [h x hx];simp
theorem B7 {l:List Pr} (hr:ij l) (k v:Bs):cd l k v=l.filter (fun x=>lt x.1 k)++(k,v)::l.filter (fun x=>lt k x.1):=by
 have hr':=wh.2 hr
 have h1:=CX hr' k
 have h2:=AQ hr' k
 have h3:=Nx (k:=k) hr'
 unfold cd
 generalize hj:(if b9 (aW l) k then bN (aW l) k+1 else bN (aW l) k)=j at *
 have hij:bN (aW l) k<=j:=by rw [<-hj];split<;>omega
 generalize bN (aW l) k=i at *
 have e:=Kl l i j hij
 have f1:l.filter (fun x=>lt x.1 k)=l.take i:=by
  conv=>lhs;rw [e]
  rw [m7,m7,lc h1,nF (p:=fun x:Pr=>lt x.1 k) fun x hx=>by rw [h3 x hx];exact gG _,nF (p:=fun x:Pr=>lt x.1 k) fun x hx=>ki (h2 x hx)]
  simp
 have f2:l.filter (fun x=>lt k x.1)=l.drop j:=by
  conv=>lhs;rw [e]
  rw [m7,m7,nF (p:=fun x:Pr=>lt k x.1) fun x hx=>ki (h1 x hx),nF (p:=fun x:Pr=>lt k x.1) fun x hx=>by rw [h3 x hx];exact gG _,lc h2]
  simp
 rw [f1,f2]
 simp
theorem oZ {l:List Pr} (hr:ij l) (k:Bs):b9 (aW l) k=l.any fun x=>x.1==k:=by
 have hr':=wh.2 hr
 cases hh:b9 (aW l) k with
 | true =>
  obtain ⟨h2,h3⟩:=sH hh
  have hm:k∈aW l:=h3 ▸ wX h2
  obtain ⟨x,hx,e⟩:=ef.1 hm
  exact (zx.2 ⟨x,hx,by rw [e];simp⟩).symm
 | false =>
  symm
  rw [mY]
  intro x hx hc
  have e:x.1=k:=by simpa using hc
  have h1:=CX hr' k
  have h2:=AQ hr' k
  rw [hh] at h2
  have h2:∀x∈l.drop (bN (aW l) k),lt k x.1=true:=h2
  rw [<-iz (bN (aW l) k) l] at hx
  rcases br.1 hx with hx | hx
  ·have:=h1 x hx
   rw [e,gG] at this;cases this
  ·have:=h2 x hx
   rw [e,gG] at this;cases this
theorem Ek {l:List Pr} (hr:ij l) {k:Bs} (hh:b9 (aW l) k=true):gm l k=l.filter fun x=>!(x.1==k):=by
 have hr':=wh.2 hr
 have h1:=CX hr' k
 have h2:=AQ hr' k
 have h3:=Nx (k:=k) hr'
 unfold gm
 rw [hh,if_pos rfl] at h2 h3
 have e:=Kl l (bN (aW l) k) (bN (aW l) k+1) (by omega)
 have ne:∀x:Pr,lt x.1 k=true∨lt k x.1=true->(!(x.1==k))=true:=by
  intro x hx
  by_cases he:x.1=k
  ·rw [he,gG] at hx;simp at hx
  ·simpa using he
 conv=>rhs;rw [e]
 rw [m7,m7,lc (p:=fun x:Pr=>!(x.1==k)) fun x hx=>ne x (.inl (h1 x hx)),nF (p:=fun x:Pr=>!(x.1==k)) fun x hx=>by rw [h3 x hx];simp,lc (p:=fun x:Pr=>!(x.1==k)) fun x hx=>ne x (.inr (h2 x hx))]
 simp
theorem jI:∀{b:LL} {n:Int},jC b->cI okF b n->ij (aK b)
 | [],_,_,_=>List.Pairwise.nil
 |(p,prs,h)::b,n,ho,hF=>by
  obtain ⟨h1,h2⟩:=fV.1 ho
  obtain ⟨o,_,_⟩:=pd (show cJ ⟨prs,h,be b n⟩=true from hF.1)
  rw [iv]
  refine dZ.2 ⟨o.ri,jI h2 hF.2,?_⟩
  intro x hx y hy
  obtain ⟨z,hz,hy⟩:=ib.1 hy
  obtain ⟨q1,q2⟩:=h1 z hz
  have hxh:=(o.hi.resolve_left q1.1).2 x hx
  have:=q2 y hy
  by_cases e:y.1=h
  ·rw [e];exact hxh
  ·exact lt_trans hxh (mG this e)
theorem IJ {n:Int} {pre post:LL} {p:Int} {prs:List Pr} {h k:Bs} (ho:jC (pre++(p,prs,h)::post)) (hF:cI okF (pre++(p,prs,h)::post) n) (hlo:∀y∈bZ pre,lt k y.2=false) (hhi:h=[]∨lt k h=true) :
  (∀x∈aK pre,lt x.1 k=true)/\∀x∈aK post,lt k x.1=true:=by
 obtain ⟨h1,h2,h3,h4,h5⟩:=tP ho
 obtain ⟨ok1,ok3,ok2⟩:=(fP _ _ _).1 hF
 constructor
 ·intro x hx
  obtain ⟨y,hy,hx⟩:=ib.1 hx
  obtain ⟨m,hm⟩:=Gx ok1 y hy
  obtain ⟨o,_,_⟩:=pd (show cJ ⟨y.2.1,y.2.2,m⟩=true from hm)
  have hxy:=(o.hi.resolve_left (h3 y hy).1.1).2 x hx
  have hky:lt k y.2.2=false:=hlo (y.1,y.2.2) (ef.2 ⟨y,hy,rfl⟩)
  by_cases e:k=y.2.2
  ·rw [e];exact hxy
  ·exact lt_trans hxy (mG hky e)
 ·intro x hx
  obtain ⟨z,hz,hx⟩:=ib.1 hx
  obtain ⟨q1,q2⟩:=h4 z hz
  have hkh:=hhi.resolve_left q1.1
  have:=q2 x hx
  by_cases e:x.1=h
  ·rw [e];exact hkh
  ·exact lt_trans hkh (mG this e)
inductive mf (n:Nat) (r:Int) (es:Es) (k v:Bs):Bool->Int->Int->Es->Prop
 | arg (h:(bq k && dq v)=false):mf n r es k v false 1 r es
 | put {ws:List aJ} {pl:Int} {l:Lf} (hs:cx n es) (hk:bq k=true) (hv:dq v=true) (hw:j6 es k r ws pl l) (hl:ws.length<=1024) (hg:cP es pl=some (bI l)) (hr0:cJ l=true) (hh:l.high=[]∨lt k l.high=true) (hz:bc (cd l.prs k v)<=231) (hr:cJ ⟨cd l.prs k v,l.high,l.next⟩=true) :
  mf n r es k v (!b9 (aW l.prs) k) 0 r (bp es pl (bI ⟨cd l.prs k v,l.high,l.next⟩))
 | full {ws:List aJ} {pl:Int} {l:Lf} (hs:cx n es) (hk:bq k=true) (hv:dq v=true) (hw:j6 es k r ws pl l) (hl:ws.length<=1024) (hg:cP es pl=some (bI l)) (hr0:cJ l=true) (hh:l.high=[]∨lt k l.high=true) (hz:¬bc (cd l.prs k v)<=231) (hf:n - es.length < ws.length+2) :
  mf n r es k v false 6 r es
 | split {ws:List aJ} {pl:Int} {l:Lf} {j:Nat} {x:Pr} {A B:List Pr} {r':Int} {es':Es} (hs:cx n es) (hk:bq k=true) (hv:dq v=true) (hw:j6 es k r ws pl l) (hl:ws.length<=1024) (hg:cP es pl=some (bI l)) (hr0:cJ l=true) (hh:l.high=[]∨lt k l.high=true) (hz:¬bc (cd l.prs k v)<=231) (hf:¬n - es.length < ws.length+2)
  (hfj:lP n (aM es)=some j) (hj:j < n) (hq:(j:Int)∉aO es) (h2:2<=l.prs.length) (hx:l.prs[cY l.prs]? = some x)
  (rA0:cJ ⟨l.prs.take (cY l.prs),x.1,(j:Int)+1⟩=true) (rB0:cJ ⟨l.prs.drop (cY l.prs),l.high,l.next⟩=true) (rA:cJ ⟨A,x.1,(j:Int)+1⟩=true) (rB:cJ ⟨B,l.high,l.next⟩=true)
  (hc:(lt k x.1=true/\A=cd (l.prs.take (cY l.prs)) k v/\bc A<=231/\B=l.prs.drop (cY l.prs))∨(lt k x.1=false/\A=l.prs.take (cY l.prs)/\B=cd (l.prs.drop (cY l.prs)) k v/\bc B<=231))
  (hu:nk n r (bp (bp (bp es j []) pl (bI ⟨A,x.1,(j:Int)+1⟩)) j (bI ⟨B,l.high,l.next⟩)) ws.reverse x.1 pl j r' es') :
  mf n r es k v (!b9 (aW l.prs) k) 0 r' es'
theorem QU {es:Es} {k:Bs} {p:Int} {ws:List aJ} {pl:Int} {l:Lf} (h:j6 es k p ws pl l):cP es pl=some (bI l)/\cJ l=true:=by
 induction h with
 | leaf hg hr=>exact ⟨hg,hr⟩
 | inn _ _ _ _ _ ih=>exact ih
theorem Cc {k v:Bs} {r n:Int} {es:List (V × V)} {bs:List V} {m:List O} {v0:V} {L:Bool × Int × Int × Int × List (V × V) × List V} (h:vn k v r n es bs=some (.doneM v0 m)) (hc:iR aF (tm r n es bs) v0 m=iG L) :
  bT aA aF 32 [.ptr 0 0 0,.str k,.str v] (tm r n es bs)=some (iG L):=UN _ _ _ _ _ _ h (.done hc)
theorem Qe {x1:List V} {q:Lf} {p:Int} {k v:Bs} {r n:Int} {es:List (V × V)} {bs:List V} {m:List O} {L:Int × Int × List (V × V) × List V} (h:AU x1 (aN q.prs) q.high q.next p k v r n es bs=some (.doneM (.tup []) m)) (hc:iR aF (tm r n es bs) (.tup []) m=pm L) :
  bT aA aF 79 [.ptr 0 0 0,.sl x1,eL q,.int .i64 p,.agg [.str k,.str v]] (tm r n es bs)=some (pm L):=Vl _ _ _ _ _ _ _ _ _ _ _ h (.done hc)
theorem FI (l:Lf) (h:cJ l=true) (k:Bs):∃g,bo aA 76 [eL l,.str k]=some (.tup [.str g,.int .i64 (bif b9 (aW l.prs) k then 0 else 7)]):=by
 rw [Mg l h k]
 cases b9 (aW l.prs) k with
 | true=>exact ⟨_,rfl⟩
 | false=>exact ⟨_,rfl⟩
theorem Mp (b:Bool):((bif b then 0 else 7:Int) != (0:Int)) = !b:=by cases b<;>rfl
theorem ma {n:Nat} {r:Int} {es:Es} {k v:Bs} {ok:Bool} {e r':Int} {es':Es} (h:mf n r es k v ok e r' es') :
  bT aA aF 32 [.ptr 0 0 0,.str k,.str v] (tM r n es)=some (iG (ok,e,r',n,aZ es',aR n (aM es'))):=by
 cases h with
 | arg h =>
  refine Cc (v0:=.tup [.bool false,.int .i64 1]) (m:=tM r n es) ?_ (by kernel_rfl)
  unfold vn
  rw [aH (iX k),bS]
  cases hk:bq k with
  | false=>rfl
  | true =>
   rw [hk,du] at h
   rw [bv,cond_false,aH (wP v),bS,h];rfl
 | @put ws pl l hs hk hv hw hl hg hr0 hh hz hr =>
  obtain ⟨g,hget⟩:=FI l hr0 k
  have hput:=yF l hr0 k v hk hv hh
  unfold pA at hput
  rw [if_pos hz] at hput
  apply Cc
  case h =>
   unfold vn
   rw [aH (iX k),bS,hk,bv,cond_false,aH (wP v),bS,hv,bv,cond_false,bR qY (rN hs hw (by omega)),bz]
   show (aE aA _ [eL l,_] _)=_
   rw [aH hget,lL]
   show (aE aA _ [eL l,_,_] _)=_
   rw [aH hput,mn,cN rfl,cond_true]
   show (aT aA _ _ _ [_,_,.ifc 120 (eL ⟨cd l.prs k v,l.high,l.next⟩)] (tM r n es) _)=_
   rw [bW gI (pP hs hg hr),Mp]
  case hc=>kernel_rfl
 | @full ws pl l hs hk hv hw hl hg hr0 hh hz hf =>
  obtain ⟨g,hget⟩:=FI l hr0 k
  have hput:=yF l hr0 k v hk hv hh
  unfold pA at hput
  rw [if_neg hz] at hput
  have hll:=qO hs
  have hn:=hs.le
  have w1:W .i64 (((eX ws).length:Int)+1)=((ws.length+1:Nat):Int):=by rw [rH,aU (by omega)];omega
  have w2:W .i64 (((ws.length+1:Nat):Int)+1)=((ws.length+2:Nat):Int):=by rw [aU (by omega)];omega
  apply Cc
  case h =>
   unfold vn
   rw [aH (iX k),bS,hk,bv,cond_false,aH (wP v),bS,hv,bv,cond_false,bR qY (rN hs hw (by omega)),bz]
   show (aE aA _ [eL l,_] _)=_
   rw [aH hget,lL]
   show (aE aA _ [eL l,_,_] _)=_
   rw [aH hput,mn,cZ (by decide),cond_false,bR yu (xV hs),bz,w1,w2,decide_eq_true (by omega),cond_true]
  case hc=>kernel_rfl
 | @split ws pl l j x A B r' es' hs hk hv hw hl hg hr0 hh hz hf hfj hj hq h2 hx rA0 rB0 rA rB hc hu =>
  obtain ⟨g,hget⟩:=FI l hr0 k
  have hput:=yF l hr0 k v hk hv hh
  unfold pA at hput
  rw [if_neg hz] at hput
  have hll:=qO hs
  have hn:=hs.le
  have w1:W .i64 (((eX ws).length:Int)+1)=((ws.length+1:Nat):Int):=by rw [rH,aU (by omega)];omega
  have w2:W .i64 (((ws.length+1:Nat):Int)+1)=((ws.length+2:Nat):Int):=by rw [aU (by omega)];omega
  have hspl:=abK l hr0 h2 j (by omega)
  simp only [zc] at hspl
  rw [hx] at hspl
  simp only [uO] at hspl
  have hs1:=wz hs (b:=[]) hj hq
  have hpj:pl≠(j:Int):=fun e=>hq (e ▸ xZ hg)
  have hg1:cP (bp es j []) pl=some _:=(Bf hpj).trans hg
  have hs2:=jS hs1 (b:=bI ⟨A,x.1,(j:Int)+1⟩) (xZ hg1)
  have hg2:cP (bp (bp es j []) pl (bI ⟨A,x.1,(j:Int)+1⟩)) j=some []:=(Bf hpj.symm).trans FK
  have hup:=acI (by rw [zB];omega) hu
  rw [Dt] at hup
  have hsp:bT aA aF 79 [.ptr 0 0 0,.sl (eX ws),eL l,.int .i64 pl,.agg [.str k,.str v]] (tM r n es)=some (pm (r',n,aZ es',aR n (aM es'))):=by
   rcases hc with ⟨hkx,rfl,hwA,rfl⟩ | ⟨hkx,rfl,rfl,hwB⟩
   ·have hput:=yF _ rA0 k v hk hv (.inr hkx)
    unfold pA at hput
    rw [if_pos hwA] at hput
    apply Qe
    case h =>
     unfold AU
     rw [bW pn (CW hs hfj hq)]
     show (aE aA _ [eL l,_] _)=_
     rw [aH hspl,Kr,show Op.bytesLess k x.1=true from hkx,cond_true]
     show (aE aA _ [eL ⟨l.prs.take (cY l.prs),x.1,(j:Int)+1⟩,_,_] _)=_
     rw [aH hput,mn]
     show (aT aA _ _ _ [_,_,.ifc 120 (eL ⟨cd (l.prs.take (cY l.prs)) k v,x.1,(j:Int)+1⟩)] (tM r n (bp es j [])) _)=_
     rw [bW gI (pP hs1 hg1 rA)]
     show (aT aA _ _ _ [_,_,.ifc 120 (eL ⟨l.prs.drop (cY l.prs),l.high,l.next⟩)] (tM r n (bp (bp es j []) pl (bI ⟨cd (l.prs.take (cY l.prs)) k v,x.1,(j:Int)+1⟩))) _)=_
     rw [bW gI (pP hs2 hg2 rB),bW Nz hup]
    case hc=>kernel_rfl
   ·have hput:=yF _ rB0 k v hk hv hh
    unfold pA at hput
    rw [if_pos hwB] at hput
    apply Qe
    case h =>
     unfold AU
     rw [bW pn (CW hs hfj hq)]
     show (aE aA _ [eL l,_] _)=_
     rw [aH hspl,Kr,show Op.bytesLess k x.1=false from hkx,cond_false]
     show (aE aA _ [eL ⟨l.prs.drop (cY l.prs),l.high,l.next⟩,_,_] _)=_
     rw [aH hput,mn]
     show (aT aA _ _ _ [_,_,.ifc 120 (eL ⟨l.prs.take (cY l.prs),x.1,(j:Int)+1⟩)] (tM r n (bp es j [])) _)=_
     rw [bW gI (pP hs1 hg1 rA)]
     show (aT aA _ _ _ [_,_,.ifc 120 (eL ⟨cd (l.prs.drop (cY l.prs)) k v,l.high,l.next⟩)] (tM r n (bp (bp es j []) pl (bI ⟨l.prs.take (cY l.prs),x.1,(j:Int)+1⟩))) _)=_
     rw [bW gI (pP hs2 hg2 rB),bW Nz hup]
    case hc=>kernel_rfl
  apply Cc
  case h =>
   unfold vn
   rw [aH (iX k),bS,hk,bv,cond_false,aH (wP v),bS,hv,bv,cond_false,bR qY (rN hs hw (by omega)),bz]
   show (aE aA _ [eL l,_] _)=_
   rw [aH hget,lL]
   show (aE aA _ [eL l,_,_] _)=_
   rw [aH hput,mn,cZ (by decide),cond_false,bR yu (xV hs),bz,w1,w2,decide_eq_false (by omega),cond_false]
   show (aT aA _ _ _ [_,_,eL l,_,_] _ _)=_
   rw [bW Yv hsp,Mp]
  case hc=>kernel_rfl
theorem GX (l:List Pr) (k v:Bs):cd l k v≠[]:=by simp [cd]
theorem ZD (l:List Pr) (k v:Bs):l.length<=(cd l k v).length:=by
 unfold cd
 simp only [cO,d9,eO,cG,dR]
 split<;>omega
theorem GY {a m c:List Pr} {k v:Bs} (ha:∀x∈a,lt x.1 k=true) (hc:∀x∈c,lt k x.1=true) (hr:ij (a++(m++c))):cd (a++(m++c)) k v=a++(cd m k v++c):=by
 obtain ⟨r1,r2,_⟩:=dZ.1 hr
 obtain ⟨r3,_,_⟩:=dZ.1 r2
 rw [B7 hr,B7 r3]
 simp only [m7]
 rw [lc (p:=fun x:Pr=>lt x.1 k) ha,nF (p:=fun x:Pr=>lt k x.1) (l:=a) fun x hx=>ki (ha x hx),nF (p:=fun x:Pr=>lt x.1 k) (l:=c) fun x hx=>ki (hc x hx),lc (p:=fun x:Pr=>lt k x.1) hc]
 simp
theorem Ms {a m c:List Pr} {k:Bs} (ha:∀x∈a,lt x.1 k=true) (hc:∀x∈c,lt k x.1=true) (hr:ij (a++(m++c))):b9 (aW (a++(m++c))) k=b9 (aW m) k:=by
 obtain ⟨r1,r2,_⟩:=dZ.1 hr
 obtain ⟨r3,_,_⟩:=dZ.1 r2
 rw [oZ hr,oZ r3,List.any_append,List.any_append]
 have h1:(a.any fun x=>x.1==k)=false:=mY.2 fun x hx hc=>by
  have e:x.1=k:=by simpa using hc
  have:=ha x hx
  rw [e,gG] at this;cases this
 have h2:(c.any fun x=>x.1==k)=false:=mY.2 fun x hx hc2=>by
  have e:x.1=k:=by simpa using hc2
  have:=hc x hx
  rw [e,gG] at this;cases this
 rw [h1,h2];simp
structure Rs (ups:List IL) (b:LL):Prop where
 ft:Ft ups
 f2:∀x∈b.dropLast,2<=x.2.1.length
 h5:∀x∈b,x.2.2.length<=5
 k5:∀x∈aK b,x.1.length<=5/\bc [x]<=40
theorem KD:∀{d:List IL} {s:Su} {b:LL},Dn s d b->(∀l∈d,cI okI l 0)->(∀x∈b,x.2.2.length<=5)->(∀y∈s,y.2.length<=5)/\zP d
 | [],s,b,h,_,ha=>by
  refine ⟨fun y hy=>?_,fun l hl=>nomatch hl⟩
  rw [ji h,bZ] at hy
  obtain ⟨z,hz,rfl⟩:=ef.1 hy
  exact ha z hz
 | l::d,s,b,h,hI,ha=>by
  obtain ⟨e,hk⟩:=ff h
  obtain ⟨i1,i2⟩:=KD hk (fun x hx=>hI x (by simp [hx])) ha
  constructor
  ·intro y hy
   rw [e,bE] at hy
   obtain ⟨z,hz,rfl⟩:=ef.1 hy
   obtain ⟨w,hw,e2⟩:=Bi (gU (hI _ (cz ..)) z hz)
   show (aQ z.2).length<=5
   rw [e2]
   exact i1 w (ib.2 ⟨z,hz,hw⟩)
  ·intro l' hl'
   rcases bO.1 hl' with rfl | hl'
   ·intro x hx y hy
    exact i1 y (ib.2 ⟨x,hx,hy⟩)
   ·exact i2 l' hl'
def zN (ups:List IL) (b:LL) (k v:Bs) (ups':List IL) (b':LL):Prop:=(∀x∈aK b,lt x.1 k=true)->k.length<=5->bc [(k,v)]<=40->Rs ups b->Rs ups' b'
theorem OV {b b':LL} {k v:Bs} (h:aK b'=cd (aK b) k v) (hk:k.length<=5) (hw:bc [(k,v)]<=40) (h5:∀x∈aK b,x.1.length<=5/\bc [x]<=40):∀x∈aK b',x.1.length<=5/\bc [x]<=40:=by
 intro x hx
 rw [h] at hx
 rcases rn hx with rfl | hx
 ·exact ⟨hk,hw⟩
 ·exact h5 x hx
theorem aay {ups:List IL} {b:LL} {pre post:LL} {p:Int} {prs:List Pr} {h' k v:Bs} (hb:b=pre++(p,prs,h')::post) (hf:aK (pre++(p,cd prs k v,h')::post)=cd (aK b) k v) (hl:prs.length<=(cd prs k v).length):zN ups b k v ups (pre++(p,cd prs k v,h')::post):=by
 intro h1 h2 h3 h
 refine ⟨h.ft,?_,?_,OV hf h2 h3 h.k5⟩
 ·intro x hx
  have hf2:=h.f2
  rw [hb] at hf2
  cases post with
  | nil =>
   rw [se] at hx hf2
   exact hf2 x hx
  | cons y t =>
   rw [I6 (by simp),mZ (by simp)] at hx hf2
   rcases br.1 hx with hx | hx
   ·exact hf2 x (kH _ hx)
   ·rcases bO.1 hx with rfl | hx
    ·have:=hf2 (p,prs,h') (by simp)
     simp only at this |-
     omega
    ·exact hf2 x (by simp [hx])
 ·intro x hx
  have h5:=h.h5
  rw [hb] at h5
  rcases br.1 hx with hx | hx
  ·exact h5 x (kH _ hx)
  ·rcases bO.1 hx with rfl | hx
   ·exact h5 (p,prs,h') (by simp)
   ·exact h5 x (by simp [hx])
theorem aaz {n:Nat} {r:Int} {es:Es} {ups ups':List IL} {b:LL} (hW:WF n r es ups b) {pre:LL} {p j:Int} {prs A B:List Pr} {h' k v s:Bs} (hb:b=pre++[(p,prs,h')]) (hf:aK (pre++[(p,A,s),(j,B,h')])=cd (aK b) k v) (hs:∃x∈aK b,x.1=s) (hA:A=prs.take (cY prs)) (h2:2<=prs.length) (hw:¬bc prs+bc [(k,v)]<=231) (h50:∀x∈prs,bc [x]<=50) (hp:bc prs<=231)
  (hup:zP ups->s.length<=5->Ft ups->Ft ups'):zN ups b k v ups' (pre++[(p,A,s),(j,B,h')]):=by
 intro h1 hk5 h3 h
 obtain ⟨x0,hx0,hxs⟩:=hs
 have hs5:s.length<=5:=hxs ▸ (h.k5 x0 hx0).1
 refine ⟨hup (KD hW.dn hW.okI h.h5).2 hs5 h.ft,?_,?_,OV hf hk5 h3 h.k5⟩
 ·intro x hx
  have hf2:=h.f2
  rw [hb,se] at hf2
  rw [show pre++[(p,A,s),(j,B,h')]=(pre++[(p,A,s)])++[(j,B,h')] by simp,se] at hx
  rcases br.1 hx with hx | hx
  ·exact hf2 x hx
  ·rw [eV.1 hx]
   show 2<=A.length
   obtain ⟨m0,m1,m2,m3⟩:=Mr h2 h50 hp
   have hsp:=wR prs (cY prs)
   rw [<-hA] at hsp
   match hAl:A with
   | []=>simp [bc] at hsp;omega
   | [y] =>
    have hy:y∈prs:=nc (hA ▸ eV.2 rfl)
    have hyb:y∈aK b:=by rw [hb,lR,iv];simp [hy]
    have:=(h.k5 y hyb).2
    omega
   | y::z::t=>simp
 ·intro x hx
  have h5:=h.h5
  rw [hb] at h5
  rcases br.1 hx with hx | hx
  ·exact h5 x (kH _ hx)
  ·rcases bO.1 hx with rfl | hx
   ·exact hs5
   ·rw [eV.1 hx]
    exact h5 (p,prs,h') (by simp)
def Dy (n:Nat) (r:Int) (es:Es) (ups:List IL) (b:LL) (k v:Bs) (ok:Bool) (e r':Int) (es':Es) (ups':List IL) (b':LL):Prop :=
 (e=0/\bq k=true/\dq v=true/\aK b'=cd (aK b) k v/\ok = !b9 (aW (aK b)) k/\zN ups b k v ups' b'/\(Fk ups.reverse->Fk ups'.reverse)) ∨
 (ok=false/\r'=r/\es'=es/\ups'=ups/\b'=b/\((e=1/\(bq k && dq v)=false)∨(e=6/\bq k=true/\dq v=true/\n - es.length < ups.length+2)))
theorem tV {n:Nat} {r:Int} {es:Es} {ups:List IL} {b:LL} (h:WF n r es ups b) (k v:Bs) :
  ∃ok e r' es' ups' b',WF n r' es' ups' b'/\mf n r es k v ok e r' es'/\Dy n r es ups b k v ok e r' es' ups' b':=by
 cases hkv:(bq k && dq v) with
 | false=>exact ⟨false,1,r,es,ups,b,h,.arg hkv,.inr ⟨rfl,rfl,rfl,rfl,rfl,.inl ⟨rfl,hkv⟩⟩⟩
 | true =>
  obtain ⟨hk,hv⟩:=Bool.and_eq_true_iff.1 hkv
  obtain ⟨p,h',ws,pre,prs,post,q1,q2,q3,q4,q5,q6⟩:=IK h.toWT hk
  have hF:=h.okF
  rw [q2] at hF
  have hr:cJ ⟨prs,h',be post 0⟩=true:=BU hF
  obtain ⟨o,hx0,hx1⟩:=pd hr
  have hn:=h.shf.le
  have hul:=ot h.toWT
  have hll:=qO h.shf
  obtain ⟨hgp,_⟩:=QU q6
  have hord:=h.ord
  rw [q2] at hord
  have hpre:=(tP hord).2.2.1
  obtain ⟨hca,hcc⟩:=IJ hord hF q3 q4
  have hris:=jI hord hF
  have efl:aK (pre++(p,prs,h')::post)=aK pre++(prs++aK post):=by rw [lR,iv]
  rw [efl] at hris
  have hput:=GY (v:=v) hca hcc hris
  have hhas:=Ms hca hcc hris
  have hfb:aK b=aK pre++(prs++aK post):=by rw [q2,efl]
  by_cases hz:bc (cd prs k v)<=231
  ·have o2:=GV o hk hv q4 hz
   have hr2:=pF o2 hx0 hx1
   have hat:=h.rep
   rw [q2] at hat
   have hat:=BD hat
   have hpm:=kw (b':=bI ⟨cd prs k v,h',be post 0⟩) h.shf.nd hat
   obtain ⟨ok1,ok3,ok2⟩:=(fP _ _ _).1 hF
   have hne:=yw h q2
   refine ⟨!b9 (aW prs) k,0,r,bp es p (bI ⟨cd prs k v,h',be post 0⟩),ups,pre++(p,cd prs k v,h')::post,⟨⟨jS h.shf (gS hat),hpm.trans (M3 (U:=cX ups) (pre:=pre) (post:=post) (p:=p) (x:=(cd prs k v,h'))),?_,h.okI,(fP _ _ _).2 ⟨ok1,hr2,ok2⟩,N5 hord ?_⟩,?_,h.rt⟩,.put h.shf hk hv q6 (by omega) hgp hr q4 hz hr2,.inl ⟨rfl,hk,hv,?_,?_,aay q2 ?_ (ZD prs k v),fun h=>h⟩⟩
   ·have e:bZ (pre++(p,cd prs k v,h')::post)=bZ b:=by rw [q2];simp [bZ]
    exact Eu e h.dn
   ·intro y hy x hx
    rcases rn hx with rfl | hx
    ·exact q3 (y.1,y.2.2) (ef.2 ⟨y,hy,rfl⟩)
    ·exact (hpre y hy).2 x hx
   ·intro _ x hx
    rcases br.1 hx with hx | hx
    ·exact hne x (.inl hx)
    ·rcases bO.1 hx with rfl | hx
     ·exact GX _ _ _
     ·exact hne x (.inr hx)
   ·rw [hfb,hput,lR,iv]
   ·rw [hfb,hhas]
   ·rw [hfb,hput,lR,iv]
  ·by_cases hfree:n - es.length < ws.length+2
   ·exact ⟨false,6,r,es,ups,b,h,.full h.shf hk hv q6 (by omega) hgp hr q4 hz hfree,.inr ⟨rfl,rfl,rfl,rfl,rfl,.inr ⟨rfl,hk,hv,by omega⟩⟩⟩
   ·have hpw:=B9 prs k v
    have hkv:=C4 (x:=(k,v)) hk hv
    have h50:=Q6 o.mem
    have ow:=o.wt
    have hlen:2<=prs.length:=by omega
    obtain ⟨j,hj,hjf,hj2⟩:=FH h.shf (by omega)
    obtain ⟨m0,m1,m2,m3⟩:=Mr hlen (fun x hx=>(C4 (o.mem x hx).1 (o.mem x hx).2).2) o.wt
    have hx:prs[cY prs]? = some prs[cY prs]:=bG m1
    obtain ⟨oA,oB,hsh,hks,hgB,z,hzp,hzs⟩:=WC o (cY prs) hx m0
    generalize hxx:prs[cY prs]=x at *
    have hlo':∀y∈pre,aD y.2.2 x.1:=fun y hy=>⟨(hpre y hy).1.1,.inr (XN ((hpre y hy).2 z hzp) hzs)⟩
    have klo:∀y∈pre,lt k y.2.2=false:=fun y hy=>q3 (y.1,y.2.2) (ef.2 ⟨y,hy,rfl⟩)
    have hrA:=pF oA (nx:=(j:Int)+1) (by omega) (by omega)
    have hrB:=pF oB hx0 hx1
    have hroom:es.length+ups.length+2<=n:=by omega
    have htd:prs=prs.take (cY prs)++(prs.drop (cY prs)++[]):=by simp
    have htd2:prs=[]++(prs.take (cY prs)++prs.drop (cY prs)):=by simp
    have hA0:prs.take (cY prs)≠[]:=by
     intro e
     rcases List.take_eq_nil_iff.1 e with h1 | h1
     ·omega
     ·rw [h1] at hlen;simp at hlen
    have hB0:prs.drop (cY prs)≠[]:=by
     intro e
     have h1:=Dj.1 e
     omega
    have hrt:ij (prs.take (cY prs)++prs.drop (cY prs)):=by rw [iz];exact o.ri
    cases hks2:lt k x.1 with
    | true =>
     have hw:bc (cd (prs.take (cY prs)) k v)<=231:=by have:=B9 (prs.take (cY prs)) k v;omega
     have oA2:=GV oA hk hv (.inr hks2) hw
     obtain ⟨r',es',ups',hW,hup,hrs,hfk⟩:=QK h q1 q2 hj hj2 oA2 oB (GX _ _ _) hB0 hsh hks hlo'
      (fun y hy q hq=>by
       rcases rn hq with rfl | hq
       ·exact klo y hy
       ·exact (hpre y hy).2 q (nc hq))
      (fun y hy q hq=>(hpre y hy).2 q (lx hq)) hgB hroom
     refine ⟨!b9 (aW prs) k,0,r',es',ups',_,hW,.split h.shf hk hv q6 (by omega) hgp hr q4 hz hfree hjf hj hj2 hlen hx hrA hrB (pF oA2 (by omega) (by omega)) hrB (.inl ⟨hks2,rfl,hw,rfl⟩) hup,.inl ⟨rfl,hk,hv,?_,by rw [hfb,hhas],fun h1=>absurd (h1 x (by rw [hfb];exact m8 _ (kH _ (cH hx)))) (by rw [ki hks2];simp),hfk⟩⟩
     have hgk:∀y∈prs.drop (cY prs),lt k y.1=true:=fun y hy=>by
      have h0:=hgB y hy
      by_cases e:y.1=x.1
      ·rw [e];exact hks2
      ·exact lt_trans hks2 (mG h0 e)
     have:=GY (a:=[]) (m:=prs.take (cY prs)) (c:=prs.drop (cY prs)) (k:=k) (v:=v) (by simp) hgk (by simpa using hrt)
     rw [<-htd2] at this
     rw [hfb,hput,this,lR,iv,iv]
     simp
    | false =>
     have hw:bc (cd (prs.drop (cY prs)) k v)<=231:=by have:=B9 (prs.drop (cY prs)) k v;omega
     have oB2:=GV oB hk hv q4 hw
     obtain ⟨r',es',ups',hW,hup,hrs,hfk⟩:=QK h q1 q2 hj hj2 oA oB2 hA0 (GX _ _ _) hsh hks hlo'
      (fun y hy q hq=>(hpre y hy).2 q (nc hq))
      (fun y hy q hq=>by
       rcases rn hq with rfl | hq
       ·exact klo y hy
       ·exact (hpre y hy).2 q (lx hq))
      (fun q hq=>by
       rcases rn hq with rfl | hq
       ·exact hks2
       ·exact hgB q hq) hroom
     have hlk:∀y∈prs.take (cY prs),lt y.1 k=true:=fun y hy=>by
      have h1:=(oA.hi.resolve_left (o8 hks)).2 y hy
      by_cases e:k=x.1
      ·rw [e];exact h1
      ·exact lt_trans h1 (mG hks2 e)
     have hpa:=GY (a:=prs.take (cY prs)) (m:=prs.drop (cY prs)) (c:=[]) (k:=k) (v:=v) hlk (by simp) (by simpa using hrt)
     rw [<-htd] at hpa
     have hfl2:aK (pre++(p,prs.take (cY prs),x.1)::((j:Int),cd (prs.drop (cY prs)) k v,h')::post)=cd (aK b) k v:=by
      rw [hfb,hput,hpa,lR,iv,iv]
      simp
     have hrsn:zN ups b k v ups' (pre++(p,prs.take (cY prs),x.1)::((j:Int),cd (prs.drop (cY prs)) k v,h')::post):=by
      intro h1 hk5 h3 hh
      have hpo:post=[]:=by
       cases hpo:post with
       | nil=>rfl
       | cons y t =>
        exfalso
        have hy:=yw h q2 y (.inr (by rw [hpo];simp))
        obtain ⟨z,t',hz⟩:=m5 hy
        have hm:z∈aK post:=ib.2 ⟨y,by rw [hpo];simp,by rw [hz];simp⟩
        have a1:=hcc z hm
        have a2:=h1 z (by rw [hfb];simp [hm])
        rw [ki a1] at a2
        cases a2
      have q2':b=pre++[(p,prs,h')]:=by rw [q2,hpo]
      have hfl3:=hfl2
      rw [hpo] at hfl3
      have:=aaz (ups':=ups') h q2' hfl3 ⟨x,by rw [hfb];exact m8 _ (kH _ (cH hx)),rfl⟩ rfl hlen (by have:=B9 prs k v;omega) (fun y hy=>(C4 (o.mem y hy).1 (o.mem y hy).2).2) o.wt (fun a b c=>hrs hpo a b c)
      rw [hpo]
      exact this h1 hk5 h3 hh
     refine ⟨!b9 (aW prs) k,0,r',es',ups',_,hW,.split h.shf hk hv q6 (by omega) hgp hr q4 hz hfree hjf hj hj2 hlen hx hrA hrB hrA (pF oB2 hx0 hx1) (.inr ⟨hks2,rfl,rfl,hw⟩) hup,.inl ⟨rfl,hk,hv,hfl2,by rw [hfb,hhas],hrsn,hfk⟩⟩
def bU {α:Type} (l:List (Int × α)):List Int:=l.map (·.1)
def lY (ups:List IL) (b:LL):List V:=(ups.map fun l=>V.sl (aC (bU l)))++[V.sl (aC (bU b))]
def lw {α:Type} (f:α->Int->Bs) (es:Es) (l:List (Int × α)):Prop:=∀x∈bj f l 0,x∈es
theorem BL {α:Type} {f:α->Int->Bs} {g:α->Int->Prop}:∀{l:List (Int × α)} {n:Int},cI g l n->∀x∈l,∃m,g x.2 m/\(x.1,f x.2 m)∈bj f l n
 |(p,y)::l,n,h,x,hx=>by
  rcases bO.1 hx with rfl | hx
  ·exact ⟨_,h.1,by rw [bj];simp⟩
  ·obtain ⟨m,h1,h2⟩:=BL (f:=f) h.2 x hx
   exact ⟨m,h1,by rw [bj];simp [h2]⟩
theorem F9 {l:List Int} {i:Nat} {x:Int} {k:V->R} (h:l[i]? = some x):aS (aC l) i k=k (.int .i64 x):=fi h
theorem M7 {n:Nat} {r:Int} {es:Es} (hS:cx n es) (P:List Int) (hP:P.length<=2000) (m6:List V) {o:db} :
  ∀(l:IL) (i:Nat) (acc:List Int),P.drop i=bU l->(∀x∈l,∃m,okI x.2 m/\(x.1,bC x.2 m)∈es)->acc.length+(bf l).length<=2000->i<=P.length ->
  Go qk true 5 (fF 87) (.head 1 (lB (aC P) (P.length:Int) (P.length:Int) r n (aZ es) (aR n (aM es)) m6 (aC (acc++bU (bf l))))) o ->
  Go qk true 5 (fF 87) (.head 1 (lB (aC P) (P.length:Int) (i:Int) r n (aZ es) (aR n (aM es)) m6 (aC acc))) o
 | [],i,acc,hd,_,_,hi0,hg=>by
  have hi:=drop_nil hd
  have e:i=P.length:=by omega
  subst e
  simpa [bf,bU] using hg
 |(q,x)::l,i,acc,hd,aV,hlen,hi0,hg=>by
  obtain ⟨h1,h2,h3⟩:=er hd
  obtain ⟨m,⟨hne,hr⟩,hm⟩:=aV (q,x) (by simp)
  have hge:=jJ hS.nd hm
  have e1:bf ((q,x)::l)=x++bf l:=by simp [bf]
  rw [e1] at hlen hg
  rw [cO] at hlen
  have w:W .i64 ((i:Int)+1)=((i+1:Nat):Int):=by rw [aU (by omega)];omega
  refine CF _ _ _ _ _ _ _ _ _ (o:=.head 1 (lB (aC P) (P.length:Int) ((i+1:Nat):Int) r n (aZ es) (aR n (aM es)) m6 (aC (acc++bU x)))) ?_
   (M7 hS P hP m6 l (i+1) (acc++bU x) h2 (fun y hy=>aV y (by simp [hy])) (by simp [bU];omega) (by omega) (by rw [bw];simpa [bU] using hg))
  unfold y6
  rw [decide_eq_true (by omega),cond_true,aB (by simp),aY,F9 h1,bX,pB hS hge hr,bz,aB (pN _),aB (decide_eq_true (by simp only [co,dh];omega)),w,yh]
  rfl
theorem M8 {n:Nat} {r:Int} {es:Es} (hS:cx n es) (P:List Int) (hP:P.length<=2000) (m6:List V) {o:db} :
  ∀(l:LL) (i:Nat),P.drop i=bU l->(∀x∈l,∃m,okF x.2 m/\(x.1,cS x.2 m)∈es)->i<=P.length ->
  Go qk true 5 (fF 87) (.head 1 (lB (aC P) (P.length:Int) (P.length:Int) r n (aZ es) (aR n (aM es)) m6 [])) o ->
  Go qk true 5 (fF 87) (.head 1 (lB (aC P) (P.length:Int) (i:Int) r n (aZ es) (aR n (aM es)) m6 [])) o
 | [],i,hd,_,hi,hg=>by
  have h1:=drop_nil hd
  have e:i=P.length:=by omega
  subst e
  exact hg
 |(q,x)::l,i,hd,aV,hi,hg=>by
  obtain ⟨h1,h2,h3⟩:=er hd
  obtain ⟨m,hr,hm⟩:=aV (q,x) (by simp)
  have hge:=jJ hS.nd hm
  have w:W .i64 ((i:Int)+1)=((i+1:Nat):Int):=by rw [aU (by omega)];omega
  refine CF _ _ _ _ _ _ _ _ _ (o:=.head 1 (lB (aC P) (P.length:Int) ((i+1:Nat):Int) r n (aZ es) (aR n (aM es)) m6 [])) ?_
   (M8 hS P hP m6 l (i+1) h2 (fun y hy=>aV y (by simp [hy])) (by omega) hg)
  unfold y6
  rw [decide_eq_true (by omega),cond_true,aB (by simp),aY,F9 h1,bX,rp (l:=⟨x.1,x.2,m⟩) hS hge hr,bz,w]
theorem Zn (b:LL):bU (bZ b)=bU b:=by simp [bZ,bU]
theorem Zm (l:IL):bU (bE l)=bU l:=by simp [bE,bU]
theorem TA {s:Su} {d:List IL} {b:LL} (h:Dn s d b) (hd:∀l∈d,l.length<=1024) (hb:b.length<=1024):s.length<=1024:=by
 cases d with
 | nil=>rw [ji h,bZ,dh];exact hb
 | cons l d=>rw [(ff h).1,bE,dh];exact hd l (by simp)
theorem yk {l:IL} (h:l≠[]) (hn:∀x∈l,x.2≠[]):bf l≠[]:=by
 obtain ⟨x,t,rfl⟩:=m5 h
 intro h0
 rw [bf,fT,pX] at h0
 exact hn x (by simp) h0.1
theorem Na {n:Nat} {r:Int} {es:List (V × V)} {bs:List V} {acc:List V} {P:List Int} {o:db} (hl:acc.length<=3000)
  (h:Go qk true 5 (fF 87) (.head 1 (lB (aC P) (P.length:Int) ((0:Nat):Int) r n es bs (acc++[V.sl (aC P)]) [])) o) :
  Go qk true 5 (fF 87) (.head 0 (xw r n es bs (acc++[V.sl (aC P)]))) o:=by
 have w:W .i64 (((acc++[V.sl (aC P)]).length:Int) - 1)=((acc.length:Nat):Int):=by
  rw [cO,aU (by simp;omega)];simp
 have hg:(acc++[V.sl (aC P)])[acc.length]? = some (V.sl (aC P)):=by simp
 refine aa0 _ _ _ _ _ ?_ h
 unfold PS
 rw [w,aB (by simp),aB (decide_eq_true (by simp)),aY,cQ hg,ll,co]
 rfl
theorem M9 {n:Nat} {r:Int} {es:Es} (hS:cx n es):∀(d:List IL) (b:LL) (s:Su) (acc:List V),Dn s d b->(∀l∈d,cI okI l 0)->cI okF b 0->(∀l∈d,lw bC es l)->lw cS es b->(∀l∈d,l.length<=1024)->b.length<=1024->acc.length+d.length<=2000->s≠[] ->
  Go qk true 5 (fF 87) (.head 0 (xw r n (aZ es) (aR n (aM es)) (acc++[V.sl (aC (bU s))]))) (.doneM (.own 5) (tM r n es++[O.row 80 (acc++lY d b) 0]))
 | [],b,s,acc,hd,_,hF,_,hE,_,hb,hl,_=>by
  have e:=ji hd
  have ep:bU s=bU b:=by rw [e,Zn]
  rw [ep]
  have hbl:(bU b).length=b.length:=by simp [bU]
  refine Na (by simp at hl;omega) (M8 hS (bU b) (by omega) _ b 0 rfl (fun x hx=>?_) (by omega) (CF _ _ _ _ _ _ _ _ _ ?_ (.refl _)))
  ·obtain ⟨m,h1,h2⟩:=BL (f:=cS) hF x hx
   exact ⟨m,h1,hE _ h2⟩
  ·unfold y6
   rw [decide_eq_false (by omega),cond_false]
   rfl
 | l::d,b,s,acc,hd,hI,hF,hEI,hE,hdl,hb,hl,hne=>by
  obtain ⟨e,hdk⟩:=ff hd
  have ep:bU s=bU l:=by rw [e,Zm]
  have hll:=hdl l (cz ..)
  have hpl:(bU l).length=l.length:=by simp [bU]
  have hkl:=TA hdk (fun x hx=>hdl x (by simp [hx])) hb
  have hlne:l≠[]:=by rintro rfl;exact hne e
  have hkne:=yk hlne (gU (hI _ (cz ..)))
  have ih:=M9 (r:=r) hS d b (bf l) (acc++[V.sl (aC (bU l))]) hdk (fun x hx=>hI x (by simp [hx])) hF (fun x hx=>hEI x (by simp [hx])) hE (fun x hx=>hdl x (by simp [hx])) hb (by simp at hl |-;omega) hkne
  have e2:acc++[V.sl (aC (bU l))]++lY d b=acc++lY (l::d) b:=by simp [lY]
  rw [e2] at ih
  rw [ep]
  refine Na (by simp at hl;omega) (M7 hS (bU l) (by omega) _ l 0 [] rfl (fun x hx=>?_) (by simp;omega) (by omega) (CF _ _ _ _ _ _ _ _ _ ?_ ih))
  ·obtain ⟨m,h1,h2⟩:=BL (f:=bC) (hI _ (cz ..)) x hx
   exact ⟨m,h1,hEI _ (cz ..) _ h2⟩
  ·unfold y6
   rw [dp,decide_eq_false (by omega),cond_false,cZ,cond_false,aB (decide_eq_true (by simp at hl |-;omega))]
   rw [co,bU,dh]
   have:0 < (bf l).length:=iM.2 hkne
   omega
theorem Gj {n:Nat} {r:Int} {es:Es} {ups:List IL} {b:LL} (h:WT n r es ups b):(∀l∈ups,l.length<=1024)/\b.length<=1024:=by
 have h2:=h.rep.length_eq
 have h3:=qO h.shf
 have h4:=h.shf.le
 rw [cO,AY] at h2
 refine ⟨fun l hl=>?_,by omega⟩
 have:∀{u:List IL},l∈u->l.length<=(cX u).length:=by
  intro u hu
  induction u with
  | nil=>cases hu
  | cons x u ih =>
   rw [mt,cO,AY]
   rcases bO.1 hu with rfl | hu
   ·omega
   ·have:=ih hu;omega
 have:=this hl
 omega
theorem tc {n:Nat} {r:Int} {es:Es} {ups:List IL} {b:LL} (h:WT n r es ups b):(∀l∈ups,lw bC es l)/\lw cS es b :=
 ⟨fun l hl x hx=>h.rep.mem_iff.2 (kH _ (ib.2 ⟨l,hl,hx⟩)),fun x hx=>h.rep.mem_iff.2 (m8 _ hx)⟩
theorem Nb {n:Nat} {r:Int} {es:Es} {ups:List IL} {b:LL} (h:WT n r es ups b):bT aA aF 87 [.ptr 0 0 0] (tM r n es)=some (po (tM r n es) (lY ups b)):=by
 have hl:=ot h
 obtain ⟨h1,h2⟩:=Gj h
 obtain ⟨h3,h4⟩:=tc h
 have:=M9 (r:=r) h.shf ups b [(r,[])] [] h.dn h.okI h.okF h3 h4 h1 h2 (by simp;omega) (by simp)
 exact Vt _ _ _ _ rfl ⟨_,_,this,by kernel_rfl⟩
theorem BE {n:Nat} {r:Int} {es:Es} {ups:List IL} {b:LL} (h:WT n r es ups b):bT aA aF 46 [.ptr 0 0 0] (tM r n es)=some (l7 (tM r n es) (aC (bU b))):=by
 have hl:=ot h
 have hlen:(lY ups b).length=ups.length+1:=by simp [lY]
 have w:W .i64 (((lY ups b).length:Int) - 1)=((ups.length:Nat):Int):=by rw [hlen,aU (by omega)];omega
 have hg:(lY ups b)[ups.length]? = some (V.sl (aC (bU b))):=by simp [lY]
 refine U0 _ _ _ _ (o:=.doneM (.sl (aC (bU b))) (tM r n es++[O.row 3 [] 0])) ?_ (.done (by kernel_rfl))
 unfold Le
 rw [bR NE (Nb h),bz,w,aB (by simp),aY,cQ hg,ll]
def gJ (from0:Bs) (n:Int):List Pr->List Pr->List Pr
 | acc,[]=>acc
 | acc,x::r=>gJ from0 n (if !(lt x.1 from0) && decide ((acc.length:Int) < n) then acc++[x] else acc) r
theorem PZ (f:Bs) (n:Int):∀(a b acc:List Pr),gJ f n acc (a++b)=gJ f n (gJ f n acc a) b
 | [],_,_=>rfl
 | x::a,b,acc=>by rw [dv,gJ,gJ,PZ f n a b]
theorem P0 (f:Bs) (n:Int):∀(l acc:List Pr),(gJ f n acc l).length<=acc.length+l.length
 | [],_=>bK _
 | x::l,acc=>by
  have h:=P0 f n l (if !(lt x.1 f) && decide ((acc.length:Int) < n) then acc++[x] else acc)
  rw [gJ,cG]
  refine j4 h ?_
  split
  ·rw [cO,cG,dR];omega
  ·omega
theorem Ie (f:Bs) (n:Int):∀(l acc:List Pr),n<=acc.length->gJ f n acc l=acc
 | [],_,_=>rfl
 | x::l,acc,h=>by rw [gJ,decide_eq_false (by omega),iL];exact Ie f n l acc h
theorem CH (f:Bs) (n:Nat):∀(l acc:List Pr),acc.length<=n->gJ f n acc l=acc++(l.filter fun x=>!(lt x.1 f)).take (n - acc.length)
 | [],acc,_=>by simp [gJ]
 | x::l,acc,h=>by
  rw [gJ]
  cases hx:lt x.1 f with
  | true =>
   rw [Dk (by simp [hx])]
   exact CH f n l acc h
  | false =>
   rw [Dl (by simp [hx])]
   by_cases hn:acc.length < n
   ·rw [decide_eq_true (by omega)]
    have:=CH f n l (acc++[x]) (by simp;omega)
    refine this.trans ?_
    obtain ⟨k,hk⟩:∃k,n - acc.length=k+1:=⟨n - acc.length - 1,by omega⟩
    rw [hk,uI]
    have e:n - (acc++[x]).length=k:=by simp;omega
    rw [e];simp
   ·rw [decide_eq_false (by omega)]
    have e:n - acc.length=0:=by omega
    rw [e,pY,dH]
    exact Ie f n l acc (by omega)
theorem P3 {n:Nat} {r:Int} {es:Es} {f:Bs} {cnt:Int} {P:List V} {np i:Int} {prs:List Pr} (hp:prs.length<=1000) {o:db}:∀(l:List Pr) (j:Nat) (acc:List Pr),prs.drop j=l->j<=prs.length->acc.length+l.length<=10000000 ->
  Go qk true 5 (fF 34) (.head 0 (xp f cnt P np (W .i64 (i+1)) r n (aZ es) (aR n (aM es)) (aN (gJ f cnt acc l)))) o ->
  Go qk true 5 (fF 34) (.head 1 (sy f cnt P np i (aN prs) (prs.length:Int) (j:Int) r n (aZ es) (aR n (aM es)) (aN acc))) o
 | [],j,acc,hd,hj,_,hg=>by
  have h1:=drop_nil hd
  refine PE _ _ _ _ _ _ _ _ _ _ _ _ _ ?_ hg
  unfold Cv
  rw [decide_eq_false (by omega),cond_false]
  rfl
 | x::l,j,acc,hd,hj,hl,hg=>by
  obtain ⟨h1,h2,h3⟩:=er hd
  have w:W .i64 ((j:Int)+1)=((j+1:Nat):Int):=by rw [aU (by omega)];omega
  simp only [cG] at hl
  rw [gJ] at hg
  have hs:Cv f cnt P np i (aN prs) (prs.length:Int) (j:Int) r n (aZ es) (aR n (aM es)) (aN acc)=some (.head 1 (sy f cnt P np i (aN prs) (prs.length:Int) ((j+1:Nat):Int) r n (aZ es) (aR n (aM es)) (aN (if !(lt x.1 f) && decide ((acc.length:Int) < cnt) then acc++[x] else acc)))):=by
   unfold Cv
   rw [decide_eq_true (by omega),cond_true,aB (by simp),aY,eA h1,eo,w,cL]
   show (cond (!(lt x.1 f)) _ _)=_
   cases lt x.1 f with
   | true=>rfl
   | false =>
    rw [gi,cond_true,du]
    cases decide ((acc.length:Int) < cnt) with
    | true =>
     rw [cond_true,aB (decide_eq_true (by simp;omega))]
     simp [aN]
    | false=>rfl
  refine PE _ _ _ _ _ _ _ _ _ _ _ _ _ hs (P3 hp l (j+1) _ h2 (by omega) ?_ hg)
  split
  ·simp;omega
  ·omega
theorem P2 {n:Nat} {r:Int} {es:Es} (hS:cx n es) {f:Bs} {cnt:Int} (P:List Int) (hP:P.length<=2000):∀(l:LL) (i:Nat) (acc:List Pr),P.drop i=bU l->(∀x∈l,∃m,okF x.2 m/\(x.1,cS x.2 m)∈es)->i<=P.length->acc.length+1000 * l.length<=5000000 ->
  Go qk true 5 (fF 34) (.head 0 (xp f cnt (aC P) (P.length:Int) (i:Int) r n (aZ es) (aR n (aM es)) (aN acc))) (.doneM (.own 6) (tM r n es++[O.row 41 [] 0,O.row 41 (aN (gJ f cnt acc (aK l))) 0]))
 | [],i,acc,hd,_,hi,_=>by
  have h1:=drop_nil hd
  refine PD _ _ _ _ _ _ _ _ _ _ ?_ (.refl _)
  unfold HL
  rw [decide_eq_false (by omega),cond_false]
  rfl
 |(q,prs,h)::l,i,acc,hd,aV,hi,hl=>by
  obtain ⟨h1,h2,h3⟩:=er hd
  obtain ⟨m,hr,hm⟩:=aV (q,prs,h) (by simp)
  have hge:=jJ hS.nd hm
  have hr:cJ ⟨prs,h,m⟩=true:=hr
  have g:=qE hr
  have g1:=g.len;have g2:=g.wt
  simp only at g1 g2
  have w:W .i64 ((i:Int)+1)=((i+1:Nat):Int):=by rw [aU (by omega)];omega
  simp only [cG] at hl
  have hsl:=P0 f cnt prs acc
  have ih:=P2 (r:=r) (f:=f) (cnt:=cnt) hS P hP l (i+1) (gJ f cnt acc prs) h2 (fun y hy=>aV y (by simp [hy])) (by omega) (by omega)
  rw [<-PZ,<-iv q prs h,<-w] at ih
  refine PD _ _ _ _ _ _ _ _ _ _ ?_ (P3 (prs:=prs) (by omega) prs 0 acc rfl (by omega) (by omega) ih)
  unfold HL
  rw [decide_eq_true (by omega),cond_true,aB (by simp),aY,F9 h1,bX,rp (l:=⟨prs,h,m⟩) hS hge hr,bz]
  show some _=some _
  rw [cL]
  rfl
theorem rC {n:Nat} {r:Int} {es:Es} {ups:List IL} {b:LL} (h:WT n r es ups b) (f:Bs) (cnt:Int):bT aA aF 34 [.ptr 0 0 0,.str f,.int .i64 cnt] (tM r n es)=some (iH (tM r n es) (aN (gJ f cnt [] (aK b)))):=by
 obtain ⟨h1,h2⟩:=Gj h
 obtain ⟨h3,h4⟩:=tc h
 have hbl:(bU b).length=b.length:=by simp [bU]
 have:=P2 (r:=r) (f:=f) (cnt:=cnt) h.shf (bU b) (by omega) b 0 [] rfl (fun x hx=>by
  obtain ⟨m,h1,h2⟩:=BL (f:=cS) h.okF x hx
  exact ⟨m,h1,h4 _ h2⟩) (by omega) (by simp;omega)
 refine UP _ _ _ _ _ _ ?_ ⟨_,_,this,by kernel_rfl⟩
 unfold K7
 rw [bR yv (BE h),bz,co]
 rfl
def dA (sn:List Int):List (V × V):=sn.map fun p=>(V.int .i64 p,V.bool true)
theorem BM {p:Int}:∀{sn:List Int},p∉sn->eU (dA sn) (.int .i64 p)=some none
 | [],_=>rfl
 | a::sn,h=>by
  show ((d5 (.int .i64 p) (.int .i64 a)).bind fun b=>if b then some (some (V.bool true)) else eU (dA sn) (.int .i64 p))=_
  rw [xN,decide_eq_false (fun e=>h (by simp [e])),aL]
  exact BM fun e=>h (by simp [e])
theorem BO {p:Int}:∀{sn:List Int},p∉sn->iY (dA sn) (.int .i64 p) (.bool true)=some (dA (sn++[p]))
 | [],_=>rfl
 | a::sn,h=>by
  show ((d5 (.int .i64 p) (.int .i64 a)).bind fun q=>if q then some ((V.int .i64 a,V.bool true)::dA sn) else (iY (dA sn) (.int .i64 p) (.bool true)).map ((V.int .i64 a,V.bool true)::·))=_
  rw [xN,decide_eq_false (fun e=>h (by simp [e])),aL,BO fun e=>h (by simp [e])]
  rfl
abbrev im {α:Type} (N:List α) (j:Nat) (x:α):List α:=N.take j++x::N.drop (j+1)
theorem JL {α:Type} {N:List α} {j:Nat} {x:α} (h:j < N.length):N.set j x=im N j x:=by
 rw [List.set_eq_take_append_cons_drop,if_pos h]
theorem JJ {α:Type} {N:List α} {j:Nat} {x:α} (h:N.length=j):im N j x=N++[x]:=by
 unfold im
 rw [kJ (by omega),oI (by omega)]
theorem Qk (N:List Bs) (j:Nat) (x:Bs):(bd N).set j (V.str x)=bd (N.set j x):=by
 unfold bd;rw [List.map_set]
theorem Wu {α:Type} {l:List α} {j:Nat} {x:α} (h:l[j]? = some x):j < l.length:=(bn.1 h).1
abbrev xE:CM:=⟨true,false,true,[3,9]⟩
theorem Ke {sn:List (V × V)} {N:List Int} {B:List Bs} {j:Nat} {p nx:Int} {lo hi:Bs} (hj:j<=2000) (hp:0<=p/\p < 100000) (hl:B.length=N.length) (h:N.length=j∨(N[j]? = some (p+1)/\B[j]? = some lo)) :
  bT aA xE 132 [.ptr 0 0 0,.int .i64 (j:Int),.int .i64 p,.str lo,.str hi,.int .i64 nx] (fm sn (aC N) (bd B))=some (pj (true,sn,aC (im N j nx),bd (im B j hi))):=by
 have w:W .i64 (p+1)=p+1:=aU (by omega)
 rcases h with h | ⟨h1,h2⟩
 ·have g1:(N++[p+1])[0+j]? = some (p+1):=by rw [ew,<-h];simp
  have g2:(B++[lo])[0+j]? = some lo:=by rw [ew,<-h,<-hl];simp
  have e1:(N++[p+1]).set (0+j) nx=im N j nx:=by
   rw [JJ h,ew,<-h,Du _ _ (bK _),jB];rfl
  have e2:(B++[lo]).set (0+j) hi=im B j hi:=by
   rw [JJ (by omega),ew,<-h,<-hl,Du _ _ (bK _),jB];rfl
  have a1:aC N++[V.int .i64 (p+1)]=aC (N++[p+1]):=by simp [aC]
  have a2:bd B++[V.str lo]=bd (B++[lo]):=by simp [bd]
  have hs:yZ (j:Int) p lo hi nx sn (aC N) (bd B)=some (.head 0 (zX (j:Int) p lo hi nx sn (aC (N++[p+1])) (bd (B++[lo])))):=by
   unfold yZ
   rw [co,decide_eq_true (by omega),cond_true,aB (by simp;omega),gh,aB (by simp;omega),w,a1,a2]
  have hb:Hy (j:Int) p lo hi nx sn (aC (N++[p+1])) (bd (B++[lo]))=some (.doneM (V.bool true) [O.box 144 (V.agg [V.mp 1,V.tail 4 0,V.tail 5 0]) false,O.map sn,O.dead,O.dead,O.row 3 (aC (im N j nx)) 0,O.row 9 (bd (im B j hi)) 0]):=by
   unfold Hy
   rw [co,gh,decide_eq_false (by simp;omega),cond_false,w]
   simp only [aY,aB (show decide ((0:Int)<=(j:Int))=true by simp),aB (show decide (j < (N++[p+1]).length)=true by simp;omega),aB (show decide (j < (B++[lo]).length)=true by simp;omega),fi g1,lk g2,bX,eg,beq_self_eq_true,cond_true,Bu,Qk,e1,e2]
  exact KV _ _ _ _ _ _ _ _ rfl ⟨_,_,Pj _ _ _ _ _ _ _ _ hs (aaJ _ _ _ _ _ _ _ _ hb (.refl _)),by kernel_rfl⟩
 ·have l1:=Wu h1
  have g1:N[0+j]? = some (p+1):=by rw [ew];exact h1
  have g2:B[0+j]? = some lo:=by rw [ew];exact h2
  have e1:N.set (0+j) nx=im N j nx:=by rw [ew];exact JL l1
  have e2:B.set (0+j) hi=im B j hi:=by rw [ew];exact JL (by omega)
  have hs:yZ (j:Int) p lo hi nx sn (aC N) (bd B)=some (.doneM (V.bool true) (fm sn (aC (im N j nx)) (bd (im B j hi)))):=by
   unfold yZ
   rw [co,gh,decide_eq_false (by omega),cond_false,w]
   simp only [aY,aB (show decide ((0:Int)<=(j:Int))=true by simp),aB (show decide (j < N.length)=true by simp;omega),aB (show decide (j < B.length)=true by simp;omega),fi g1,lk g2,bX,eg,beq_self_eq_true,cond_true,Bu,Qk,e1,e2]
  exact KV _ _ _ _ _ _ _ _ rfl ⟨_,_,Pj _ _ _ _ _ _ _ _ hs (.refl _),by kernel_rfl⟩
def fE:List IL->LL->List Int
 | [],b=>[be b 0]
 | l::d,b=>fE d b++[be l 0]
theorem tL:∀(d:List IL) (b:LL),(fE d b).length=d.length+1
 | [],_=>rfl
 | l::d,b=>by rw [fE,cO,tL d b];rfl
def fk (ups:List IL) (b:LL):List Int:=ups.flatMap bU++bU b
def Ab (lo:Bs) (b:LL):Prop:=∀z∈b,(∀x∈z.2.1,lt x.1 lo=false)/\(z.2.2=[]∨lt lo z.2.2=true)
theorem Nr (x:Bs):lt x []=false:=by cases x<;>rfl
theorem RL (b:LL):Ab [] b:=fun z _=>⟨fun x _=>Nr x.1,by
 cases h:z.2.2 with
 | nil=>exact .inl rfl
 | cons a r=>exact .inr rfl⟩
structure Lk (es:Es) (r:Int) (ups:List IL) (b:LL) (lo:Bs) (X sn:List Int):Prop where
 okI:∀l∈ups,cI okI l 0
 okF:cI okF b 0
 inI:∀l∈ups,lw bC es l
 inF:lw cS es b
 ord:jC b
 ab:Ab lo b
 ne:∀x∈b,x.2.1≠[]∨x.1=r
 two:∀l∈ups,∀x∈l,x.1≠r∨1 < x.2.length
 nd:(sn++X++fk ups b).Nodup
theorem XZ {es:Es} {r:Int} {x:Int × oG} {b:LL} {lo:Bs} {X sn:List Int} (h:Lk es r [] (x::b) lo X sn):Lk es r [] b x.2.2 X (sn++[x.1]) where
 okI:=by simp
 okF:=h.okF.2
 inI:=by simp
 inF:=fun y hy=>h.inF y (iN _ hy)
 ord:=(fV.1 h.ord).2
 ab:=fun z hz=>by
  obtain ⟨h1,h2⟩:=(fV.1 h.ord).1 z hz
  exact ⟨h2,h1.2⟩
 ne:=fun y hy=>h.ne y (by simp [hy])
 two:=by simp
 nd:=by
  have:=h.nd
  have e:(sn++X++fk [] (x::b)).Perm (sn++[x.1]++X++fk [] b):=by
   simp only [fk,List.flatMap_nil,dp,bU,di,bw,Jh]
   exact List.Perm.append_left _ oK
  exact e.nodup_iff.1 this
theorem XY {es:Es} {r:Int} {p:Int} {e:Su} {l:IL} {d:List IL} {b:LL} {lo:Bs} {X sn:List Int} (h:Lk es r (((p,e)::l)::d) b lo X sn):Lk es r d b lo (X++bU l) (sn++[p]) where
 okI:=fun l hl=>h.okI l (by simp [hl])
 okF:=h.okF
 inI:=fun l hl=>h.inI l (by simp [hl])
 inF:=h.inF
 ord:=h.ord
 ab:=h.ab
 ne:=h.ne
 two:=fun l hl=>h.two l (by simp [hl])
 nd:=by
  have:=h.nd
  have e:(sn++X++fk (((p,e)::l)::d) b).Perm (sn++[p]++(X++bU l)++fk d b):=by
   simp only [fk,fT,bU,di,bw,Jh,dv]
   exact List.Perm.append_left _ oK
  exact e.nodup_iff.1 this
theorem X1 {es:Es} {r:Int} {l:IL} {d:List IL} {b:LL} {hi:Bs} {X sn:List Int} (h:Lk es r d b hi (X++bU l) sn) (h1:cI okI l 0) (h2:lw bC es l) (h3:∀x∈l,x.1≠r∨1 < x.2.length):Lk es r (l::d) b hi X sn where
 okI:=fun l' hl=>by exact (bO.1 hl).elim (fun e=>e ▸ h1) (fun hl=>h.okI _ hl)
 okF:=h.okF
 inI:=fun l' hl=>by exact (bO.1 hl).elim (fun e=>e ▸ h2) (fun hl=>h.inI _ hl)
 inF:=h.inF
 ord:=h.ord
 ab:=h.ab
 ne:=h.ne
 two:=fun l' hl=>by exact (bO.1 hl).elim (fun e=>e ▸ h3) (fun hl=>h.two _ hl)
 nd:=by
  have:=h.nd
  simpa [fk,fT,bw] using this
theorem KA {lo:Bs}:∀{d:List IL} {s:Su} {b:LL},Dn s d b->(∀l∈d,cI okI l 0)->Ab lo b->∀y∈s,y.2=[]∨lt lo y.2=true
 | [],s,b,h,_,ha,y,hy=>by
  rw [ji h,bZ] at hy
  obtain ⟨z,hz,rfl⟩:=ef.1 hy
  exact (ha z hz).2
 | l::d,s,b,h,hI,ha,y,hy=>by
  obtain ⟨e,hk⟩:=ff h
  rw [e,bE] at hy
  obtain ⟨z,hz,rfl⟩:=ef.1 hy
  have hne:=gU (hI _ (cz ..)) z hz
  have hm:(z.2.getLastD (0,[]))∈bf l:=by
   refine ib.2 ⟨z,hz,?_⟩
   rw [Dm,Rn hne]
   exact List.getLast_mem hne
  have:=KA hk (fun x hx=>hI x (by simp [hx])) ha _ hm
  exact this
def lg (lo:Bs) (e1:Su):Bs:=(e1.getLastD (0,lo)).2
theorem FF (lo:Bs) (a:Su) (x:Int × Bs):lg lo (a++[x])=x.2:=by simp [lg]
theorem Wc {lo:Bs} {e:Su} (h:e≠[]):lg lo e=aQ e:=by
 obtain ⟨a,x,rfl⟩:∃a x,e=a++[x]:=by
  rcases eK e with h' | ⟨l,x,h'⟩
  ·exact absurd h' h
  ·exact ⟨l,x,by simpa using h'⟩
 rw [FF,gn _ (by simp)];rfl
section
variable {n:Nat} {r:Int} {es:Es}
abbrev lM (r:Int) (n:Nat) (es:Es) (sn N:List Int) (B:List Bs):List O:=lm r (dA sn) (aC N) (bd B) (n:Int) (aZ es) (aR n (aM es))
def St (f:Nat) (ups:List IL) (b:LL) (lo:Bs) (N:List Int) (B:List Bs):Prop:=N.take (f+1)=fE ups b/\B.take (f+1)=bH (f+1) lo
def uJ (n:Nat) (r:Int) (es:Es) (f:Nat):Prop:=∀(ups:List IL) (b:LL) (p:Int) (h lo:Bs) (s:Su) (X sn N:List Int) (B:List Bs),ups.length=f->Dn ((p,h)::s) ups b->Lk es r ups b lo X sn->B.length=N.length->(N=[]∨St f ups b lo N B) ->
 ∃ups' b' sn',ups'.length=f/\Dn s ups' b'/\Lk es r ups' b' h X sn' /\
  bT aA xE 85 [.ptr 0 0 0,.ptr 1 0 0,.int .i64 p,.str lo,.str h] (lM r n es sn N B) =
   some (nU ((f:Int),true,r,dA sn',(n:Int),aZ es,aR n (aM es),aC (fE ups' b'++N.drop (f+1)),bd (bH (f+1) h++B.drop (f+1))))
theorem X7 (hS:cx n es):uJ n r es 0:=by
 intro ups b p h lo s X sn N B hu hd hk hl hst
 obtain rfl:=List.length_eq_zero_iff.1 hu
 have e:=ji hd
 obtain ⟨x,b',rfl⟩:∃x b',b=x::b':=by
  cases b with
  | nil=>cases e
  | cons x b'=>exact ⟨x,b',rfl⟩
 obtain ⟨q,prs,h'⟩:=x
 rw [bZ,di] at e
 obtain ⟨e1,rfl⟩:=List.cons.inj e
 obtain ⟨rfl,rfl⟩:=Prod.mk.inj e1
 have hge:=jJ hS.nd (hk.inF (p,cS (prs,h) (be b' 0)) (cz ..))
 have hr:cJ ⟨prs,h,be b' 0⟩=true:=hk.okF.1
 have hpk:p∈aO es:=ef.2 ⟨_,hk.inF (p,cS (prs,h) (be b' 0)) (cz ..),rfl⟩
 have hpr:=hS.rng p hpk
 have hn:=hS.le
 have hps:p∉sn:=by
  intro hp
  have:=hk.nd
  rw [bw] at this
  exact (zD.1 this).2.2 p hp p (by simp [fk,bU]) rfl
 refine ⟨[],b',sn++[p],rfl,Dn.leaf b',XZ hk,?_⟩
 have hf:N.length=0∨(N[0]? = some (p+1)/\B[0]? = some lo):=by
  rcases hst with h0 | ⟨h1,h2⟩
  ·exact .inl (by rw [h0];rfl)
  ·refine .inr ⟨?_,?_⟩
   ·have:=congrArg (·[0]?) h1
    simpa [fE,be,ia] using this
   ·have:=congrArg (·[0]?) h2
    simpa [ia] using this
 have hft:=Ke (sn:=dA (sn++[p])) (hi:=h) (nx:=be b' 0) (j:=0) (by omega) (p:=p) (lo:=lo) ⟨hpr.1,by omega⟩ hl hf
 rw [show ((0:Nat):Int)=0 from rfl] at hft
 have hx:(cond ((aN prs).length==(0:Int)) true true)=true:=by cases ((aN prs).length==(0:Int))<;>rfl
 have hs0:t8 p lo h r (dA sn) (aC N) (bd B) (n:Int) (aZ es) (aR n (aM es))=some (.head 1 (oQ p lo true r (dA (sn++[p])) (aC N) (bd B) (n:Int) (aZ es) (aR n (aM es)) (aN prs) h (be b' 0))):=by
  unfold t8
  rw [BO hps,gw,bR tI (yJ hS hge),bz,rp (l:=⟨prs,h,be b' 0⟩) hS hge hr,bz,aH (LF ⟨prs,h,be b' 0⟩ hr),eg]
  rw [show (cS (prs,h) (be b' 0)==bI ⟨prs,h,be b' 0⟩)=true from beq_self_eq_true _,cond_true,beq_self_eq_true,cond_true,cL]
  cases prs with
  | nil =>
   have:p=r:=by
    rcases hk.ne (p,[],h) (cz ..) with h1 | h1
    ·exact absurd rfl h1
    ·exact h1
   rw [this]
   simp
  | cons y ps =>
   have hy:=(hk.ab (p,y::ps,h) (cz ..)).1 y (cz ..)
   have i1:(y::ps)[0]? = some y:=rfl
   rw [cZ (by simp;omega),cond_false,eA i1,eo]
   rw [show Op.bytesLess y.1 lo=false from hy,gi,cond_true,decide_eq_true (by simp),cond_true]
 have hs1:HZ p lo true r (dA (sn++[p])) (aC N) (bd B) (n:Int) (aZ es) (aR n (aM es)) (aN prs) h (be b' 0)=some (.doneM (.tup [.int .i64 0,.bool true]) (ln r 10 11 (dA (sn++[p])) (n:Int) (aZ es) (aR n (aM es))++[O.box 120 (V.agg [V.sl (aN prs),V.str h,V.int .i64 (be b' 0)]) false,O.row 3 (aC (im N 0 (be b' 0))) 0,O.row 9 (bd (im B 0 h)) 0])):=by
  unfold HZ
  rw [cond_true,bW NC hft]
 refine Fc _ _ _ _ _ _ _ _ _ _ (o:=.head 0 (uV p lo h r (dA sn) (aC N) (bd B) (n:Int) (aZ es) (aR n (aM es)))) ?_ ⟨_,_,HY _ _ _ _ _ _ _ _ _ _ hs0 (aaS _ _ _ _ _ _ _ _ _ _ _ _ _ hs1 (.refl _)),by kernel_rfl⟩
 unfold AW lp
 rw [BM hps]
theorem aa8 (a:Su) (y x:Int × Bs) (b:Su):((a++[y]++x::b).dropLast.map (·.2))[a.length]? = some y.2:=by
 rw [qv,bw,fK,df (by simp)]
 simp
theorem aa7 (a:Su) (x z:Int × Bs) (b:Su):((a++x::z::b).dropLast.map (·.2))[a.length]? = some x.2:=by
 rw [qv,fK,df (by simp)]
 simp
theorem Nm {f:Nat} (hf:f<=1100) (ih:uJ n r es f) {p:Int} {e K:Su} {lo:Bs} {nx:Int} (he:e≠[]) (hel:e.length<=1000):∀(e2 e1:Su),e=e1++e2->e1≠[]->∀(d:List IL) (b:LL) (X sn N:List Int) (B:List Bs),d.length=f->Dn (e2++K) d b->Lk es r d b (lg lo e1) X sn->B.length=N.length->St f d b (lg lo e1) N B ->
  ∃d' b' sn',d'.length=f/\Dn K d' b'/\Lk es r d' b' (aQ e) X sn'/\∀o,
   Go qk true 9 (fF 85) (.head 3 (sB p lo (aQ e) true (f:Int) true (aC (e.map (·.1))) (e.length:Int) (e.length:Int) r (dA sn') (n:Int) (aZ es) (aR n (aM es)) (bd (e.dropLast.map (·.2))) (aC (e.map (·.1))) (aQ e) nx (aC (fE d' b'++N.drop (f+1))) (bd (bH (f+1) (aQ e)++B.drop (f+1))))) o ->
   Go qk true 9 (fF 85) (.head 3 (sB p lo (aQ e) true (f:Int) true (aC (e.map (·.1))) (e.length:Int) (e1.length:Int) r (dA sn) (n:Int) (aZ es) (aR n (aM es)) (bd (e.dropLast.map (·.2))) (aC (e.map (·.1))) (aQ e) nx (aC N) (bd B))) o
 | [],e1,hE,h0,d,b,X,sn,N,B,hdl,hd,hk,hl,hst=>by
  have e0:e=e1:=by rw [hE,dH]
  subst e0
  have hfr:lg lo e=aQ e:=Wc he
  obtain ⟨h1,h2⟩:=hst
  rw [hfr] at hk h2
  refine ⟨d,b,sn,hdl,hd,hk,fun o hg=>?_⟩
  rwa [<-h1,<-h2,iz,iz] at hg
 |(q,hq)::e2,e1,hE,h0,d,b,X,sn,N,B,hdl,hd,hk,hl,hst=>by
  obtain ⟨d1,b1,sn1,hd1l,hd1,hk1,hcall⟩:=ih d b q hq (lg lo e1) (e2++K) X sn N B hdl hd hk hl (.inr hst)
  have hfr1:lg lo (e1++[(q,hq)])=hq:=FF ..
  have hn1:(fE d1 b1).length=f+1:=by rw [tL,hd1l]
  have hr1:(bH (f+1) hq).length=f+1:=by simp
  obtain ⟨d',b',sn',hdl',hd',hk',hgo⟩:=Nm hf ih (p:=p) (nx:=nx) he hel e2 (e1++[(q,hq)]) (by rw [hE];simp) (by simp) d1 b1 X sn1 (fE d1 b1++N.drop (f+1)) (bH (f+1) hq++B.drop (f+1)) hd1l hd1 (by rw [hfr1];exact hk1) (by simp only [cO,eO,hn1,hr1,hl]) ⟨mR _ _ hn1,by rw [hfr1];exact mR _ _ hr1⟩
  rw [qu _ _ hn1,qu _ _ hr1] at hgo
  refine ⟨d',b',sn',hdl',hd',hk',fun o hg=>?_⟩
  have hg:=hgo o hg
  have hlen:e.length=e1.length+(e2.length+1):=by rw [hE];simp
  have hk0:(e.map (·.1))[e1.length]? = some q:=by rw [hE];simp
  have hp:0 < e1.length:=iM.2 h0
  have w:W .i64 ((e1.length:Int)+1)=((e1.length+1:Nat):Int):=by rw [aU (by omega)];omega
  have hs3:y5 p lo (aQ e) true (f:Int) true (aC (e.map (·.1))) (e.length:Int) (e1.length:Int) r (dA sn) (n:Int) (aZ es) (aR n (aM es)) (bd (e.dropLast.map (·.2))) (aC (e.map (·.1))) (aQ e) nx (aC N) (bd B) =
    some (.head 4 (Ae p lo (aQ e) true (f:Int) true (e1.length:Int) q (lg lo e1) (aQ e) (aC (e.map (·.1))) (e.length:Int) (e1.length:Int) r (dA sn) (n:Int) (aZ es) (aR n (aM es)) (bd (e.dropLast.map (·.2))) (aC (e.map (·.1))) (aQ e) nx (aC N) (bd B))):=by
   unfold y5
   rw [decide_eq_true (by omega),cond_true,aB (by simp),aY,fi hk0,bX]
   rcases eK e1 with h1 | ⟨a,y,h1⟩
   ·exact absurd h1 h0
   ·have h1:e1=a++[y]:=by simpa using h1
    have wl:W .i64 ((e1.length:Int) - 1)=((a.length:Nat):Int):=by rw [h1,aU (by rw [h1] at hlen;simp at hlen |-;omega)];simp
    have hy:(e.dropLast.map (·.2))[a.length]? = some y.2:=by rw [hE,h1];exact aa8 ..
    rw [decide_eq_true (by omega),cond_true,wl,aB (by simp),aY,lk hy,eg]
    have:lg lo e1=y.2:=by rw [h1];exact FF ..
    rw [this]
  have hs4:H3 p lo (aQ e) true (f:Int) true (e1.length:Int) q (lg lo e1) (aQ e) (aC (e.map (·.1))) (e.length:Int) (e1.length:Int) r (dA sn) (n:Int) (aZ es) (aR n (aM es)) (bd (e.dropLast.map (·.2))) (aC (e.map (·.1))) (aQ e) nx (aC N) (bd B) =
    some (.head 5 (Ag p lo (aQ e) true (f:Int) true (e1.length:Int) q (lg lo e1) hq (aC (e.map (·.1))) (e.length:Int) (e1.length:Int) r (dA sn) (n:Int) (aZ es) (aR n (aM es)) (bd (e.dropLast.map (·.2))) (aC (e.map (·.1))) (aQ e) nx (aC N) (bd B))):=by
   unfold H3
   have hsl:(bd (e.dropLast.map (·.2))).length=e.length - 1:=by rw [gh,CL]
   rw [hsl]
   cases e2 with
   | nil =>
    have:aQ e=hq:=by rw [hE,gn _ (by simp)];rfl
    rw [decide_eq_false (by rw [hlen];simp),cond_false,this]
   | cons z e2 =>
    have hy:(e.dropLast.map (·.2))[e1.length]? = some hq:=by rw [hE];exact aa7 ..
    rw [decide_eq_true (by rw [hlen];simp;omega),cond_true,aB (by simp),aY,lk hy,eg]
  refine PM _ _ _ _ _ _ _ _ _ _ _ _ _ _ _ _ _ _ _ _ hs3 (aaW _ _ _ _ _ _ _ _ _ _ _ _ _ _ _ _ _ _ _ _ _ _ _ _ hs4 (aaY _ _ _ _ _ _ _ _ _ _ _ _ _ _ _ _ _ _ _ _ _ _ _ _ ?_ hg))
  unfold PO
  rw [bW BN hcall,cond_true,cond_true,w,cZ (by omega),cond_false]
  rw [beq_self_eq_true,bv,cond_false,cO]
  rfl
theorem X5 {f:Nat} (hf:f<=1100) (ih:uJ n r es f) {p:Int} {e K:Su} {lo:Bs} {nx:Int} (he:e≠[]) (hel:e.length<=1000) (d:List IL) (b:LL) (X sn N:List Int) (B:List Bs) (hdl:d.length=f) (hd:Dn (e++K) d b) (hk:Lk es r d b lo X sn) (hl:B.length=N.length) (hst:N=[]∨St f d b lo N B) :
  ∃d' b' sn',d'.length=f/\Dn K d' b'/\Lk es r d' b' (aQ e) X sn'/\∀o,
   Go qk true 9 (fF 85) (.head 3 (sB p lo (aQ e) true (f:Int) true (aC (e.map (·.1))) (e.length:Int) (e.length:Int) r (dA sn') (n:Int) (aZ es) (aR n (aM es)) (bd (e.dropLast.map (·.2))) (aC (e.map (·.1))) (aQ e) nx (aC (fE d' b'++N.drop (f+1))) (bd (bH (f+1) (aQ e)++B.drop (f+1))))) o ->
   Go qk true 9 (fF 85) (.head 3 (Ad p lo (aQ e) true (aC (e.map (·.1))) (e.length:Int) r (dA sn) (aC N) (bd B) (n:Int) (aZ es) (aR n (aM es)) (bd (e.dropLast.map (·.2))) (aC (e.map (·.1))) (aQ e) nx)) o:=by
 obtain ⟨x,e2,hE⟩:=m5 he
 obtain ⟨q,hq⟩:=x
 rw [hE] at hd
 obtain ⟨d1,b1,sn1,hd1l,hd1,hk1,hcall⟩:=ih d b q hq lo (e2++K) X sn N B hdl hd hk hl hst
 have hn1:(fE d1 b1).length=f+1:=by rw [tL,hd1l]
 have hr1:(bH (f+1) hq).length=f+1:=by simp
 have hfr1:lg lo [(q,hq)]=hq:=rfl
 obtain ⟨d',b',sn',hdl',hd',hk',hgo⟩:=Nm hf ih (p:=p) (lo:=lo) (nx:=nx) he hel e2 [(q,hq)] hE (by simp) d1 b1 X sn1 (fE d1 b1++N.drop (f+1)) (bH (f+1) hq++B.drop (f+1)) hd1l hd1 (by rw [hfr1];exact hk1) (by simp only [cO,eO,hn1,hr1,hl]) ⟨mR _ _ hn1,by rw [hfr1];exact mR _ _ hr1⟩
 rw [qu _ _ hn1,qu _ _ hr1] at hgo
 refine ⟨d',b',sn',hdl',hd',hk',fun o hg=>?_⟩
 have hg:=hgo o hg
 have hlen:e.length=e2.length+1:=by rw [hE];simp
 have hk0:(e.map (·.1))[0]? = some q:=by rw [hE];rfl
 have hs3:H1 p lo (aQ e) true (aC (e.map (·.1))) (e.length:Int) r (dA sn) (aC N) (bd B) (n:Int) (aZ es) (aR n (aM es)) (bd (e.dropLast.map (·.2))) (aC (e.map (·.1))) (aQ e) nx =
   some (.head 4 (DJ p lo (aQ e) true q lo (aQ e) (aC (e.map (·.1))) (e.length:Int) r (dA sn) (aC N) (bd B) (n:Int) (aZ es) (aR n (aM es)) (bd (e.dropLast.map (·.2))) (aC (e.map (·.1))) (aQ e) nx)):=by
  unfold H1
  rw [decide_eq_true (by omega),cond_true,fi hk0,bX]
 have hs4:H2 p lo (aQ e) true q lo (aQ e) (aC (e.map (·.1))) (e.length:Int) r (dA sn) (aC N) (bd B) (n:Int) (aZ es) (aR n (aM es)) (bd (e.dropLast.map (·.2))) (aC (e.map (·.1))) (aQ e) nx =
   some (.head 5 (Af p lo (aQ e) true q lo hq (aC (e.map (·.1))) (e.length:Int) r (dA sn) (aC N) (bd B) (n:Int) (aZ es) (aR n (aM es)) (bd (e.dropLast.map (·.2))) (aC (e.map (·.1))) (aQ e) nx)):=by
  unfold H2
  have hsl:(bd (e.dropLast.map (·.2))).length=e.length - 1:=by rw [gh,CL]
  rw [hsl]
  cases e2 with
  | nil =>
   have:aQ e=hq:=by rw [hE];rfl
   rw [decide_eq_false (by rw [hlen];simp),cond_false,this]
  | cons z e2 =>
   have hy:(e.dropLast.map (·.2))[0]? = some hq:=by rw [hE];rfl
   rw [decide_eq_true (by rw [hlen];simp),cond_true,lk hy,eg]
 refine aaU _ _ _ _ _ _ _ _ _ _ _ _ _ _ _ _ _ hs3 (aaV _ _ _ _ _ _ _ _ _ _ _ _ _ _ _ _ _ _ _ _ hs4 (aaX _ _ _ _ _ _ _ _ _ _ _ _ _ _ _ _ _ _ _ _ ?_ hg))
 unfold PN
 rw [bW BN hcall,cond_true]
 rfl
theorem X6 (hS:cx n es) {f:Nat} (hf:f+1<=1100) (ih:uJ n r es f):uJ n r es (f+1):=by
 intro ups b p h lo s X sn N B hu hd hk hl hst
 obtain ⟨l0,d,rfl⟩:∃l0 d,ups=l0::d:=by
  cases ups with
  | nil=>cases hu
  | cons a d=>exact ⟨a,d,rfl⟩
 have hdl:d.length=f:=by simpa using hu
 obtain ⟨e0,hdk⟩:=ff hd
 obtain ⟨x,l,rfl⟩:∃x l,l0=x::l:=by
  cases l0 with
  | nil=>cases e0
  | cons x l=>exact ⟨x,l,rfl⟩
 obtain ⟨q,e⟩:=x
 rw [bE,di] at e0
 obtain ⟨e1,rfl⟩:=List.cons.inj e0
 obtain ⟨rfl,rfl⟩:=Prod.mk.inj e1
 have hin:=hk.inI _ (cz ..)
 have aV:=hk.okI _ (cz ..)
 have hme:(p,bC e (be l 0))∈es:=hin _ (cz ..)
 have hge:=jJ hS.nd hme
 obtain ⟨⟨hne,hr⟩,hokl⟩:=aV
 have hpr:=hS.rng p (ef.2 ⟨_,hme,rfl⟩)
 have hn:=hS.le
 have hsm:=mO hr
 have hel:e.length<=1000:=by have:=hsm.kids;simpa using this
 have hps:p∉sn:=by
  intro hp
  have:=hk.nd
  rw [bw] at this
  exact (zD.1 this).2.2 p hp p (by simp [fk,bU]) rfl
 have hkk:bf ((p,e)::l)=e++bf l:=by simp [bf]
 rw [hkk] at hdk
 have hst0:N=[]∨St f d b lo N B:=by
  rcases hst with h0 | ⟨h1,h2⟩
  ·exact .inl h0
  ·refine .inr ⟨?_,?_⟩
   ·have:=congrArg (List.take (f+1)) h1
    rw [List.take_take,w7 (by omega),fE,mR _ _ (by rw [tL,hdl])] at this
    exact this
   ·have:=congrArg (List.take (f+1)) h2
    rw [List.take_take,w7 (by omega),List.take_replicate,w7 (by omega)] at this
    exact this
 obtain ⟨d',b',sn',hdl',hd',hk',hgo⟩:=X5 (by omega) ih (p:=p) (nx:=be l 0) hne hel d b (X++bU l) (sn++[p]) N B hdl hdk (XY hk) hl hst0
 have hkl:Dn (bE l) (l::d') b':=Dn.inn _ _ _ hd'
 refine ⟨l::d',b',sn',by simp [hdl'],hkl,X1 hk' hokl (fun x hx=>hin x (iN _ hx)) (fun x hx=>hk.two _ (cz ..) x (iN _ hx)),?_⟩
 have hn1:(fE d' b').length=f+1:=by rw [tL,hdl']
 have hr1:(bH (f+1) (aQ e)).length=f+1:=by simp
 have hlN:(bH (f+1) (aQ e)++B.drop (f+1)).length=(fE d' b'++N.drop (f+1)).length:=by
  simp only [cO,eO,hn1,hr1,hl]
 have hfit:(fE d' b'++N.drop (f+1)).length=f+1∨((fE d' b'++N.drop (f+1))[f+1]? = some (p+1)/\(bH (f+1) (aQ e)++B.drop (f+1))[f+1]? = some lo):=by
  rcases hst with h0 | ⟨h1,h2⟩
  ·exact .inl (by rw [h0,cO,hn1];simp)
  ·refine .inr ⟨?_,?_⟩
   ·rw [df (by omega),hn1,jB,gB,d0]
    have:=congrArg (·[f+1]?) h1
    simp only [ia,if_pos (show f+1 < f+1+1 by omega)] at this
    rw [this,fE,df (by rw [tL];omega),tL,hdl,jB]
    rfl
   ·rw [df (by omega),hr1,jB,gB,d0]
    have:=congrArg (·[f+1]?) h2
    simp only [ia,if_pos (show f+1 < f+1+1 by omega)] at this
    rw [this];simp
 have hft:=Ke (sn:=dA sn') (hi:=aQ e) (nx:=be l 0) (j:=f+1) (by omega) (p:=p) (lo:=lo) ⟨hpr.1,by omega⟩ hlN hfit
 have hN2:im (fE d' b'++N.drop (f+1)) (f+1) (be l 0)=fE (l::d') b'++N.drop (f+1+1):=by
  unfold im
  rw [mR _ _ hn1,sg,oI (by omega),hn1,dp,oH,fE,bw]
  congr 3
  omega
 have hB2:im (bH (f+1) (aQ e)++B.drop (f+1)) (f+1) (aQ e)=bH (f+1+1) (aQ e)++B.drop (f+1+1):=by
  unfold im
  rw [mR _ _ hr1,sg,oI (by omega),hr1,dp,oH,List.replicate_succ' (n:=f+1),bw]
  congr 3
  omega
 rw [hN2,hB2] at hft
 have w:W .i64 ((f:Int)+1)=((f+1:Nat):Int):=by rw [aU (by omega)];omega
 have hs0:t8 p lo (aQ e) r (dA sn) (aC N) (bd B) (n:Int) (aZ es) (aR n (aM es))=some (.head 2 (uW p lo (aQ e) true r (dA (sn++[p])) (aC N) (bd B) (n:Int) (aZ es) (aR n (aM es)) (bd (e.dropLast.map (·.2))) (aC (e.map (·.1))) (aQ e) (be l 0))):=by
  unfold t8
  rw [BO hps,gw,bR tI (yJ hS hge),bz,pB (m:=aG e (be l 0)) hS hge hr,bz,aH (LH (aG e (be l 0)) hsm),eg]
  rw [show (bC e (be l 0)==cF (aG e (be l 0)))=true from beq_self_eq_true _,cond_true,beq_self_eq_true,cond_true,gh]
  cases e with
  | nil=>exact absurd rfl hne
  | cons x e =>
   cases e with
   | nil=>rfl
   | cons y e =>
    have h1:((x::y::e).dropLast.map (·.2))[0]? = some x.2:=rfl
    have hhp:=AP hdk (fun l hl=>gU (hk.okI l (by simp [hl]))) (BX hk.ord)
    have hxne:x.2≠[]:=((fV.1 hhp).1 y (by simp)).1
    have aD:lt lo x.2=true:=(KA hdk (fun l hl=>hk.okI l (by simp [hl])) hk.ab x (by simp)).resolve_left hxne
    rw [cZ (by simp;omega),cond_false,lk h1,eg]
    have h2:Op.bytesLess x.2 lo=false:=ki aD
    have h3:(x.2==lo)=false:=by
     rw [beq_eq_false_iff_ne]
     intro h
     rw [h,gG] at aD
     cases aD
    rw [h2,h3]
    rfl
 have hs3:y5 p lo (aQ e) true (f:Int) true (aC (e.map (·.1))) (e.length:Int) (e.length:Int) r (dA sn') (n:Int) (aZ es) (aR n (aM es)) (bd (e.dropLast.map (·.2))) (aC (e.map (·.1))) (aQ e) (be l 0) (aC (fE d' b'++N.drop (f+1))) (bd (bH (f+1) (aQ e)++B.drop (f+1))) =
   some (.doneM (.tup [.int .i64 ((f+1:Nat):Int),.bool true]) (ln r 12 13 (dA sn') (n:Int) (aZ es) (aR n (aM es))++[O.box 150 (V.agg [V.sl (bd (e.dropLast.map (·.2))),V.sl (aC (e.map (·.1))),V.str (aQ e),V.int .i64 (be l 0)]) false,O.dead,O.dead,O.row 3 (aC (fE (l::d') b'++N.drop (f+1+1))) 0,O.row 9 (bd (bH (f+1+1) (aQ e)++B.drop (f+1+1))) 0])):=by
  unfold y5
  rw [decide_eq_false (by omega),cond_false,cond_true,w,bW NC hft,cond_true]
  by_cases hpr:p=r
  ·rw [hpr,bne_self_eq_false,cond_false]
   have h1:1 < e.length:=(hk.two _ (cz ..) (p,e) (cz ..)).resolve_left (fun h=>h hpr)
   rw [decide_eq_true (by rw [co,dh];omega)]
  ·rw [show (p != r)=true from bne_iff_ne.2 hpr,cond_true]
 have hs2:H0 p lo (aQ e) true r (dA (sn++[p])) (aC N) (bd B) (n:Int) (aZ es) (aR n (aM es)) (bd (e.dropLast.map (·.2))) (aC (e.map (·.1))) (aQ e) (be l 0)=some (.head 3 (Ad p lo (aQ e) true (aC (e.map (·.1))) (e.length:Int) r (dA (sn++[p])) (aC N) (bd B) (n:Int) (aZ es) (aR n (aM es)) (bd (e.dropLast.map (·.2))) (aC (e.map (·.1))) (aQ e) (be l 0))):=by
  unfold H0
  rw [co,dh]
 have hend:=hgo _ (PM _ _ _ _ _ _ _ _ _ _ _ _ _ _ _ _ _ _ _ _ hs3 (.refl _))
 refine Fc _ _ _ _ _ _ _ _ _ _ (o:=.head 0 (uV p lo (aQ e) r (dA sn) (aC N) (bd B) (n:Int) (aZ es) (aR n (aM es)))) ?_ ⟨_,_,HY _ _ _ _ _ _ _ _ _ _ hs0 (aaT _ _ _ _ _ _ _ _ _ _ _ _ _ _ _ hs2 hend),by kernel_rfl⟩
 unfold AW lp
 rw [BM hps]
theorem Nk (hS:cx n es):∀f,f<=1100->uJ n r es f
 | 0,_=>X7 hS
 | f+1,h=>X6 hS h (Nk hS f (by omega))
end
theorem Zl (ups:List IL) (b:LL):aO (cX ups++bj cS b 0)=fk ups b:=by
 have h1:∀u:List IL,aO (cX u)=u.flatMap bU:=by
  intro u
  induction u with
  | nil=>rfl
  | cons l u ih =>
   rw [mt,fT,<-ih]
   show aO (bj bC l 0++cX u)=_
   rw [aO,fK]
   exact congrArg (·++_) (Gh l 0)
 rw [aO,fK]
 exact congr (congrArg _ (h1 ups)) (Gh b 0)
theorem vW {n:Nat} {r:Int} {es:Es} {ups:List IL} {b:LL} (h:WT n r es ups b):(aO es).Perm (fk ups b):=by
 rw [<-Zl]
 exact h.rep.map _
theorem Ol {n:Nat} {r:Int} {es:Es} {ups:List IL} {b:LL} (h:WT n r es ups b):(fk ups b).Nodup:=(vW h).nodup_iff.1 h.shf.nd
theorem OL {r:Int} {l:IL} (h:[(r,([]:Bs))]=bE l):∃e,l=[(r,e)]:=by
 cases l with
 | nil=>cases h
 | cons x t =>
  cases t with
  | nil =>
   obtain ⟨q,e⟩:=x
   obtain ⟨h1,-⟩:=List.cons.inj h
   exact ⟨e,by rw [(Prod.mk.inj h1).1]⟩
  | cons y t=>simp [bE] at h
theorem X0 {n:Nat} {r:Int} {es:Es} {ups:List IL} {b:LL} (h:WF n r es ups b):Lk es r ups b [] [] [] where
 okI:=h.okI
 okF:=h.okF
 inI:=(tc h.toWT).1
 inF:=(tc h.toWT).2
 ord:=h.ord
 ab:=RL b
 ne:=fun x hx=>by
  by_cases hu:ups=[]
  ·right
   have hd:=h.dn
   rw [hu] at hd
   have e:=ji hd
   have:(x.1,x.2.2)∈bZ b:=ef.2 ⟨x,hx,rfl⟩
   rw [<-e] at this
   exact (Prod.mk.inj (eV.1 this)).1
  ·exact .inl (h.ne hu x hx)
 two:=fun l hl x hx=>by
  cases ups with
  | nil=>cases hl
  | cons l0 d =>
   obtain ⟨e0,hd⟩:=ff h.dn
   obtain ⟨e,rfl⟩:=OL e0
   rcases bO.1 hl with rfl | hl
   ·right
    obtain rfl:=eV.1 hx
    exact h.rt [(r,e)] (by simp) _ (eV.2 rfl)
   ·left
    intro hxr
    have:=Ol h.toWT
    rw [fk,fT,bw,show bU [(r,e)]=[r] from rfl,Jh] at this
    refine (uG.1 this).1 (kH _ (ib.2 ⟨l,hl,?_⟩))
    rw [<-hxr]
    exact ef.2 ⟨x,hx,rfl⟩
 nd:=by simpa using Ol h.toWT
theorem qt:∀{d:List IL} {s:Su} {b:LL},Dn s d b->(∀l∈d,cI okI l 0)->s≠[]->b≠[]
 | [],s,b,h,_,hs=>by
  rintro rfl
  exact hs (ji h)
 | l::d,s,b,h,hI,hs=>by
  obtain ⟨e,hk⟩:=ff h
  have hl:l≠[]:=by rintro rfl;exact hs e
  exact qt hk (fun x hx=>hI x (by simp [hx])) (yk hl (gU (hI _ (cz ..))))
theorem NP:∀{d:List IL} {b:LL},Dn [] d b->fE d b=bH (d.length+1) 0
 | [],b,h=>by
  have e:=ji h
  have:b=[]:=by
   cases b with
   | nil=>rfl
   | cons x b=>cases e
  rw [this];rfl
 | l::d,b,h=>by
  obtain ⟨e,hk⟩:=ff h
  have:l=[]:=by
   cases l with
   | nil=>rfl
   | cons x l=>cases e
  subst this
  rw [fE,NP hk,List.replicate_succ' (n:=(([]:IL)::d).length)]
  rfl
theorem Kd {n:Nat} {r:Int} {es:Es} {L:Nat} (hL:L<=5000):∀(k i:Nat),i+k=L ->
  Go qk true 5 (fF 40) (.head 0 (sA true (L:Int) (i:Int) r (n:Int) (aZ es) (aR n (aM es)) (aC (bH L 0)))) (.doneM (.int .i64 0) (tM r n es++[O.row 3 (aC (bH L 0)) 0]))
 | 0,i,h=>by
  refine HN _ _ _ _ _ _ _ _ ?_ (.refl _)
  unfold Cy
  rw [decide_eq_false (by omega),cond_false,bv,cond_false]
 | k+1,i,h=>by
  have hg:(bH L (0:Int))[0+i]? = some 0:=by rw [ew,List.getElem?_replicate,if_pos (by omega)]
  have w:W .i64 ((i:Int)+1)=((i+1:Nat):Int):=by rw [aU (by omega)];omega
  refine HN _ _ _ _ _ _ _ _ ?_ (Kd hL k (i+1) (by omega))
  unfold Cy
  rw [decide_eq_true (by omega),cond_true,aB (by simp),aY,aB (decide_eq_true (by rw [co,wY];omega)),fi hg,bX,cond_true,w]
  rfl
theorem sK {n:Nat} {r:Int} {es:Es} {ups:List IL} {b:LL} (h:WF n r es ups b):bT aA aF 40 [.ptr 0 0 0] (tM r n es)=some (js (tM r n es) 0):=by
 have hl:ups.length<=1100:=by have:=ot h.toWT;omega
 obtain ⟨d',b',sn',h1,h2,h3,h4⟩:=Nk (r:=r) h.shf ups.length hl ups b r [] [] [] [] [] [] [] rfl h.dn (X0 h) rfl (.inl rfl)
 rw [NP h2,h1,List.drop_nil,List.drop_nil,dH,dH] at h4
 refine La _ _ _ _ (o:=.head 0 (sA true ((ups.length+1:Nat):Int) ((0:Nat):Int) r (n:Int) (aZ es) (aR n (aM es)) (aC (bH (ups.length+1) 0)))) ?_ ⟨_,_,Kd (by omega) (ups.length+1) 0 (by omega),by kernel_rfl⟩
 unfold EZ
 have h5:bT aA xE 85 [.ptr 0 0 0,.ptr 1 0 0,.int .i64 r,.str [],.str []] (lm r [] [] [] (n:Int) (aZ es) (aR n (aM es)))=_:=h4
 rw [bW BN h5]
 simp only [co,wY]
 rfl
theorem Ky {n:Nat} {r:Int} {es:Es} (hS:cx n es):∀(d:List IL) (b:LL) (p:Int) (h:Bs) (s:Su) (acc:Nat),Dn ((p,h)::s) d b->(∀l∈d,cI okI l 0)->cI okF b 0->(∀l∈d,lw bC es l)->lw cS es b->acc+d.length<=5000 ->
  Go qk true 5 (fF 43) (.head 0 (z7 (acc:Int) p r (n:Int) (aZ es) (aR n (aM es)))) (.doneM (.int .i64 ((acc+d.length:Nat):Int)) (tM r n es))
 | [],b,p,h,s,acc,hd,_,hF,_,hE,_=>by
  have e:=ji hd
  obtain ⟨x,b',rfl⟩:∃x b',b=x::b':=by
   cases b with
   | nil=>cases e
   | cons x b'=>exact ⟨x,b',rfl⟩
  obtain ⟨q,prs,h'⟩:=x
  rw [bZ,di] at e
  obtain ⟨e1,rfl⟩:=List.cons.inj e
  obtain ⟨rfl,rfl⟩:=Prod.mk.inj e1
  have hge:=jJ hS.nd (hE (p,cS (prs,h) (be b' 0)) (cz ..))
  have hr:cJ ⟨prs,h,be b' 0⟩=true:=hF.1
  refine PF _ _ _ _ _ _ ?_ (.refl _)
  unfold HQ
  rw [rp (l:=⟨prs,h,be b' 0⟩) hS hge hr,bz]
  rfl
 | l0::d,b,p,h,s,acc,hd,hI,hF,hEI,hE,hl=>by
  obtain ⟨e0,hdk⟩:=ff hd
  obtain ⟨x,l,rfl⟩:∃x l,l0=x::l:=by
   cases l0 with
   | nil=>cases e0
   | cons x l=>exact ⟨x,l,rfl⟩
  obtain ⟨q,e⟩:=x
  rw [bE,di] at e0
  obtain ⟨e1,rfl⟩:=List.cons.inj e0
  obtain ⟨rfl,rfl⟩:=Prod.mk.inj e1
  obtain ⟨⟨hne,hr⟩,_⟩:=hI _ (cz ..)
  have hge:=jJ hS.nd (hEI _ (cz ..) (p,bC e (be l 0)) (cz ..))
  obtain ⟨y,e',rfl⟩:=m5 hne
  obtain ⟨q1,h1⟩:=y
  have hk:bf ((p,(q1,h1)::e')::l)=(q1,h1)::(e'++bf l):=by simp [bf]
  rw [hk] at hdk
  simp only [cG] at hl
  have w:W .i64 ((acc:Int)+1)=((acc+1:Nat):Int):=by rw [aU (by omega)];omega
  have ih:=Ky (r:=r) hS d b q1 h1 _ (acc+1) hdk (fun x hx=>hI x (by simp [hx])) hF (fun x hx=>hEI x (by simp [hx])) hE (by omega)
  rw [show acc+(((p,(q1,h1)::e')::l)::d).length=acc+1+d.length by simp;omega]
  refine PF _ _ _ _ _ _ ?_ ih
  unfold HQ
  have hg:(aG ((q1,h1)::e') (be l 0)).kids[0]? = some q1:=rfl
  rw [pB (m:=aG ((q1,h1)::e') (be l 0)) hS hge hr,bz]
  show aS (aC (aG ((q1,h1)::e') (be l 0)).kids) 0 _=_
  rw [fi hg,bX,w]
theorem vj {n:Nat} {r:Int} {es:Es} {ups:List IL} {b:LL} (h:WT n r es ups b):bT aA aF 43 [.ptr 0 0 0] (tM r n es)=some (kj (tM r n es) (ups.length:Int)):=by
 have hl:=ot h
 have:=Ky (r:=r) h.shf ups b r [] [] 0 h.dn h.okI h.okF (tc h).1 (tc h).2 (by omega)
 rw [ew] at this
 exact UX _ _ _ _ rfl ⟨_,_,this,by kernel_rfl⟩
theorem Ka:∀(l:List (List Int)) (ls:List (List Int)) (i acc:Nat),ls.drop i=l->acc+(l.flatten).length<=5000->i<=ls.length->ls.length<=5000->∀o,
  Go qk true 0 (fF 86) (.head 0 (uX (ls.map fun l=>V.sl (aC l)) ((acc+l.flatten.length:Nat):Int) (ls.map fun l=>V.sl (aC l)) (ls.length:Int) (ls.length:Int))) o ->
  Go qk true 0 (fF 86) (.head 0 (uX (ls.map fun l=>V.sl (aC l)) (acc:Int) (ls.map fun l=>V.sl (aC l)) (ls.length:Int) (i:Int))) o
 | [],ls,i,acc,hd,_,hi,_,o,hg=>by
  have:=drop_nil hd
  obtain rfl:i=ls.length:=by omega
  simpa using hg
 | x::l,ls,i,acc,hd,hl,hi,hll,o,hg=>by
  obtain ⟨h1,h2,h3⟩:=er hd
  rw [I8,cO] at hl hg
  have w:W .i64 ((i:Int)+1)=((i+1:Nat):Int):=by rw [aU (by omega)];omega
  have w2:W .i64 ((acc:Int)+((aC x).length:Int))=((acc+x.length:Nat):Int):=by rw [co,aU (by omega)];omega
  have hi1:(ls.map fun l=>V.sl (aC l))[i]? = some (V.sl (aC x)):=by rw [dQ,h1];rfl
  refine PP _ _ _ _ _ ?_ (Ka l ls (i+1) (acc+x.length) h2 (by omega) (by omega) hll o (by rw [iA];exact hg))
  unfold CE
  rw [decide_eq_true (by omega),cond_true,aB (by simp),aY,cQ hi1,ll,w2,decide_eq_false (by omega),cond_false,w]
theorem Kb:∀(l:List (List Int)) (ls:List (List Int)) (i:Nat) (acc:List Int),ls.drop i=l->acc.length+(l.flatten).length<=5000->i<=ls.length->ls.length<=5000 ->
  Go qk true 0 (fF 86) (.head 1 (xv (ls.map fun l=>V.sl (aC l)) (ls.length:Int) (i:Int) (aC acc))) (.doneM (.tail 1 0) [O.row 3 [] 0,O.row 3 (aC (acc++l.flatten)) 0])
 | [],ls,i,acc,hd,_,hi,_=>by
  have:=drop_nil hd
  refine PQ _ _ _ _ ?_ (.refl _)
  unfold H5
  rw [decide_eq_false (by omega),cond_false,List.flatten_nil,dH]
 | x::l,ls,i,acc,hd,hl,hi,hll=>by
  obtain ⟨h1,h2,h3⟩:=er hd
  rw [I8,cO] at hl
  have w:W .i64 ((i:Int)+1)=((i+1:Nat):Int):=by rw [aU (by omega)];omega
  have hi1:(ls.map fun l=>V.sl (aC l))[i]? = some (V.sl (aC x)):=by rw [dQ,h1];rfl
  rw [I8,<-bw]
  refine PQ _ _ _ _ ?_ (Kb l ls (i+1) (acc++x) h2 (by rw [cO];omega) (by omega) hll)
  unfold H5
  rw [decide_eq_true (by omega),cond_true,aB (by simp),aY,cQ hi1,ll,aB (pN _),aB (decide_eq_true (by rw [co,co];omega)),w,yh]
theorem S3 (ls:List (List Int)) (h0:ls≠[]) (hT:0 < ls.flatten.length) (hl:ls.flatten.length<=5000) (hll:ls.length<=5000):bT aA ⟨true,false,false,[]⟩ 86 [.sl (ls.map fun l=>V.sl (aC l))] []=some (tJ (aC ls.flatten)):=by
 obtain ⟨x,l,rfl⟩:=m5 h0
 have hi1:((x::l).map fun l=>V.sl (aC l))[0]? = some (V.sl (aC x)):=rfl
 have w0:W .i64 ((((x::l).flatten.length:Nat):Int) - 0)=(((x::l).flatten.length:Nat):Int):=by rw [aU (by omega)];omega
 have hfl:(x::l).flatten=x++l.flatten:=rfl
 have h2:=Kb l (x::l) 1 x rfl (by rw [hfl,cO] at hl;omega) (by simp) hll
 rw [<-hfl] at h2
 have hs1:H4 (0 - 0) ((x::l).map fun l=>V.sl (aC l)) (((x::l).length:Nat):Int) (aC (bH (x::l).flatten.length 0))=some (.head 1 (xv ((x::l).map fun l=>V.sl (aC l)) (((x::l).length:Nat):Int) ((1:Nat):Int) (aC x))):=by
  unfold H4
  rw [decide_eq_true (by simp),cond_true,cQ hi1,ll,aB (pN _),aB (decide_eq_true (by omega)),aB (decide_eq_true (by rw [co];rw [hfl,cO] at hl;omega))]
  rfl
 have hs0:CE ((x::l).map fun l=>V.sl (aC l)) ((0+(x::l).flatten.length:Nat):Int) ((x::l).map fun l=>V.sl (aC l)) (((x::l).length:Nat):Int) (((x::l).length:Nat):Int)=some (.head 1 (DK (0 - 0) ((x::l).map fun l=>V.sl (aC l)) (((x::l).length:Nat):Int) (aC (bH (x::l).flatten.length 0)))):=by
  unfold CE
  have hr:bH (x::l).flatten.length (V.int .i64 0)=aC (bH (x::l).flatten.length 0):=by unfold aC;rw [Jd]
  rw [ew,decide_eq_false (by omega),cond_false,decide_eq_false (by omega),cond_false,w0,decide_eq_true (by omega),cond_true,aB rfl,aY,aB (decide_eq_true (by omega)),hr,aB (pN _),dh]
 have h1:=Ka (x::l) (x::l) 0 0 rfl (by omega) (by omega) hll _ (PP _ _ _ _ _ hs0 (aaZ _ _ _ _ hs1 h2))
 refine Vr _ (o:=.head 0 (uX ((x::l).map fun l=>V.sl (aC l)) ((0:Nat):Int) ((x::l).map fun l=>V.sl (aC l)) (((x::l).length:Nat):Int) ((0:Nat):Int))) ?_ ⟨_,_,h1,by kernel_rfl⟩
 unfold Lq
 rw [dh]
 rfl
theorem abO (l:List Int):(srt l).Perm l:=List.mergeSort_perm _ _
theorem abN (l:List Int):(srt l).Pairwise (·<=·):=by
 have:=List.pairwise_mergeSort (le:=fun x y:Int=>decide (x<=y)) (fun a b c h1 h2=>by simp at h1 h2 |-;omega) (fun a b=>by simp;omega) l
 exact this.imp fun h=>by simpa using h
theorem acf {n:Nat} {r:Int} {es:Es} {ups:List IL} {b:LL} (h:WT n r es ups b):srt (fk ups b)=fo n (aM es):=by
 have h1:(fo n (aM es)).Pairwise (· < ·):=by
  unfold fo
  rw [Je]
  exact (List.Pairwise.filter _ List.pairwise_lt_range).imp fun h=>by omega
 have hp:(fk ups b).Perm (fo n (aM es)):=by
  refine (vW h).symm.trans ((Rq h.shf.nd (h1.imp fun h=>by omega)).2 fun p=>?_)
  unfold fo
  rw [ef]
  constructor
  ·intro hp
   have hr:=h.shf.rng p hp
   exact ⟨p.toNat,m9.2 ⟨by simp;omega,decide_eq_true (by rwa [I4 hr.1])⟩,I4 hr.1⟩
  ·rintro ⟨k,hk,rfl⟩
   exact of_decide_eq_true (m9.1 hk).2
 exact List.Perm.eq_of_pairwise (le:=(·<=·)) (fun a b _ _ h1 h2=>by omega) (abN _) (h1.imp fun h=>by omega) ((abO _).trans hp)
theorem tQ {n:Nat} {r:Int} {es:Es} {ups:List IL} {b:LL} (h:WT n r es ups b):bT aA aF 42 [.ptr 0 0 0] (tM r n es)=some (jN (tM r n es) (aC (fo n (aM es)))):=by
 have hul:=ot h
 have hlv:lY ups b=(ups.map bU++[bU b]).map fun l=>V.sl (aC l):=by simp [lY]
 have hfl:(ups.map bU++[bU b]).flatten=fk ups b:=by simp [fk,List.flatMap]
 have hlen:=(vW h).length_eq
 have hle:=qO h.shf
 have hn:=h.shf.le
 have hes:(aO es).length=es.length:=by simp [aO]
 have hpos:0 < (fk ups b).length:=by
  have:b≠[]:=by
   intro hb
   have:=qt h.dn h.okI (by simp)
   exact this hb
  rw [fk,cO,bU,dh]
  have:=iM.2 this
  omega
 have hc:=S3 (ups.map bU++[bU b]) (by simp) (by rw [hfl];exact hpos) (by rw [hfl];omega) (by simp;omega)
 rw [<-hlv,hfl] at hc
 refine UV _ _ _ _ (o:=.doneM (.tail 6 0) (tM r n es++[O.row 3 [] 0,O.row 3 (aC (fo n (aM es))) 0])) ?_ (.done (by kernel_rfl))
 unfold Lb
 have hi:qH (aC (fk ups b))=some (fk ups b):=MJ _
 rw [bR NE (Nb h),bz,bW YD hc,aB (decide_eq_true (by rw [co];omega)),hi,gw,acf h]
 rfl
theorem Qu {n:Nat} {es:Es} (h:cx n es):bT aA aF 50 [.ptr 0 0 0] (sM n es)=some (pk (sM n es) (aC (fo n (aM es)))):=by
 refine U5 _ _ _ (o:=.doneM (.sl (aC (fo n (aM es)))) (sM n es++[O.row 3 [] 0])) ?_ (.done (by kernel_rfl))
 unfold Lh
 rw [bR NF (Qx n h.le (aM es)),bz]
theorem Be {n:Nat} {r:Int} {es:Es} {ups:List IL} {b:LL} (h:WT n r es ups b) (k:Bs):∃v e,bT aA aF 39 [.ptr 0 0 0,.str k] (tM r n es)=some (iI (tM r n es) (v,e)) /\
  ((e=0/\bq k=true/\(k,v)∈aK b)∨(v=[]/\((e=1/\bq k=false)∨(e=7/\bq k=true/\∀x∈aK b,x.1≠k)))):=by
 cases hk:bq k with
 | false =>
  refine ⟨[],1,K9 _ _ _ _ _ (o:=.doneM (.tup [.str [],.int .i64 1]) (tM r n es)) ?_ (.done (by kernel_rfl)),.inr ⟨rfl,.inl ⟨rfl,rfl⟩⟩⟩
  unfold EY
  rw [aH (iX k),bS,hk,gi,cond_true]
 | true =>
  obtain ⟨p,h',ws,pre,prs,post,q1,q2,q3,q4,q5,q6⟩:=IK h hk
  have hul:=ot h
  have hF:=h.okF
  have hO:=h.ord
  rw [q2] at hF hO
  have hr:cJ ⟨prs,h',be post 0⟩=true:=BU hF
  obtain ⟨c1,c2⟩:=IJ hO hF q3 q4
  have hris:=jI h.ord h.okF
  have hfl:aK b=aK pre++(prs++aK post):=by rw [q2,lR,iv]
  have hr2:ij prs:=by
   rw [hfl] at hris
   exact (dZ.1 (dZ.1 hris).2.1).1
  have hg:=Mg ⟨prs,h',be post 0⟩ hr k
  have go:∀v e,bo aA 76 [eL ⟨prs,h',be post 0⟩,.str k]=some (.tup [.str v,.int .i64 e])->bT aA aF 39 [.ptr 0 0 0,.str k] (tM r n es)=some (iI (tM r n es) (v,e)):=by
   intro v e hp
   refine K9 _ _ _ _ _ (o:=.doneM (.tup [.str v,.int .i64 e]) (tM r n es++[O.row 41 [] 0,O.box 120 (eL ⟨prs,h',be post 0⟩) false])) ?_ (.done (by kernel_rfl))
   unfold EY
   rw [aH (iX k),bS,hk,bv,cond_false,bR qY (rN h.shf q6 (by omega)),bz]
   show (aE aA _ [eL ⟨prs,h',be post 0⟩,_] _)=_
   rw [aH hp,lL]
  cases hh:b9 (aW prs) k with
  | true =>
   rw [show b9 (aW (⟨prs,h',be post 0⟩:Lf).prs) k=true from hh,if_pos rfl] at hg
   refine ⟨_,_,go _ _ hg,.inl ⟨rfl,rfl,?_⟩⟩
   obtain ⟨h2,h3⟩:=sH hh
   have h2':bN (aW prs) k < prs.length:=by simpa [aW] using h2
   have hm:prs[bN (aW prs) k]∈prs:=wX h2'
   have e1:xY prs k=prs[bN (aW prs) k].2:=by unfold xY;rw [bG h2'];rfl
   have e2:prs[bN (aW prs) k].1=k:=by simpa [aW] using h3
   have e3:(k,xY prs k)=prs[bN (aW prs) k]:=by rw [e1];exact Prod.ext e2.symm rfl
   rw [hfl]
   refine m8 _ (kH _ ?_)
   rw [show ((⟨prs,h',be post 0⟩:Lf).prs)=prs from rfl,e3]
   exact hm
  | false =>
   rw [show b9 (aW (⟨prs,h',be post 0⟩:Lf).prs) k=false from hh,if_neg (by simp)] at hg
   refine ⟨_,_,go _ _ hg,.inr ⟨rfl,.inr ⟨rfl,rfl,?_⟩⟩⟩
   intro x hx hxk
   rw [hfl] at hx
   rcases br.1 hx with hx | hx
   ·have:=c1 x hx;rw [hxk,gG] at this;cases this
   ·rcases br.1 hx with hx | hx
    ·rw [oZ hr2] at hh
     have:=mY.1 hh x hx
     exact this (by simp [hxk])
    ·have:=c2 x hx;rw [hxk,gG] at this;cases this
abbrev dk:=Int × Bs × Bs × Int
def dG (o:dk):V:=.agg [.int .i64 o.1,.str o.2.1,.str o.2.2.1,.int .i64 o.2.2.2]
def dy (l:List dk):List V:=l.map dG
theorem iJ (l:List dk):(dy l).length=l.length:=by simp [dy]
theorem D7 (n:Nat):(if 16 < (n:Int) then (16:Int) else (n:Int))=((min 16 n:Nat):Int):=by split<;>omega
theorem SI (n:Nat):(if 20 < (n:Int) then (20:Int) else (n:Int))=((min 20 n:Nat):Int):=by split<;>omega
theorem SJ (n:Nat):(if 40 < (n:Int) then (40:Int) else (n:Int))=((min 40 n:Nat):Int):=by split<;>omega
theorem uv {α:Type} (l:List α) (c:Nat):l.take (min c l.length)=l.take c:=by
 rcases Nat.le_total c l.length with h | h
 ·rw [w7 h]
 ·rw [Nat.min_eq_right h,jZ,kJ h]
def AJ (o:dk):dk:=(o.1,o.2.1.take 20,o.2.2.1.take 40,o.2.2.2)
def gE (N:Nat) (l:List dk):List dk:=(l.take N).map AJ
theorem N4 (l:List dk):((dy l).all fun x=>x.cells.all V.flat1)=true:=by simp [dy,dG,V.cells,V.flat1]
theorem Kp (N:Nat) (hN:N<=1000) (S:List dk) (hS:S.length<=maxLen):∀(d i:Nat),i+d=min N S.length ->
  Go qk false 0 (fF 14) (.head 0 (zY (dy S) (N:Int) (i:Int) (dy (gE i S)))) (.done (.fr 38 (dy (gE N S))))
 | 0,i,hi=>by
  have e:gE i S=gE N S:=by
   unfold gE
   have:i=min N S.length:=by omega
   rw [this,uv]
  refine Pk _ _ _ _ ?_ (.refl _)
  unfold Hz
  rw [iJ,e]
  by_cases h:i < S.length
  ·rw [decide_eq_true (by omega),cond_true,decide_eq_false (by omega),cond_false,aB (N4 _)]
  ·rw [decide_eq_false (by omega),cond_false,aB (N4 _)]
 | d+1,i,hi=>by
  have aD:i < S.length:=by omega
  have h1:(dy S)[i]? = some (dG S[i]):=by simp [dy,bG aD]
  have w:W .i64 ((i:Int)+1)=((i+1:Nat):Int):=by rw [aU (by omega)];omega
  have e:gE (i+1) S=gE i S++[AJ S[i]]:=by
   unfold gE
   rw [zF,bG aD,fK]
   rfl
  have hl:(dy (gE i S)).length<=1000:=by rw [iJ];simp [gE];omega
  have:=Kp N hN S hS d (i+1) (by omega)
  rw [e] at this
  refine Pk _ _ _ _ ?_ this
  unfold Hz
  rw [iJ,decide_eq_true (by omega),cond_true,decide_eq_true (by omega),cond_true,aB (by simp),aY,cQ h1,dG,ir,SI,SJ,aB (by simp),aY,aB (decide_eq_true (by omega)),aB (by simp),aY,aB (decide_eq_true (by omega)),uv,uv,
   aB (decide_eq_true (by simp only [cG,dR];omega)),w]
  simp [dy,dG,AJ]
theorem Kn (N:Nat) (hN:N<=1000) (S:List dk) (hS:S.length<=maxLen):bo aA 14 [.sl (dy S),.int .i64 (N:Int)]=some (.fr 38 (dy (gE N S))):=Uc _ _ rfl (Kp N hN S hS (min N S.length) 0 (by omega))
theorem Oc (l:List Pr) (hl:l.length<=1000000):∀(q:List Pr) (i:Nat),l.drop i=q->i<=l.length ->
  Go qk false 0 (fF 23) (.head 0 (z6 (aN l) (aN l) (i:Int))) (.done (.bool true))
 | [],i,hd,hi=>by
  have h1:=drop_nil hd
  refine Pz _ _ _ ?_ (.refl _)
  unfold HK
  rw [cL,decide_eq_false (by omega),cond_false]
 | x::q,i,hd,hi=>by
  obtain ⟨h1,h2,h3⟩:=er hd
  have w:W .i64 ((i:Int)+1)=((i+1:Nat):Int):=by rw [aU (by omega)];omega
  refine Pz _ _ _ ?_ (Oc l hl q (i+1) h2 (by omega))
  unfold HK
  rw [cL,decide_eq_true (by omega),cond_true,aB (by simp),aY,eA h1,eo,aB (by simp),eA h1,eo,w]
  simp
theorem yA (l:List Pr) (hl:l.length<=1000000):bo aA 23 [.sl (aN l),.sl (aN l)]=some (.bool true):=by
 refine UM _ _ ?_ (Oc l hl l 0 rfl (by omega))
 unfold K6
 rw [de rfl,cond_false]
 rfl
def iu:Es:=[(0,[76,0,0,0,0])]
theorem zj {n:Nat} (h:WT n 0 iu [] [(0,[],[])]):WF n 0 iu [] [(0,[],[])]:=⟨h,fun q=>absurd rfl q,fun l hl=>by cases hl⟩
theorem zm {n:Nat} (h1:1<=n) (hn:n<=1024):WT n 0 iu [] [(0,[],[])]:=by
 refine ⟨⟨hn,by simp [iu,aO],fun p hp=>by simp [iu,aO] at hp;omega⟩,?_,.leaf [(0,[],[])],by simp,⟨by unfold okF;decide,trivial⟩,by simp [jC]⟩
 have:cX []++bj cS [(0,([],[]))] 0=iu:=by decide +kernel
 rw [this]
abbrev nM (n:Nat):List O:=[O.box 140 (V.agg [V.ptr 1 0 0,V.mp 2]) false,O.box 192 (V.agg [V.tail 3 0,V.int .i64 (n:Int)]) false,O.map [],O.row 5 (bH ((n+7) / 8) (V.int .u8 0)) 0]
theorem Sg (n:Nat):aR n (aM [])=bH ((n+7) / 8) (V.int .u8 0):=by
 unfold aR
 rw [List.eq_replicate_iff]
 refine ⟨by simp,fun x hx=>?_⟩
 obtain ⟨j,_,rfl⟩:=ef.1 hx
 rfl
theorem aca {n:Nat} (h1:1<=n) (hn:n<=1024):bT aA aF 131 [.ptr 0 0 0,.int .i64 0] [O.box 192 (V.agg [V.tail 1 0,V.int .i64 (n:Int)]) false,O.row 5 (aR n (aM [])) 0]=some (pi ((0:Nat),0,n,aR n (eY (aM []) 0 true))):=by
 obtain ⟨r1,r2⟩:=He n hn
 have hk:(dI n).find? (fun k=>!aM [] k)=some 0:=by
  obtain ⟨m,rfl⟩:∃m,n=m+1:=⟨n - 1,by omega⟩
  rw [List.range_succ_eq_map]
  rfl
 refine T8 _ _ _ ?_ ⟨_,_,IG n hn (aM []) 0 (dI n) (fun k hk=>by simpa using hk) hk,by kernel_rfl⟩
 unfold KU
 rw [decide_eq_true (show (0:Int) ≥ 0 by omega),cond_true,decide_eq_true (show (0:Int) < (n:Int) by omega),bv,cond_false,r1,gw,r2]
 rfl
theorem zg {n:Nat} (h1:1<=n) (hn:n<=1024):bT aA aF 84 [.ptr 0 0 0] (nM n)=some (jO (0,0,n,aZ [(0,[])],aR n (aM [(0,[])]))):=by
 have ht:aM [(0,[])]=eY (aM []) 0 true:=by
  funext j
  unfold eY aM aO
  by_cases e:j=0
  ·subst e;rfl
  ·rw [if_neg e,decide_eq_false,decide_eq_false]
   ·simp
   ·simp;omega
 rw [ht]
 refine Vq _ _ _ (o:=.doneM (.tup [.int .i64 0,.int .i64 0]) (sm n (aZ [(0,[])]) (aR n (eY (aM []) 0 true)))) ?_ (.done (by kernel_rfl))
 unfold Lp
 have:=aca h1 hn
 rw [Sg] at this
 rw [bW NB this,cN rfl,cond_true]
 rfl
theorem zk {n:Nat} (h1:1<=n) (hn:n<=1024):bT aA aF 78 [.ptr 0 0 0,.int .i64 0,.ifc 120 (.agg [.sl [],.str [],.int .i64 0])] (tm 0 n (aZ [(0,[])]) (aR n (aM [(0,[])])))=some (ej (0,n,aZ iu,aR n (aM iu))):=by
 have hS:cx n [(0,[])]:=⟨hn,by simp [aO],fun p hp=>by simp [aO] at hp;omega⟩
 have:=pP (r:=0) hS (p:=0) (b:=[]) (l:=tl) rfl (by decide)
 have e:bp [(0,[])] 0 (bI tl)=iu:=by decide +kernel
 rw [e] at this
 exact this
end Go.Proofs.YtlphgcjepphhcaaGreat
