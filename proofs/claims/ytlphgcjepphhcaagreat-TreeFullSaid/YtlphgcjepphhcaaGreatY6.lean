/-
  Texts that the last one stands on.
-/
import Derived.Test.YtlphgcjepphhcaaGreatY5
open List renaming cons_append->dv,length_nil->fR,length_cons->cL,append_assoc->bu,length_append->c8,length_take->gq,length_drop->gg,take_append_of_le_length->vW,take_of_length_le->kE,take_length->lC,pairwise_cons->gt,mem_cons->bP,mem_map->dP,getElem?_eq_getElem->bC,getElem?_eq_none->vS,replicate->bE,length_replicate->vV,take_zero->tP,nil_append->dU,drop_eq_nil_of_le->pq,append_nil->dA,take_append_drop->ig,getElem?_eq_some_iff->bj,mem_append->bp,mem_of_mem_take->mE,mem_of_mem_drop->kD,drop_drop->nW,mem_of_getElem?->cG,length->nY,drop_zero->pu,take_succ_cons->vX,all_eq_true->di,getElem?_append_left->db,getElem?_append_right->cY,drop_eq_getElem_cons->rl,nodup_cons->tN,map_cons->dj,mem_cons_self->cB,perm_middle->n4,map_append->gJ,nodup_append->yq,nodup_nil->BK,length_map->dO,range->dl,perm_ext_iff_of_nodup->OO,mem_filter->mD,mem_range->yp,filter_eq_self->Hc,length_range->yn,getLastD_eq_getLast?->BJ,dropLast_append_of_ne_nil->Hb,eq_nil_or_concat->d9,drop_append->rk,reverse_cons->mF,pairwise_map->Hj,mem_flatMap->gK,pairwise_append->dJ,exists_cons_of_ne_nil->mB,flatMap_cons->iD,append_eq_nil_iff->po,length_pos_iff->js,mem_append_left->jS,mem_append_right->mC,getLast?_eq_some_getLast->OM,getElem?_map->dB,getElem_mem->vU,length_reverse->yo,map_eq_nil_iff->Hg,perm_append_comm->BM,dropLast_concat->tJ,dropLast_cons_of_ne_nil->mA,mem_cons_of_mem->jT,mem_singleton->eZ,concat_eq_append->gH,getElem?_of_mem->vT,getElem?_take->gI,getElem?_drop->gf,pairwise_iff_getElem->BL,eq_nil_of_length_eq_zero->pw,reverse_reverse->BN,filter_append->nX,any_eq_false->tI,drop_eq_nil_iff->BI,set_append_right->BO,singleton_append->Hl,flatten_cons->Hd,map_replicate->Hh,take_add_one->Hm
open Nat renaming add_zero->dK,lt_or_ge->jV,le_refl->bG,zero_le->iE,zero_add->dZ,add_assoc->gT,add_comm->py,eq_zero_or_pos->yv,sub_self->iX,le_trans->lD,min_eq_left->vZ
open Bool renaming not_true->bR,and_eq_true->bv,false_or->iU,not_eq_true'->iC,or_eq_true->mTz,true_and->dI,not_false->jq
open Option renaming bind_some->aJ,getD_some->tV
namespace Go.Proofs.YtlphgcjepphhcaaGreat
open Go Go.Lite
set_option linter.unusedSimpArgs false
set_option linter.unusedVariables false
set_option maxRecDepth 10000
theorem ya (A t B:Bs) (h:t.length<=255):f9 (A++(cx t++B)) ((A.length:Nat):Int)=(t,((A.length+1+t.length:Nat):Int),0):=by
 unfold f9
 rw [if_pos (by simp;omega),bl,List.drop_left]
 have hc:(UInt8.ofNat t.length).toNat=t.length:=by simp;omega
 simp only [cx,dv]
 rw [if_neg (by rw [hc];simp),hc]
 simp
abbrev Mp (ps:List Pr) (high:Bs) (next:Int) (at_:Nat):V:=.tup [.agg [.sl (bq ps),.str high,.int .i64 next],.int .i64 (at_:Int),.bool true]
theorem Mq (s:Bs) (hs:cT s) (n:Nat) (hn:n<=1000) (high:Bs) (next:Int):∀(r dn:List Pr) (A:Bs),s=A++f0 r->n=dn.length+r.length->(∀x∈r,x.1.length<=255/\x.2.length<=255) ->
  Go qk false 0 (fF 175) (.head 1 (yH s (n:Int) (A.length:Int) (n:Int) (dn.length:Int) high next (bq dn))) (.done (Mp (dn++r) high next s.length))
 | [],dn,A,hA,hl,_=>by
  refine M5 _ _ _ _ _ _ _ _ ?_ (.refl _)
  unfold FT
  simp only [fR,dK] at hl
  rw [decide_eq_false (by omega),cond_false,hA]
  simp [f0]
 | x::r,dn,A,hA,hl,hx=>by
  obtain ⟨hx1,hx2⟩:=hx x (by simp)
  simp only [cL] at hl
  have e1:f9 s (A.length:Nat)=(x.1,(((A++cx x.1).length:Nat):Int),0):=by
   rw [hA,f0,bu,ya A x.1 _ hx1]
   simp;omega
  have e2:f9 s (((A++cx x.1).length:Nat):Int)=(x.2,(((A++cx x.1++cx x.2).length:Nat):Int),0):=by
   rw [hA,f0,bu,<-bu A,ya (A++cx x.1) x.2 _ hx2]
   simp;omega
  have w:W .u64 ((dn.length:Int)+1)=(((dn++[x]).length:Nat):Int):=by rw [lG (by omega)];simp
  have ih:=Mq s hs n hn high next r (dn++[x]) (A++cx x.1++cx x.2) (by rw [hA,f0];simp) (by simp;omega) (fun y hy=>hx y (by simp [hy]))
  rw [show dn++[x]++r=dn++x::r by simp] at ih
  refine M5 _ _ _ _ _ _ _ _ (o:=.head 2 (oc s (n:Int) (A.length:Int) (n:Int) (dn.length:Int) 0 high next [] [] (bq dn))) ?_
   (Yh _ _ _ _ _ _ _ _ _ _ (o:=.head 2 (oc s (n:Int) ((A++cx x.1).length:Nat) (n:Int) (dn.length:Int) 1 high next x.1 [] (bq dn))) ?_
   (Yi _ _ _ _ _ _ _ _ _ _ (o:=.head 2 (oc s (n:Int) ((A++cx x.1++cx x.2).length:Nat) (n:Int) (dn.length:Int) 2 high next x.1 x.2 (bq dn))) ?_
   (Yj _ _ _ _ _ _ _ _ _ _ ?_ ih)))
  ·unfold FT
   rw [decide_eq_true (by omega),cond_true]
  ·unfold M9
   rw [aK (jo e1 hs),gw,d0 rfl,cond_false]
  ·unfold Na
   rw [aK (jo e2 hs),gw,d0 rfl,cond_false]
  ·unfold Nb
   rw [aG (decide_eq_true (by simp only [fN,c8,gq,gg,cL,fR];omega)),w]
   simp [bq]
theorem Xy (l:Lf) (h:cE l=true):bK aA 175 [.str (bA l)]=some (Mp l.prs l.high l.next (bA l).length):=by
 have hsm:=AO h
 obtain ⟨h1,h2,h3,h4,h5⟩:=qL.1 h
 have hm:=xD h1
 have hg:=yd fun x hx=>(hm x hx).1
 have hh:=w8 h2
 have hlen:=Dc l
 have hs:cT (bA l):=by rw [cT,hlen];unfold gQ;omega
 obtain ⟨nn,hnn⟩:∃nn:Nat,l.next=(nn:Int):=⟨l.next.toNat,by omega⟩
 have hpr:∀x∈l.prs,x.1.length<=255/\x.2.length<=255:=fun x hx=>by
  have q1:=(gZ (hm x hx).1).2
  have q2:=(hm x hx).2
  simp only [dS,decide_eq_true_eq] at q2
  omega
 have g1:fI (bA l) 1 1=(((l.prs.length:Nat):Int),0):=by
  unfold fI
  rw [if_pos (xF (by omega) (by omega) (by omega) (by rw [hlen];unfold gQ;omega))]
  have:(bA l).drop 1=UInt8.ofNat l.prs.length::(bW 2 l.next.toNat++(cx l.high++f0 l.prs)):=rfl
  show (((dH (((bA l).drop 1).take 1):Nat):Int),(0:Int))=_
  rw [this]
  simp [dH]
  omega
 have q16:(256:Nat) ^ 2=65536:=by decide
 have g2:fI (bA l) 2 2=(l.next,0):=by
  unfold fI
  rw [if_pos (xF (by omega) (by omega) (by omega) (by rw [hlen];unfold gQ;omega))]
  have:(bA l).drop 2=bW 2 l.next.toNat++(cx l.high++f0 l.prs):=rfl
  show (((dH (((bA l).drop 2).take 2):Nat):Int),(0:Int))=_
  rw [this,vW (by rw [d5];omega),kE (by rw [d5];omega),Bq 2 l.next.toNat (by omega)]
  rw [hnn];simp
 have hA:(76::UInt8.ofNat l.prs.length::bW 2 l.next.toNat:Bs).length=4:=by simp [d5]
 have g3:f9 (bA l) 4=(l.high,(((76::UInt8.ofNat l.prs.length::(bW 2 l.next.toNat++cx l.high):Bs).length:Nat):Int),0):=by
  have e:bA l=(76::UInt8.ofNat l.prs.length::bW 2 l.next.toNat)++(cx l.high++f0 l.prs):=rfl
  have:=ya (76::UInt8.ofNat l.prs.length::bW 2 l.next.toNat) l.high (f0 l.prs) (by omega)
  rw [hA] at this
  rw [e]
  refine this.trans ?_
  simp [d5];omega
 have hAA:bA l=(76::UInt8.ofNat l.prs.length::(bW 2 l.next.toNat++cx l.high))++f0 l.prs:=by simp [bA,yX]
 generalize hAd:(76::UInt8.ofNat l.prs.length::(bW 2 l.next.toNat++cx l.high):Bs)=A at g3 hAA
 have w:W .i64 l.next=l.next:=aX (by omega)
 refine I3 _ (o:=.head 0 (BR (bA l) (l.prs.length:Int) (A.length:Int) l.high l.next)) ?_ (Yd _ _ _ _ _ rfl ?_)
 ·unfold CP
  rw [aK (iN g1 hs),iK,aK (iN g2 hs),iK,aK (jo g3 hs),gw,d0 rfl,cond_false,cond_false,cond_false,w]
  rfl
 ·cases hp:l.prs with
  | nil =>
   refine M4 _ _ _ _ _ _ ?_ (.refl _)
   unfold FS
   rw [decide_eq_false (by simp),cond_false]
   rw [hp] at hAA
   rw [hAA]
   simp [f0,bq]
  | cons x r =>
   rw [hp] at hAA hpr
   have hN:l.prs.length<=1000:=by omega
   rw [hp,cL] at hN
   obtain ⟨hx1,hx2⟩:=hpr x (by simp)
   have e1:f9 (bA l) (A.length:Nat)=(x.1,(((A++cx x.1).length:Nat):Int),0):=by
    rw [hAA,f0,bu,ya A x.1 _ hx1]
    simp;omega
   have e2:f9 (bA l) (((A++cx x.1).length:Nat):Int)=(x.2,(((A++cx x.1++cx x.2).length:Nat):Int),0):=by
    rw [hAA,f0,bu,<-bu A,ya (A++cx x.1) x.2 _ hx2]
    simp;omega
   have fin:=Mq (bA l) hs (r.length+1) hN l.high l.next r [x] (A++cx x.1++cx x.2) (by rw [hAA,f0];simp) (by simp;omega) (fun y hy=>hpr y (by simp [hy]))
   rw [cL]
   refine M4 _ _ _ _ _ _ (o:=.head 2 (oa (bA l) ((r.length+1:Nat):Int) (A.length:Int) ((r.length+1:Nat):Int) 0 l.high l.next [] [])) ?_
    (Ye _ _ _ _ _ _ _ _ (o:=.head 2 (oa (bA l) ((r.length+1:Nat):Int) ((A++cx x.1).length:Nat) ((r.length+1:Nat):Int) 1 l.high l.next x.1 [])) ?_
    (Yf _ _ _ _ _ _ _ _ (o:=.head 2 (oa (bA l) ((r.length+1:Nat):Int) ((A++cx x.1++cx x.2).length:Nat) ((r.length+1:Nat):Int) 2 l.high l.next x.1 x.2)) ?_
    (Yg _ _ _ _ _ _ _ _ ?_ fin)))
   ·unfold FS
    rw [decide_eq_true (by omega),cond_true]
   ·unfold M6
    rw [aK (jo e1 hs),gw,d0 rfl,cond_false]
   ·unfold M7
    rw [aK (jo e2 hs),gw,d0 rfl,cond_false]
   ·unfold M8
    rw [aG (decide_eq_true (by simp))]
    rfl
theorem QB (l:Lf) (h:cE l=true):bK aA 129 [.str (bA l)]=some (.tup [eL l,.int .i64 0]):=by
 have hsm:=AO h
 obtain ⟨h1,h2,h3,h4,h5⟩:=qL.1 h
 have hh:=w8 h2
 have hlen:=Dc l
 have hs:cT (bA l):=by rw [cT,hlen];unfold gQ;omega
 refine IR _ ?_
 unfold zq
 rw [decide_eq_false (by rw [hlen];unfold gQ;omega),cond_false,aK (Xy l h),Iu,bR,cond_false]
 show (aE aA _ [eL l] _)=_
 rw [aK (vn l hsm),cR,h,bR,cond_false,aG (by simp),bl,aG (by simp),lC,List.drop_length,aK (HW [] (by simp [cT])),eO]
 rfl
def aU (l:List Pr):List Bs:=l.map (·.1)
theorem su {l:List Pr} {i:Nat} {x:Pr} (h:l[i]? = some x):(aU l)[i]? = some x.1:=by simp [aU,h]
theorem oF (l:List Pr):(aU l).length=l.length:=by simp [aU]
theorem Mt:∀{l:List Pr} {p:Bs},jK p l=true->(∀x∈l,lt p x.1=true)/\iZ (aU l)
 | [],_,_=>⟨fun _ h=>(by cases h),.nil⟩
 | y::l,p,h=>by
  simp only [jK,bv] at h
  obtain ⟨h1,h2⟩:=Mt h.2
  refine ⟨fun x hx=>?_,gt.2 ⟨fun k hk=>?_,h2⟩⟩
  ·rcases bP.1 hx with rfl | hx
   ·exact h.1.2
   ·exact lt_trans h.1.2 (h1 x hx)
  ·obtain ⟨x,hx,rfl⟩:=dP.1 hk
   exact h1 x hx
theorem XI {l:Lf} (h:cE l=true):iZ (aU l.prs):=(Mt (qL.1 h).1).2
theorem Qj (a b:Bs):bK aA 158 [.str a,.str b]=some (.int .i64 (if a==b then 0 else if lt a b then -1 else 1)):=AD (g:=zc) rfl rfl
theorem Dk (p:Pr) (k:Bs):bK aA 157 [pV p,.str k]=some (.int .i64 (if p.1==k then 0 else if lt p.1 k then -1 else 1)):=by
 refine Rt _ _ _ ?_
 unfold CH
 rw [aK (Qj p.1 k),bU]
theorem Im (a k:Bs):decide ((if a==k then (0:Int) else if lt a k then -1 else 1) < 0)=lt a k:=by
 by_cases h:a=k
 ·subst h;rw [iw];simp
 ·rw [if_neg (by simpa using h)];cases lt a k<;>rfl
theorem Qh (a k:Bs):((if a==k then (0:Int) else if lt a k then -1 else 1)==0)=(a==k):=by
 by_cases h:a=k
 ·subst h;simp
 ·rw [if_neg (by simpa using h),beq_eq_false_iff_ne.2 h];cases lt a k<;>rfl
theorem PI (m:List Pr) (hs:iZ (aU m)) (k:Bs) (hl:m.length<=1000000):∀(d i j:Nat),j - i<=d->i<=bI (aU m) k->bI (aU m) k<=j->j<=m.length ->
  Go qk false 0 (fF 156) (.head 0 (pF (bq m) k m.length i j)) (.done (.tup [.int .i64 (bI (aU m) k),.bool (co (aU m) k)])):=by
 intro d
 induction d with
 | zero =>
  intro i j hd hi hj hn
  have e:i=bI (aU m) k:=by omega
  refine FM _ _ _ _ _ ?_ (.refl _)
  unfold AZ
  rw [decide_eq_false (by omega),cond_false]
  by_cases aC:i < m.length
  ·have h1:m[i]? = some m[i]:=bC aC
   have e2:co (aU m) k=(m[i].1==k):=by unfold co;rw [<-e,su h1]
   rw [<-e,decide_eq_true (by omega),cond_true,aG (by simp),bl,li h1,j9]
   show (aE aA _ [pV m[i],_] _)=_
   rw [aK (Dk _ _),bU,e2,Qh]
  ·have e2:co (aU m) k=false:=by unfold co;rw [<-e,vS (by rw [oF];omega)]
   rw [<-e,e2,decide_eq_false (by omega)]
   rfl
 | succ d ih =>
  intro i j hd hi hj hn
  by_cases hij:i < j
  ·have hh:=Kf (i:=i) (j:=j) (by omega)
   generalize hg:(i+j) / 2=h at hh
   have hb:i<=h/\h < j:=by omega
   have h1:m[h]? = some m[h]:=bC (by omega)
   have hlb:=Af hs k (su h1)
   have w:W .i64 ((h:Int)+1)=((h+1:Nat):Int):=by rw [aX (by omega)];omega
   cases hx:lt m[h].1 k with
   | true =>
    refine FM _ _ _ _ _ (o:=.head 0 (pF (bq m) k m.length ((h+1:Nat):Int) j)) ?_ (ih (h+1) j (by omega) (by have:=hlb.1 hx;omega) hj hn)
    unfold AZ
    rw [decide_eq_true (by omega),cond_true,hh,aG (by simp),bl,li h1,j9]
    show (aE aA _ [pV m[h],_] _)=_
    rw [aK (Dk _ _),bU,Im,hx,cond_true,w]
   | false =>
    have hge:bI (aU m) k<=h:=by
     rcases jV h (bI (aU m) k) with q | q
     ·rw [hlb.2 q] at hx;cases hx
     ·exact q
    refine FM _ _ _ _ _ (o:=.head 0 (pF (bq m) k m.length i h)) ?_ (ih i h (by omega) hi hge (by omega))
    unfold AZ
    rw [decide_eq_true (by omega),cond_true,hh,aG (by simp),bl,li h1,j9]
    show (aE aA _ [pV m[h],_] _)=_
    rw [aK (Dk _ _),bU,Im,hx,cond_false]
  ·exact ih i j (by omega) hi hj hn
theorem Dm (l:Lf) (hs:iZ (aU l.prs)) (hl:l.prs.length<=1000) (k:Bs):bK aA 116 [eL l,.str k]=some (.tup [.int .i64 (bI (aU l.prs) k),.bool (co (aU l.prs) k)]):=by
 refine Q0 _ _ _ _ ?_
 unfold Cy
 have:bK aA 156 [.sl (bq l.prs),.str k,.fn 157 []]=some (.tup [.int .i64 (bI (aU l.prs) k),.bool (co (aU l.prs) k)]):=by
  refine Rr _ _ (o:=.head 0 (pF (bq l.prs) k l.prs.length ((0:Nat):Int) l.prs.length)) ?_ (PI l.prs hs k (by omega) _ 0 l.prs.length (bG _) (iE _) (by rw [<-oF];exact xj _ k) (bG _))
  unfold IY
  rw [fN]
  rfl
 rw [aK this,wJ]
theorem yc (l:List Pr):dp 2 (bq l)=true:=Bv fun _=>rfl
theorem Tm (l:List Pr):((bq l).all fun x=>x.cells.all V.flat1)=true:=by simp [bq,V.cells,V.flat1]
theorem Mc (l:List Pr) (k:Nat):(bq l).take k=bq (l.take k):=by simp [bq,List.map_take]
theorem W7 (l:List Pr) (k:Nat):(bq l).drop k=bq (l.drop k):=by simp [bq,List.map_drop]
theorem Mb (a b:List Pr):bq a++bq b=bq (a++b):=by simp [bq]
theorem ET (l w:List Pr) (i j:Nat) (hi:i<=l.length) (hj:j<=l.length) (hl:l.length<=1000) (hw:w.length<=1000) :
  bK aA 117 [.sl (bq l),.int .i64 (i:Int),.int .i64 (j:Int),.sl (bq w)]=some (.fr 41 (bq (l.take i++w++l.drop j))):=by
 refine Q2 _ _ _ _ ?_
 unfold Cz
 have hwl:W .i64 (((bq l).length:Int)+((bq w).length:Int))=((l.length+w.length:Nat):Int):=by rw [fN,fN,aX (by omega)];omega
 have hmid:(bE ((i:Int)).toNat (V.agg [V.str [],V.str []])).take 0++((bq l).take ((i:Int)).toNat).take (min ((bq l).take ((i:Int)).toNat).length ((bE ((i:Int)).toNat (V.agg [V.str [],V.str []])).length))++(bE ((i:Int)).toNat (V.agg [V.str [],V.str []])).drop (0+min ((bq l).take ((i:Int)).toNat).length ((bE ((i:Int)).toNat (V.agg [V.str [],V.str []])).length))=bq (l.take i):=by
  rw [bl,Mc]
  have h1:(bq (l.take i)).length=i:=by rw [fN,gq];omega
  rw [h1,vV,Nat.min_self,dZ,tP,dU,kE (by omega),pq (by simp),dA]
 have hend:((bq l).take (bq l).length).drop ((j:Int)).toNat=bq (l.drop j):=by rw [lC,bl,W7]
 simp only [hmid,hend,hwl]
 rw [aG (by simp),aG (decide_eq_true (by omega)),aG (decide_eq_true (by rw [bl];omega)),aG (yc _),aG (by simp),aG (decide_eq_true (by rw [bl,fN];omega)),aG (by rw [bl,Mc];exact yc _),
  aG (by simp),aG (yc _),aG (decide_eq_true (by simp only [fN,c8,gq,gg,cL,fR];omega)),aG (yc _),aG (by simp),aG (decide_eq_true (by rw [bl,fN];omega)),aG (yc _),Mb,aG (decide_eq_true (by simp only [fN,c8,gq,gg,cL,fR];omega)),Mb,aG (Tm _)]
set_option maxRecDepth 100000
theorem vM:∀a b:List Pr,aS (a++b)=aS a+aS b
 | [],b=>by simp [aS]
 | x::a,b=>by rw [dv,aS,aS,vM a b];omega
theorem vN (l:List Pr) (n:Nat):aS l=aS (l.take n)+aS (l.drop n):=by rw [<-vM,ig]
theorem Bu {x:Pr} (h1:bF x.1=true) (h2:dS x.2=true):3<=aS [x]/\aS [x]<=50:=by
 have:=gZ h1
 simp only [dS,decide_eq_true_eq] at h2
 simp only [aS]
 omega
theorem OB:∀{l:List Pr},(∀x∈l,bF x.1=true/\dS x.2=true)->aS l<=50 * l.length
 | [],_=>bG _
 | x::r,h=>by
  have h1:=Bu (h x (by simp)).1 (h x (by simp)).2
  have h2:=OB (l:=r) fun y hy=>h y (by simp [hy])
  simp only [aS,cL] at *
  omega
theorem ES (l:List Pr) (i j:Nat) (hi:i<=l.length) (hj:j<=l.length) (hl:l.length<=1000):bK aA 117 [.sl (bq l),.int .i64 (i:Int),.int .i64 (j:Int),.sl []]=some (.fr 41 (bq (l.take i++l.drop j))):=by
 have:=ET l [] i j hi hj hl (by simp)
 rwa [dA] at this
structure OJ (l:Lf):Prop where
 right:cE l=true
 sm:pB l
 mem:∀x∈l.prs,bF x.1=true/\dS x.2=true
 ri:iZ (aU l.prs)
 len:3 * l.prs.length<=aS l.prs
 wt:aS l.prs<=231
 high:l.high.length<=16
theorem qa {l:Lf} (h:cE l=true):OJ l:=by
 have h1:=qL.1 h
 have hm:=xD h1.1
 exact ⟨h,AO h,hm,XI h,yd fun x hx=>(hm x hx).1,h1.2.2.2.2,w8 h1.2.1⟩
theorem rF {m:List Bs} {k:Bs} (h:co m k=true):∃h2:bI m k < m.length,m[bI m k]=k:=by
 unfold co at h
 cases hx:m[bI m k]? with
 | none=>rw [hx] at h;cases h
 | some p =>
  rw [hx] at h
  obtain ⟨h2,h3⟩:=bj.1 hx
  exact ⟨h2,by rw [h3];simpa using h⟩
def wY (l:List Pr) (k:Bs):Bs:=(l[bI (aU l) k]?.getD ([],[])).2
theorem J7 (l:Lf) (h:cE l=true) (k:Bs):bK aA 76 [eL l,.str k]=some (if co (aU l.prs) k then .tup [.str (wY l.prs k),.int .i64 0] else .tup [.str [],.int .i64 7]):=by
 have g:=qa h
 have g1:=g.len;have g2:=g.wt
 refine Sx _ _ _ _ ?_
 unfold C6
 rw [aK (vn l g.sm),cR,h,bR,cond_false,aK (Dm l g.ri (by omega) k),wJ]
 cases hh:co (aU l.prs) k with
 | false=>rfl
 | true =>
  obtain ⟨h2,_⟩:=rF hh
  rw [oF] at h2
  have h3:l.prs[bI (aU l.prs) k]? = some l.prs[bI (aU l.prs) k]:=bC h2
  rw [bR,cond_false,aG (by simp),bl,li h3,j9,if_pos rfl,wY,h3]
  rfl
def cv (l:List Pr) (k v:Bs):List Pr:=l.take (bI (aU l) k)++[(k,v)]++l.drop (if co (aU l) k then bI (aU l) k+1 else bI (aU l) k)
abbrev sw:Lf:=⟨[],[],0⟩
def oT (l:Lf) (k v:Bs):V:=if aS (cv l.prs k v)<=231 then .tup [eL ⟨cv l.prs k v,l.high,l.next⟩,.int .i64 0] else .tup [eL sw,.int .i64 6]
theorem Mg (l:List Pr) (k v:Bs):(cv l k v).length<=l.length+1:=by
 have:=xj (aU l) k
 rw [oF] at this
 unfold cv
 simp only [c8,gq,gg,cL,fR]
 split<;>omega
theorem qJ {l:List Pr} {k v:Bs} {x:Pr} (h:x∈cv l k v):x=(k,v)∨x∈l:=by
 unfold cv at h
 rcases bp.1 h with h | h
 ·rcases bp.1 h with h | h
  ·exact .inr (mE h)
  ·exact .inl (by simpa using h)
 ·exact .inr (kD h)
theorem AH (l:List Pr) (k v:Bs):aS (cv l k v)<=aS l+aS [(k,v)]:=by
 have h1:=vN l (bI (aU l) k)
 have h2:=vN (l.drop (bI (aU l) k)) 1
 rw [nW] at h2
 unfold cv
 rw [vM,vM]
 split
 ·omega
 ·omega
theorem JS (l:Lf):uI l=decide (aS l.prs<=231):=by
 unfold uI
 by_cases h:aS l.prs<=231
 ·rw [decide_eq_true (show 21+aS l.prs<=252 by omega),decide_eq_true h]
 ·rw [decide_eq_false (show ¬21+aS l.prs<=252 by omega),decide_eq_false h]
theorem Mj (l:Lf) (h:cE l=true) (k v:Bs) (hk:bF k=true) (hv:dS v=true) {q:R} :
  q=(aE aA 116 [eL l,.str k] fun r_3=>kW r_3 fun i is=>cond is
   (aE aA 117 [.sl (bq l.prs),.int .i64 i,.int .i64 (W .i64 (i+1)),.sl [.agg [.str k,.str v]]] fun r_4=>kF 41 r_4 fun o=>aE aA 118 [.agg [.sl o,.str l.high,.int .i64 l.next]] fun r_5=>kB r_5 fun b=>cond (!b) (some (.done (.tup [.agg [.sl [],.str [],.int .i64 0],.int .i64 6]))) (some (.done (.tup [.agg [.sl o,.str l.high,.int .i64 l.next],.int .i64 0]))))
   (aE aA 117 [.sl (bq l.prs),.int .i64 i,.int .i64 i,.sl [.agg [.str k,.str v]]] fun r_4=>kF 41 r_4 fun o=>aE aA 118 [.agg [.sl o,.str l.high,.int .i64 l.next]] fun r_5=>kB r_5 fun b=>cond (!b) (some (.done (.tup [.agg [.sl [],.str [],.int .i64 0],.int .i64 6]))) (some (.done (.tup [.agg [.sl o,.str l.high,.int .i64 l.next],.int .i64 0]))))) ->
  q=some (.done (oT l k v)):=by
 rintro rfl
 have g:=qa h
 have g1:=g.len;have g2:=g.wt
 have hle:=xj (aU l.prs) k
 rw [oF] at hle
 have hsm:pB ⟨cv l.prs k v,l.high,l.next⟩:=by
  refine ⟨by have:=Mg l.prs k v;simp only;omega,fun x hx=>?_,by have:=g.high;simp only;omega⟩
  rcases qJ hx with rfl | hx
  ·have:=(gZ hk).2
   simp only [dS,decide_eq_true_eq] at hv
   simp only;omega
  ·exact g.sm.pr x hx
 have e1:([.agg [.str k,.str v]]:List V)=bq [(k,v)]:=rfl
 rw [aK (Dm l g.ri (by omega) k),wJ,e1]
 cases hh:co (aU l.prs) k with
 | true =>
  obtain ⟨h2,_⟩:=rF hh
  rw [oF] at h2
  have w:W .i64 (((bI (aU l.prs) k:Nat):Int)+1)=((bI (aU l.prs) k+1:Nat):Int):=by rw [aX (by omega)];omega
  have ep:l.prs.take (bI (aU l.prs) k)++[(k,v)]++l.prs.drop (bI (aU l.prs) k+1)=cv l.prs k v:=by unfold cv;rw [hh,if_pos rfl]
  rw [cond_true,w,aK (ET l.prs [(k,v)] _ _ hle (by omega) (by omega) (by simp)),jC,ep]
  have:=Dq ⟨cv l.prs k v,l.high,l.next⟩ hsm
  rw [JS] at this
  simp only at this
  rw [aK this,cR]
  unfold oT
  by_cases hf:aS (cv l.prs k v)<=231
  ·rw [decide_eq_true hf,if_pos hf];rfl
  ·rw [decide_eq_false hf,if_neg hf];rfl
 | false =>
  have ep:l.prs.take (bI (aU l.prs) k)++[(k,v)]++l.prs.drop (bI (aU l.prs) k)=cv l.prs k v:=by unfold cv;rw [hh];rfl
  rw [cond_false,aK (ET l.prs [(k,v)] _ _ hle (by omega) (by omega) (by simp)),jC,ep]
  have:=Dq ⟨cv l.prs k v,l.high,l.next⟩ hsm
  rw [JS] at this
  simp only at this
  rw [aK this,cR]
  unfold oT
  by_cases hf:aS (cv l.prs k v)<=231
  ·rw [decide_eq_true hf,if_pos hf];rfl
  ·rw [decide_eq_false hf,if_neg hf];rfl
theorem xw (l:Lf) (h:cE l=true) (k v:Bs) (hk:bF k=true) (hv:dS v=true) (hh:l.high=[]∨lt k l.high=true):bK aA 77 [eL l,.str k,.str v]=some (oT l k v):=by
 have g:=qa h
 refine Sz _ _ _ _ _ ?_
 unfold C7
 rw [aK (vn l g.sm),cR,h,bR,cond_false,aK (iv k),cR,hk,bR,cond_false,aK (vL v),cR,hv,bR,cond_false]
 by_cases e:l.high=[]
 ·rw [show (!(l.high==[]))=false by rw [e];rfl,cond_false]
  exact Mj l h k v hk hv rfl
 ·have hl:Op.bytesLess k l.high=true:=hh.resolve_left e
  rw [show (!(l.high==[]))=true by simpa using e,cond_true,hl,bR,cond_false]
  exact Mj l h k v hk hv rfl
def fT (l:List Pr) (k:Bs):List Pr:=l.take (bI (aU l) k)++l.drop (bI (aU l) k+1)
theorem Cn (l:Lf) (h:cE l=true) (k:Bs):bK aA 80 [eL l,.str k]=some (if co (aU l.prs) k then .tup [eL ⟨fT l.prs k,l.high,l.next⟩,.int .i64 0] else .tup [eL sw,.int .i64 7]):=by
 have g:=qa h
 have g1:=g.len;have g2:=g.wt
 refine SE _ _ _ _ ?_
 unfold C8
 rw [aK (vn l g.sm),cR,h,bR,cond_false,aK (Dm l g.ri (by omega) k),wJ]
 cases hh:co (aU l.prs) k with
 | false=>rfl
 | true =>
  obtain ⟨h2,_⟩:=rF hh
  rw [oF] at h2
  have w:W .i64 (((bI (aU l.prs) k:Nat):Int)+1)=((bI (aU l.prs) k+1:Nat):Int):=by rw [aX (by omega)];omega
  rw [bR,cond_false,w,aK (ES l.prs _ _ (by omega) (by omega) (by omega)),jC]
  rfl
def lJ (A:Nat):Nat->List Pr->Nat
 | _,[]=>0
 | _,[_]=>0
 | had,x::y::r=>if 2 * had < A then 1+lJ A (had+aS [x]) (y::r) else 0
def cQ (l:List Pr):Nat:=match l with | []=>0 | [_]=>0 | x::y::r=>1+lJ (aS l) (aS [x]) (y::r)
def xW (l:Lf) (pg:Int) (n:Nat):V:=.tup [eL ⟨l.prs.take n,(l.prs[n]?.getD ([],[])).1,pg+1⟩,eL ⟨l.prs.drop n,l.high,l.next⟩,.int .i64 0]
theorem NJ (l:Lf) (hl:l.prs.length<=1000) (pg:Int) (hp:0<=pg/\pg < 1024) (n:Nat) (hn:n < l.prs.length) {q:R} :
  q=(aE aA 117 [.sl (bq l.prs),.int .i64 (n:Int),.int .i64 ((bq l.prs).length:Int),.sl []] fun r_2=>kF 41 r_2 fun a=>gd (decide (0<=(n:Int)))<|aY (bq l.prs) ((n:Int)).toNat fun v=>gX v fun key _=>aE aA 117 [.sl (bq l.prs),.int .i64 0,.int .i64 (n:Int),.sl []] fun r_3=>kF 41 r_3 fun b =>
   some (.done (.tup [.agg [.sl a,.str key,.int .i64 (W .i64 (pg+1))],.agg [.sl b,.str l.high,.int .i64 l.next],.int .i64 0]))) ->
  q=some (.done (xW l pg n)):=by
 rintro rfl
 have h1:l.prs[n]? = some l.prs[n]:=bC hn
 have o1:=ES l.prs n l.prs.length (by omega) (by omega) hl
 have o2:bK aA 117 [.sl (bq l.prs),.int .i64 0,.int .i64 (n:Int),.sl []]=some (.fr 41 (bq (l.prs.take 0++l.prs.drop n))):=ES l.prs 0 n (by omega) (by omega) hl
 rw [List.drop_length,dA] at o1
 rw [tP,dU] at o2
 rw [fN,aK o1,jC,aG (by simp),bl,li h1,j9,aK o2,jC,aX (by omega)]
 unfold xW
 rw [h1]
 rfl
theorem Zb (l:Lf) (hl:l.prs.length<=1000) (hs:∀p∈l.prs,p.1.length<=1000/\p.2.length<=1000) (pg:Int) (hp:0<=pg/\pg < 1024) (A:Nat):∀(r:List Pr) (n had:Nat),l.prs.drop n=r->r≠[]->0 < n->had<=2002 * n ->
  Go qk false 0 (fF 122) (.head 0 (pD pg (A:Int) (n:Int) (had:Int) (bq l.prs) l.high l.next)) (.done (xW l pg (n+lJ A had r))):=by
 intro r
 induction r with
 | nil=>intro n had _ h;exact absurd rfl h
 | cons x r ih =>
  intro n had hr _ hn hhad
  obtain ⟨h1,h2,h3⟩:=gl hr
  have hx:=hs x (cG h1)
  have w1:W .i64 (((bq l.prs).length:Int) - 1)=((l.prs.length - 1:Nat):Int):=by rw [fN,aX (by omega)];omega
  have hrl:r.length+n+1=l.prs.length:=by
   have:=congrArg nY hr
   simp at this
   omega
  have w2:W .i64 (2 * (had:Int))=((2 * had:Nat):Int):=by rw [aX (by omega)];omega
  cases hrr:r with
  | nil =>
   subst hrr
   simp only [fR] at hrl
   refine AU _ _ _ _ _ _ _ ?_ (.refl _)
   unfold xJ
   rw [w1,decide_eq_false (by omega),cond_false]
   exact NJ l hl pg hp n (by omega) rfl
  | cons y t =>
   have hrt:r.length=t.length+1:=by rw [hrr];rfl
   unfold lJ
   by_cases hA:2 * had < A
   ·rw [if_pos hA]
    have:=ih (n+1) (had+aS [x]) h2 (by rw [hrr];simp) (by omega) (by simp only [aS];omega)
    rw [hrr,gT] at this
    refine AU _ _ _ _ _ _ _ (o:=.head 0 (pD pg (A:Int) ((n+1:Nat):Int) ((had+aS [x]:Nat):Int) (bq l.prs) l.high l.next)) ?_ this
    unfold xJ
    have w3:W .i64 ((n:Int)+1)=((n+1:Nat):Int):=by rw [aX (by omega)];omega
    have w4:W .i64 ((had:Int)+((2+x.1.length+x.2.length:Nat):Int))=((had+aS [x]:Nat):Int):=by simp only [aS];rw [aX (by omega)];omega
    rw [w1,decide_eq_true (by omega),cond_true,eK (by omega),cond_false,w2,decide_eq_true (by omega),cond_true,aG (by simp),bl,li h1,j9]
    show (aE aA _ [pV x] _)=_
    rw [aK (GU x hx.1 hx.2),bU,w3,w4]
   ·rw [if_neg hA]
    refine AU _ _ _ _ _ _ _ ?_ (.refl _)
    unfold xJ
    rw [w1,decide_eq_true (by omega),cond_true,eK (by omega),cond_false,w2,decide_eq_false (by omega),cond_false]
    exact NJ l hl pg hp n (by omega) rfl
theorem Za (l:Lf) (h:cE l=true) (h2:2<=l.prs.length) (pg:Int) (hp:0<=pg/\pg < 1024):bK aA 122 [eL l,.int .i64 pg]=some (xW l pg (cQ l.prs)):=by
 have g:=qa h
 have g1:=g.len;have g2:=g.wt;have g3:=g.high
 obtain ⟨x,y,r,hx⟩:∃x y r,l.prs=x::y::r:=by
  match hl:l.prs,h2 with
  | x::y::r,_=>exact ⟨x,y,r,rfl⟩
 have hpx:=g.sm.pr x (by rw [hx];simp)
 have h0:l.prs[0]? = some x:=by rw [hx];rfl
 have hd:l.prs.drop 1=y::r:=by rw [hx];rfl
 have:=Zb l (by omega) g.sm.pr pg hp (aS l.prs) (y::r) 1 (aS [x]) hd (by simp) (by omega) (by simp only [aS];omega)
 have eh:cQ l.prs=1+lJ (aS l.prs) (aS [x]) (y::r):=by rw [hx];rfl
 rw [<-eh] at this
 refine Q8 _ _ _ _ (o:=.head 0 (pD pg ((aS l.prs:Nat):Int) 0 0 (bq l.prs) l.high l.next)) ?_ (AU _ _ _ _ _ _ _ (o:=.head 0 (pD pg ((aS l.prs:Nat):Int) ((1:Nat):Int) ((aS [x]:Nat):Int) (bq l.prs) l.high l.next)) ?_ this)
 ·unfold IM
  have hsz:W .i64 (W .i64 (W .i64 ((gQ l:Nat) - (4:Int)) - 1) - (l.high.length:Int))=((aS l.prs:Nat):Int):=by
   unfold gQ
   rw [aX (n:=(((5+l.high.length+aS l.prs:Nat):Int) - 4)) (by omega),aX (n:=(((5+l.high.length+aS l.prs:Nat):Int) - 4 - 1)) (by omega),aX (by omega)]
   omega
  rw [aK (vn l g.sm),cR,h,bR,cond_false,fN,decide_eq_false (by omega),cond_false,decide_eq_false (by omega),cond_false,decide_eq_false (by omega),cond_false,aK (Gm l g.sm),bU,hsz]
 ·unfold xJ
  have w1:W .i64 (((bq l.prs).length:Int) - 1)=((l.prs.length - 1:Nat):Int):=by rw [fN,aX (by omega)];omega
  have w4:W .i64 (0+((2+x.1.length+x.2.length:Nat):Int))=((aS [x]:Nat):Int):=by simp only [aS];rw [aX (by omega)];omega
  have h00:l.prs[((0:Int)).toNat]? = some x:=h0
  rw [w1,decide_eq_true (by omega),cond_true,show ((0:Int)==0)=true from rfl,cond_true,aG (by simp),li h00,j9]
  show (aE aA _ [pV x] _)=_
  rw [aK (GU x hpx.1 hpx.2),bU,w4]
  rfl
theorem Ip (A:Nat):∀(r:List Pr) (had:Nat),(∀x∈r,aS [x]<=50)->r≠[]->had<=165->had+aS r=A->2 * had < A+100->A<=231 ->
  lJ A had r < r.length/\had+aS (r.take (lJ A had r))<=165/\aS (r.drop (lJ A had r))<=116
 | [],_,_,h,_,_,_,_=>absurd rfl h
 | [x],had,hw,_,h1,h2,_,_=>by
  have:=hw x (by simp)
  simp only [lJ,tP,pu,cL,fR]
  simp only [aS] at *
  omega
 | x::y::r,had,hw,_,h1,h2,h3,hA=>by
  have hx:=hw x (by simp)
  unfold lJ
  by_cases h:2 * had < A
  ·rw [if_pos h]
   have ih:=Ip A (y::r) (had+aS [x]) (fun z hz=>hw z (by simp [hz])) (by simp) (by omega) (by simp only [aS] at *;omega) (by omega) hA
   rw [py 1]
   simp only [vX,List.drop_succ_cons,cL] at *
   refine ⟨by omega,?_,ih.2.2⟩
   have:=ih.2.1
   simp only [aS] at *
   omega
  ·rw [if_neg h]
   simp only [tP,pu,cL,aS] at *
   omega
theorem Kg {l:List Pr} (h2:2<=l.length) (hw:∀x∈l,aS [x]<=50) (hA:aS l<=231):0 < cQ l/\cQ l < l.length/\aS (l.take (cQ l))<=165/\aS (l.drop (cQ l))<=116:=by
 match l,h2 with
 | x::y::r,_ =>
  have hx:=hw x (by simp)
  have:=Ip (aS (x::y::r)) (y::r) (aS [x]) (fun z hz=>hw z (by simp [hz])) (by simp) (by omega) (by simp only [aS];omega) (by simp only [aS] at *;omega) hA
  have e:cQ (x::y::r)=lJ (aS (x::y::r)) (aS [x]) (y::r)+1:=py 1 _
  rw [e]
  simp only [vX,List.drop_succ_cons,cL] at *
  refine ⟨by omega,by omega,?_,this.2.2⟩
  have:=this.2.1
  simp only [aS] at *
  omega
theorem WM {n:bJ} (h:bL n=true) (k:Nat) (hk:jm n+k<=252):qG (cD n++eV k)=some n:=by
 obtain ⟨h1,h2,h3,h4,h5,h6,h7⟩:=nJ h
 have hg:=qV h3
 have hlen:(cD n++eV k).length=jm n+k:=by simp [Dd h]
 obtain ⟨nn,hnn⟩:∃nn:Nat,n.next=(nn:Int):=⟨n.next.toNat,by omega⟩
 obtain ⟨k0,ks,hks⟩:∃k ks,n.kids=k::ks:=by
  cases hk:n.kids with
  | nil=>rw [hk] at h1;simp at h1
  | cons k ks=>exact ⟨k,ks,rfl⟩
 have hk0:=ve (h2 k0 (by rw [hks];simp))
 obtain ⟨kn,rfl⟩:∃kn:Nat,k0=(kn:Int):=⟨k0.toNat,by omega⟩
 have hkl:ks.length=n.seps.length:=by rw [hks] at h1;simpa using h1
 have hz:=OE h
 rw [hks,List.tail_cons] at hz
 have e0:cD n++eV k=78::UInt8.ofNat n.seps.length::(bW 2 nn++(cx n.high++bW 2 kn++(fg (n.seps.zip ks)++eV k))):=by
  unfold cD yW zP
  rw [if_pos h,hks,hnn]
  simp
 have hl2:=d5 2 nn
 obtain ⟨b2,b3,hb⟩:∃b2 b3,bW 2 nn=[b2,b3]:=⟨_,_,rfl⟩
 have hun:dH (bW 2 nn)=nn:=Bq 2 nn (by have:(256:Nat) ^ 2=65536:=by decide
                                       omega)
 have e1:(cD n++eV k).drop 4=cx n.high++bW 2 kn++(fg (n.seps.zip ks)++eV k):=by rw [e0,hb];rfl
 have e2:((cD n++eV k).drop 2).take 2=bW 2 nn:=by rw [e0,hb];rfl
 have e3:(cD n++eV k).getD 1 0=UInt8.ofNat n.seps.length:=by rw [e0];rfl
 have e4:(UInt8.ofNat n.seps.length).toNat=(n.seps.zip ks).length:=by simp;omega
 have e5:(cD n++eV k).head? = some 78:=by rw [e0];rfl
 have hmin:jm n=7+n.high.length+cA n.seps:=rfl
 unfold qG
 rw [if_neg (by rw [hlen,e5];simp;omega),e1,LW (by omega) (by omega),aJ]
 simp only
 rw [e3,e4,LX _ _ hz,aJ,e2,hun]
 have e6:(n.seps.zip ks).map (·.1)=n.seps:=List.map_fst_zip (by omega)
 have e7:(n.seps.zip ks).map (·.2)=ks:=List.map_snd_zip (by omega)
 simp only [e6,e7]
 have e8:(⟨n.seps,(kn:Int)::ks,n.high,(nn:Int)⟩:bJ)=n:=by
  rw [<-hks,<-hnn]
 rw [e8]
 unfold ox
 rw [h,Pt.2 (by simp)]
 rfl
theorem HS:∀{l:List Bs} {k:Bs} {j:Nat} {s:Bs},j < eC l k->l[j]? = some s->lt k s=false
 | [],k,j,s,h,_=>by simp [eC] at h
 | x::l,k,j,s,h,hs=>by
  rw [rD] at h
  cases hx:lt k x with
  | true=>rw [hx] at h;simp at h
  | false =>
   rw [hx] at h
   cases j with
   | zero=>simp at hs;rw [<-hs];exact hx
   | succ j=>exact HS (l:=l) (by simpa using h) (by simpa using hs)
theorem HT:∀{l:List Bs} {k:Bs} {s:Bs},l[eC l k]? = some s->lt k s=true
 | [],k,s,h=>by simp at h
 | x::l,k,s,h=>by
  rw [rD] at h
  cases hx:lt k x with
  | true=>rw [hx] at h;simp at h;rw [<-h];exact hx
  | false =>
   rw [hx] at h
   exact HT (l:=l) (by simpa using h)
theorem qi (s:Bs) (a:List Bs) (p:Bs):(s::a).getLastD p=a.getLastD s:=by
 cases a with
 | nil=>rfl
 | cons y a=>simp [List.getLastD]
theorem Ac:∀(a b:List Bs) (p:Bs),(a++b).getLastD p=b.getLastD (a.getLastD p)
 | [],b,p=>rfl
 | s::a,b,p=>by rw [dv,qi,qi,Ac a b s]
theorem AP:∀(a b:List Bs) (p:Bs),d7 p (a++b)=(d7 p a && d7 (a.getLastD p) b)
 | [],b,p=>rfl
 | s::a,b,p=>by rw [dv,d7,d7,AP a b s,qi];cases bF s<;>cases lt p s<;>rfl
theorem U2 {a:List Bs} (h:a≠[]) (p:Bs):a[a.length - 1]? = some (a.getLastD p):=by
 cases a with
 | nil=>exact (h rfl).elim
 | cons s a =>
  rw [List.getLastD_cons]
  simp [List.getLastD,List.getLast?_eq_getElem?]
  cases a with
  | nil=>rfl
  | cons y a=>simp [List.getLast_eq_getElem]
theorem vH:∀a b:List Bs,cA (a++b)=cA a+cA b
 | [],b=>by simp [cA]
 | s::a,b=>by simp only [dv,cA,vH a b];omega
theorem qM {n:bJ}:bL n=true↔n.kids.length=n.seps.length+1/\(∀k∈n.kids,dE k=true)/\d7 [] n.seps=true/\eJ (n.seps.getLastD []) n.high=true/\pU n=true:=by
 unfold bL
 simp only [bv,decide_eq_true_eq,di]
 constructor
 ·rintro ⟨⟨⟨⟨a,b⟩,c⟩,d⟩,e⟩;exact ⟨a,b,c,d,e⟩
 ·rintro ⟨a,b,c,d,e⟩;exact ⟨⟨⟨⟨a,b⟩,c⟩,d⟩,e⟩
theorem rQ {n:bJ}:pU n=true↔0<=n.next/\n.next<=1024/\23+cA n.seps<=252:=by
 unfold pU k9
 simp only [bv,decide_eq_true_eq]
 constructor
 ·rintro ⟨⟨a,b⟩,c⟩;exact ⟨a,b,by omega⟩
 ·rintro ⟨a,b,c⟩;exact ⟨⟨a,b⟩,by omega⟩
structure Hu (n:bJ) (key:Bs) (kid:Int):Prop where
 right:bL n=true
 isKey:bF key=true
 high:(n.high==[] || lt key n.high)=true
 page:dE kid=true
 new:¬(0 < eC n.seps key/\n.seps[eC n.seps key - 1]? = some key)
 fit:k9 (ly n key kid (eC n.seps key))=true
theorem Xn {n:bJ} {key:Bs} {kid:Int} (h:Hu n key kid):bL (ly n key kid (eC n.seps key))=true:=by
 obtain ⟨hr,hk,hh,hp,hn,hf⟩:=h
 obtain ⟨r1,r2,r3,r4,r5⟩:=qM.1 hr
 obtain ⟨e1,e2,e3⟩:=rQ.1 r5
 have hle:=HQ n.seps key
 generalize hi:eC n.seps key=i at hn hf hle |-
 obtain ⟨A,hA⟩:∃A,A=n.seps.take i:=⟨_,rfl⟩
 obtain ⟨B,hB⟩:∃B,B=n.seps.drop i:=⟨_,rfl⟩
 have hAB:n.seps=A++B:=by rw [hA,hB,ig]
 have hAl:A.length=i:=by rw [hA,gq];omega
 rw [hAB,AP] at r3
 simp only [bv] at r3
 have hlast:lt (A.getLastD []) key=true:=by
  by_cases h0:A=[]
  ·rw [h0];exact qg hk
  ·have hi0:0 < i:=by
    rcases yv i with h | h
    ·rw [h] at hAl;exact (h0 (List.length_eq_zero_iff.1 hAl)).elim
    ·exact h
   have hg:=U2 h0 []
   rw [hAl] at hg
   have hg2:n.seps[i - 1]? = some (A.getLastD []):=by
    rw [hAB,db (by omega)];exact hg
   have h1:lt key (A.getLastD [])=false:=HS (l:=n.seps) (by omega) hg2
   refine m9 h1 fun e=>hn ⟨hi0,?_⟩
   rw [hg2,<-e]
 have hBr:d7 key B=true:=by
  cases hB2:B with
  | nil=>rfl
  | cons s r =>
   rw [hB2] at r3
   have r32:=r3.2
   simp only [d7,bv] at r32 |-
   have hs:n.seps[i]? = some s:=by
    rw [hAB,cY (by omega),hAl,iX,hB2];rfl
   have:lt key s=true:=HT (l:=n.seps) (by rw [hi];exact hs)
   exact ⟨⟨r32.1.1,this⟩,r32.2⟩
 have hseps:(ly n key kid i).seps=A++(key::B):=by
  show n.seps.take i++[key]++n.seps.drop i=_
  rw [<-hA,<-hB,bu];rfl
 refine qM.2 ⟨?_,?_,?_,?_,?_⟩
 ·show (n.kids.take (i+1)++[kid]++n.kids.drop (i+1)).length=(n.seps.take i++[key]++n.seps.drop i).length+1
  simp
  omega
 ·intro k hk'
  rcases bp.1 hk' with hk' | hk'
  ·rcases bp.1 hk' with hk' | hk'
   ·exact r2 k (mE hk')
   ·simp at hk';rw [hk'];exact hp
  ·exact r2 k (kD hk')
 ·rw [hseps,AP,d7,r3.1,hk,hlast,hBr];rfl
 ·rw [hseps,Ac,qi]
  show eJ (B.getLastD key) n.high=true
  rw [hAB,Ac] at r4
  cases hB2:B with
  | nil =>
   show eJ key n.high=true
   rw [hB2] at r4
   unfold eJ at r4 |-
   cases hz:n.high==[] with
   | true=>rfl
   | false =>
    rw [hz] at r4 hh
    simp only [iU,bv] at r4 hh |-
    exact ⟨r4.1,hh⟩
  | cons s r=>rw [hB2,qi] at r4;rw [qi];exact r4
 ·refine rQ.2 ⟨e1,e2,?_⟩
  unfold k9 at hf
  simp only [decide_eq_true_eq] at hf
  omega
theorem XL {p:Bs} {l:List Bs} (h:d7 p l=true):d7 [] l=true:=by
 cases l with
 | nil=>rfl
 | cons s r =>
  simp only [d7,bv] at h |-
  exact ⟨⟨h.1.1,qg h.1.1⟩,h.2⟩
theorem NL {n:bJ} (hr:bL n=true) (h3:3<=n.kids.length):∃A mid B,n.seps=A++mid::B/\A.length=n.seps.length / 2/\n.seps.getD (n.seps.length / 2) []=mid/\n.seps.take (n.seps.length / 2)=A/\n.seps.drop (n.seps.length / 2+1)=B:=by
 obtain ⟨r1,_⟩:=qM.1 hr
 have hm:n.seps.length / 2 < n.seps.length:=by omega
 generalize n.seps.length / 2=m at hm
 refine ⟨n.seps.take m,n.seps[m],n.seps.drop (m+1),?_,by simp;omega,?_,rfl,rfl⟩
 ·rw [<-rl hm,ig]
 ·simp [List.getD,bC hm]
theorem Zc {n:bJ} {to:Int} (hr:bL n=true) (h3:3<=n.kids.length) (ht:dE to=true):bL (tu n to)=true/\bL (tv n)=true:=by
 obtain ⟨A,mid,B,e1,e2,e3,e4,e5⟩:=NL hr h3
 obtain ⟨r1,r2,r3,r4,r5⟩:=qM.1 hr
 obtain ⟨g1,g2,g3⟩:=rQ.1 r5
 have ht2:=ve ht
 have hlen:n.seps.length=A.length+(B.length+1):=by rw [e1];simp
 have r3':=r3
 rw [e1,AP,d7] at r3'
 simp only [bv] at r3'
 obtain ⟨rA,⟨⟨kM,lM⟩,rB⟩⟩:=r3'
 have hz:cA n.seps=cA A+(3+mid.length+cA B):=by rw [e1,vH,cA]
 constructor
 ·refine qM.2 ⟨?_,?_,?_,?_,?_⟩
  ·show (n.kids.take _).length=(n.seps.take _).length+1
   simp;omega
  ·exact fun k hk=>r2 k (mE hk)
  ·show d7 [] (n.seps.take _)=true
   rw [e4];exact rA
  ·show eJ ((n.seps.take _).getLastD []) (n.seps.getD _ [])=true
   rw [e4,e3]
   unfold eJ
   rw [kM,lM]
   simp
  ·refine rQ.2 ⟨by show 0<=to+1;omega,by show to+1<=1024;omega,?_⟩
   show 23+cA (n.seps.take _)<=252
   rw [e4];omega
 ·refine qM.2 ⟨?_,?_,?_,?_,?_⟩
  ·show (n.kids.drop _).length=(n.seps.drop _).length+1
   simp;omega
  ·exact fun k hk=>r2 k (kD hk)
  ·show d7 [] (n.seps.drop _)=true
   rw [e5];exact XL rB
  ·show eJ ((n.seps.drop _).getLastD []) n.high=true
   rw [e5]
   rw [e1,Ac,qi] at r4
   cases B with
   | nil =>
    unfold eJ at r4 |-
    cases hq:n.high==[] with
    | true=>rfl
    | false =>
     rw [hq] at r4
     simp only [iU,bv] at r4 |-
     exact ⟨r4.1,qg r4.1⟩
   | cons s r=>rw [qi] at r4 |-;exact r4
  ·refine rQ.2 ⟨g1,g2,?_⟩
   show 23+cA (n.seps.drop _)<=252
   rw [e5];omega
abbrev Es:=List (Int × Bs)
def aZ (es:Es):List (V × V):=es.map fun x=>(V.int .i64 x.1,V.str x.2)
def cF:Es->Int->Option Bs
 | [],_=>none
 |(a,x)::es,p=>if p=a then some x else cF es p
def bk:Es->Int->Bs->Es
 | [],p,x=>[(p,x)]
 |(a,y)::es,p,x=>if p=a then (a,x)::es else (a,y)::bk es p x
def fo:Es->Int->Es
 | [],_=>[]
 |(a,y)::es,p=>if p=a then es else (a,y)::fo es p
theorem wP (p a:Int):dL (.int .i64 p) (.int .i64 a)=some (decide (p=a)):=by
 by_cases h:p=a
 ·subst h;simp [dL]
 ·rw [decide_eq_false h];simp [dL,h]
theorem ED (p:Int):∀es:Es,en (aZ es) (.int .i64 p)=some ((cF es p).map V.str)
 | []=>rfl
 |(a,x)::es=>by
  show ((dL (.int .i64 p) (.int .i64 a)).bind fun b=>if b then some (some (V.str x)) else en (aZ es) (.int .i64 p))=_
  rw [wP,aJ,ED p es,cF]
  by_cases h:p=a
  ·rw [decide_eq_true h,if_pos h];rfl
  ·rw [decide_eq_false h,if_neg h];rfl
theorem EI (p:Int) (b:Bs):∀es:Es,ix (aZ es) (.int .i64 p) (.str b)=some (aZ (bk es p b))
 | []=>rfl
 |(a,x)::es=>by
  show ((dL (.int .i64 p) (.int .i64 a)).bind fun q=>if q then some ((V.int .i64 a,V.str b)::aZ es) else (ix (aZ es) (.int .i64 p) (.str b)).map ((V.int .i64 a,V.str x)::·))=_
  rw [wP,aJ,EI p b es,bk]
  by_cases h:p=a
  ·rw [decide_eq_true h,if_pos h];rfl
  ·rw [decide_eq_false h,if_neg h];rfl
theorem Lc (p:Int):∀es:Es,lr (aZ es) (.int .i64 p)=some (aZ (fo es p))
 | []=>rfl
 |(a,x)::es=>by
  show ((dL (.int .i64 p) (.int .i64 a)).bind fun q=>if q then some (aZ es) else (lr (aZ es) (.int .i64 p)).map ((V.int .i64 a,V.str x)::·))=_
  rw [wP,aJ,Lc p es,fo]
  by_cases h:p=a
  ·rw [decide_eq_true h,if_pos h];rfl
  ·rw [decide_eq_false h,if_neg h];rfl
def aM (es:Es):List Int:=es.map (·.1)
theorem se {p:Int}:∀{es:Es},cF es p=none↔p∉aM es
 | []=>by simp [cF,aM]
 |(a,x)::es=>by
  rw [cF]
  by_cases h:p=a
  ·rw [if_pos h];simp [aM,h]
  ·rw [if_neg h,se];simp [aM,h]
theorem ja {p:Int} {b:Bs}:∀{es:Es},(aM es).Nodup->(p,b)∈es->cF es p=some b
 |(a,x)::es,hn,h=>by
  have hn:=tN.1 hn
  rw [cF]
  rcases bP.1 h with h1 | h1
  ·cases h1;rw [if_pos rfl]
  ·have hp:p∈aM es:=List.mem_map_of_mem (f:=(·.1)) h1
   rw [if_neg (fun e:p=a=>hn.1 (e ▸ hp))]
   exact ja hn.2 h1
theorem Mi {p:Int} {b b':Bs} {B:Es}:∀{A:Es},p∉aM A->bk (A++(p,b)::B) p b'=A++(p,b')::B
 | [],_=>if_pos rfl
 |(a,x)::A,h=>by
  have h1:p≠a:=fun e=>h (by simp [aM,e])
  rw [dv,bk,if_neg h1,Mi fun q=>h (by simp only [aM,dj,bP];exact .inr q)]
  rfl
theorem s6 {p:Int} {b:Bs}:∀{es:Es},p∉aM es->bk es p b=es++[(p,b)]
 | [],_=>rfl
 |(a,x)::es,h=>by
  have h1:p≠a:=fun e=>h (by simp [aM,e])
  rw [bk,if_neg h1,s6 fun q=>h (by simp only [aM,dj,bP];exact .inr q)]
  rfl
theorem Iw {p:Int} {b:Bs} {B:Es}:∀{A:Es},p∉aM A->fo (A++(p,b)::B) p=A++B
 | [],_=>if_pos rfl
 |(a,x)::A,h=>by
  have h1:p≠a:=fun e=>h (by simp [aM,e])
  rw [dv,fo,if_neg h1,Iw fun q=>h (by simp only [aM,dj,bP];exact .inr q)]
  rfl
theorem L5 {es r:Es} {p:Int} {b:Bs} (hn:(aM es).Nodup) (h:es.Perm ((p,b)::r)):∃A B,es=A++(p,b)::B/\r.Perm (A++B)/\p∉aM A:=by
 obtain ⟨A,B,rfl⟩:=List.append_of_mem (h.mem_iff.2 (cB ..))
 refine ⟨A,B,rfl,((h.symm.trans n4).cons_inv),?_⟩
 unfold aM at hn
 rw [gJ] at hn
 have:=(yq.1 hn).2.2
 intro hp
 exact this p hp p (by simp) rfl
theorem mY {es r:Es} {p:Int} {b:Bs} (hn:(aM es).Nodup) (h:es.Perm ((p,b)::r)):cF es p=some b:=ja hn (h.mem_iff.2 (cB ..))
theorem jI {es r:Es} {p:Int} {b b':Bs} (hn:(aM es).Nodup) (h:es.Perm ((p,b)::r)):(bk es p b').Perm ((p,b')::r):=by
 obtain ⟨A,B,rfl,h2,h3⟩:=L5 hn h
 rw [Mi h3]
 exact List.perm_middle.trans (h2.symm.cons _)
theorem Cp {es r:Es} {p:Int} {b:Bs} (hn:(aM es).Nodup) (h:es.Perm ((p,b)::r)):(fo es p).Perm r:=by
 obtain ⟨A,B,rfl,h2,h3⟩:=L5 hn h
 rw [Iw h3]
 exact h2.symm
theorem nF {es:Es} {p:Int} {b:Bs} (h:p∈aM es):aM (bk es p b)=aM es:=by
 induction es with
 | nil=>simp [aM] at h
 | cons x es ih =>
  obtain ⟨a,x⟩:=x
  rw [bk]
  by_cases e:p=a
  ·rw [if_pos e];rfl
  ·rw [if_neg e]
   have h:p∈aM es:=by
    rcases bP.1 h with h | h
    ·exact absurd h e
    ·exact h
   show a::aM (bk es p b)=a::aM es
   rw [ih h]
def aN (es:Es) (k:Nat):Bool:=decide ((k:Int)∈aM es)
theorem ZK {es es':Es} (h:∀p,p∈aM es↔p∈aM es'):aN es=aN es':=by
 funext k
 unfold aN
 by_cases hk:(k:Int)∈aM es
 ·rw [decide_eq_true hk,decide_eq_true ((h _).1 hk)]
 ·rw [decide_eq_false hk,decide_eq_false fun q=>hk ((h _).2 q)]
structure bX (n:Nat) (es:Es):Prop where
 le:n<=1024
 nd:(aM es).Nodup
 rng:∀p∈aM es,0<=p/\p < (n:Int)
theorem Ls:∀{l:List Int},l.Nodup->(∀p∈l,0<=p)->(l.map Int.toNat).Nodup
 | [],_,_=>BK
 | a::l,h,h0=>by
  have h:=tN.1 h
  rw [dj]
  refine tN.2 ⟨fun q=>?_,Ls h.2 fun p hp=>h0 p (by simp [hp])⟩
  obtain ⟨b,hb,e⟩:=dP.1 q
  have h1:=h0 a (by simp)
  have h2:=h0 b (by simp [hb])
  have:a=b:=by omega
  exact h.1 (this ▸ hb)
theorem Tf {p:Nat->Bool} {l:List Nat} (h:l.Nodup):(l.filter p).Nodup:=List.Pairwise.filter p h
theorem tA {n:Nat} {es:Es} (h:bX n es):(ew n (aN es)).length=es.length:=by
 unfold ew
 rw [dO]
 have hn:=Ls h.nd fun p hp=>(h.rng p hp).1
 have:((dl n).filter (aN es)).Perm ((aM es).map Int.toNat):=by
  rw [OO (Tf List.nodup_range) hn]
  intro k
  rw [mD,dP,yp]
  unfold aN
  rw [decide_eq_true_eq]
  constructor
  ·rintro ⟨_,hk⟩
   exact ⟨_,hk,by simp⟩
  ·rintro ⟨q,hq,rfl⟩
   have:=h.rng q hq
   have e:((q.toNat:Nat):Int)=q:=by omega
   rw [e]
   exact ⟨by omega,hq⟩
 rw [this.length_eq,dO,aM,dO]
theorem ql {n:Nat} {es:Es} (h:bX n es):es.length<=n:=by rw [<-tA h];exact N3 _ _
theorem DD {n:Nat} {es:Es} (h:bX n es) (hl:es.length < n):∃k,k < n/\k8 n (aN es)=some k/\(k:Int)∉aM es:=by
 cases hf:k8 n (aN es) with
 | none =>
  unfold k8 at hf
  rw [List.find?_eq_none] at hf
  have hall:(dl n).filter (aN es)=dl n:=Hc.2 fun k hk=>by
   have:=hf k hk
   simpa using this
  have:=tA h
  unfold ew at this
  rw [hall,dO,yn] at this
  omega
 | some k =>
  have h1:=List.mem_of_find?_eq_some hf
  have h2:=List.find?_some hf
  refine ⟨k,by simpa using h1,rfl,?_⟩
  simp only [aN,iC,decide_eq_false_iff_not] at h2
  exact h2
theorem jl {n:Nat} {es:Es} (h:bX n es) {p:Int} {b:Bs} (hp:p∈aM es):bX n (bk es p b):=by
 refine ⟨h.le,?_,?_⟩
 ·rw [nF hp];exact h.nd
 ·rw [nF hp];exact h.rng
theorem qh {es:Es} {p:Int} {b:Bs} (h:p∉aM es):aM (bk es p b)=aM es++[p]:=by
 rw [s6 h];simp [aM]
theorem vx {n:Nat} {es:Es} (h:bX n es) {k:Nat} (hk:k < n) (hp:(k:Int)∉aM es) {b:Bs}:bX n (bk es k b):=by
 refine ⟨h.le,?_,?_⟩
 ·rw [qh hp]
  refine yq.2 ⟨h.nd,by simp,?_⟩
  intro a ha b hb e
  have:b=(k:Int):=by simpa using hb
  exact hp (this ▸ e ▸ ha)
 ·rw [qh hp]
  intro p hq
  rcases bp.1 hq with hq | hq
  ·exact h.rng p hq
  ·have:p=(k:Int):=by simpa using hq
   omega
abbrev sM (n:Nat) (es:Es):List O:=sm (n:Int) (aZ es) (aL n (aN es))
theorem s8 {n:Nat} {es:Es} (h:bX n es) {p:Int} {b:Bs} (hg:cF es p=some b):bN aA aH 58 [.ptr 0 0 0,.int .i64 p] (sM n es)=some (ky (sM n es) (b,0)):=by
 have hp:p∈aM es:=Classical.byContradiction fun q=>by rw [se.2 q] at hg;cases hg
 have hr:=h.rng p hp
 refine Jh _ _ _ _ (o:=.doneM (.tup [.str b,.int .i64 0]) (sM n es)) ?_ (.done (by kernel_rfl))
 unfold C2
 have hm:en (aZ es) (.int .i64 p)=some (some (.str b)):=by rw [ED,hg];rfl
 rw [decide_eq_false (by omega),cond_false,decide_eq_false (by omega),cond_false,VL hm,eO]
theorem Ox {n:Nat} {es:Es} (h:bX n es) {p:Int} {b b':Bs} (hg:cF es p=some b) (hb:b'.length<=252):bN aA aH 119 [.ptr 0 0 0,.int .i64 p,.str b'] (sM n es)=some (qu (0,n,aZ (bk es p b'),aL n (aN (bk es p b')))):=by
 have hp:p∈aM es:=Classical.byContradiction fun q=>by rw [se.2 q] at hg;cases hg
 have ht:aN (bk es p b')=aN es:=ZK fun q=>by rw [nF hp]
 rw [ht]
 refine Q6 _ _ _ _ _ (o:=.doneM (.int .i64 0) (sm n (aZ (bk es p b')) (aL n (aN es)))) ?_ (.done (by kernel_rfl))
 unfold II
 rw [cU oL (s8 h hg),bY,d0 rfl,cond_false,decide_eq_false (by omega),cond_false,EI,iy]
theorem Bm {n:Nat} {es:Es} (h:bX n es) {k:Nat} (hk:k8 n (aN es)=some k) (hq:(k:Int)∉aM es):bN aA aH 84 [.ptr 0 0 0] (sM n es)=some (lw (k,0,n,aZ (bk es k []),aL n (aN (bk es k [])))):=by
 have ht:aN (bk es k [])=eA (aN es) k true:=by
  funext j
  unfold eA aN
  rw [qh hq]
  by_cases e:j=k
  ·rw [if_pos e,decide_eq_true];simp [e]
  ·rw [if_neg e]
   by_cases hj:(j:Int)∈aM es
   ·rw [decide_eq_true hj,decide_eq_true];simp [hj]
   ·rw [decide_eq_false hj,decide_eq_false]
    intro hc
    rcases bp.1 hc with hc | hc
    ·exact hj hc
    ·have:(j:Int)=(k:Int):=by simpa using hc
     omega
 rw [ht]
 refine SH _ _ _ (o:=.doneM (.tup [.int .i64 (k:Int),.int .i64 0]) (sm n (aZ (bk es k [])) (aL n (eA (aN es) k true)))) ?_ (.done (by kernel_rfl))
 unfold Jl
 rw [cz Ll (ZD n h.le (aN es) k hk),dV rfl,cond_true,EI,iy]
theorem zL {n:Nat} {es:Es} (h:bX n es):bN aA aH 44 [.ptr 0 0 0] (sM n es)=some (ni (sM n es) ((n - es.length:Nat):Int)):=by
 refine Sf _ _ _ (o:=.doneM (.int .i64 ((n - es.length:Nat):Int)) (sM n es)) ?_ (.done (by kernel_rfl))
 unfold Ja
 rw [cU V8 (TE n h.le (aN es)),bY,zJ,tA h]
abbrev Su:=List (Int × Bs)
def aP (e:Su):Bs:=(e.getLastD (0,[])).2
abbrev aD (e:Su) (nx:Int):bJ:=⟨e.dropLast.map (·.2),e.map (·.1),aP e,nx⟩
theorem fU (a:Su) {b:Su} (h:b≠[]):aP (a++b)=aP b:=by
 unfold aP
 rw [BJ,BJ,List.getLast?_append]
 cases hb:b.getLast? with
 | none=>exact absurd (List.getLast?_eq_none_iff.1 hb) h
 | some x=>rfl
theorem kq (x:Int × Bs) {b:Su} (h:b≠[]):aP (x::b)=aP b:=fU [x] h
theorem pS (a:Su) (x:Int × Bs) (b:Su):(a++x::b).dropLast=a++(x::b).dropLast:=Hb (by simp)
theorem Bc {e:Su}:(e.dropLast.map (·.2)).length=e.length - 1:=by simp
theorem Iq (k:Bs):∀(e:Su),e≠[]->∃e1 p h e2,e=e1++(p,h)::e2/\eC (e.dropLast.map (·.2)) k=e1.length/\(∀y∈e1,lt k y.2=false)/\(e2≠[]->lt k h=true)
 | [],h=>absurd rfl h
 | [(p,h)],_=>⟨[],p,h,[],rfl,rfl,by simp,by simp⟩
 |(p,h)::y::r,_=>by
  rw [List.dropLast_cons_cons,dj,rD]
  cases hk:lt k h with
  | true=>exact ⟨[],p,h,y::r,rfl,by simp,by simp,fun _=>hk⟩
  | false =>
   obtain ⟨e1,p',h',e2,e,h1,h2,h3⟩:=Iq k (y::r) (by simp)
   refine ⟨(p,h)::e1,p',h',e2,by rw [e];rfl,by rw [h1];simp,?_,h3⟩
   intro z hz
   rcases bP.1 hz with rfl | hz
   ·exact hk
   ·exact h2 z hz
theorem HR (k:Bs):∀(e1:Su) (p:Int) (h:Bs) (e2:Su),(∀y∈e1,lt k y.2=false)->(e2≠[]->lt k h=true)->eC ((e1++(p,h)::e2).dropLast.map (·.2)) k=e1.length
 | [],p,h,[],_,_=>rfl
 | [],p,h,y::r,_,h2=>by
  rw [dU,List.dropLast_cons_cons,dj,rD,h2 (by simp)];rfl
 | x::e1,p,h,e2,h1,h2=>by
  have ih:=HR k e1 p h e2 (fun y hy=>h1 y (by simp [hy])) h2
  have:((x::e1)++(p,h)::e2).dropLast=x::(e1++(p,h)::e2).dropLast:=by
   cases e1 with
   | nil=>rfl
   | cons z t=>rfl
  rw [this,dj,rD,h1 x (by simp),ih]
  rfl
theorem mi {α:Type} (a b:List α) {n:Nat} (h:a.length=n):(a++b).take n=a:=by subst h;exact List.take_left ..
theorem pR {α:Type} (a b:List α) {n:Nat} (h:a.length=n):(a++b).drop n=b:=by subst h;exact List.drop_left ..
theorem z6 (e1:Su) (p:Int) (h:Bs) (e2:Su) (k:Bs) (to nx:Int):ly (aD (e1++(p,h)::e2) nx) k to e1.length=aD (e1++(p,k)::(to,h)::e2) nx:=by
 have hl1:(e1.map (·.2)).length=e1.length:=by simp
 have hm:List.map (·.1) (e1++(p,h)::e2)=(e1.map (·.1)++[p])++e2.map (·.1):=by simp
 have hl2:(e1.map (·.1)++[p]).length=e1.length+1:=by simp
 unfold ly aD
 simp only
 rw [hm,mi _ _ hl2,pR _ _ hl2,pS,pS]
 cases e2 with
 | nil =>
  have e5:[(p,h)].dropLast=[]:=rfl
  have e6:[(p,k),(to,h)].dropLast=[(p,k)]:=rfl
  have a1:aP (e1++[(p,h)])=h:=(fU e1 (by simp)).trans rfl
  have a2:aP (e1++[(p,k),(to,h)])=h:=(fU e1 (by simp)).trans rfl
  rw [e5,e6,a1,a2,dA,kE (by simp),pq (by simp)]
  simp
 | cons y r =>
  have e3:((p,h)::y::r).dropLast=(p,h)::(y::r).dropLast:=rfl
  have e4:((p,k)::(to,h)::y::r).dropLast=(p,k)::(to,h)::(y::r).dropLast:=rfl
  have a1:aP (e1++(p,h)::y::r)=aP (y::r):=(fU e1 (by simp)).trans (kq _ (by simp))
  have a2:aP (e1++(p,k)::(to,h)::y::r)=aP (y::r):=(fU e1 (by simp)).trans ((kq _ (by simp)).trans (kq _ (by simp)))
  rw [e3,e4,a1,a2,gJ,mi _ _ hl1,pR _ _ hl1]
  simp
theorem Y9 (ea eb:Su) (hb:eb≠[]) (to nx:Int) (hm:(aD (ea++eb) nx).seps.length / 2+1=ea.length):tu (aD (ea++eb) nx) to=aD ea (to+1)/\tv (aD (ea++eb) nx)=aD eb nx:=by
 have hsl:(aD (ea++eb) nx).seps.length=(ea++eb).length - 1:=Bc
 obtain ⟨a',x,rfl⟩:∃a' x,ea=a'++[x]:=by
  rcases d9 ea with h | ⟨l,x,h⟩
  ·subst h;simp at hm
  ·exact ⟨l,x,by simpa using h⟩
 have hm':(aD (a'++[x]++eb) nx).seps.length / 2=a'.length:=by simp at hm |-;omega
 have hd:(a'++[x]++eb).dropLast=a'++x::eb.dropLast:=by
  rw [Hb hb];simp
 have hda:(a'++[x]).dropLast=a':=by simp
 have hs:(aD (a'++[x]++eb) nx).seps=a'.map (·.2)++x.2::eb.dropLast.map (·.2):=by
  show (a'++[x]++eb).dropLast.map (·.2)=_
  rw [hd];simp
 have hk:(aD (a'++[x]++eb) nx).kids=(a'.map (·.1)++[x.1])++eb.map (·.1):=by
  show (a'++[x]++eb).map (·.1)=_
  simp
 constructor
 ·unfold tu
  rw [hm',hs,hk]
  refine congr (congr (congr (congrArg bJ.mk ?_) ?_) ?_) rfl
  ·rw [hda];simp
  ·rw [vW (by simp),kE (by simp)];simp
  ·rw [fU _ (by simp)]
   simp [aP]
 ·unfold tv
  rw [hm',hs,hk]
  refine congr (congr (congr (congrArg bJ.mk ?_) ?_) ?_) rfl
  ·rw [rk];simp
  ·rw [rk];simp
  ·show aP (a'++[x]++eb)=aP eb
   rw [fU _ hb]
def aW {α:Type}:List (Int × α)->Int->Int
 | [],n=>n
 |(q,_)::_,_=>q+1
def bg {α:Type} (f:α->Int->Bs):List (Int × α)->Int->Es
 | [],_=>[]
 |(p,x)::r,n=>(p,f x (aW r n))::bg f r n
def cH {α:Type} (g:α->Int->Prop):List (Int × α)->Int->Prop
 | [],_=>True
 |(p,x)::r,n=>g x (aW r n)/\cH g r n
section
variable {α:Type} {f:α->Int->Bs} {g:α->Int->Prop}
theorem LB:∀(a b:List (Int × α)) (n:Int),aW (a++b) n=aW a (aW b n)
 | [],_,_=>rfl
 | _::_,_,_=>rfl
theorem i6:∀(a b:List (Int × α)) (n:Int),bg f (a++b) n=bg f a (aW b n)++bg f b n
 | [],_,_=>rfl
 |(p,x)::a,b,n=>by rw [dv,bg,bg,i6 a b n,LB];rfl
theorem fA:∀(a b:List (Int × α)) (n:Int),cH g (a++b) n↔cH g a (aW b n)/\cH g b n
 | [],b,n=>by simp [cH]
 |(p,x)::a,b,n=>by rw [dv,cH,cH,fA a b n,LB,and_assoc]
theorem Er:∀(a:List (Int × α)) (n:Int),aM (bg f a n)=a.map (·.1)
 | [],_=>rfl
 |(p,x)::a,n=>by
  show p::aM (bg f a n)=_
  rw [Er a n];rfl
end
abbrev nV:=List Pr × Bs
abbrev LL:=List (Int × nV)
abbrev IL:=List (Int × Su)
def cI (x:nV) (nx:Int):Bs:=bA ⟨x.1,x.2,nx⟩
def br (e:Su) (nx:Int):Bs:=cD (aD e nx)
def okF (x:nV) (nx:Int):Prop:=cE ⟨x.1,x.2,nx⟩=true
def okI (e:Su) (nx:Int):Prop:=e≠[]/\bL (aD e nx)=true
def bS (b:LL):Su:=b.map fun x=>(x.1,x.2.2)
def bw (l:IL):Su:=l.map fun x=>(x.1,aP x.2)
def bc (l:IL):Su:=l.flatMap (·.2)
inductive Dn:Su->List IL->LL->Prop
 | leaf (b:LL):Dn (bS b) [] b
 | inn (l:IL) (d:List IL) (b:LL):Dn (bc l) d b->Dn (bw l) (l::d) b
inductive iF (r:Int):List IL->Int->Bs->Su->Su->List (Int × Su × Int × Nat)->Prop
 | top:iF r [] r [] [] [] []
 | st {up:List IL} {q:Int} {e1:Su} {p:Int} {h:Bs} {e2:Su} {pre post:IL} {sts:List (Int × Su × Int × Nat)} :
  iF r up q (aP (e1++(p,h)::e2)) (bw pre) (bw post) sts ->
  iF r ((pre++(q,e1++(p,h)::e2)::post)::up) p h (bc pre++e1) (e2++bc post) ((q,e1++(p,h)::e2,aW post 0,e1.length)::sts)
theorem E0 {r:Int} {up:List IL} {p:Int} {h:Bs} {a c:Su} {sts:List (Int × Su × Int × Nat)} (hp:iF r up p h a c sts):∀{d:List IL} {b:LL},Dn (a++(p,h)::c) d b->Dn [(r,[])] (up.reverse++d) b:=by
 induction hp with
 | top=>intro d b h;exact h
 | @st up q e1 p h e2 pre post sts _ ih =>
  intro d b hd
  have e:bc pre++e1++(p,h)::(e2++bc post)=bc (pre++(q,e1++(p,h)::e2)::post):=by simp [bc]
  rw [e] at hd
  have:=Dn.inn _ _ _ hd
  have e':bw (pre++(q,e1++(p,h)::e2)::post)=bw pre++(q,aP (e1++(p,h)::e2))::bw post:=by simp [bw]
  rw [e'] at this
  have:=ih this
  rwa [mF,bu]
def aC (a b:Bs):Prop:=a≠[]/\(b=[]∨lt a b=true)
def iY (b:LL):Prop:=b.Pairwise fun y z=>aC y.2.2 z.2.2/\∀x∈z.2.1,lt x.1 y.2.2=false
theorem DZ {a b c:Bs} (h1:aC a b) (h2:aC b c):aC a c:=by
 refine ⟨h1.1,?_⟩
 rcases h2.2 with h | h
 ·exact .inl h
 ·rcases h1.2 with h' | h'
  ·exact absurd h' h2.1
  ·exact .inr (lt_trans h' h)
theorem Vw {k a b:Bs} (h:lt k a=true) (h2:aC a b):b=[]∨lt k b=true:=by
 rcases h2.2 with h' | h'
 ·exact .inl h'
 ·exact .inr (lt_trans h h')
theorem KM {k a b:Bs} (h:lt k b=false) (h2:lt a b=true):lt k a=false:=by
 cases h':lt k a with
 | false=>rfl
 | true=>rw [lt_trans h' h2] at h;cases h
theorem NR:∀(l:IL),(∀x∈l,x.2≠[])->((bw l).map (·.2)).Sublist ((bc l).map (·.2))
 | [],_=>.slnil
 |(p,e)::l,h=>by
  have ih:=NR l fun x hx=>h x (by simp [hx])
  have he:e≠[]:=h (p,e) (by simp)
  obtain ⟨a',x,rfl⟩:∃a' x,e=a'++[x]:=by
   rcases d9 e with h | ⟨l,x,h⟩
   ·exact absurd h he
   ·exact ⟨l,x,by simpa using h⟩
  have e1:bc ((p,a'++[x])::l)=a'++x::bc l:=by simp [bc]
  have e2:bw ((p,a'++[x])::l)=(p,x.2)::bw l:=by
   simp [bw,aP]
  rw [e1,e2,gJ,dj,dj]
  exact (ih.cons_cons _).trans (List.sublist_append_right ..)
theorem Db {m:bJ} (h:bL m=true):(cD m).length<=252:=by
 have h1:=Dd h
 obtain ⟨_,_,_,h4,_,_,h7⟩:=nJ h
 unfold jm at h1
 omega
theorem SX {l:Lf} (h:cE l=true):(bA l).length<=252:=by
 have g:=qa h
 have h1:=Dc l
 have h2:=g.wt;have h3:=g.high
 unfold gQ at h1
 omega
theorem Qz {m:bJ} (h:bL m=true):bK aA 130 [.str (cD m)]=some (.tup [eI m,.int .i64 0]):=by
 have h1:=Dd h
 have h2:=Db h
 have:=WM h 0 (by omega)
 rw [show eV 0=[] from rfl,dA] at this
 rw [QE _ (by rw [cT];omega),this]
 rfl
theorem SV {m:bJ} (h:bL m=true):(cD m)[0]? = some 78:=by
 unfold cD
 rw [if_pos h]
 rfl
theorem QA {s:Bs} (hs:s.length<=252) (h:s[0]? = some 78):bK aA 129 [.str s]=some (.tup [eL sw,.int .i64 4]):=by
 have hsm:cT s:=by rw [cT];omega
 have hr:bK aA 175 [.str s]=some (.tup [.agg [.sl [],.str [],.int .i64 0],.int .i64 0,.bool false]):=by
  refine I3 _ ?_ (.refl _)
  unfold CP
  obtain ⟨x1,e1,h1⟩:∃x e,fI s 1 1=(x,e):=⟨_,_,rfl⟩
  obtain ⟨x2,e2,h2⟩:∃x e,fI s 2 2=(x,e):=⟨_,_,rfl⟩
  obtain ⟨t,m,e3,h3⟩:∃t m e,f9 s 4=(t,m,e):=⟨_,_,_,rfl⟩
  rw [aK (iN h1 hsm),iK,aK (iN h2 hsm),iK,aK (jo h3 hsm),gw]
  cases e1 != (0:Int) with
  | true=>rfl
  | false =>
   cases e2 != (0:Int) with
   | true=>rfl
   | false =>
    cases e3 != (0:Int) with
    | true=>rfl
    | false =>
     rw [cond_false,cond_false,cond_false,dk h]
     rfl
 refine IR _ ?_
 unfold zq
 rw [decide_eq_false (by omega),cond_false,aK hr,Iu]
 rfl
theorem Ax {p:Int} {x:nV}:∀{pre post:LL} {n:Int},cH okF (pre++(p,x)::post) n->okF x (aW post n):=fun h=>((fA _ _ _).1 h).2.1
theorem lx {p:Int} {x:Su}:∀{pre post:IL} {n:Int},cH okI (pre++(p,x)::post) n->okI x (aW post n):=fun h=>((fA _ _ _).1 h).2.1
theorem EC {α:Type} {f:α->Int->Bs} (pre:List (Int × α)) (p:Int) (x:α) (post:List (Int × α)) (n:Int):(p,f x (aW post n))∈bg f (pre++(p,x)::post) n:=by
 rw [i6,bg];simp
theorem iL {s:Su} {b:LL} (h:Dn s [] b):s=bS b:=by cases h;rfl
theorem gk {s:Su} {l:IL} {d:List IL} {b:LL} (h:Dn s (l::d) b):s=bw l/\Dn (bc l) d b:=by cases h;exact ⟨rfl,‹_›⟩
theorem Qx {b:LL} {a c:Su} {p:Int} {h:Bs} (e:a++(p,h)::c=bS b):∃pre prs post,b=pre++(p,prs,h)::post/\a=bS pre/\c=bS post:=by
 unfold bS at e
 obtain ⟨pre,b2,rfl,h1,h2⟩:=List.map_eq_append_iff.1 e.symm
 obtain ⟨x,post,rfl,h3,h4⟩:=List.map_eq_cons_iff.1 h2
 obtain ⟨q,prs,hh⟩:=x
 simp only [Prod.mk.injEq] at h3
 obtain ⟨rfl,rfl⟩:=h3
 exact ⟨pre,prs,post,rfl,h1.symm,h4.symm⟩
theorem Qw {l:IL} {a c:Su} {p:Int} {h:Bs} (e:a++(p,h)::c=bw l):∃pre x post,l=pre++(p,x)::post/\aP x=h/\a=bw pre/\c=bw post:=by
 unfold bw at e
 obtain ⟨pre,b2,rfl,h1,h2⟩:=List.map_eq_append_iff.1 e.symm
 obtain ⟨x,post,rfl,h3,h4⟩:=List.map_eq_cons_iff.1 h2
 obtain ⟨q,x⟩:=x
 simp only [Prod.mk.injEq] at h3
 obtain ⟨rfl,rfl⟩:=h3
 exact ⟨pre,x,post,rfl,rfl,h1.symm,h4.symm⟩
def HP (s:Su):Prop:=s.Pairwise fun a b=>aC a.2 b.2
theorem Kk {s:Su}:HP s↔(s.map (·.2)).Pairwise aC:=List.pairwise_map.symm
theorem EN {α:Type} {g:α->Int->Prop}:∀{l:List (Int × α)} {n:Int},cH g l n->∀x∈l,∃m,g x.2 m
 |(p,y)::l,n,h,x,hx=>by
  rcases bP.1 hx with rfl | hx
  ·exact ⟨_,h.1⟩
  ·exact EN h.2 x hx
theorem ia {l:IL} {n:Int} (h:cH okI l n):∀x∈l,x.2≠[]:=fun x hx=>let ⟨_,h⟩:=EN h x hx;h.1
theorem zS {l:IL} (hn:∀x∈l,x.2≠[]) (h:HP (bc l)):HP (bw l):=Kk.2 (List.Pairwise.sublist (NR l hn) (Kk.1 h))
theorem zm:∀{d:List IL} {s:Su} {b:LL},Dn s d b->(∀l∈d,∀x∈l,x.2≠[])->HP (bS b)->HP s
 | [],s,b,hd,_,h=>by rw [iL hd];exact h
 | l::d,s,b,hd,hn,h=>by
  obtain ⟨e,hd⟩:=gk hd
  rw [e]
  exact zS (hn l (by simp)) (zm hd (fun l' hl=>hn l' (by simp [hl])) h)
theorem AA {b:LL} (h:iY b):HP (bS b):=by
 unfold HP bS
 rw [Hj]
 exact h.imp fun h=>h.1
theorem UX {k:Bs} {pre:IL} (hn:∀x∈pre,x.2≠[]) (hP:HP (bc pre)) (h0:∀y∈bw pre,y.2≠[]) (hk:∀y∈bw pre,lt k y.2=false):∀y∈bc pre,lt k y.2=false:=by
 intro y hy
 obtain ⟨z,hz,hy⟩:=gK.1 hy
 have hzs:(z.1,aP z.2)∈bw pre:=dP.2 ⟨z,hz,rfl⟩
 have h1:=h0 _ hzs
 have h2:=hk _ hzs
 have hP:HP z.2:=(List.pairwise_flatMap.1 hP).1 z hz
 obtain ⟨a',x,e⟩:∃a' x,z.2=a'++[x]:=by
  rcases d9 z.2 with h | ⟨l,x,h⟩
  ·exact absurd h (hn z hz)
  ·exact ⟨l,x,by simpa using h⟩
 rw [e] at hy hP h1 h2
 have ex:aP (a'++[x])=x.2:=fU a' (by simp)
 simp only [ex] at h1 h2
 rcases bp.1 hy with hy | hy
 ·have:=(dJ.1 hP).2.2 y hy x (by simp)
  exact KM h2 (this.2.resolve_left h1)
 ·have:y=x:=by simpa using hy
  rw [this];exact h2
theorem T7 {a c:Su} {x:Int × Bs} (h:HP (a++x::c)):∀y∈a,y.2≠[]:=fun y hy=>((dJ.1 h).2.2 y hy x (by simp)).1
abbrev tM (r:Int) (n:Nat) (es:Es):List O:=tm r (n:Int) (aZ es) (aL n (aN es))
theorem Xx {r:Int} {n:Nat} {es:Es} (h:bX n es) {p:Int} {l:Lf} (hg:cF es p=some (bA l)) (hr:cE l=true):bN aA aH 82 [.ptr 0 0 0,.int .i64 p] (tM r n es)=some (fp (tM r n es) (bq l.prs,l.high,l.next)):=by
 refine C9 _ _ _ _ _ (o:=.doneM (.ifc 120 (eL l)) (tM r n es++[O.row 41 [] 0,O.box 120 (eL l) false])) ?_ (.done (by kernel_rfl))
 unfold zw
 rw [cU oL (s8 h hg),bY,d0 rfl,cond_false,aK (QB _ hr),lK,dV rfl,cond_true]
theorem Xw {r:Int} {n:Nat} {es:Es} (h:bX n es) {p:Int} {m:bJ} (hg:cF es p=some (cD m)) (hr:bL m=true):bN aA aH 82 [.ptr 0 0 0,.int .i64 p] (tM r n es)=some (fq (tM r n es) (aV m.seps,aB m.kids,m.high,m.next)):=by
 refine C9 _ _ _ _ _ (o:=.doneM (.ifc 150 (eI m)) (tM r n es++[O.row 41 [] 0,O.box 120 (eL sw) false,O.row 9 [] 0,O.row 3 [] 0,O.box 150 (eI m) false])) ?_ (.done (by kernel_rfl))
 unfold zw
 rw [cU oL (s8 h hg),bY,d0 rfl,cond_false,aK (QA (Db hr) (SV hr)),lK,eK (by decide),cond_false,aK (Qz hr),uy,dV rfl,cond_true]
section
variable {r:Int} {n:Nat} {es:Es} {p:Int}
theorem qK (h:bX n es) {l:Lf} (hg:cF es p=some (bA l)) (hr:cE l=true) {k:List V × List UInt8 × Int->R} {k2:List V × List V × List UInt8 × Int->R} {k3:Unit->R} :
  fV aA aH (fp (tM r n es)) (fq (tM r n es)) (fK (tM r n es)) 82 [.ptr 0 0 0,.int .i64 p] (tM r n es) k k2 k3=k (bq l.prs,l.high,l.next):=Ud (V1 _) (Xx h hg hr)
theorem oU (h:bX n es) {m:bJ} (hg:cF es p=some (cD m)) (hr:bL m=true) {k:List V × List UInt8 × Int->R} {k2:List V × List V × List UInt8 × Int->R} {k3:Unit->R} :
  fV aA aH (fp (tM r n es)) (fq (tM r n es)) (fK (tM r n es)) 82 [.ptr 0 0 0,.int .i64 p] (tM r n es) k k2 k3=k2 (aV m.seps,aB m.kids,m.high,m.next):=Ue (V2 _) (V3 _) (Xw h hg hr)
theorem pf (h:bX n es) {b:Bs} {l:Lf} (hg:cF es p=some b) (hr:cE l=true):bN aA aH 78 [.ptr 0 0 0,.int .i64 p,.ifc 120 (eL l)] (tM r n es)=some (eo (r,n,aZ (bk es p (bA l)),aL n (aN (bk es p (bA l))))):=by
 refine SB _ _ _ _ _ _ _ _ (o:=.doneM (.tup []) (tM r n (bk es p (bA l))++[O.row 41 [] 0,O.box 120 (eL l) false])) ?_ (.done (by kernel_rfl))
 unfold Ji
 rw [aK (Jy _ hr),eO,cz Lh (Ox h hg (SX hr))]
theorem qZ (h:bX n es) {b:Bs} {m:bJ} (hg:cF es p=some b) (hr:bL m=true):bN aA aH 78 [.ptr 0 0 0,.int .i64 p,.ifc 150 (eI m)] (tM r n es)=some (eo (r,n,aZ (bk es p (cD m)),aL n (aN (bk es p (cD m))))):=by
 refine SC _ _ _ _ _ _ _ _ _ (o:=.doneM (.tup []) (tM r n (bk es p (cD m))++[O.row 9 [] 0,O.row 3 [] 0,O.box 150 (eI m) false])) ?_ (.done (by kernel_rfl))
 unfold Jj
 rw [aK (JA _ (me hr)),eO,cz Lh (Ox h hg (Db hr))]
end
abbrev aI:=Int × Su × Int × Nat
def jO (x:aI):V:=.agg [.int .i64 x.1,.sl (aV (aD x.2.1 x.2.2.1).seps),.sl (aB (aD x.2.1 x.2.2.1).kids),.str (aP x.2.1),.int .i64 x.2.2.1,.int .i64 (x.2.2.2:Int)]
def eu (l:List aI):List V:=l.map jO
theorem qU (l:List aI):(eu l).length=l.length:=by simp [eu]
theorem Dp {m:bJ} {k:Bs} (h:bL m=true) (hk:bF k=true) (hh:m.high=[]∨lt k m.high=true):i9 m k=(((eC m.seps k:Nat):Int),0):=by
 unfold i9
 rw [if_pos]
 rw [h,hk]
 rcases hh with hh | hh
 ·rw [hh];rfl
 ·rw [hh];simp
inductive ju (es:Es) (k:Bs):Int->List aI->Int->Lf->Prop
 | leaf {p:Int} {l:Lf} (hg:cF es p=some (bA l)) (hr:cE l=true):ju es k p [] p l
 | inn {p:Int} {e:Su} {nx:Int} {i:Nat} {p':Int} {sts:List aI} {pl:Int} {l:Lf} (hg:cF es p=some (cD (aD e nx))) (hr:bL (aD e nx)=true) (hf:i9 (aD e nx) k=((i:Int),0)) (hi:(aD e nx).kids[i]? = some p') :
  ju es k p' sts pl l->ju es k p ((p,e,nx,i)::sts) pl l
theorem Om {r:Int} {n:Nat} {es:Es} (hS:bX n es) {k:Bs} (hk:bF k=true) :
  ∀(d:List IL) (b:LL) (up:List IL) (p:Int) (h:Bs) (a c:Su) (sts:List aI),iF r up p h a c sts->Dn (a++(p,h)::c) d b->(∀y∈a,lt k y.2=false)->(h=[]∨lt k h=true) ->
  (∀l∈d,cH okI l 0)->cH okF b 0->(∀l∈d,∀x∈bg br l 0,x∈es)->(∀x∈bg cI b 0,x∈es)->HP (bS b) ->
  ∃p' h' ws pre prs post,iF r (d.reverse++up) p' h' (bS pre) (bS post) (ws.reverse++sts)/\b=pre++(p',prs,h')::post/\(∀y∈bS pre,lt k y.2=false)/\(h'=[]∨lt k h'=true)/\ws.length=d.length /\
   ju es k p ws p' ⟨prs,h',aW post 0⟩
 | [],b,up,p,h,a,c,sts,hp,hd,ha,hh,_,hF,_,hE,_=>by
  obtain ⟨pre,prs,post,rfl,rfl,rfl⟩:=Qx (iL hd)
  have hr:cE ⟨prs,h,aW post 0⟩=true:=Ax hF
  have hg:cF es p=some (bA ⟨prs,h,aW post 0⟩):=ja hS.nd (hE _ (EC (f:=cI) pre p (prs,h) post 0))
  exact ⟨p,h,[],pre,prs,post,hp,rfl,ha,hh,rfl,.leaf hg hr⟩
 | l::d,b,up,p,h,a,c,sts,hp,hd,ha,hh,hI,hF,hEI,hE,hP=>by
  have hPs:=zm hd (fun l hl=>ia (hI l hl)) hP
  obtain ⟨e,hdk⟩:=gk hd
  clear hd
  obtain ⟨pre,x,post,rfl,rfl,rfl,rfl⟩:=Qw e
  obtain ⟨hne,hr⟩:okI x (aW post 0):=lx (hI _ (cB ..))
  have hg:cF es p=some (cD (aD x (aW post 0))):=ja hS.nd (hEI _ (cB ..) _ (EC (f:=br) pre p x post 0))
  obtain ⟨e1,p',h',e2,rfl,h1,h2,h3⟩:=Iq k x hne
  have hfind:=Dp hr hk hh
  have hfi:i9 (aD (e1++(p',h')::e2) (aW post 0)) k=(((e1.length:Nat):Int),0):=hfind.trans (by rw [h1])
  have hkid:((e1++(p',h')::e2).map (·.1))[e1.length]? = some p':=by simp
  have hk2:bc (pre++(p,e1++(p',h')::e2)::post)=bc pre++e1++(p',h')::(e2++bc post):=by simp [bc]
  rw [hk2] at hdk
  have hpre:∀y∈bc pre++e1,lt k y.2=false:=by
   intro y hy
   rcases bp.1 hy with hy | hy
   ·have hPk:=zm hdk (fun l hl=>ia (hI l (by simp [hl]))) hP
    rw [bu] at hPk
    exact UX (fun x hx=>ia (hI _ (cB ..)) x (by simp [hx])) (dJ.1 hPk).1 (T7 hPs) ha y hy
   ·exact h2 y hy
  have hh':h'=[]∨lt k h'=true:=by
   by_cases h2e:e2=[]
   ·subst h2e
    have:aP (e1++[(p',h')])=h':=(fU e1 (by simp)).trans rfl
    rw [this] at hh
    exact hh
   ·exact .inr (h3 h2e)
  obtain ⟨p2,h2',ws,pre',prs,post',q1,q2,q3,q4,q5,q6⟩:=Om hS hk d b _ p' h' _ _ _ (.st hp) hdk hpre hh' (fun l hl=>hI l (by simp [hl])) hF (fun l hl=>hEI l (by simp [hl])) hE hP
  refine ⟨p2,h2',(p,e1++(p',h')::e2,aW post 0,e1.length)::ws,pre',prs,post',?_,q2,q3,q4,by simp [q5],.inn hg hr hfi hkid q6⟩
  rw [mF,bu,mF,bu]
  exact q1
theorem Z7 {r:Int} {n:Nat} {es:Es} (hS:bX n es) {k:Bs} {p:Int} {ws:List aI} {pl:Int} {l:Lf} (h:ju es k p ws pl l):∀acc:List aI,acc.length+ws.length<=10000 ->
  Go qk true 5 (fF 75) (.head 0 (yL k p r n (aZ es) (aL n (aN es)) (eu acc))) (.doneM (.tup [.own 5,.agg [.sl (bq l.prs),.str l.high,.int .i64 l.next],.int .i64 pl]) (tM r n es++[O.row 176 (eu (acc++ws)) 0,O.box 120 (.agg [.sl (bq l.prs),.str l.high,.int .i64 l.next]) false])):=by
 induction h with
 | @leaf p l hg hr =>
  intro acc _
  rw [dA]
  refine Nk _ _ _ _ _ _ _ ?_ (.refl _)
  unfold F3
  rw [qK hS hg hr,bY]
 | @inn p e nx i p' sts pl l hg hr hf hi _ ih =>
  intro acc ha
  have ih:=ih (acc++[(p,e,nx,i)]) (by simp at ha |-;omega)
  rw [bu] at ih
  refine Nk _ _ _ _ _ _ _ ?_ ih
  unfold F3
  rw [oU hS hg hr,bY]
  show (aE aA _ [eI (aD e nx),_] _)=_
  rw [aK (JR _ k (me hr)),Is,hf,d0 rfl,cond_false,aG (decide_eq_true (by rw [qU];simp at ha |-;omega)),aG (by simp),bl]
  have hi2:aY (aB (aD e nx).kids) i=fun k=>k (V.int .i64 p'):=by
   funext kk
   exact eg hi
  rw [hi2]
  simp only [bU]
  simp [eu,jO]
theorem qY {r:Int} {n:Nat} {es:Es} (hS:bX n es) {k:Bs} {ws:List aI} {pl:Int} {l:Lf} (h:ju es k r ws pl l) (hw:ws.length<=10000) :
  bN aA aH 75 [.ptr 0 0 0,.str k] (tM r n es)=some (nk (tM r n es) (eu ws,bq l.prs,l.high,l.next,pl)) :=
 Sw _ _ _ _ _ rfl ⟨_,_,Z7 hS h [] (by simpa using hw),by kernel_rfl⟩
def cP (ups:List IL):Es:=ups.flatMap fun l=>bg br l 0
structure WT (n:Nat) (r:Int) (es:Es) (ups:List IL) (b:LL):Prop where
 shf:bX n es
 rep:es.Perm (cP ups++bg cI b 0)
 dn:Dn [(r,[])] ups b
 okI:∀l∈ups,cH okI l 0
 okF:cH okF b 0
 ord:iY b
theorem IG:∀{d:List IL} {s:Su} {b:LL},Dn s d b->(∀l∈d,cH okI l 0)->s≠[]->∀l∈d,l≠[]
 | [],_,_,_,_,_=>by simp
 | l::d,s,b,hd,hI,hs=>by
  obtain ⟨e,hdk⟩:=gk hd
  have hl:l≠[]:=by rintro rfl;exact hs e
  intro l' hl'
  rcases bP.1 hl' with rfl | hl'
  ·exact hl
  ·refine IG hdk (fun x hx=>hI x (by simp [hx])) ?_ l' hl'
   obtain ⟨x,t,rfl⟩:=mB hl
   have:=ia (hI _ (cB ..)) x (by simp)
   intro h0
   rw [bc,iD,po] at h0
   exact this h0.1
theorem zz {α:Type} {f:α->Int->Bs}:∀(l:List (Int × α)) (n:Int),(bg f l n).length=l.length
 | [],_=>rfl
 |(p,x)::l,n=>by rw [bg,cL,zz l n];rfl
theorem Jz:∀{ups:List IL},(∀l∈ups,l≠[])->ups.length<=(cP ups).length
 | [],_=>bG _
 | l::ups,h=>by
  have:=Jz (ups:=ups) fun x hx=>h x (by simp [hx])
  have h1:0 < l.length:=js.2 (h l (by simp))
  rw [cP,iD,c8,zz,cL]
  have e:(cP ups).length=(List.flatMap (fun l=>bg br l 0) ups).length:=rfl
  omega
theorem mo {n:Nat} {r:Int} {es:Es} {ups:List IL} {b:LL} (h:WT n r es ups b):ups.length<=1024:=by
 have h1:=Jz (IG h.dn h.okI (by simp))
 have h2:=h.rep.length_eq
 have h3:=ql h.shf
 have h4:=h.shf.le
 rw [c8] at h2
 omega
theorem GR {n:Nat} {r:Int} {es:Es} {ups:List IL} {b:LL} (h:WT n r es ups b) {k:Bs} (hk:bF k=true) :
  ∃p h' ws pre prs post,iF r ups.reverse p h' (bS pre) (bS post) ws.reverse/\b=pre++(p,prs,h')::post/\(∀y∈bS pre,lt k y.2=false)/\(h'=[]∨lt k h'=true)/\ws.length=ups.length/\ju es k r ws p ⟨prs,h',aW post 0⟩:=by
 obtain ⟨p,h',ws,pre,prs,post,q1,q2,q3,q4,q5,q6⟩:=Om (r:=r) h.shf hk ups b [] r [] [] [] [] .top h.dn (by simp) (.inl rfl) h.okI h.okF
  (fun l hl x hx=>h.rep.mem_iff.2 (jS _ (gK.2 ⟨l,hl,hx⟩))) (fun x hx=>h.rep.mem_iff.2 (mC _ hx)) (AA h.ord)
 rw [dA,dA] at q1
 exact ⟨p,h',ws,pre,prs,post,q1,q2,q3,q4,q5,q6⟩
theorem NT:∀{l:List Bs},(∀s∈l,bF s=true)->cA l<=19 * l.length
 | [],_=>bG _
 | s::l,h=>by
  have h1:=gZ (h s (by simp))
  have h2:=NT (l:=l) fun x hx=>h x (by simp [hx])
  simp only [cA,cL]
  omega
structure nU (e1:Su) (p:Int) (h:Bs) (e2:Su) (nx:Int) (k:Bs) (to:Int):Prop where
 right:bL (aD (e1++(p,h)::e2) nx)=true
 key:bF k=true
 pg:dE to=true
 lo:∀y∈e1,aC y.2 k
 hi:h=[]∨lt k h=true
 hp:HP (e1++(p,h)::e2)
theorem DY {a k:Bs} (hk:bF k=true) (h:aC a k):lt k a=false:=by
 rcases h.2 with h' | h'
 ·subst h';cases hk
 ·exact l7 h'
theorem Kr {e1:Su} {p:Int} {h:Bs} {e2:Su} {nx:Int} {k:Bs} {to:Int} (f:nU e1 p h e2 nx k to):eC (aD (e1++(p,h)::e2) nx).seps k=e1.length:=by
 refine HR k e1 p h e2 (fun y hy=>DY f.key (f.lo y hy)) fun hne=>?_
 obtain ⟨y,r,rfl⟩:=mB hne
 have:HP ((p,h)::y::r):=(dJ.1 f.hp).2.1
 have:=(gt.1 this).1 y (by simp)
 exact f.hi.resolve_left this.1
theorem zV {e1:Su} {p:Int} {h:Bs} {e2:Su} {nx:Int} {k:Bs} {to:Int} (f:nU e1 p h e2 nx k to):aP (e1++(p,h)::e2)=[]∨lt k (aP (e1++(p,h)::e2))=true:=by
 rw [fU _ (by simp)]
 cases e2 with
 | nil=>exact f.hi
 | cons y r =>
  rw [kq _ (by simp)]
  have h1:HP ((p,h)::y::r):=(dJ.1 f.hp).2.1
  obtain ⟨x,hx⟩:∃x,(y::r).getLast? = some x:=⟨_,OM (by simp)⟩
  have hm:=List.mem_of_getLast? hx
  have e:aP (y::r)=x.2:=by unfold aP;rw [BJ,hx];rfl
  have:=(gt.1 h1).1 x hm
  rw [e]
  exact Vw (f.hi.resolve_left this.1) this
theorem xd {e1:Su} {p:Int} {h:Bs} {e2:Su} {nx:Int} {k:Bs} {to:Int} (f:nU e1 p h e2 nx k to) :
  mc (aD (e1++(p,h)::e2) nx) k to=if 23+cA (aD (e1++(p,k)::(to,h)::e2) nx).seps<=252 then (aD (e1++(p,k)::(to,h)::e2) nx,0) else (jD,6):=by
 have ha:=Kr f
 have hf:=Dp f.right f.key (zV f)
 unfold mc
 rw [hf,ha,if_pos ⟨rfl,f.pg⟩,z6,if_neg]
 ·unfold k9
  by_cases hz:23+cA (aD (e1++(p,k)::(to,h)::e2) nx).seps<=252
  ·rw [if_pos hz,if_pos (by simpa using hz)]
  ·rw [if_neg hz,if_neg (by simpa using hz)]
 ·rintro ⟨h0,h1⟩
  have hlt1:e1.length - 1 < e1.length:=by omega
  have:(aD (e1++(p,h)::e2) nx).seps[e1.length - 1]? = some e1[e1.length - 1].2:=by
   show ((e1++(p,h)::e2).dropLast.map (·.2))[e1.length - 1]? = _
   rw [pS,gJ,db (by simpa using hlt1),dB,bC hlt1]
   rfl
  rw [this] at h1
  have hm:e1[e1.length - 1]∈e1:=vU hlt1
  have:=f.lo _ hm
  rw [Option.some.inj h1] at this
  rcases this.2 with h' | h'
  ·exact this.1 h'
  ·rw [iw] at h';cases h'
theorem zX {e1:Su} {p:Int} {h:Bs} {e2:Su} {nx:Int} {k:Bs} {to:Int} (f:nU e1 p h e2 nx k to) (hz:23+cA (aD (e1++(p,k)::(to,h)::e2) nx).seps<=252):bL (aD (e1++(p,k)::(to,h)::e2) nx)=true:=by
 have ha:=Kr f
 have hf:Hu (aD (e1++(p,h)::e2) nx) k to:=by
  refine ⟨f.right,f.key,?_,f.pg,?_,?_⟩
  ·rcases zV f with h | h
   ·show (aP (e1++(p,_)::e2)==[] || _)=true
    rw [h];rfl
   ·show (_ || lt k (aP (e1++(p,_)::e2)))=true
    rw [h,Bool.or_true]
  ·have:=xd f
   rw [if_pos hz] at this
   intro hc
   unfold mc at this
   rw [Dp f.right f.key (zV f),if_pos ⟨rfl,f.pg⟩,if_pos hc] at this
   simp only [Prod.mk.injEq] at this
   exact absurd this.2 (by decide)
  ·rw [ha,z6];unfold k9;simpa using hz
 have:=Xn hf
 rwa [ha,z6] at this
theorem oE {s:Bs} (h:bF s=true):s≠[]:=by rintro rfl;cases h
theorem zY (e1:Su) (p:Int) (h:Bs) (e2:Su) (k:Bs) (to nx:Int):cA (aD (e1++(p,k)::(to,h)::e2) nx).seps=cA (aD (e1++(p,h)::e2) nx).seps+(3+k.length):=by
 have:=z6 e1 p h e2 k to nx
 rw [<-this]
 show cA ((aD (e1++(p,h)::e2) nx).seps.take e1.length++[k]++(aD (e1++(p,h)::e2) nx).seps.drop e1.length)=_
 have h2:cA (aD (e1++(p,h)::e2) nx).seps=cA ((aD (e1++(p,h)::e2) nx).seps.take e1.length)+cA ((aD (e1++(p,h)::e2) nx).seps.drop e1.length):=by
  rw [<-vH,ig]
 rw [vH,vH,h2]
 simp only [cA]
 omega
theorem zQ {e:Su} (h:e≠[]):∃x∈e,aP e=x.2:=by
 obtain ⟨a',x,rfl⟩:∃a' x,e=a'++[x]:=by
  rcases d9 e with h' | ⟨l,x,h'⟩
  ·exact absurd h' h
  ·exact ⟨l,x,by simpa using h'⟩
 exact ⟨x,by simp,fU a' (by simp)⟩
theorem DX (e1:Su) (p:Int) (h:Bs) (c:Su) (k:Bs) (to:Int):aP (e1++(p,k)::(to,h)::c)=aP (e1++(p,h)::c):=by
 cases c with
 | nil =>
  have a1:aP (e1++[(p,h)])=h:=(fU e1 (by simp)).trans rfl
  have a2:aP (e1++[(p,k),(to,h)])=h:=(fU e1 (by simp)).trans rfl
  exact a2.trans a1.symm
 | cons z c =>
  have a1:aP (e1++(p,h)::z::c)=aP (z::c):=(fU e1 (by simp)).trans (kq _ (by simp))
  have a2:aP (e1++(p,k)::(to,h)::z::c)=aP (z::c):=(fU e1 (by simp)).trans ((kq _ (by simp)).trans (kq _ (by simp)))
  exact a2.trans a1.symm
structure OZ (e:Su) (nx:Int) (k:Bs) (to q:Int) (e' fa fb:Su):Prop where
 cut:e'=fa++fb
 na:fa≠[]
 nb:fb≠[]
 ra:bL (aD fa (q+1))=true
 rb:bL (aD fb nx)=true
 mid:bF (aP fa)=true
 six:6<=fa.length/\6<=fb.length
 big:(∀y∈e,y.2.length<=5)->k.length<=5->15<=fa.length
 run:∃ea eb,bL (aD ea (q+1))=true/\bL (aD eb nx)=true/\vC (aD e nx) q=(aD ea (q+1),aD eb nx,aP fa,0) /\
  ((lt k (aP fa)=true/\mc (aD ea (q+1)) k to=(aD fa (q+1),0)/\eb=fb)∨(lt k (aP fa)=false/\ea=fa/\mc (aD eb nx) k to=(aD fb nx,0)))
theorem NU:∀{l:List Bs},(∀s∈l,s.length<=5)->cA l<=8 * l.length
 | [],_=>bG _
 | s::l,h=>by
  have h1:=h s (by simp)
  have h2:=NU (l:=l) fun x hx=>h x (by simp [hx])
  simp only [cA,cL]
  omega
theorem Us {e1:Su} {p:Int} {h:Bs} {e2:Su} {nx:Int} {k:Bs} {to q:Int} (f:nU e1 p h e2 nx k to) (hz:¬23+cA (aD (e1++(p,k)::(to,h)::e2) nx).seps<=252) (hq:dE q=true) :
  ∃fa fb,OZ (e1++(p,h)::e2) nx k to q (e1++(p,k)::(to,h)::e2) fa fb:=by
 rw [zY] at hz
 have hkl:=(gZ f.key).2
 obtain ⟨r1,r2,r3,r4,r5,r6,r7⟩:=nJ f.right
 have h19:=NT r3
 have hsl:(aD (e1++(p,h)::e2) nx).seps.length=(e1++(p,h)::e2).length - 1:=Bc
 have h3:3<=(aD (e1++(p,h)::e2) nx).kids.length:=by omega
 obtain ⟨A,mid,B,s1,s2,s3,s4,s5⟩:=NL f.right h3
 have hss:=Zc (to:=q) f.right h3 hq
 have hspl:vC (aD (e1++(p,h)::e2) nx) q=(tu (aD (e1++(p,h)::e2) nx) q,tv (aD (e1++(p,h)::e2) nx),mid,0):=by
  unfold vC
  rw [if_pos ⟨f.right,h3,hq⟩,s3]
 have hsz:cA (aD (e1++(p,h)::e2) nx).seps=cA A+(3+mid.length)+cA B:=by
  rw [s1,vH];simp only [cA];omega
 have hAl:A.length+B.length+1=(aD (e1++(p,h)::e2) nx).seps.length:=by rw [s1];simp;omega
 have hA4:=qV (l:=A) fun x hx=>r3 x (by rw [s1];simp [hx])
 have hB4:=qV (l:=B) fun x hx=>r3 x (by rw [s1];simp [hx])
 have hmk:bF mid=true:=r3 mid (by rw [s1];simp)
 have hml:=(gZ hmk).1
 have hbig:(∀y∈e1++(p,h)::e2,y.2.length<=5)->k.length<=5->15<=(aD (e1++(p,h)::e2) nx).seps.length / 2+1:=by
  intro hy hk5
  have h8:cA (aD (e1++(p,h)::e2) nx).seps<=8 * (aD (e1++(p,h)::e2) nx).seps.length:=NU fun s hs=>by
   obtain ⟨y,hy1,rfl⟩:=dP.1 hs
   exact hy y ((List.dropLast_sublist _).subset hy1)
  omega
 generalize hm:(aD (e1++(p,h)::e2) nx).seps.length / 2+1=m at *
 obtain ⟨ea,hea⟩:∃ea,ea=(e1++(p,h)::e2).take m:=⟨_,rfl⟩
 obtain ⟨eb,heb⟩:∃eb,eb=(e1++(p,h)::e2).drop m:=⟨_,rfl⟩
 have hab:e1++(p,h)::e2=ea++eb:=by rw [hea,heb,ig]
 have hel:ea.length=m:=by rw [hea,gq];omega
 have hbl:eb.length+m=(e1++(p,h)::e2).length:=by rw [heb,gg];omega
 have hna:ea≠[]:=by rintro rfl;simp at hel;omega
 have hsixA:6<=ea.length:=by omega
 have hsixB:6<=eb.length:=by omega
 have hnb:eb≠[]:=by rintro rfl;simp only [fR,dZ] at hbl;omega
 have hsp:=Y9 ea eb hnb q nx (by rw [<-hab,hm,hel])
 rw [<-hab] at hsp
 have hmid:aP ea=mid:=by
  have:=congrArg bJ.high hsp.1
  exact this.symm.trans s3
 have hsa:(aD ea (q+1)).seps=A:=by
  have:=congrArg bJ.seps hsp.1
  exact this.symm.trans s4
 have hsb:(aD eb nx).seps=B:=by
  have:=congrArg bJ.seps hsp.2
  rw [<-s5,<-hm]
  exact this.symm
 have hra:bL (aD ea (q+1))=true:=by rw [<-hsp.1];exact hss.1
 have hrb:bL (aD eb nx)=true:=by rw [<-hsp.2];exact hss.2
 rw [hsp.1,hsp.2,<-hmid] at hspl
 rw [<-hmid] at hmk hml
 have hHP:=f.hp
 rw [hab] at hHP
 have hHa:HP ea:=(dJ.1 hHP).1
 have hHb:HP eb:=(dJ.1 hHP).2.1
 rcases List.append_eq_append_iff.1 hab with ⟨c,hc1,hc2⟩ | ⟨c,hc1,hc2⟩
 ·-- ea=e1++c
  cases c with
  | nil =>
   rw [dA] at hc1
   subst hc1
   rw [dU] at hc2
   subst hc2
   have f2:nU [] p h e2 nx k to:=⟨hrb,f.key,f.pg,by simp,f.hi,hHb⟩
   have hp2:=xd f2
   have hz2:23+cA (aD ([]++(p,k)::(to,h)::e2) nx).seps<=252:=by rw [zY,dU,hsb];omega
   rw [if_pos hz2] at hp2
   obtain ⟨x,hx,e⟩:=zQ hna
   refine ⟨ea,(p,k)::(to,h)::e2,rfl,hna,by simp,hra,zX f2 hz2,hmk,⟨hsixA,by simp at hsixB |-;omega⟩,fun h1 h2=>hel ▸ hbig h1 h2,ea,(p,h)::e2,hra,hrb,hspl,.inr ⟨?_,rfl,hp2⟩⟩
   rw [e]
   exact DY f.key (f.lo x hx)
  | cons y c =>
   rw [dv] at hc2
   obtain ⟨rfl,hc3⟩:=List.cons.inj hc2
   clear hc2
   subst hc1
   subst hc3
   have f2:nU e1 p h c (q+1) k to:=⟨hra,f.key,f.pg,f.lo,f.hi,hHa⟩
   have hp2:=xd f2
   have hz2:23+cA (aD (e1++(p,k)::(to,h)::c) (q+1)).seps<=252:=by rw [zY,hsa];omega
   rw [if_pos hz2] at hp2
   have hhi:=DX e1 p h c k to
   refine ⟨e1++(p,k)::(to,h)::c,eb,by simp,by simp,hnb,zX f2 hz2,hrb,by rw [hhi];exact hmk,⟨by simp at hsixA |-;omega,hsixB⟩,fun h1 h2=>by have h3:=hbig h1 h2;rw [<-hel] at h3;simp at h3 |-;omega,e1++(p,h)::c,eb,hra,hrb,by rw [hhi];exact hspl,.inl ⟨?_,hp2,rfl⟩⟩
   rw [hhi]
   exact (zV f2).resolve_left (oE hmk)
 ·-- e1=ea++c
  subst hc1
  subst hc2
  have f2:nU c p h e2 nx k to:=⟨hrb,f.key,f.pg,fun y hy=>f.lo y (by simp [hy]),f.hi,hHb⟩
  have hp2:=xd f2
  have hz2:23+cA (aD (c++(p,k)::(to,h)::e2) nx).seps<=252:=by rw [zY,hsb];omega
  rw [if_pos hz2] at hp2
  obtain ⟨x,hx,e⟩:=zQ hna
  refine ⟨ea,c++(p,k)::(to,h)::e2,by simp,hna,by simp,hra,zX f2 hz2,hmk,⟨hsixA,by simp at hsixB |-;omega⟩,fun h1 h2=>hel ▸ hbig h1 h2,ea,c++(p,h)::e2,hra,hrb,hspl,.inr ⟨?_,rfl,hp2⟩⟩
  rw [e]
  exact DY f.key (f.lo x (by simp [hx]))
theorem T6 {a c:Su} {p to:Int} {k h:Bs} (hP:HP (a++(p,h)::c)) (hlo:∀y∈a,aC y.2 k) (hkh:aC k h):HP (a++(p,k)::(to,h)::c):=by
 obtain ⟨h1,h2,h3⟩:=dJ.1 hP
 obtain ⟨h4,h5⟩:=gt.1 h2
 refine dJ.2 ⟨h1,gt.2 ⟨?_,gt.2 ⟨h4,h5⟩⟩,?_⟩
 ·intro y hy
  rcases bP.1 hy with rfl | hy
  ·exact hkh
  ·exact DZ hkh (h4 y hy)
 ·intro y hy z hz
  rcases bP.1 hz with rfl | hz
  ·exact hlo y hy
  ·rcases bP.1 hz with rfl | hz
   ·exact h3 y hy (p,h) (by simp)
   ·exact h3 y hy z (by simp [hz])
def pL:List aI->List V
 | []=>[]
 | s::r=>.tup [.int .i64 (r.length:Int),jO s]::pL r
theorem HV:∀sts:List aI,(pK (eu sts.reverse)).map V.tup=pL sts
 | []=>rfl
 | s::r=>by
  have ih:=HV r
  unfold pK at ih |-
  rw [mF,eu,gJ,List.zipIdx_append,gJ,List.reverse_append,gJ]
  rw [eu] at ih
  rw [ih]
  simp [pL]
theorem Pp (sts:List aI) (h:sts.length<=16777216):yV [.ref (.sl (eu sts.reverse)) 0]=some (pK (eu sts.reverse)):=by
 refine if_pos ⟨by rw [qU,yo];exact h,?_⟩
 rw [di]
 intro x hx
 obtain ⟨s,_,rfl⟩:=dP.1 hx
 rfl
theorem lP (l:IL) (up:List IL):cP (l::up)=bg br l 0++cP up:=rfl
theorem Pm {es R:Es} {pre post:IL} {q:Int} {x:Su} {up:List IL} {X:Es} (h:es.Perm (cP ((pre++(q,x)::post)::up)++X)):es.Perm ((q,br x (aW post 0))::(bg br pre (q+1)++bg br post 0++(cP up++X))):=by
 rw [lP,i6,bg] at h
 refine h.trans ?_
 simp only [bu,dv]
 exact n4
structure BV (n:Nat) (r:Int) (es:Es) (up:List IL) (d:List IL) (b:LL) (X:Es) (p to:Int) (k h:Bs) (a c:Su):Prop where
 shf:bX n es
 dn:Dn (a++(p,k)::(to,h)::c) d b
 hp:HP (a++(p,h)::c)
 lo:∀y∈a,aC y.2 k
 hi:h=[]∨lt k h=true
 key:bF k=true
 pg:dE p=true
 pgt:dE to=true
 okI:∀l∈up,cH okI l 0
 rep:es.Perm (cP up++X)
 room:es.length+up.length+1<=n
theorem DI {p q:Int} {x:Bs}:∀{es:Es},cF (bk es p x) q=if q=p then some x else cF es q
 | []=>by
  show (if q=p then some x else none)=_
  rfl
 |(a,y)::es=>by
  rw [bk]
  by_cases h:p=a
  ·subst h
   rw [if_pos rfl,cF,cF]
   by_cases e:q=p
   ·rw [if_pos e,if_pos e]
   ·rw [if_neg e,if_neg e,if_neg e]
  ·rw [if_neg h,cF,cF,DI]
   by_cases e:q=a
   ·rw [if_pos e,if_pos e,if_neg fun e2=>h (e2.symm.trans e)]
   ·rw [if_neg e,if_neg e]
theorem DJ {p:Int} {x:Bs} {es:Es}:cF (bk es p x) p=some x:=by rw [DI,if_pos rfl]
theorem zN {p q:Int} {x:Bs} {es:Es} (h:q≠p):cF (bk es p x) q=cF es q:=by rw [DI,if_neg h]
theorem wZ {es:Es} {p:Int} {b:Bs} (h:cF es p=some b):p∈aM es:=Classical.byContradiction fun q=>by rw [se.2 q] at h;cases h
inductive mL (n:Nat) (r:Int):Es->List aI->Bs->Int->Int->Int->Es->Prop
 | top {es:Es} {k:Bs} {p to:Int} {j:Nat} (hs:bX n es) (hf:k8 n (aN es)=some j) (hj:j < n) (hq:(j:Int)∉aM es) (hr:bL (aD [(p,k),(to,[])] 0)=true) :
  mL n r es [] k p to j (bk (bk es j []) j (cD (aD [(p,k),(to,[])] 0)))
 | room {es:Es} {sts:List aI} {k:Bs} {p to q:Int} {e:Su} {nx:Int} {i:Nat} {e':Su} (hs:bX n es) (hg:cF es q=some (cD (aD e nx))) (hr:bL (aD e nx)=true) (hk:bF k=true) (hp:mc (aD e nx) k to=(aD e' nx,0)) (hr':bL (aD e' nx)=true) :
  mL n r es ((q,e,nx,i)::sts) k p to r (bk es q (cD (aD e' nx)))
 | two {es:Es} {sts:List aI} {k:Bs} {p to q:Int} {e:Su} {nx:Int} {i j:Nat} {ea eb fa fb:Su} {r':Int} {es':Es} (hs:bX n es) (hg:cF es q=some (cD (aD e nx))) (hr:bL (aD e nx)=true) (hk:bF k=true) (hp:mc (aD e nx) k to=(jD,6))
  (hf:k8 n (aN es)=some j) (hj:j < n) (hq:(j:Int)∉aM es) (hra:bL (aD ea ((j:Int)+1))=true) (hrb:bL (aD eb nx)=true) (rfa:bL (aD fa ((j:Int)+1))=true) (rfb:bL (aD fb nx)=true)
  (hspl:vC (aD e nx) j=(aD ea ((j:Int)+1),aD eb nx,aP fa,0)) (hcase:(lt k (aP fa)=true/\mc (aD ea ((j:Int)+1)) k to=(aD fa ((j:Int)+1),0)/\eb=fb)∨(lt k (aP fa)=false/\ea=fa/\mc (aD eb nx) k to=(aD fb nx,0))) :
  mL n r (bk (bk (bk es j []) q (cD (aD fa ((j:Int)+1)))) j (cD (aD fb nx))) sts (aP fa) q j r' es'->mL n r es ((q,e,nx,i)::sts) k p to r' es'
def HC (n:Nat) (r:Int) (es:Es) (k:Bs) (p to:Int) (sts:List aI) (r':Int) (es':Es):Prop :=
 ∃m,Go qk true 5 (fF 123) (.head 0 (wh (pL sts) r n (aZ es) (aL n (aN es)) k p to)) (.doneM (.tup []) m)/\∀r0 n0 e0 b0,gV aH (tm r0 n0 e0 b0) (.tup []) m=nf (r',n,aZ es',aL n (aN es'))
def yB (up:List IL):Prop:=∀l,up.getLast? = some l->∀x∈l,2<=x.2.length
def Ft (up:List IL):Prop:=∀l∈up,∀x∈l.dropLast,15<=x.2.length
def Fk (up:List IL):Prop:=∀l∈up.dropLast,∀x∈l,6<=x.2.length
def yC (up:List IL):Prop:=∀l∈up,∀x∈l,∀y∈x.2,y.2.length<=5
def O0 (n:Nat) (r:Int) (es:Es) (up:List IL) (k:Bs) (p to:Int) (sts:List aI) (d:List IL) (b:LL) (X:Es) (c:Su):Prop :=
 ∃r' up' es',bX n es'/\Dn [(r',[])] (up'.reverse++d) b/\(∀l∈up',cH okI l 0)/\es'.Perm (cP up'++X)/\up'≠[]/\(yB up->yB up')/\(c=[]->yC up->k.length<=5->Ft up->Ft up')/\(Fk up->Fk up')/\mL n r es sts k p to r' es'
theorem W9 {r:Int} {q:Int} {h:Bs} {pre post:IL} {sts:List aI} (hp:iF r [] q h (bw pre) (bw post) sts):pre=[]/\post=[]:=by
 generalize hA:bw pre=A at hp
 generalize hC:bw post=C at hp
 cases hp
 exact ⟨Hg.1 hA,Hg.1 hC⟩
theorem Ly {l:IL} {n:Int} (h:cH okI l n) (h0:bc l=[]):l=[]:=by
 cases l with
 | nil=>rfl
 | cons y t =>
  rw [bc,iD,po] at h0
  exact absurd h0.1 (ia h y (by simp))
theorem Ol {n:Nat} {r:Int} {es:Es} {k:Bs} {p to:Int} {sts:List aI} {r':Int} {es':Es} {m:List O} (h:xK (pL sts) r n (aZ es) (aL n (aN es)) k p to=some (.doneM (.tup []) m))
  (hc:∀r0 n0 e0 b0,gV aH (tm r0 n0 e0 b0) (.tup []) m=nf (r',n,aZ es',aL n (aN es'))):HC n r es k p to sts r' es' :=
 ⟨m,MR _ _ _ _ _ _ _ _ h (.refl _),hc⟩
theorem WR (A B U X:Es):(A++B++(U++X)).Perm (U++(A++(B++X))):=by
 rw [<-bu (A++B),<-bu A,<-bu U]
 exact List.Perm.append_right X BM
theorem AJ {es:Es} {p:Int} {b:Bs} (h:p∉aM es):(bk es p b).length=es.length+1:=by rw [s6 h];simp
theorem xz {es:Es} {p:Int} {b:Bs} (h:p∈aM es):(bk es p b).length=es.length:=by
 have:=congrArg nY (nF (b:=b) h)
 simpa [aM] using this
theorem gz {es R:Es} {p:Int} {b:Bs} (h:es.Perm ((p,b)::R)):p∈aM es:=dP.2 ⟨(p,b),h.mem_iff.2 (cB ..),rfl⟩
theorem UU {k h:Bs} (hk:bF k=true) (h1:h=[]∨lt k h=true):aC k h:=⟨oE hk,h1⟩
theorem Bd {n:Nat} {es:Es} (h:bX n es) {p:Int} (hp:p∈aM es):dE p=true:=by
 have:=h.rng p hp
 have:=h.le
 unfold dE
 rw [decide_eq_true (by omega),decide_eq_true (by omega)];rfl
theorem XV {p to:Int} {k:Bs} (hk:bF k=true) (hp:dE p=true) (ht:dE to=true):bL (aD [(p,k),(to,[])] 0)=true:=by
 have hkl:=gZ hk
 refine qM.2 ⟨rfl,?_,?_,rfl,?_⟩
 ·intro x hx
  have:x=p∨x=to:=by simpa using hx
  rcases this with rfl | rfl<;>assumption
 ·show d7 [] [k]=true
  unfold d7
  rw [hk,qg hk];rfl
 ·refine rQ.2 ⟨Int.le_refl 0,(by decide:(0:Int)<=1024),?_⟩
  show 23+cA [k]<=252
  simp only [cA];omega
theorem ZZ {n:Nat} {r:Int} {up:List IL} {p:Int} {h:Bs} {a c:Su} {sts:List aI} (hp:iF r up p h a c sts):∀{k:Bs} {to:Int} {es:Es} {d:List IL} {b:LL} {X:Es},BV n r es up d b X p to k h a c->O0 n r es up k p to sts d b X c:=by
 induction hp with
 | top =>
  intro k to es d b X f
  obtain ⟨q,hq,hf,hq2⟩:=DD f.shf (by have:=f.room;simp at this;omega)
  have hqn:((q:Int))∉aM es:=hq2
  have hs1:=vx f.shf (b:=[]) hq hq2
  have hr:=XV f.key f.pg f.pgt
  have hg:cF (bk es q []) q=some []:=mY hs1.nd ((s6 hq2 ▸ (BM:(es++[((q:Int),[])]).Perm _):(bk es q []).Perm (((q:Int),[])::es)))
  have hpm:(bk es q []).Perm (((q:Int),[])::es):=by rw [s6 hq2];exact BM
  have hpm2:=jI (b':=cD (aD [(r,k),(to,[])] 0)) hs1.nd hpm
  refine ⟨q,[[((q:Int),[(r,k),(to,[])])]],bk (bk es q []) q (cD (aD [(r,k),(to,[])] 0)),jl hs1 (gz hpm),?_,?_,?_,?_,?_,?_,?_,?_⟩
  ·have e:Dn (bc [((q:Int),[(r,k),(to,[])])]) d b:=f.dn
   exact Dn.inn _ _ _ e
  ·intro l hl
   have:l=[((q:Int),[(r,k),(to,[])])]:=by simpa using hl
   rw [this]
   exact ⟨⟨by simp,hr⟩,trivial⟩
  ·refine hpm2.trans ?_
   refine List.Perm.cons _ ?_
   exact f.rep
  ·simp
  ·intro _ l hl x hx
   have:l=[((q:Int),[(r,k),(to,[])])]:=by simpa using hl.symm
   subst this
   have:x=((q:Int),[(r,k),(to,[])]):=by simpa using hx
   subst this;simp
  ·intro _ _ _ _ l hl x hx
   have:l=[((q:Int),[(r,k),(to,[])])]:=by simpa using hl
   subst this
   cases hx
  ·intro _ l hl
   cases hl
  ·exact .top f.shf hf hq hq2 hr
 | @st up q e1 p h e2 pre post sts hup ih =>
  intro k to es d b X f
  obtain ⟨hne,hr⟩:okI (e1++(p,h)::e2) (aW post 0):=lx (f.okI _ (cB ..))
  have hat:=Pm (R:=[]) f.rep
  have hqk:=gz hat
  have hgq:=mY f.shf.nd hat
  obtain ⟨ok1,_,ok2⟩:=(fA _ _ _).1 (f.okI _ (cB ..))
  have hkh:=UU f.key f.hi
  have hPn:HP (bc pre++e1++(p,k)::(to,h)::(e2++bc post)):=T6 f.hp f.lo hkh
  have hPe:HP (e1++(p,h)::e2):=by
   have:=f.hp
   rw [bu] at this
   have:=(dJ.1 this).2.1
   have e:e1++(p,h)::(e2++bc post)=(e1++(p,h)::e2)++bc post:=by simp
   rw [e] at this
   exact (dJ.1 this).1
  have hin:nU e1 p h e2 (aW post 0) k to:=⟨hr,f.key,f.pgt,fun y hy=>f.lo y (by simp [hy]),f.hi,hPe⟩
  have hput:=xd hin
  by_cases hz:23+cA (aD (e1++(p,k)::(to,h)::e2) (aW post 0)).seps<=252
  ·-- it has room
   rw [if_pos hz] at hput
   have hr2:=zX hin hz
   have hsh:=jl f.shf (b:=cD (aD (e1++(p,k)::(to,h)::e2) (aW post 0))) hqk
   have hpm:=jI (b':=cD (aD (e1++(p,k)::(to,h)::e2) (aW post 0))) f.shf.nd hat
   refine ⟨r,(pre++(q,e1++(p,k)::(to,h)::e2)::post)::up,_,hsh,?_,?_,?_,?_,?_,?_,?_,?_⟩
   ·have e:bc pre++e1++(p,k)::(to,h)::(e2++bc post)=bc (pre++(q,e1++(p,k)::(to,h)::e2)::post):=by simp [bc]
    have hd:=f.dn
    rw [e] at hd
    have:=Dn.inn _ _ _ hd
    have e':bw (pre++(q,e1++(p,k)::(to,h)::e2)::post)=bw pre++(q,aP (e1++(p,h)::e2))::bw post:=by simp [bw,DX]
    rw [e'] at this
    have:=E0 hup this
    rwa [mF,bu]
   ·intro l hl
    rcases bP.1 hl with rfl | hl
    ·exact (fA _ _ _).2 ⟨ok1,⟨by simp,hr2⟩,ok2⟩
    ·exact f.okI l (by simp [hl])
   ·refine hpm.trans ?_
    rw [lP,i6,bg]
    simp only [bu,dv]
    exact List.perm_middle.symm
   ·simp
   ·intro h2 l hl x hx
    cases up with
    | nil =>
     have:l=pre++(q,e1++(p,k)::(to,h)::e2)::post:=by simpa using hl.symm
     subst this
     have h2:=h2 _ rfl
     rcases bp.1 hx with hx | hx
     ·exact h2 x (by simp [hx])
     ·rcases bP.1 hx with rfl | hx
      ·simp;omega
      ·exact h2 x (by simp [hx])
    | cons y up=>exact h2 l (by simpa using hl) x hx
   ·intro hc _ _ hF l hl x hx
    have h0:=Ly ok2 (po.1 hc).2
    subst h0
    rcases bP.1 hl with rfl | hl
    ·rw [tJ] at hx
     exact hF _ (cB ..) x (by rw [tJ];exact hx)
    ·exact hF l (by simp [hl]) x hx
   ·intro hF l hl x hx
    cases up with
    | nil=>cases hl
    | cons y up =>
     rw [mA (by simp)] at hl
     rcases bP.1 hl with rfl | hl
     ·have h0:=hF (pre++(q,e1++(p,h)::e2)::post) (by rw [mA (by simp)];exact cB ..)
      rcases bp.1 hx with hx | hx
      ·exact h0 x (by simp [hx])
      ·rcases bP.1 hx with rfl | hx
       ·have:=h0 (q,e1++(p,h)::e2) (by simp)
        simp at this |-;omega
       ·exact h0 x (by simp [hx])
     ·exact hF l (by rw [mA (by simp)];exact jT _ hl) x hx
   ·exact .room f.shf hgq hr f.key hput hr2
  ·-- it is two
   rw [if_neg hz] at hput
   obtain ⟨j,hj,hjf,hj2⟩:=DD f.shf (by have:=f.room;simp at this;omega)
   have hs1:=vx f.shf (b:=[]) hj hj2
   have hjr:=Bd hs1 (p:=(j:Int)) (by rw [qh hj2];simp)
   obtain ⟨fa,fb,t⟩:=Us hin hz hjr
   obtain ⟨ea,eb,hra,hrb,hspl,hcase⟩:=t.run
   have hqj:(q:Int)≠(j:Int):=fun e=>hj2 (e ▸ hqk)
   have hp1:(bk es j []).Perm ((q,br (e1++(p,h)::e2) (aW post 0))::(((j:Int),[])::(bg br pre (q+1)++bg br post 0++(cP up++X)))):=by
    rw [s6 hj2]
    exact List.perm_append_comm.trans ((List.Perm.cons _ hat).trans (List.Perm.swap ..))
   have hg1:=mY hs1.nd hp1
   have hp2:=jI (b':=cD (aD fa ((j:Int)+1))) hs1.nd hp1
   have hs2:=jl hs1 (b:=cD (aD fa ((j:Int)+1))) (gz hp1)
   have hp2':=hp2.trans (List.Perm.swap ..)
   have hg2:=mY hs2.nd hp2'
   have hp3:=jI (b':=cD (aD fb (aW post 0))) hs2.nd hp2'
   have hs3:=jl hs2 (b:=cD (aD fb (aW post 0))) (gz hp2')
   have hlen3:(bk (bk (bk es j []) q (cD (aD fa ((j:Int)+1)))) j (cD (aD fb (aW post 0)))).length=es.length+1:=by
    rw [xz (gz hp2'),xz (gz hp1),AJ hj2]
   have hfe:aP fb=aP (e1++(p,h)::e2):=by
    rw [<-DX e1 p h e2 k to,t.cut,fU _ t.nb]
   have ek:bc pre++e1++(p,k)::(to,h)::(e2++bc post)=bc (pre++(q,fa)::(j,fb)::post):=by
    have e0:bc (pre++(q,fa)::(j,fb)::post)=bc pre++((fa++fb)++bc post):=by simp [bc]
    rw [e0,<-t.cut];simp
   have es1:bw (pre++(q,fa)::((j:Int),fb)::post)=bw pre++(q,aP fa)::((j:Int),aP (e1++(p,h)::e2))::bw post:=by simp [bw,hfe]
   have hd:=f.dn
   rw [ek] at hd hPn
   have hd:=Dn.inn _ _ _ hd
   rw [es1] at hd
   have hokl:cH okI (pre++(q,fa)::((j:Int),fb)::post) 0:=(fA _ _ _).2 ⟨ok1,⟨t.na,t.ra⟩,⟨t.nb,t.rb⟩,ok2⟩
   have hPs:=zS (ia hokl) hPn
   rw [es1] at hPs
   have hPo:HP (bw pre++(q,aP (e1++(p,h)::e2))::bw post):=by
    have e0:bc pre++e1++(p,h)::(e2++bc post)=bc (pre++(q,e1++(p,h)::e2)::post):=by simp [bc]
    have h0:=f.hp
    rw [e0] at h0
    have:=zS (ia (f.okI _ (cB ..))) h0
    have e':bw (pre++(q,e1++(p,h)::e2)::post)=bw pre++(q,aP (e1++(p,h)::e2))::bw post:=by simp [bw]
    rwa [e'] at this
   have hlo:∀y∈bw pre,aC y.2 (aP fa):=fun y hy=>(dJ.1 hPs).2.2 y hy (q,aP fa) (by simp)
   have hhi:aC (aP fa) (aP (e1++(p,h)::e2)):=(gt.1 (dJ.1 hPs).2.1).1 ((j:Int),aP (e1++(p,h)::e2)) (by simp)
   have hf2:BV n r (bk (bk (bk es j []) q (cD (aD fa ((j:Int)+1)))) j (cD (aD fb (aW post 0)))) up ((pre++(q,fa)::((j:Int),fb)::post)::d) b (bg br (pre++(q,fa)::((j:Int),fb)::post) 0++X) q j (aP fa) (aP (e1++(p,h)::e2)) (bw pre) (bw post):=by
    refine ⟨hs3,hd,hPo,hlo,hhi.2,t.mid,Bd f.shf hqk,hjr,fun l hl=>f.okI l (by simp [hl]),?_,by have:=f.room;rw [hlen3];simp at this |-;omega⟩
    refine hp3.trans ?_
    rw [i6,bg,bg]
    refine ((List.Perm.swap ..).trans ?_)
    have h1:(cP up++(bg br pre (q+1)++(q,br fa ((j:Int)+1))::((j:Int),br fb (aW post 0))::bg br post 0++X)).Perm ((q,br fa ((j:Int)+1))::((j:Int),br fb (aW post 0))::(cP up++(bg br pre (q+1)++(bg br post 0++X)))):=by
     have e0:cP up++(bg br pre (q+1)++(q,br fa ((j:Int)+1))::((j:Int),br fb (aW post 0))::bg br post 0++X)=(cP up++bg br pre (q+1))++(q,br fa ((j:Int)+1))::((j:Int),br fb (aW post 0))::(bg br post 0++X):=by simp
     rw [e0]
     refine List.perm_middle.trans (List.Perm.cons _ (List.perm_middle.trans (List.Perm.cons _ ?_)))
     rw [bu]
    refine List.Perm.trans ?_ h1.symm
    refine List.Perm.cons _ (List.Perm.cons _ ?_)
    exact WR _ _ _ _
   obtain ⟨r',up',es',g1,g2,g3,g4,g5,g6,g8,g9,g7⟩:=ih hf2
   refine ⟨r',(pre++(q,fa)::((j:Int),fb)::post)::up',es',g1,?_,?_,?_,?_,?_,?_,?_,?_⟩
   ·rw [mF,bu];exact g2
   ·intro l hl
    rcases bP.1 hl with rfl | hl
    ·exact hokl
    ·exact g3 l hl
   ·refine g4.trans ?_
    rw [lP,<-bu]
    exact List.Perm.append_right X BM
   ·simp
   ·intro h2 l hl x hx
    obtain ⟨z,up2,rfl⟩:=mB g5
    refine g6 ?_ l (by simpa using hl) x hx
    cases up with
    | nil=>intro l hl;cases hl
    | cons y up=>intro l hl;exact h2 l (by simpa using hl)
   ·intro hc hs hk5 hF l hl x hx
    have h0:=Ly ok2 (po.1 hc).2
    have hse:∀y∈e1++(p,h)::e2,y.2.length<=5:=hs _ (cB ..) (q,e1++(p,h)::e2) (by simp)
    have hbg:=t.big hse hk5
    have hk5':(aP fa).length<=5:=by
     obtain ⟨z,hz,e⟩:=zQ t.na
     rw [e]
     have:z∈e1++(p,k)::(to,h)::e2:=by rw [t.cut];exact jS _ hz
     rcases bp.1 this with h1 | h1
     ·exact hse z (by simp [h1])
     ·rcases bP.1 h1 with rfl | h1
      ·exact hk5
      ·rcases bP.1 h1 with rfl | h1
       ·exact hse (p,h) (by simp)
       ·exact hse z (by simp [h1])
    have hup3:=g8 (by rw [h0];rfl) (fun l hl=>hs l (by simp [hl])) hk5' (fun l hl=>hF l (by simp [hl]))
    subst h0
    rcases bP.1 hl with rfl | hl
    ·rw [show pre++[(q,fa),((j:Int),fb)]=(pre++[(q,fa)])++[((j:Int),fb)] by simp,tJ] at hx
     rcases bp.1 hx with hx | hx
     ·exact hF _ (cB ..) x (by rw [tJ];exact hx)
     ·rw [eZ.1 hx];exact hbg
    ·exact hup3 l hl x hx
   ·intro hF l hl x hx
    obtain ⟨z,up2,rfl⟩:=mB g5
    have hup2:=g9 (fun l hl=>hF l (by
     cases up with
     | nil=>cases hl
     | cons y up=>rw [mA (by simp)];exact jT _ hl))
    rw [mA (by simp)] at hl
    rcases bP.1 hl with rfl | hl
    ·have h0:∀y,y∈pre∨y∈post->6<=y.2.length:=by
      intro y hy
      cases up with
      | nil =>
       have hd0:=W9 hup
       rcases hy with hy | hy
       ·rw [hd0.1] at hy;cases hy
       ·rw [hd0.2] at hy;cases hy
      | cons w up =>
       exact hF (pre++(q,e1++(p,h)::e2)::post) (by rw [mA (by simp)];exact cB ..) y (by rcases hy with hy | hy<;>simp [hy])
     rcases bp.1 hx with hx | hx
     ·exact h0 x (.inl hx)
     ·rcases bP.1 hx with rfl | hx
      ·exact t.six.1
      ·rcases bP.1 hx with rfl | hx
       ·exact t.six.2
       ·exact h0 x (.inr hx)
    ·exact hup2 l hl x hx
   ·exact .two f.shf hgq hr f.key hput hjf hj hj2 hra hrb t.ra t.rb hspl hcase g7
theorem Z4 {n:Nat} {r:Int} {es:Es} {k:Bs} {p to:Int} {sts:List aI} {r':Int} {es':Es} (h:mL n r es sts k p to r' es'):HC n r es k p to sts r' es':=by
 induction h with
 | @top es k p to j hs hf hj hq hr =>
  have hs1:=vx hs (b:=[]) hj hq
  apply Ol
  case h =>
   unfold xK
   rw [show pL []=[] from rfl,XD,cz uZ (Bm hs hf hq)]
   show (aT aA _ _ _ [_,_,.ifc 150 (eI (aD [(p,k),(to,[])] 0))] (tM j n (bk es j [])) _)=_
   rw [cz hX (qZ hs1 DJ hr)]
   try exact rfl
  case hc=>intro r0 n0 e0 b0;kernel_rfl
 | @room es sts k p to q e nx i e' hs hg hr hk hp hr' =>
  have hpc:=AG (aD e nx) k to (me hr) (by have:=(gZ hk).2;omega)
  have hst:jO (q,e,nx,i) = .agg [.int .i64 q,.sl (aV (aD e nx).seps),.sl (aB (aD e nx).kids),.str (aP e),.int .i64 nx,.int .i64 (i:Int)]:=rfl
  apply Ol
  case h =>
   unfold xK
   simp only [pL,vm,lY,mj,bU,mn,hst,lL]
   show (aE aA _ [eI (aD e nx),_,_] _)=_
   rw [aK hpc,hp,uy,dV rfl,cond_true]
   show (aT aA _ _ _ [_,_,.ifc 150 (eI (aD e' nx))] (tM r n es) _)=_
   rw [cz hX (qZ hs hg hr')]
   try exact rfl
  case hc=>intro r0 n0 e0 b0;kernel_rfl
 | @two es sts k p to q e nx i j ea eb fa fb r' es' hs hg hr hk hp hf hj hq hra hrb rfa rfb hspl hcase _ ih =>
  obtain ⟨m,g5,g6⟩:=ih
  have hpc:=AG (aD e nx) k to (me hr) (by have:=(gZ hk).2;omega)
  have hst:jO (q,e,nx,i) = .agg [.int .i64 q,.sl (aV (aD e nx).seps),.sl (aB (aD e nx).kids),.str (aP e),.int .i64 nx,.int .i64 (i:Int)]:=rfl
  have hsc:=Y8 (aD e nx) j (me hr)
  rw [hspl] at hsc
  have hs1:=vx hs (b:=[]) hj hq
  have hqj:q≠(j:Int):=fun e=>hq (e ▸ wZ hg)
  have hg1:cF (bk es j []) q=some _:=(zN hqj).trans hg
  have hs2:=jl hs1 (b:=cD (aD fa ((j:Int)+1))) (wZ hg1)
  have hg2:cF (bk (bk es j []) q (cD (aD fa ((j:Int)+1)))) j=some []:=(zN hqj.symm).trans DJ
  refine ⟨m,MR _ _ _ _ _ _ _ _ ?_ g5,g6⟩
  unfold xK
  simp only [pL,vm,lY,mj,bU,mn,hst,lL]
  show (aE aA _ [eI (aD e nx),_,_] _)=_
  rw [aK hpc,hp,uy,eK (by decide),cond_false,cz uZ (Bm hs hf hq)]
  show (aE aA _ [eI (aD e nx),_] _)=_
  rw [aK hsc,Qy]
  rcases hcase with ⟨hl,hpa,rfl⟩ | ⟨hl,rfl,hpb⟩
  ·have hpc2:=AG (aD ea ((j:Int)+1)) k to (me hra) (by have:=(gZ hk).2;omega)
   rw [hpa] at hpc2
   have hl':Op.bytesLess k (aP fa)=true:=hl
   rw [hl',cond_true]
   show (aE aA _ [eI (aD ea ((j:Int)+1)),_,_] _)=_
   rw [aK hpc2,uy]
   show (aT aA _ _ _ [_,_,.ifc 150 (eI (aD fa ((j:Int)+1)))] (tM r n (bk es j [])) _)=_
   rw [cz hX (qZ hs1 hg1 rfa)]
   show (aT aA _ _ _ [_,_,.ifc 150 (eI (aD eb nx))] (tM r n (bk (bk es j []) q (cD (aD fa ((j:Int)+1))))) _)=_
   rw [cz hX (qZ hs2 hg2 rfb)]
  ·have hpc2:=AG (aD eb nx) k to (me hrb) (by have:=(gZ hk).2;omega)
   rw [hpb] at hpc2
   have hl':Op.bytesLess k (aP ea)=false:=hl
   rw [hl',cond_false]
   show (aE aA _ [eI (aD eb nx),_,_] _)=_
   rw [aK hpc2,uy]
   show (aT aA _ _ _ [_,_,.ifc 150 (eI (aD ea ((j:Int)+1)))] (tM r n (bk es j [])) _)=_
   rw [cz hX (qZ hs1 hg1 rfa)]
   show (aT aA _ _ _ [_,_,.ifc 150 (eI (aD fb nx))] (tM r n (bk (bk es j []) q (cD (aD ea ((j:Int)+1))))) _)=_
   rw [cz hX (qZ hs2 hg2 rfb)]
structure jr (prs:List Pr) (h:Bs):Prop where
 ri:prs.Pairwise fun x y=>lt x.1 y.1=true
 mem:∀x∈prs,bF x.1=true/\dS x.2=true
 hi:h=[]∨(bF h=true/\∀x∈prs,lt x.1 h=true)
 wt:aS prs<=231
theorem vp {l:List Pr}:iZ (aU l)↔l.Pairwise fun x y=>lt x.1 y.1=true:=Hj
theorem Ms:∀{l:List Pr} {p:Bs},(l.Pairwise fun x y=>lt x.1 y.1=true)->(∀x∈l,bF x.1=true/\dS x.2=true)->(∀x∈l,lt p x.1=true)->jK p l=true
 | [],_,_,_,_=>rfl
 | x::l,p,h1,h2,h3=>by
  obtain ⟨h4,h5⟩:=gt.1 h1
  have ih:=Ms (p:=x.1) h5 (fun y hy=>h2 y (by simp [hy])) h4
  obtain ⟨q1,q2⟩:=h2 x (by simp)
  unfold jK
  rw [q1,q2,h3 x (by simp),ih];rfl
theorem U1 {l:List Pr} {h:Bs} (hk:bF h=true) (ha:∀x∈l,lt x.1 h=true):lt (ll [] l) h=true:=by
 rcases d9 l with rfl | ⟨a,x,rfl⟩
 ·exact qg hk
 ·have:ll [] (a.concat x)=x.1:=by simp [ll]
  rw [this];exact ha x (by simp)
theorem oY {prs:List Pr} {h:Bs} {nx:Int} (o:jr prs h) (h0:0<=nx) (h1:nx<=1024):cE ⟨prs,h,nx⟩=true:=by
 refine qL.2 ⟨Ms o.ri o.mem fun x hx=>qg (o.mem x hx).1,?_,h0,h1,o.wt⟩
 unfold eJ
 rcases o.hi with h | ⟨hk,ha⟩
 ·simp only [h];rfl
 ·simp only [hk,U1 hk ha];simp
theorem qm {prs:List Pr} {h:Bs} {nx:Int} (o:cE ⟨prs,h,nx⟩=true):jr prs h/\0<=nx/\nx<=1024:=by
 have g:=qa o
 obtain ⟨h1,h2,h3,h4,h5⟩:=qL.1 o
 have hr:=vp.1 g.ri
 refine ⟨⟨hr,g.mem,?_,h5⟩,h3,h4⟩
 simp only [eJ,mTz,bv] at h2
 rcases h2 with h2 | ⟨h2,h6⟩
 ·exact .inl (by simpa using h2)
 ·refine .inr ⟨h2,fun x hx=>?_⟩
  rcases d9 prs with rfl | ⟨a,y,rfl⟩
  ·cases hx
  ·have e:ll [] (a.concat y)=y.1:=by simp [ll]
   rw [e] at h6
   rw [gH] at hx hr
   rcases bp.1 hx with hx | hx
   ·exact lt_trans ((dJ.1 hr).2.2 x hx y (by simp)) h6
   ·have:x=y:=by simpa using hx
    rw [this];exact h6
theorem Bn {l:List Pr} (hr:iZ (aU l)) (k:Bs):∀x∈l.take (bI (aU l) k),lt x.1 k=true:=by
 intro x hx
 obtain ⟨i,hi⟩:=vT hx
 rw [gI] at hi
 split at hi
 ·exact (Af hr k (su hi)).2 ‹_›
 ·cases hi
theorem zp {l:List Pr} (hr:iZ (aU l)) (k:Bs):∀x∈l.drop (if co (aU l) k then bI (aU l) k+1 else bI (aU l) k),lt k x.1=true:=by
 intro x hx
 obtain ⟨i,hi⟩:=vT hx
 rw [gf] at hi
 have hp:=vp.1 hr
 have hat:∀{a b:Nat} {y z:Pr},l[a]? = some y->l[b]? = some z->a < b->lt y.1 z.1=true:=by
  intro a b y z ha hb hab
  obtain ⟨h1,rfl⟩:=bj.1 ha
  obtain ⟨h2,rfl⟩:=bj.1 hb
  exact BL.1 hp a b h1 h2 hab
 cases hh:co (aU l) k with
 | true =>
  rw [hh,if_pos rfl] at hi
  obtain ⟨h2,h3⟩:=rF hh
  have h2':bI (aU l) k < l.length:=by rwa [oF] at h2
  have h4:l[bI (aU l) k]? = some l[bI (aU l) k]:=bC h2'
  have h5:=hat h4 hi (by omega)
  have h6:l[bI (aU l) k].1=k:=by
   have:=su h4
   rw [bC h2] at this
   rw [h3] at this
   exact (Option.some.inj this).symm
  rwa [h6] at h5
 | false =>
  rw [hh] at hi
  have hi:l[bI (aU l) k+i]? = some x:=hi
  have aC:bI (aU l) k < l.length:=by
   have:=(bj.1 hi).1
   omega
  have h4:l[bI (aU l) k]? = some l[bI (aU l) k]:=bC aC
  have h5:lt l[bI (aU l) k].1 k=false:=by
   cases hq:lt l[bI (aU l) k].1 k with
   | false=>rfl
   | true=>have:=(Af hr k (su h4)).1 hq;omega
  have h6:l[bI (aU l) k].1≠k:=by
   intro e
   unfold co at hh
   rw [su h4] at hh
   simp [e] at hh
  have h7:=m9 h5 h6
  rcases yv i with rfl | hpos
  ·rw [dK,h4] at hi
   rw [<-Option.some.inj hi];exact h7
  ·exact lt_trans h7 (hat h4 hi (by omega))
theorem E5 {prs:List Pr} {h k v:Bs} (o:jr prs h) (hk:bF k=true) (hv:dS v=true) (hh:h=[]∨lt k h=true) (hw:aS (cv prs k v)<=231):jr (cv prs k v) h:=by
 have hr:=vp.2 o.ri
 refine ⟨?_,fun x hx=>?_,?_,hw⟩
 ·unfold cv
  have h1:=Bn hr k
  have h2:=zp hr k
  refine dJ.2 ⟨dJ.2 ⟨o.ri.sublist (List.take_sublist ..),by simp,?_⟩,o.ri.sublist (List.drop_sublist ..),?_⟩
  ·intro x hx y hy
   have:y=(k,v):=by simpa using hy
   rw [this];exact h1 x hx
  ·intro x hx y hy
   rcases bp.1 hx with hx | hx
   ·exact lt_trans (h1 x hx) (h2 y hy)
   ·have:x=(k,v):=by simpa using hx
    rw [this];exact h2 y hy
 ·rcases qJ hx with rfl | hx
  ·exact ⟨hk,hv⟩
  ·exact o.mem x hx
 ·rcases o.hi with h' | ⟨h1,h2⟩
  ·exact .inl h'
  ·refine .inr ⟨h1,fun x hx=>?_⟩
   rcases qJ hx with rfl | hx
   ·exact hh.resolve_left (oE h1)
   ·exact h2 x hx
theorem TZ {prs:List Pr} {h:Bs} (o:jr prs h) (m:Nat) {x:Pr} (hx:prs[m]? = some x) (h0:0 < m):jr (prs.take m) x.1/\jr (prs.drop m) h/\aC x.1 h/\bF x.1=true/\(∀y∈prs.drop m,lt y.1 x.1=false)/\∃y∈prs,lt y.1 x.1=true:=by
 obtain ⟨hm,e⟩:=bj.1 hx
 have hd:prs.drop m=x::prs.drop (m+1):=by rw [<-e];exact rl hm
 have hri:=o.ri
 rw [<-ig m prs] at hri
 obtain ⟨r1,r2,r3⟩:=dJ.1 hri
 have hxm:x∈prs:=cG hx
 have hw:=vN prs m
 have ow:=o.wt
 have hkx:=(o.mem x hxm).1
 refine ⟨⟨r1,fun y hy=>o.mem y (mE hy),.inr ⟨hkx,fun y hy=>r3 y hy x (by rw [hd];simp)⟩,by omega⟩,⟨r2,fun y hy=>o.mem y (kD hy),?_,by omega⟩,⟨oE hkx,?_⟩,hkx,?_,?_⟩
 ·rcases o.hi with h' | ⟨h1,h2⟩
  ·exact .inl h'
  ·exact .inr ⟨h1,fun y hy=>h2 y (kD hy)⟩
 ·rcases o.hi with h' | ⟨h1,h2⟩
  ·exact .inl h'
  ·exact .inr (h2 x hxm)
 ·intro y hy
  rw [hd] at hy r2
  rcases bP.1 hy with rfl | hy
  ·exact iw _
  ·exact l7 ((gt.1 r2).1 y hy)
 ·have h00:0 < prs.length:=by omega
  refine ⟨prs[0],vU h00,?_⟩
  rw [<-e]
  exact BL.1 o.ri 0 m h00 hm h0
theorem sV {pre post:LL} {p:Int} {prs:List Pr} {h:Bs} (ho:iY (pre++(p,prs,h)::post)) :
  iY pre/\iY post/\(∀y∈pre,aC y.2.2 h/\∀x∈prs,lt x.1 y.2.2=false)/\(∀z∈post,aC h z.2.2/\∀x∈z.2.1,lt x.1 h=false)/\(∀y∈pre,∀z∈post,aC y.2.2 z.2.2/\∀x∈z.2.1,lt x.1 y.2.2=false):=by
 obtain ⟨h1,h2,h3⟩:=dJ.1 ho
 obtain ⟨h4,h5⟩:=gt.1 h2
 exact ⟨h1,h5,fun y hy=>h3 y hy (p,prs,h) (by simp),fun z hz=>h4 z hz,fun y hy z hz=>h3 y hy z (by simp [hz])⟩
theorem LS {pre post:LL} {p:Int} {prs prs':List Pr} {h:Bs} (ho:iY (pre++(p,prs,h)::post)) (hn:∀y∈pre,∀x∈prs',lt x.1 y.2.2=false):iY (pre++(p,prs',h)::post):=by
 obtain ⟨h1,h2,h3,h4,h5⟩:=sV ho
 refine dJ.2 ⟨h1,gt.2 ⟨h4,h2⟩,?_⟩
 intro y hy z hz
 rcases bP.1 hz with rfl | hz
 ·exact ⟨(h3 y hy).1,hn y hy⟩
 ·exact h5 y hy z hz
theorem WB {pre post:LL} {p j:Int} {prs A B:List Pr} {h s:Bs} (ho:iY (pre++(p,prs,h)::post)) (hA:∀y∈pre,∀x∈A,lt x.1 y.2.2=false) (hB:∀y∈pre,∀x∈B,lt x.1 y.2.2=false)
  (hs:∀y∈pre,aC y.2.2 s) (hsh:aC s h) (hsB:∀x∈B,lt x.1 s=false):iY (pre++(p,A,s)::(j,B,h)::post):=by
 obtain ⟨h1,h2,h3,h4,h5⟩:=sV ho
 refine dJ.2 ⟨h1,gt.2 ⟨?_,gt.2 ⟨h4,h2⟩⟩,?_⟩
 ·intro z hz
  rcases bP.1 hz with rfl | hz
  ·exact ⟨hsh,hsB⟩
  ·obtain ⟨q1,q2⟩:=h4 z hz
   refine ⟨DZ hsh q1,fun x hx=>KM (q2 x hx) (hsh.2.resolve_left q1.1)⟩
 ·intro y hy z hz
  rcases bP.1 hz with rfl | hz
  ·exact ⟨hs y hy,hA y hy⟩
  ·rcases bP.1 hz with rfl | hz
   ·exact ⟨(h3 y hy).1,hB y hy⟩
   ·exact h5 y hy z hz
def bM (b:LL):List Pr:=b.flatMap fun x=>x.2.1
theorem ZY {n:Nat} {r:Int} {es:Es} {p to:Int} {k:Bs} {sts:List aI} {r':Int} {es':Es} (hl:sts.length<=10000) (h:mL n r es sts k p to r' es') :
  bN aA aH 123 [.ptr 0 0 0,.sl (eu sts.reverse),.str k,.int .i64 p,.int .i64 to] (tM r n es)=some (nf (r',n,aZ es',aL n (aN es'))):=by
 obtain ⟨m,g5,g6⟩:=Z4 h
 refine Q9 _ _ _ _ _ _ _ _ ?_ ⟨_,_,g5,g6 _ _ _ _⟩
 unfold IN
 rw [Pp sts (by omega),iy,HV]
theorem wO {up:List IL}:(cP up.reverse).Perm (cP up):=by
 induction up with
 | nil=>exact .refl _
 | cons l up ih =>
  rw [mF,cP,List.flatMap_append]
  refine List.perm_append_comm.trans ?_
  have e:List.flatMap (fun l=>bg br l 0) [l]=bg br l 0:=by simp
  rw [e]
  exact List.Perm.append_left _ ih
theorem Ag {es U:Es} {pre post:LL} {p:Int} {x:nV} (h:es.Perm (U++bg cI (pre++(p,x)::post) 0)):es.Perm ((p,cI x (aW post 0))::(bg cI pre (p+1)++bg cI post 0++U)):=by
 rw [i6,bg] at h
 refine h.trans (List.perm_append_comm.trans ?_)
 simp only [bu,dv]
 exact n4
theorem KN {U:Es} {pre post:LL} {p:Int} {x:nV}:((p,cI x (aW post 0))::(bg cI pre (p+1)++bg cI post 0++U)).Perm (U++bg cI (pre++(p,x)::post) 0):=(Ag (.refl _)).symm
theorem Ct:∀{d:List IL} {s:Su} {b b':LL},bS b'=bS b->Dn s d b->Dn s d b'
 | [],s,b,b',e,h=>by rw [iL h,<-e];exact .leaf _
 | l::d,s,b,b',e,h=>by
  obtain ⟨e1,h⟩:=gk h
  rw [e1]
  exact .inn _ _ _ (Ct e h)
theorem lc (a b:LL):bM (a++b)=bM a++bM b:=by simp [bM]
theorem gY (p:Int) (prs:List Pr) (h:Bs) (b:LL):bM ((p,prs,h)::b)=prs++bM b:=by simp [bM]
theorem U7 {z a s:Bs} (h1:lt z a=false) (h2:lt z s=true):lt a s=true:=by
 by_cases e:z=a
 ·rw [<-e];exact h2
 ·exact lt_trans (m9 h1 e) h2
structure WF (n:Nat) (r:Int) (es:Es) (ups:List IL) (b:LL):Prop extends WT n r es ups b where
 ne:ups≠[]->∀x∈b,x.2.1≠[]
 rt:yB ups.reverse
theorem U8 {r:Int} {b:LL} {pre post:LL} {x:Int × nV} (h:Dn [(r,[])] [] b) (hb:b=pre++x::post):pre=[]/\post=[]:=by
 have:=congrArg nY (iL h)
 rw [hb] at this
 simp [bS] at this
 exact ⟨pw (by omega),pw (by omega)⟩
theorem xn {n:Nat} {r:Int} {es:Es} {ups:List IL} {b:LL} (h:WF n r es ups b) {pre post:LL} {x:Int × nV} (hb:b=pre++x::post):∀y,y∈pre∨y∈post->y.2.1≠[]:=by
 intro y hy
 by_cases hu:ups=[]
 ·have hd:=h.dn
  rw [hu] at hd
  obtain ⟨rfl,rfl⟩:=U8 hd hb
  rcases hy with hy | hy<;>cases hy
 ·exact h.ne hu y (by rw [hb];rcases hy with hy | hy<;>simp [hy])
theorem Od {n:Nat} {r:Int} {es:Es} {ups:List IL} {b:LL} (h:WF n r es ups b) {p:Int} {h':Bs} {sts:List aI} {pre post:LL} {prs:List Pr} (hp:iF r ups.reverse p h' (bS pre) (bS post) sts) (hb:b=pre++(p,prs,h')::post)
  {A B:List Pr} {s:Bs} {j:Nat} (hj:j < n) (hj2:(j:Int)∉aM es) (oA:jr A s) (oB:jr B h') (hA0:A≠[]) (hB0:B≠[]) (hsh:aC s h') (hks:bF s=true) (hlo:∀y∈pre,aC y.2.2 s) (hA:∀y∈pre,∀x∈A,lt x.1 y.2.2=false) (hB:∀y∈pre,∀x∈B,lt x.1 y.2.2=false) (hsB:∀x∈B,lt x.1 s=false)
  (hroom:es.length+ups.length+2<=n) :
  ∃r' es' ups',WF n r' es' ups' (pre++(p,A,s)::((j:Int),B,h')::post)/\mL n r (bk (bk (bk es j []) p (bA ⟨A,s,(j:Int)+1⟩)) j (bA ⟨B,h',aW post 0⟩)) sts s p j r' es'/\(post=[]->yC ups->s.length<=5->Ft ups->Ft ups')/\(Fk ups.reverse->Fk ups'.reverse):=by
 have hne:=xn h hb
 subst hb
 have hn:=h.shf.le
 have hul:=mo h.toWT
 have hat:=Ag h.rep
 have hpk:=gz hat
 obtain ⟨ok1,ok3,ok2⟩:=(fA _ _ _).1 h.okF
 obtain ⟨o,hx0,hx1⟩:=qm (show cE ⟨prs,h',aW post 0⟩=true from ok3)
 have hrA:=oY oA (nx:=(j:Int)+1) (by omega) (by omega)
 have hrB:=oY oB hx0 hx1
 have hs1:=vx h.shf (b:=[]) hj hj2
 have hp1:(bk es j []).Perm ((p,cI (prs,h') (aW post 0))::(((j:Int),[])::(bg cI pre (p+1)++bg cI post 0++cP ups))):=by
  rw [s6 hj2]
  exact List.perm_append_comm.trans ((List.Perm.cons _ hat).trans (List.Perm.swap ..))
 have hg1:=mY hs1.nd hp1
 have hp2:=jI (b':=bA ⟨A,s,(j:Int)+1⟩) hs1.nd hp1
 have hs2:=jl hs1 (b:=bA ⟨A,s,(j:Int)+1⟩) (gz hp1)
 have hp2':=hp2.trans (List.Perm.swap ..)
 have hg2:=mY hs2.nd hp2'
 have hp3:=jI (b':=bA ⟨B,h',aW post 0⟩) hs2.nd hp2'
 have hs3:=jl hs2 (b:=bA ⟨B,h',aW post 0⟩) (gz hp2')
 have hlen3:(bk (bk (bk es j []) p (bA ⟨A,s,(j:Int)+1⟩)) j (bA ⟨B,h',aW post 0⟩)).length=es.length+1:=by
  rw [xz (gz hp2'),xz (gz hp1),AJ hj2]
 have eS:bS (pre++(p,A,s)::((j:Int),B,h')::post)=bS pre++(p,s)::((j:Int),h')::bS post:=by simp [bS]
 have eS0:bS (pre++(p,prs,h')::post)=bS pre++(p,h')::bS post:=by simp [bS]
 have hd:Dn (bS pre++(p,s)::((j:Int),h')::bS post) [] (pre++(p,A,s)::((j:Int),B,h')::post):=by
  rw [<-eS];exact .leaf _
 have hP:=AA h.ord
 rw [eS0] at hP
 have hf:BV n r (bk (bk (bk es j []) p (bA ⟨A,s,(j:Int)+1⟩)) j (bA ⟨B,h',aW post 0⟩)) ups.reverse [] (pre++(p,A,s)::((j:Int),B,h')::post) (bg cI (pre++(p,A,s)::((j:Int),B,h')::post) 0) p j s h' (bS pre) (bS post):=by
  refine ⟨hs3,hd,hP,fun y hy=>?_,hsh.2,hks,Bd h.shf hpk,Bd hs1 (by rw [qh hj2];simp),fun l hl=>h.okI l (by simpa using hl),?_,by rw [hlen3,yo];omega⟩
  ·obtain ⟨z,hz,rfl⟩:=dP.1 hy
   exact hlo z hz
  ·refine hp3.trans ?_
   rw [i6,bg,bg]
   refine ((List.Perm.swap ..).trans ?_)
   have h1:(cP ups.reverse++(bg cI pre (p+1)++(p,cI (A,s) ((j:Int)+1))::((j:Int),cI (B,h') (aW post 0))::bg cI post 0)).Perm ((p,cI (A,s) ((j:Int)+1))::((j:Int),cI (B,h') (aW post 0))::(cP ups.reverse++(bg cI pre (p+1)++bg cI post 0))):=by
    rw [<-bu]
    refine List.perm_middle.trans (List.Perm.cons _ (List.perm_middle.trans (List.Perm.cons _ ?_)))
    rw [bu]
   refine List.Perm.trans ?_ h1.symm
   refine List.Perm.cons _ (List.Perm.cons _ ?_)
   exact List.perm_append_comm.trans (List.Perm.append_right _ wO.symm)
 obtain ⟨r',up',es',g1,g2,g3,g4,g5,g6,g8,g9,g7⟩:=ZZ hp hf
 refine ⟨r',es',up'.reverse,⟨⟨g1,?_,?_,fun l hl=>g3 l (by simpa using hl),?_,WB h.ord hA hB hlo hsh hsB⟩,?_,?_⟩,g7,fun h0 h1 h2 h3 l hl=>g8 (by rw [h0];rfl) (fun l hl=>h1 l (by simpa using hl)) h2 (fun l hl=>h3 l (by simpa using hl)) l (by simpa using hl),fun h0=>by rw [BN];exact g9 h0⟩
 ·exact g4.trans (List.Perm.append_right _ wO.symm)
 ·rw [dA] at g2;exact g2
 ·exact (fA _ _ _).2 ⟨ok1,hrA,hrB,ok2⟩
 ·intro _ x hx
  rcases bp.1 hx with hx | hx
  ·exact hne x (.inl hx)
  ·rcases bP.1 hx with rfl | hx
   ·exact hA0
   ·rcases bP.1 hx with rfl | hx
    ·exact hB0
    ·exact hne x (.inr hx)
 ·rw [BN];exact g6 h.rt
abbrev pz (l:List Pr):Prop:=l.Pairwise fun x y=>lt x.1 y.1=true
theorem Io {α:Type} (l:List α) (i j:Nat) (h:i<=j):l=l.take i++((l.drop i).take (j - i)++l.drop j):=by
 have:l.drop j=(l.drop i).drop (j - i):=by rw [nW];congr 1;omega
 rw [this,ig,ig]
theorem Lg {l:List Pr} {k:Bs} (hr:iZ (aU l)):∀x∈(l.drop (bI (aU l) k)).take ((if co (aU l) k then bI (aU l) k+1 else bI (aU l) k) - bI (aU l) k),x.1=k:=by
 intro x hx
 cases hh:co (aU l) k with
 | false=>rw [hh] at hx;simp at hx
 | true =>
  rw [hh,if_pos rfl,show bI (aU l) k+1 - bI (aU l) k=1 by omega] at hx
  obtain ⟨h2,h3⟩:=rF hh
  have h2':bI (aU l) k < l.length:=by rwa [oF] at h2
  rw [rl h2',vX,tP] at hx
  have e:x=l[bI (aU l) k]:=eZ.1 hx
  have h4:l[bI (aU l) k]? = some l[bI (aU l) k]:=bC h2'
  have:=su h4
  rw [bC h2,h3] at this
  rw [e]
  exact (Option.some.inj this).symm
theorem rU {α:Type} {p:α->Bool} {l:List α} (h:∀x∈l,p x=true):l.filter p=l:=Hc.2 h
theorem rV {α:Type} {p:α->Bool} {l:List α} (h:∀x∈l,p x=false):l.filter p=[]:=List.filter_eq_nil_iff.2 fun x hx=>by rw [h x hx];simp
theorem Mf {l:List Pr} (hr:pz l) (k v:Bs):cv l k v=l.filter (fun x=>lt x.1 k)++(k,v)::l.filter (fun x=>lt k x.1):=by
 have hr':=vp.2 hr
 have h1:=Bn hr' k
 have h2:=zp hr' k
 have h3:=Lg (k:=k) hr'
 unfold cv
 generalize hj:(if co (aU l) k then bI (aU l) k+1 else bI (aU l) k)=j at *
 have hij:bI (aU l) k<=j:=by rw [<-hj];split<;>omega
 generalize bI (aU l) k=i at *
 have e:=Io l i j hij
 have f1:l.filter (fun x=>lt x.1 k)=l.take i:=by
  conv=>lhs;rw [e]
  rw [nX,nX,rU h1,rV (p:=fun x:Pr=>lt x.1 k) fun x hx=>by rw [h3 x hx];exact iw _,rV (p:=fun x:Pr=>lt x.1 k) fun x hx=>l7 (h2 x hx)]
  simp
 have f2:l.filter (fun x=>lt k x.1)=l.drop j:=by
  conv=>lhs;rw [e]
  rw [nX,nX,rV (p:=fun x:Pr=>lt k x.1) fun x hx=>l7 (h1 x hx),rV (p:=fun x:Pr=>lt k x.1) fun x hx=>by rw [h3 x hx];exact iw _,rU h2]
  simp
 rw [f1,f2]
 simp
theorem DO {l:List Pr} (hr:pz l) (k:Bs):co (aU l) k=l.any fun x=>x.1==k:=by
 have hr':=vp.2 hr
 cases hh:co (aU l) k with
 | true =>
  obtain ⟨h2,h3⟩:=rF hh
  have hm:k∈aU l:=h3 ▸ vU h2
  obtain ⟨x,hx,e⟩:=dP.1 hm
  exact (List.any_eq_true.2 ⟨x,hx,by rw [e];simp⟩).symm
 | false =>
  symm
  rw [tI]
  intro x hx hc
  have e:x.1=k:=by simpa using hc
  have h1:=Bn hr' k
  have h2:=zp hr' k
  rw [hh] at h2
  have h2:∀x∈l.drop (bI (aU l) k),lt k x.1=true:=h2
  rw [<-ig (bI (aU l) k) l] at hx
  rcases bp.1 hx with hx | hx
  ·have:=h1 x hx
   rw [e,iw] at this;cases this
  ·have:=h2 x hx
   rw [e,iw] at this;cases this
theorem Cm {l:List Pr} (hr:pz l) {k:Bs} (hh:co (aU l) k=true):fT l k=l.filter fun x=>!(x.1==k):=by
 have hr':=vp.2 hr
 have h1:=Bn hr' k
 have h2:=zp hr' k
 have h3:=Lg (k:=k) hr'
 unfold fT
 rw [hh,if_pos rfl] at h2 h3
 have e:=Io l (bI (aU l) k) (bI (aU l) k+1) (by omega)
 have ne:∀x:Pr,lt x.1 k=true∨lt k x.1=true->(!(x.1==k))=true:=by
  intro x hx
  by_cases he:x.1=k
  ·rw [he,iw] at hx;simp at hx
  ·simpa using he
 conv=>rhs;rw [e]
 rw [nX,nX,rU (p:=fun x:Pr=>!(x.1==k)) fun x hx=>ne x (.inl (h1 x hx)),rV (p:=fun x:Pr=>!(x.1==k)) fun x hx=>by rw [h3 x hx];simp,rU (p:=fun x:Pr=>!(x.1==k)) fun x hx=>ne x (.inr (h2 x hx))]
 simp
theorem zH:∀{b:LL} {n:Int},iY b->cH okF b n->pz (bM b)
 | [],_,_,_=>List.Pairwise.nil
 |(p,prs,h)::b,n,ho,hF=>by
  obtain ⟨h1,h2⟩:=gt.1 ho
  obtain ⟨o,_,_⟩:=qm (show cE ⟨prs,h,aW b n⟩=true from hF.1)
  rw [gY]
  refine dJ.2 ⟨o.ri,zH h2 hF.2,?_⟩
  intro x hx y hy
  obtain ⟨z,hz,hy⟩:=gK.1 hy
  obtain ⟨q1,q2⟩:=h1 z hz
  have hxh:=(o.hi.resolve_left q1.1).2 x hx
  have:=q2 y hy
  by_cases e:y.1=h
  ·rw [e];exact hxh
  ·exact lt_trans hxh (m9 this e)
theorem GQ {n:Int} {pre post:LL} {p:Int} {prs:List Pr} {h k:Bs} (ho:iY (pre++(p,prs,h)::post)) (hF:cH okF (pre++(p,prs,h)::post) n) (hlo:∀y∈bS pre,lt k y.2=false) (hhi:h=[]∨lt k h=true) :
  (∀x∈bM pre,lt x.1 k=true)/\∀x∈bM post,lt k x.1=true:=by
 obtain ⟨h1,h2,h3,h4,h5⟩:=sV ho
 obtain ⟨ok1,ok3,ok2⟩:=(fA _ _ _).1 hF
 constructor
 ·intro x hx
  obtain ⟨y,hy,hx⟩:=gK.1 hx
  obtain ⟨m,hm⟩:=EN ok1 y hy
  obtain ⟨o,_,_⟩:=qm (show cE ⟨y.2.1,y.2.2,m⟩=true from hm)
  have hxy:=(o.hi.resolve_left (h3 y hy).1.1).2 x hx
  have hky:lt k y.2.2=false:=hlo (y.1,y.2.2) (dP.2 ⟨y,hy,rfl⟩)
  by_cases e:k=y.2.2
  ·rw [e];exact hxy
  ·exact lt_trans hxy (m9 hky e)
 ·intro x hx
  obtain ⟨z,hz,hx⟩:=gK.1 hx
  obtain ⟨q1,q2⟩:=h4 z hz
  have hkh:=hhi.resolve_left q1.1
  have:=q2 x hx
  by_cases e:x.1=h
  ·rw [e];exact hkh
  ·exact lt_trans hkh (m9 this e)
inductive n8 (n:Nat) (r:Int) (es:Es) (k v:Bs):Bool->Int->Int->Es->Prop
 | arg (h:(bF k && dS v)=false):n8 n r es k v false 1 r es
 | put {ws:List aI} {pl:Int} {l:Lf} (hs:bX n es) (hk:bF k=true) (hv:dS v=true) (hw:ju es k r ws pl l) (hl:ws.length<=1024) (hg:cF es pl=some (bA l)) (hr0:cE l=true) (hh:l.high=[]∨lt k l.high=true) (hz:aS (cv l.prs k v)<=231) (hr:cE ⟨cv l.prs k v,l.high,l.next⟩=true) :
  n8 n r es k v (!co (aU l.prs) k) 0 r (bk es pl (bA ⟨cv l.prs k v,l.high,l.next⟩))
 | full {ws:List aI} {pl:Int} {l:Lf} (hs:bX n es) (hk:bF k=true) (hv:dS v=true) (hw:ju es k r ws pl l) (hl:ws.length<=1024) (hg:cF es pl=some (bA l)) (hr0:cE l=true) (hh:l.high=[]∨lt k l.high=true) (hz:¬aS (cv l.prs k v)<=231) (hf:n - es.length < ws.length+2) :
  n8 n r es k v false 6 r es
 | split {ws:List aI} {pl:Int} {l:Lf} {j:Nat} {x:Pr} {A B:List Pr} {r':Int} {es':Es} (hs:bX n es) (hk:bF k=true) (hv:dS v=true) (hw:ju es k r ws pl l) (hl:ws.length<=1024) (hg:cF es pl=some (bA l)) (hr0:cE l=true) (hh:l.high=[]∨lt k l.high=true) (hz:¬aS (cv l.prs k v)<=231) (hf:¬n - es.length < ws.length+2)
  (hfj:k8 n (aN es)=some j) (hj:j < n) (hq:(j:Int)∉aM es) (h2:2<=l.prs.length) (hx:l.prs[cQ l.prs]? = some x)
  (rA0:cE ⟨l.prs.take (cQ l.prs),x.1,(j:Int)+1⟩=true) (rB0:cE ⟨l.prs.drop (cQ l.prs),l.high,l.next⟩=true) (rA:cE ⟨A,x.1,(j:Int)+1⟩=true) (rB:cE ⟨B,l.high,l.next⟩=true)
  (hc:(lt k x.1=true/\A=cv (l.prs.take (cQ l.prs)) k v/\aS A<=231/\B=l.prs.drop (cQ l.prs))∨(lt k x.1=false/\A=l.prs.take (cQ l.prs)/\B=cv (l.prs.drop (cQ l.prs)) k v/\aS B<=231))
  (hu:mL n r (bk (bk (bk es j []) pl (bA ⟨A,x.1,(j:Int)+1⟩)) j (bA ⟨B,l.high,l.next⟩)) ws.reverse x.1 pl j r' es') :
  n8 n r es k v (!co (aU l.prs) k) 0 r' es'
theorem On {es:Es} {k:Bs} {p:Int} {ws:List aI} {pl:Int} {l:Lf} (h:ju es k p ws pl l):cF es pl=some (bA l)/\cE l=true:=by
 induction h with
 | leaf hg hr=>exact ⟨hg,hr⟩
 | inn _ _ _ _ _ ih=>exact ih
theorem AK {k v:Bs} {r n:Int} {es:List (V × V)} {bs:List V} {m:List O} {v0:V} {L:Bool × Int × Int × Int × List (V × V) × List V} (h:uD k v r n es bs=some (.doneM v0 m)) (hc:gV aH (tm r n es bs) v0 m=kw L) :
  bN aA aH 32 [.ptr 0 0 0,.str k,.str v] (tm r n es bs)=some (kw L):=R9 _ _ _ _ _ _ h (.done hc)
theorem NK {x1:List V} {q:Lf} {p:Int} {k v:Bs} {r n:Int} {es:List (V × V)} {bs:List V} {m:List O} {L:Int × Int × List (V × V) × List V} (h:zu x1 (bq q.prs) q.high q.next p k v r n es bs=some (.doneM (.tup []) m)) (hc:gV aH (tm r n es bs) (.tup []) m=oM L) :
  bN aA aH 79 [.ptr 0 0 0,.sl x1,eL q,.int .i64 p,.agg [.str k,.str v]] (tm r n es bs)=some (oM L):=SD _ _ _ _ _ _ _ _ _ _ _ h (.done hc)
theorem DG (l:Lf) (h:cE l=true) (k:Bs):∃g,bK aA 76 [eL l,.str k]=some (.tup [.str g,.int .i64 (bif co (aU l.prs) k then 0 else 7)]):=by
 rw [J7 l h k]
 cases co (aU l.prs) k with
 | true=>exact ⟨_,rfl⟩
 | false=>exact ⟨_,rfl⟩
theorem Ke (b:Bool):((bif b then 0 else 7:Int) != (0:Int)) = !b:=by cases b<;>rfl
theorem xA {n:Nat} {r:Int} {es:Es} {k v:Bs} {ok:Bool} {e r':Int} {es':Es} (h:n8 n r es k v ok e r' es') :
  bN aA aH 32 [.ptr 0 0 0,.str k,.str v] (tM r n es)=some (kw (ok,e,r',n,aZ es',aL n (aN es'))):=by
 cases h with
 | arg h =>
  refine AK (v0:=.tup [.bool false,.int .i64 1]) (m:=tM r n es) ?_ (by kernel_rfl)
  unfold uD
  rw [aK (iv k),cR]
  cases hk:bF k with
  | false=>rfl
  | true =>
   rw [hk,dI] at h
   rw [bR,cond_false,aK (vL v),cR,h];rfl
 | @put ws pl l hs hk hv hw hl hg hr0 hh hz hr =>
  obtain ⟨g,hget⟩:=DG l hr0 k
  have hput:=xw l hr0 k v hk hv hh
  unfold oT at hput
  rw [if_pos hz] at hput
  apply AK
  case h =>
   unfold uD
   rw [aK (iv k),cR,hk,bR,cond_false,aK (vL v),cR,hv,bR,cond_false,cU qA (qY hs hw (by omega)),bY]
   show (aE aA _ [eL l,_] _)=_
   rw [aK hget,kZ]
   show (aE aA _ [eL l,_,_] _)=_
   rw [aK hput,lK,dV rfl,cond_true]
   show (aT aA _ _ _ [_,_,.ifc 120 (eL ⟨cv l.prs k v,l.high,l.next⟩)] (tM r n es) _)=_
   rw [cz hX (pf hs hg hr),Ke]
  case hc=>kernel_rfl
 | @full ws pl l hs hk hv hw hl hg hr0 hh hz hf =>
  obtain ⟨g,hget⟩:=DG l hr0 k
  have hput:=xw l hr0 k v hk hv hh
  unfold oT at hput
  rw [if_neg hz] at hput
  have hll:=ql hs
  have hn:=hs.le
  have w1:W .i64 (((eu ws).length:Int)+1)=((ws.length+1:Nat):Int):=by rw [qU,aX (by omega)];omega
  have w2:W .i64 (((ws.length+1:Nat):Int)+1)=((ws.length+2:Nat):Int):=by rw [aX (by omega)];omega
  apply AK
  case h =>
   unfold uD
   rw [aK (iv k),cR,hk,bR,cond_false,aK (vL v),cR,hv,bR,cond_false,cU qA (qY hs hw (by omega)),bY]
   show (aE aA _ [eL l,_] _)=_
   rw [aK hget,kZ]
   show (aE aA _ [eL l,_,_] _)=_
   rw [aK hput,lK,eK (by decide),cond_false,cU Ap (zL hs),bY,w1,w2,decide_eq_true (by omega),cond_true]
  case hc=>kernel_rfl
 | @split ws pl l j x A B r' es' hs hk hv hw hl hg hr0 hh hz hf hfj hj hq h2 hx rA0 rB0 rA rB hc hu =>
  obtain ⟨g,hget⟩:=DG l hr0 k
  have hput:=xw l hr0 k v hk hv hh
  unfold oT at hput
  rw [if_neg hz] at hput
  have hll:=ql hs
  have hn:=hs.le
  have w1:W .i64 (((eu ws).length:Int)+1)=((ws.length+1:Nat):Int):=by rw [qU,aX (by omega)];omega
  have w2:W .i64 (((ws.length+1:Nat):Int)+1)=((ws.length+2:Nat):Int):=by rw [aX (by omega)];omega
  have hspl:=Za l hr0 h2 j (by omega)
  simp only [xW] at hspl
  rw [hx] at hspl
  simp only [tV] at hspl
  have hs1:=vx hs (b:=[]) hj hq
  have hpj:pl≠(j:Int):=fun e=>hq (e ▸ wZ hg)
  have hg1:cF (bk es j []) pl=some _:=(zN hpj).trans hg
  have hs2:=jl hs1 (b:=bA ⟨A,x.1,(j:Int)+1⟩) (wZ hg1)
  have hg2:cF (bk (bk es j []) pl (bA ⟨A,x.1,(j:Int)+1⟩)) j=some []:=(zN hpj.symm).trans DJ
  have hup:=ZY (by rw [yo];omega) hu
  rw [BN] at hup
  have hsp:bN aA aH 79 [.ptr 0 0 0,.sl (eu ws),eL l,.int .i64 pl,.agg [.str k,.str v]] (tM r n es)=some (oM (r',n,aZ es',aL n (aN es'))):=by
   rcases hc with ⟨hkx,rfl,hwA,rfl⟩ | ⟨hkx,rfl,rfl,hwB⟩
   ·have hput:=xw _ rA0 k v hk hv (.inr hkx)
    unfold oT at hput
    rw [if_pos hwA] at hput
    apply NK
    case h =>
     unfold zu
     rw [cz uZ (Bm hs hfj hq)]
     show (aE aA _ [eL l,_] _)=_
     rw [aK hspl,It,show Op.bytesLess k x.1=true from hkx,cond_true]
     show (aE aA _ [eL ⟨l.prs.take (cQ l.prs),x.1,(j:Int)+1⟩,_,_] _)=_
     rw [aK hput,lK]
     show (aT aA _ _ _ [_,_,.ifc 120 (eL ⟨cv (l.prs.take (cQ l.prs)) k v,x.1,(j:Int)+1⟩)] (tM r n (bk es j [])) _)=_
     rw [cz hX (pf hs1 hg1 rA)]
     show (aT aA _ _ _ [_,_,.ifc 120 (eL ⟨l.prs.drop (cQ l.prs),l.high,l.next⟩)] (tM r n (bk (bk es j []) pl (bA ⟨cv (l.prs.take (cQ l.prs)) k v,x.1,(j:Int)+1⟩))) _)=_
     rw [cz hX (pf hs2 hg2 rB),cz Li hup]
    case hc=>kernel_rfl
   ·have hput:=xw _ rB0 k v hk hv hh
    unfold oT at hput
    rw [if_pos hwB] at hput
    apply NK
    case h =>
     unfold zu
     rw [cz uZ (Bm hs hfj hq)]
     show (aE aA _ [eL l,_] _)=_
     rw [aK hspl,It,show Op.bytesLess k x.1=false from hkx,cond_false]
     show (aE aA _ [eL ⟨l.prs.drop (cQ l.prs),l.high,l.next⟩,_,_] _)=_
     rw [aK hput,lK]
     show (aT aA _ _ _ [_,_,.ifc 120 (eL ⟨l.prs.take (cQ l.prs),x.1,(j:Int)+1⟩)] (tM r n (bk es j [])) _)=_
     rw [cz hX (pf hs1 hg1 rA)]
     show (aT aA _ _ _ [_,_,.ifc 120 (eL ⟨cv (l.prs.drop (cQ l.prs)) k v,l.high,l.next⟩)] (tM r n (bk (bk es j []) pl (bA ⟨l.prs.take (cQ l.prs),x.1,(j:Int)+1⟩))) _)=_
     rw [cz hX (pf hs2 hg2 rB),cz Li hup]
    case hc=>kernel_rfl
  apply AK
  case h =>
   unfold uD
   rw [aK (iv k),cR,hk,bR,cond_false,aK (vL v),cR,hv,bR,cond_false,cU qA (qY hs hw (by omega)),bY]
   show (aE aA _ [eL l,_] _)=_
   rw [aK hget,kZ]
   show (aE aA _ [eL l,_,_] _)=_
   rw [aK hput,lK,eK (by decide),cond_false,cU Ap (zL hs),bY,w1,w2,decide_eq_false (by omega),cond_false]
   show (aT aA _ _ _ [_,_,eL l,_,_] _ _)=_
   rw [cz VY hsp,Ke]
  case hc=>kernel_rfl
theorem E6 (l:List Pr) (k v:Bs):cv l k v≠[]:=by simp [cv]
theorem Xd (l:List Pr) (k v:Bs):l.length<=(cv l k v).length:=by
 unfold cv
 simp only [c8,gq,gg,cL,fR]
 split<;>omega
theorem E7 {a m c:List Pr} {k v:Bs} (ha:∀x∈a,lt x.1 k=true) (hc:∀x∈c,lt k x.1=true) (hr:pz (a++(m++c))):cv (a++(m++c)) k v=a++(cv m k v++c):=by
 obtain ⟨r1,r2,_⟩:=dJ.1 hr
 obtain ⟨r3,_,_⟩:=dJ.1 r2
 rw [Mf hr,Mf r3]
 simp only [nX]
 rw [rU (p:=fun x:Pr=>lt x.1 k) ha,rV (p:=fun x:Pr=>lt k x.1) (l:=a) fun x hx=>l7 (ha x hx),rV (p:=fun x:Pr=>lt x.1 k) (l:=c) fun x hx=>l7 (hc x hx),rU (p:=fun x:Pr=>lt k x.1) hc]
 simp
theorem Kh {a m c:List Pr} {k:Bs} (ha:∀x∈a,lt x.1 k=true) (hc:∀x∈c,lt k x.1=true) (hr:pz (a++(m++c))):co (aU (a++(m++c))) k=co (aU m) k:=by
 obtain ⟨r1,r2,_⟩:=dJ.1 hr
 obtain ⟨r3,_,_⟩:=dJ.1 r2
 rw [DO hr,DO r3,List.any_append,List.any_append]
 have h1:(a.any fun x=>x.1==k)=false:=tI.2 fun x hx hc=>by
  have e:x.1=k:=by simpa using hc
  have:=ha x hx
  rw [e,iw] at this;cases this
 have h2:(c.any fun x=>x.1==k)=false:=tI.2 fun x hx hc2=>by
  have e:x.1=k:=by simpa using hc2
  have:=hc x hx
  rw [e,iw] at this;cases this
 rw [h1,h2];simp
structure Rs (ups:List IL) (b:LL):Prop where
 ft:Ft ups
 f2:∀x∈b.dropLast,2<=x.2.1.length
 h5:∀x∈b,x.2.2.length<=5
 k5:∀x∈bM b,x.1.length<=5/\aS [x]<=40
theorem IE:∀{d:List IL} {s:Su} {b:LL},Dn s d b->(∀l∈d,cH okI l 0)->(∀x∈b,x.2.2.length<=5)->(∀y∈s,y.2.length<=5)/\yC d
 | [],s,b,h,_,ha=>by
  refine ⟨fun y hy=>?_,fun l hl=>nomatch hl⟩
  rw [iL h,bS] at hy
  obtain ⟨z,hz,rfl⟩:=dP.1 hy
  exact ha z hz
 | l::d,s,b,h,hI,ha=>by
  obtain ⟨e,hk⟩:=gk h
  obtain ⟨i1,i2⟩:=IE hk (fun x hx=>hI x (by simp [hx])) ha
  constructor
  ·intro y hy
   rw [e,bw] at hy
   obtain ⟨z,hz,rfl⟩:=dP.1 hy
   obtain ⟨w,hw,e2⟩:=zQ (ia (hI _ (cB ..)) z hz)
   show (aP z.2).length<=5
   rw [e2]
   exact i1 w (gK.2 ⟨z,hz,hw⟩)
  ·intro l' hl'
   rcases bP.1 hl' with rfl | hl'
   ·intro x hx y hy
    exact i1 y (gK.2 ⟨x,hx,hy⟩)
   ·exact i2 l' hl'
def yA (ups:List IL) (b:LL) (k v:Bs) (ups':List IL) (b':LL):Prop:=(∀x∈bM b,lt x.1 k=true)->k.length<=5->aS [(k,v)]<=40->Rs ups b->Rs ups' b'
theorem MG {b b':LL} {k v:Bs} (h:bM b'=cv (bM b) k v) (hk:k.length<=5) (hw:aS [(k,v)]<=40) (h5:∀x∈bM b,x.1.length<=5/\aS [x]<=40):∀x∈bM b',x.1.length<=5/\aS [x]<=40:=by
 intro x hx
 rw [h] at hx
 rcases qJ hx with rfl | hx
 ·exact ⟨hk,hw⟩
 ·exact h5 x hx
theorem X5 {ups:List IL} {b:LL} {pre post:LL} {p:Int} {prs:List Pr} {h' k v:Bs} (hb:b=pre++(p,prs,h')::post) (hf:bM (pre++(p,cv prs k v,h')::post)=cv (bM b) k v) (hl:prs.length<=(cv prs k v).length):yA ups b k v ups (pre++(p,cv prs k v,h')::post):=by
 intro h1 h2 h3 h
 refine ⟨h.ft,?_,?_,MG hf h2 h3 h.k5⟩
 ·intro x hx
  have hf2:=h.f2
  rw [hb] at hf2
  cases post with
  | nil =>
   rw [tJ] at hx hf2
   exact hf2 x hx
  | cons y t =>
   rw [Hb (by simp),mA (by simp)] at hx hf2
   rcases bp.1 hx with hx | hx
   ·exact hf2 x (jS _ hx)
   ·rcases bP.1 hx with rfl | hx
    ·have:=hf2 (p,prs,h') (by simp)
     simp only at this |-
     omega
    ·exact hf2 x (by simp [hx])
 ·intro x hx
  have h5:=h.h5
  rw [hb] at h5
  rcases bp.1 hx with hx | hx
  ·exact h5 x (jS _ hx)
  ·rcases bP.1 hx with rfl | hx
   ·exact h5 (p,prs,h') (by simp)
   ·exact h5 x (by simp [hx])
theorem X6 {n:Nat} {r:Int} {es:Es} {ups ups':List IL} {b:LL} (hW:WF n r es ups b) {pre:LL} {p j:Int} {prs A B:List Pr} {h' k v s:Bs} (hb:b=pre++[(p,prs,h')]) (hf:bM (pre++[(p,A,s),(j,B,h')])=cv (bM b) k v) (hs:∃x∈bM b,x.1=s) (hA:A=prs.take (cQ prs)) (h2:2<=prs.length) (hw:¬aS prs+aS [(k,v)]<=231) (h50:∀x∈prs,aS [x]<=50) (hp:aS prs<=231)
  (hup:yC ups->s.length<=5->Ft ups->Ft ups'):yA ups b k v ups' (pre++[(p,A,s),(j,B,h')]):=by
 intro h1 hk5 h3 h
 obtain ⟨x0,hx0,hxs⟩:=hs
 have hs5:s.length<=5:=hxs ▸ (h.k5 x0 hx0).1
 refine ⟨hup (IE hW.dn hW.okI h.h5).2 hs5 h.ft,?_,?_,MG hf hk5 h3 h.k5⟩
 ·intro x hx
  have hf2:=h.f2
  rw [hb,tJ] at hf2
  rw [show pre++[(p,A,s),(j,B,h')]=(pre++[(p,A,s)])++[(j,B,h')] by simp,tJ] at hx
  rcases bp.1 hx with hx | hx
  ·exact hf2 x hx
  ·rw [eZ.1 hx]
   show 2<=A.length
   obtain ⟨m0,m1,m2,m3⟩:=Kg h2 h50 hp
   have hsp:=vN prs (cQ prs)
   rw [<-hA] at hsp
   match hAl:A with
   | []=>simp [aS] at hsp;omega
   | [y] =>
    have hy:y∈prs:=mE (hA ▸ eZ.2 rfl)
    have hyb:y∈bM b:=by rw [hb,lc,gY];simp [hy]
    have:=(h.k5 y hyb).2
    omega
   | y::z::t=>simp
 ·intro x hx
  have h5:=h.h5
  rw [hb] at h5
  rcases bp.1 hx with hx | hx
  ·exact h5 x (jS _ hx)
  ·rcases bP.1 hx with rfl | hx
   ·exact hs5
   ·rw [eZ.1 hx]
    exact h5 (p,prs,h') (by simp)
def OV (n:Nat) (r:Int) (es:Es) (ups:List IL) (b:LL) (k v:Bs) (ok:Bool) (e r':Int) (es':Es) (ups':List IL) (b':LL):Prop :=
 (e=0/\bF k=true/\dS v=true/\bM b'=cv (bM b) k v/\ok = !co (aU (bM b)) k/\yA ups b k v ups' b'/\(Fk ups.reverse->Fk ups'.reverse)) ∨
 (ok=false/\r'=r/\es'=es/\ups'=ups/\b'=b/\((e=1/\(bF k && dS v)=false)∨(e=6/\bF k=true/\dS v=true/\n - es.length < ups.length+2)))
theorem E8 {n:Nat} {r:Int} {es:Es} {ups:List IL} {b:LL} (h:WF n r es ups b) (k v:Bs) :
  ∃ok e r' es' ups' b',WF n r' es' ups' b'/\n8 n r es k v ok e r' es'/\OV n r es ups b k v ok e r' es' ups' b':=by
 cases hkv:(bF k && dS v) with
 | false=>exact ⟨false,1,r,es,ups,b,h,.arg hkv,.inr ⟨rfl,rfl,rfl,rfl,rfl,.inl ⟨rfl,hkv⟩⟩⟩
 | true =>
  obtain ⟨hk,hv⟩:=Bool.and_eq_true_iff.1 hkv
  obtain ⟨p,h',ws,pre,prs,post,q1,q2,q3,q4,q5,q6⟩:=GR h.toWT hk
  have hF:=h.okF
  rw [q2] at hF
  have hr:cE ⟨prs,h',aW post 0⟩=true:=Ax hF
  obtain ⟨o,hx0,hx1⟩:=qm hr
  have hn:=h.shf.le
  have hul:=mo h.toWT
  have hll:=ql h.shf
  obtain ⟨hgp,_⟩:=On q6
  have hord:=h.ord
  rw [q2] at hord
  have hpre:=(sV hord).2.2.1
  obtain ⟨hca,hcc⟩:=GQ hord hF q3 q4
  have hris:=zH hord hF
  have efl:bM (pre++(p,prs,h')::post)=bM pre++(prs++bM post):=by rw [lc,gY]
  rw [efl] at hris
  have hput:=E7 (v:=v) hca hcc hris
  have hhas:=Kh hca hcc hris
  have hfb:bM b=bM pre++(prs++bM post):=by rw [q2,efl]
  by_cases hz:aS (cv prs k v)<=231
  ·have o2:=E5 o hk hv q4 hz
   have hr2:=oY o2 hx0 hx1
   have hat:=h.rep
   rw [q2] at hat
   have hat:=Ag hat
   have hpm:=jI (b':=bA ⟨cv prs k v,h',aW post 0⟩) h.shf.nd hat
   obtain ⟨ok1,ok3,ok2⟩:=(fA _ _ _).1 hF
   have hne:=xn h q2
   refine ⟨!co (aU prs) k,0,r,bk es p (bA ⟨cv prs k v,h',aW post 0⟩),ups,pre++(p,cv prs k v,h')::post,⟨⟨jl h.shf (gz hat),hpm.trans (KN (U:=cP ups) (pre:=pre) (post:=post) (p:=p) (x:=(cv prs k v,h'))),?_,h.okI,(fA _ _ _).2 ⟨ok1,hr2,ok2⟩,LS hord ?_⟩,?_,h.rt⟩,.put h.shf hk hv q6 (by omega) hgp hr q4 hz hr2,.inl ⟨rfl,hk,hv,?_,?_,X5 q2 ?_ (Xd prs k v),fun h=>h⟩⟩
   ·have e:bS (pre++(p,cv prs k v,h')::post)=bS b:=by rw [q2];simp [bS]
    exact Ct e h.dn
   ·intro y hy x hx
    rcases qJ hx with rfl | hx
    ·exact q3 (y.1,y.2.2) (dP.2 ⟨y,hy,rfl⟩)
    ·exact (hpre y hy).2 x hx
   ·intro _ x hx
    rcases bp.1 hx with hx | hx
    ·exact hne x (.inl hx)
    ·rcases bP.1 hx with rfl | hx
     ·exact E6 _ _ _
     ·exact hne x (.inr hx)
   ·rw [hfb,hput,lc,gY]
   ·rw [hfb,hhas]
   ·rw [hfb,hput,lc,gY]
  ·by_cases hfree:n - es.length < ws.length+2
   ·exact ⟨false,6,r,es,ups,b,h,.full h.shf hk hv q6 (by omega) hgp hr q4 hz hfree,.inr ⟨rfl,rfl,rfl,rfl,rfl,.inr ⟨rfl,hk,hv,by omega⟩⟩⟩
   ·have hpw:=AH prs k v
    have hkv:=Bu (x:=(k,v)) hk hv
    have h50:=OB o.mem
    have ow:=o.wt
    have hlen:2<=prs.length:=by omega
    obtain ⟨j,hj,hjf,hj2⟩:=DD h.shf (by omega)
    obtain ⟨m0,m1,m2,m3⟩:=Kg hlen (fun x hx=>(Bu (o.mem x hx).1 (o.mem x hx).2).2) o.wt
    have hx:prs[cQ prs]? = some prs[cQ prs]:=bC m1
    obtain ⟨oA,oB,hsh,hks,hgB,z,hzp,hzs⟩:=TZ o (cQ prs) hx m0
    generalize hxx:prs[cQ prs]=x at *
    have hlo':∀y∈pre,aC y.2.2 x.1:=fun y hy=>⟨(hpre y hy).1.1,.inr (U7 ((hpre y hy).2 z hzp) hzs)⟩
    have klo:∀y∈pre,lt k y.2.2=false:=fun y hy=>q3 (y.1,y.2.2) (dP.2 ⟨y,hy,rfl⟩)
    have hrA:=oY oA (nx:=(j:Int)+1) (by omega) (by omega)
    have hrB:=oY oB hx0 hx1
    have hroom:es.length+ups.length+2<=n:=by omega
    have htd:prs=prs.take (cQ prs)++(prs.drop (cQ prs)++[]):=by simp
    have htd2:prs=[]++(prs.take (cQ prs)++prs.drop (cQ prs)):=by simp
    have hA0:prs.take (cQ prs)≠[]:=by
     intro e
     rcases List.take_eq_nil_iff.1 e with h1 | h1
     ·omega
     ·rw [h1] at hlen;simp at hlen
    have hB0:prs.drop (cQ prs)≠[]:=by
     intro e
     have h1:=BI.1 e
     omega
    have hrt:pz (prs.take (cQ prs)++prs.drop (cQ prs)):=by rw [ig];exact o.ri
    cases hks2:lt k x.1 with
    | true =>
     have hw:aS (cv (prs.take (cQ prs)) k v)<=231:=by have:=AH (prs.take (cQ prs)) k v;omega
     have oA2:=E5 oA hk hv (.inr hks2) hw
     obtain ⟨r',es',ups',hW,hup,hrs,hfk⟩:=Od h q1 q2 hj hj2 oA2 oB (E6 _ _ _) hB0 hsh hks hlo'
      (fun y hy q hq=>by
       rcases qJ hq with rfl | hq
       ·exact klo y hy
       ·exact (hpre y hy).2 q (mE hq))
      (fun y hy q hq=>(hpre y hy).2 q (kD hq)) hgB hroom
     refine ⟨!co (aU prs) k,0,r',es',ups',_,hW,.split h.shf hk hv q6 (by omega) hgp hr q4 hz hfree hjf hj hj2 hlen hx hrA hrB (oY oA2 (by omega) (by omega)) hrB (.inl ⟨hks2,rfl,hw,rfl⟩) hup,.inl ⟨rfl,hk,hv,?_,by rw [hfb,hhas],fun h1=>absurd (h1 x (by rw [hfb];exact mC _ (jS _ (cG hx)))) (by rw [l7 hks2];simp),hfk⟩⟩
     have hgk:∀y∈prs.drop (cQ prs),lt k y.1=true:=fun y hy=>by
      have h0:=hgB y hy
      by_cases e:y.1=x.1
      ·rw [e];exact hks2
      ·exact lt_trans hks2 (m9 h0 e)
     have:=E7 (a:=[]) (m:=prs.take (cQ prs)) (c:=prs.drop (cQ prs)) (k:=k) (v:=v) (by simp) hgk (by simpa using hrt)
     rw [<-htd2] at this
     rw [hfb,hput,this,lc,gY,gY]
     simp
    | false =>
     have hw:aS (cv (prs.drop (cQ prs)) k v)<=231:=by have:=AH (prs.drop (cQ prs)) k v;omega
     have oB2:=E5 oB hk hv q4 hw
     obtain ⟨r',es',ups',hW,hup,hrs,hfk⟩:=Od h q1 q2 hj hj2 oA oB2 hA0 (E6 _ _ _) hsh hks hlo'
      (fun y hy q hq=>(hpre y hy).2 q (mE hq))
      (fun y hy q hq=>by
       rcases qJ hq with rfl | hq
       ·exact klo y hy
       ·exact (hpre y hy).2 q (kD hq))
      (fun q hq=>by
       rcases qJ hq with rfl | hq
       ·exact hks2
       ·exact hgB q hq) hroom
     have hlk:∀y∈prs.take (cQ prs),lt y.1 k=true:=fun y hy=>by
      have h1:=(oA.hi.resolve_left (oE hks)).2 y hy
      by_cases e:k=x.1
      ·rw [e];exact h1
      ·exact lt_trans h1 (m9 hks2 e)
     have hpa:=E7 (a:=prs.take (cQ prs)) (m:=prs.drop (cQ prs)) (c:=[]) (k:=k) (v:=v) hlk (by simp) (by simpa using hrt)
     rw [<-htd] at hpa
     have hfl2:bM (pre++(p,prs.take (cQ prs),x.1)::((j:Int),cv (prs.drop (cQ prs)) k v,h')::post)=cv (bM b) k v:=by
      rw [hfb,hput,hpa,lc,gY,gY]
      simp
     have hrsn:yA ups b k v ups' (pre++(p,prs.take (cQ prs),x.1)::((j:Int),cv (prs.drop (cQ prs)) k v,h')::post):=by
      intro h1 hk5 h3 hh
      have hpo:post=[]:=by
       cases hpo:post with
       | nil=>rfl
       | cons y t =>
        exfalso
        have hy:=xn h q2 y (.inr (by rw [hpo];simp))
        obtain ⟨z,t',hz⟩:=mB hy
        have hm:z∈bM post:=gK.2 ⟨y,by rw [hpo];simp,by rw [hz];simp⟩
        have a1:=hcc z hm
        have a2:=h1 z (by rw [hfb];simp [hm])
        rw [l7 a1] at a2
        cases a2
      have q2':b=pre++[(p,prs,h')]:=by rw [q2,hpo]
      have hfl3:=hfl2
      rw [hpo] at hfl3
      have:=X6 (ups':=ups') h q2' hfl3 ⟨x,by rw [hfb];exact mC _ (jS _ (cG hx)),rfl⟩ rfl hlen (by have:=AH prs k v;omega) (fun y hy=>(Bu (o.mem y hy).1 (o.mem y hy).2).2) o.wt (fun a b c=>hrs hpo a b c)
      rw [hpo]
      exact this h1 hk5 h3 hh
     refine ⟨!co (aU prs) k,0,r',es',ups',_,hW,.split h.shf hk hv q6 (by omega) hgp hr q4 hz hfree hjf hj hj2 hlen hx hrA hrB hrA (oY oB2 hx0 hx1) (.inr ⟨hks2,rfl,rfl,hw⟩) hup,.inl ⟨rfl,hk,hv,hfl2,by rw [hfb,hhas],hrsn,hfk⟩⟩
def cw {α:Type} (l:List (Int × α)):List Int:=l.map (·.1)
def lq (ups:List IL) (b:LL):List V:=(ups.map fun l=>V.sl (aB (cw l)))++[V.sl (aB (cw b))]
def kC {α:Type} (f:α->Int->Bs) (es:Es) (l:List (Int × α)):Prop:=∀x∈bg f l 0,x∈es
theorem Am {α:Type} {f:α->Int->Bs} {g:α->Int->Prop}:∀{l:List (Int × α)} {n:Int},cH g l n->∀x∈l,∃m,g x.2 m/\(x.1,f x.2 m)∈bg f l n
 |(p,y)::l,n,h,x,hx=>by
  rcases bP.1 hx with rfl | hx
  ·exact ⟨_,h.1,by rw [bg];simp⟩
  ·obtain ⟨m,h1,h2⟩:=Am (f:=f) h.2 x hx
   exact ⟨m,h1,by rw [bg];simp [h2]⟩
theorem Ef {l:List Int} {i:Nat} {x:Int} {k:V->R} (h:l[i]? = some x):aY (aB l) i k=k (.int .i64 x):=eg h
theorem KS {n:Nat} {r:Int} {es:Es} (hS:bX n es) (P:List Int) (hP:P.length<=2000) (m6:List V) {o:cW} :
  ∀(l:IL) (i:Nat) (acc:List Int),P.drop i=cw l->(∀x∈l,∃m,okI x.2 m/\(x.1,br x.2 m)∈es)->acc.length+(bc l).length<=2000->i<=P.length ->
  Go qk true 5 (fF 87) (.head 1 (kJ (aB P) (P.length:Int) (P.length:Int) r n (aZ es) (aL n (aN es)) m6 (aB (acc++cw (bc l))))) o ->
  Go qk true 5 (fF 87) (.head 1 (kJ (aB P) (P.length:Int) (i:Int) r n (aZ es) (aL n (aN es)) m6 (aB acc))) o
 | [],i,acc,hd,_,_,hi0,hg=>by
  have hi:=drop_nil hd
  have e:i=P.length:=by omega
  subst e
  simpa [bc,cw] using hg
 |(q,x)::l,i,acc,hd,aR,hlen,hi0,hg=>by
  obtain ⟨h1,h2,h3⟩:=gl hd
  obtain ⟨m,⟨hne,hr⟩,hm⟩:=aR (q,x) (by simp)
  have hge:=ja hS.nd hm
  have e1:bc ((q,x)::l)=x++bc l:=by simp [bc]
  rw [e1] at hlen hg
  rw [c8] at hlen
  have w:W .i64 ((i:Int)+1)=((i+1:Nat):Int):=by rw [aX (by omega)];omega
  refine A9 _ _ _ _ _ _ _ _ _ (o:=.head 1 (kJ (aB P) (P.length:Int) ((i+1:Nat):Int) r n (aZ es) (aL n (aN es)) m6 (aB (acc++cw x)))) ?_
   (KS hS P hP m6 l (i+1) (acc++cw x) h2 (fun y hy=>aR y (by simp [hy])) (by simp [cw];omega) (by omega) (by rw [bu];simpa [cw] using hg))
  unfold xR
  rw [decide_eq_true (by omega),cond_true,aG (by simp),bl,Ef h1,bU,oU hS hge hr,bY,aG (o9 _),aG (decide_eq_true (by simp only [bZ,dO];omega)),w,xe]
  rfl
theorem KT {n:Nat} {r:Int} {es:Es} (hS:bX n es) (P:List Int) (hP:P.length<=2000) (m6:List V) {o:cW} :
  ∀(l:LL) (i:Nat),P.drop i=cw l->(∀x∈l,∃m,okF x.2 m/\(x.1,cI x.2 m)∈es)->i<=P.length ->
  Go qk true 5 (fF 87) (.head 1 (kJ (aB P) (P.length:Int) (P.length:Int) r n (aZ es) (aL n (aN es)) m6 [])) o ->
  Go qk true 5 (fF 87) (.head 1 (kJ (aB P) (P.length:Int) (i:Int) r n (aZ es) (aL n (aN es)) m6 [])) o
 | [],i,hd,_,hi,hg=>by
  have h1:=drop_nil hd
  have e:i=P.length:=by omega
  subst e
  exact hg
 |(q,x)::l,i,hd,aR,hi,hg=>by
  obtain ⟨h1,h2,h3⟩:=gl hd
  obtain ⟨m,hr,hm⟩:=aR (q,x) (by simp)
  have hge:=ja hS.nd hm
  have w:W .i64 ((i:Int)+1)=((i+1:Nat):Int):=by rw [aX (by omega)];omega
  refine A9 _ _ _ _ _ _ _ _ _ (o:=.head 1 (kJ (aB P) (P.length:Int) ((i+1:Nat):Int) r n (aZ es) (aL n (aN es)) m6 [])) ?_
   (KT hS P hP m6 l (i+1) h2 (fun y hy=>aR y (by simp [hy])) (by omega) hg)
  unfold xR
  rw [decide_eq_true (by omega),cond_true,aG (by simp),bl,Ef h1,bU,qK (l:=⟨x.1,x.2,m⟩) hS hge hr,bY,w]
theorem WW (b:LL):cw (bS b)=cw b:=by simp [bS,cw]
theorem WV (l:IL):cw (bw l)=cw l:=by simp [bw,cw]
theorem QO {s:Su} {d:List IL} {b:LL} (h:Dn s d b) (hd:∀l∈d,l.length<=1024) (hb:b.length<=1024):s.length<=1024:=by
 cases d with
 | nil=>rw [iL h,bS,dO];exact hb
 | cons l d=>rw [(gk h).1,bw,dO];exact hd l (by simp)
theorem Aa {l:IL} (h:l≠[]) (hn:∀x∈l,x.2≠[]):bc l≠[]:=by
 obtain ⟨x,t,rfl⟩:=mB h
 intro h0
 rw [bc,iD,po] at h0
 exact hn x (by simp) h0.1
theorem KV {n:Nat} {r:Int} {es:List (V × V)} {bs:List V} {acc:List V} {P:List Int} {o:cW} (hl:acc.length<=3000)
  (h:Go qk true 5 (fF 87) (.head 1 (kJ (aB P) (P.length:Int) ((0:Nat):Int) r n es bs (acc++[V.sl (aB P)]) [])) o) :
  Go qk true 5 (fF 87) (.head 0 (wA r n es bs (acc++[V.sl (aB P)]))) o:=by
 have w:W .i64 (((acc++[V.sl (aB P)]).length:Int) - 1)=((acc.length:Nat):Int):=by
  rw [c8,aX (by simp;omega)];simp
 have hg:(acc++[V.sl (aB P)])[acc.length]? = some (V.sl (aB P)):=by simp
 refine Ys _ _ _ _ _ ?_ h
 unfold Nt
 rw [w,aG (by simp),aG (decide_eq_true (by simp)),bl,dk hg,qe,bZ]
 rfl
theorem KU {n:Nat} {r:Int} {es:Es} (hS:bX n es):∀(d:List IL) (b:LL) (s:Su) (acc:List V),Dn s d b->(∀l∈d,cH okI l 0)->cH okF b 0->(∀l∈d,kC br es l)->kC cI es b->(∀l∈d,l.length<=1024)->b.length<=1024->acc.length+d.length<=2000->s≠[] ->
  Go qk true 5 (fF 87) (.head 0 (wA r n (aZ es) (aL n (aN es)) (acc++[V.sl (aB (cw s))]))) (.doneM (.own 5) (tM r n es++[O.row 80 (acc++lq d b) 0]))
 | [],b,s,acc,hd,_,hF,_,hE,_,hb,hl,_=>by
  have e:=iL hd
  have ep:cw s=cw b:=by rw [e,WW]
  rw [ep]
  have hbl:(cw b).length=b.length:=by simp [cw]
  refine KV (by simp at hl;omega) (KT hS (cw b) (by omega) _ b 0 rfl (fun x hx=>?_) (by omega) (A9 _ _ _ _ _ _ _ _ _ ?_ (.refl _)))
  ·obtain ⟨m,h1,h2⟩:=Am (f:=cI) hF x hx
   exact ⟨m,h1,hE _ h2⟩
  ·unfold xR
   rw [decide_eq_false (by omega),cond_false]
   rfl
 | l::d,b,s,acc,hd,hI,hF,hEI,hE,hdl,hb,hl,hne=>by
  obtain ⟨e,hdk⟩:=gk hd
  have ep:cw s=cw l:=by rw [e,WV]
  have hll:=hdl l (cB ..)
  have hpl:(cw l).length=l.length:=by simp [cw]
  have hkl:=QO hdk (fun x hx=>hdl x (by simp [hx])) hb
  have hlne:l≠[]:=by rintro rfl;exact hne e
  have hkne:=Aa hlne (ia (hI _ (cB ..)))
  have ih:=KU (r:=r) hS d b (bc l) (acc++[V.sl (aB (cw l))]) hdk (fun x hx=>hI x (by simp [hx])) hF (fun x hx=>hEI x (by simp [hx])) hE (fun x hx=>hdl x (by simp [hx])) hb (by simp at hl |-;omega) hkne
  have e2:acc++[V.sl (aB (cw l))]++lq d b=acc++lq (l::d) b:=by simp [lq]
  rw [e2] at ih
  rw [ep]
  refine KV (by simp at hl;omega) (KS hS (cw l) (by omega) _ l 0 [] rfl (fun x hx=>?_) (by simp;omega) (by omega) (A9 _ _ _ _ _ _ _ _ _ ?_ ih))
  ·obtain ⟨m,h1,h2⟩:=Am (f:=br) (hI _ (cB ..)) x hx
   exact ⟨m,h1,hEI _ (cB ..) _ h2⟩
  ·unfold xR
   rw [dU,decide_eq_false (by omega),cond_false,eK,cond_false,aG (decide_eq_true (by simp at hl |-;omega))]
   rw [bZ,cw,dO]
   have:0 < (bc l).length:=js.2 hkne
   omega
theorem KW {n:Nat} {r:Int} {es:Es} {ups:List IL} {b:LL} (h:WT n r es ups b):(∀l∈ups,l.length<=1024)/\b.length<=1024:=by
 have h2:=h.rep.length_eq
 have h3:=ql h.shf
 have h4:=h.shf.le
 rw [c8,zz] at h2
 refine ⟨fun l hl=>?_,by omega⟩
 have:∀{u:List IL},l∈u->l.length<=(cP u).length:=by
  intro u hu
  induction u with
  | nil=>cases hu
  | cons x u ih =>
   rw [lP,c8,zz]
   rcases bP.1 hu with rfl | hu
   ·omega
   ·have:=ih hu;omega
 have:=this hl
 omega
theorem si {n:Nat} {r:Int} {es:Es} {ups:List IL} {b:LL} (h:WT n r es ups b):(∀l∈ups,kC br es l)/\kC cI es b :=
 ⟨fun l hl x hx=>h.rep.mem_iff.2 (jS _ (gK.2 ⟨l,hl,hx⟩)),fun x hx=>h.rep.mem_iff.2 (mC _ hx)⟩
theorem KX {n:Nat} {r:Int} {es:Es} {ups:List IL} {b:LL} (h:WT n r es ups b):bN aA aH 87 [.ptr 0 0 0] (tM r n es)=some (oN (tM r n es) (lq ups b)):=by
 have hl:=mo h
 obtain ⟨h1,h2⟩:=KW h
 obtain ⟨h3,h4⟩:=si h
 have:=KU (r:=r) h.shf ups b [(r,[])] [] h.dn h.okI h.okF h3 h4 h1 h2 (by simp;omega) (by simp)
 exact SL _ _ _ _ rfl ⟨_,_,this,by kernel_rfl⟩
theorem KO {n:Nat} {r:Int} {es:Es} {ups:List IL} {b:LL} (h:WT n r es ups b):bN aA aH 46 [.ptr 0 0 0] (tM r n es)=some (oK (tM r n es) (aB (cw b))):=by
 have hl:=mo h
 have hlen:(lq ups b).length=ups.length+1:=by simp [lq]
 have w:W .i64 (((lq ups b).length:Int) - 1)=((ups.length:Nat):Int):=by rw [hlen,aX (by omega)];omega
 have hg:(lq ups b)[ups.length]? = some (V.sl (aB (cw b))):=by simp [lq]
 refine Si _ _ _ _ (o:=.doneM (.sl (aB (cw b))) (tM r n es++[O.row 3 [] 0])) ?_ (.done (by kernel_rfl))
 unfold Jc
 rw [cU Lq (KX h),bY,w,aG (by simp),bl,dk hg,qe]
def jM (from0:Bs) (n:Int):List Pr->List Pr->List Pr
 | acc,[]=>acc
 | acc,x::r=>jM from0 n (if !(lt x.1 from0) && decide ((acc.length:Int) < n) then acc++[x] else acc) r
theorem Nw (f:Bs) (n:Int):∀(a b acc:List Pr),jM f n acc (a++b)=jM f n (jM f n acc a) b
 | [],_,_=>rfl
 | x::a,b,acc=>by rw [dv,jM,jM,Nw f n a b]
theorem Nx (f:Bs) (n:Int):∀(l acc:List Pr),(jM f n acc l).length<=acc.length+l.length
 | [],_=>bG _
 | x::l,acc=>by
  have h:=Nx f n l (if !(lt x.1 f) && decide ((acc.length:Int) < n) then acc++[x] else acc)
  rw [jM,cL]
  refine lD h ?_
  split
  ·rw [c8,cL,fR];omega
  ·omega
theorem Nz {n:Nat} {r:Int} {es:Es} {f:Bs} {cnt:Int} {P:List V} {np i:Int} {prs:List Pr} (hp:prs.length<=1000) {o:cW}:∀(l:List Pr) (j:Nat) (acc:List Pr),prs.drop j=l->j<=prs.length->acc.length+l.length<=10000000 ->
  Go qk true 5 (fF 34) (.head 0 (wx f cnt P np (W .i64 (i+1)) r n (aZ es) (aL n (aN es)) (bq (jM f cnt acc l)))) o ->
  Go qk true 5 (fF 34) (.head 1 (rq f cnt P np i (bq prs) (prs.length:Int) (j:Int) r n (aZ es) (aL n (aN es)) (bq acc))) o
 | [],j,acc,hd,hj,_,hg=>by
  have h1:=drop_nil hd
  refine Ng _ _ _ _ _ _ _ _ _ _ _ _ _ ?_ hg
  unfold A4
  rw [decide_eq_false (by omega),cond_false]
  rfl
 | x::l,j,acc,hd,hj,hl,hg=>by
  obtain ⟨h1,h2,h3⟩:=gl hd
  have w:W .i64 ((j:Int)+1)=((j+1:Nat):Int):=by rw [aX (by omega)];omega
  simp only [cL] at hl
  rw [jM] at hg
  have hs:A4 f cnt P np i (bq prs) (prs.length:Int) (j:Int) r n (aZ es) (aL n (aN es)) (bq acc)=some (.head 1 (rq f cnt P np i (bq prs) (prs.length:Int) ((j+1:Nat):Int) r n (aZ es) (aL n (aN es)) (bq (if !(lt x.1 f) && decide ((acc.length:Int) < cnt) then acc++[x] else acc)))):=by
   unfold A4
   rw [decide_eq_true (by omega),cond_true,aG (by simp),bl,li h1,j9,w,fN]
   show (cond (!(lt x.1 f)) _ _)=_
   cases lt x.1 f with
   | true=>rfl
   | false =>
    rw [jq,cond_true,dI]
    cases decide ((acc.length:Int) < cnt) with
    | true =>
     rw [cond_true,aG (decide_eq_true (by simp;omega))]
     simp [bq]
    | false=>rfl
  refine Ng _ _ _ _ _ _ _ _ _ _ _ _ _ hs (Nz hp l (j+1) _ h2 (by omega) ?_ hg)
  split
  ·simp;omega
  ·omega
theorem Ny {n:Nat} {r:Int} {es:Es} (hS:bX n es) {f:Bs} {cnt:Int} (P:List Int) (hP:P.length<=2000):∀(l:LL) (i:Nat) (acc:List Pr),P.drop i=cw l->(∀x∈l,∃m,okF x.2 m/\(x.1,cI x.2 m)∈es)->i<=P.length->acc.length+1000 * l.length<=5000000 ->
  Go qk true 5 (fF 34) (.head 0 (wx f cnt (aB P) (P.length:Int) (i:Int) r n (aZ es) (aL n (aN es)) (bq acc))) (.doneM (.own 6) (tM r n es++[O.row 41 [] 0,O.row 41 (bq (jM f cnt acc (bM l))) 0]))
 | [],i,acc,hd,_,hi,_=>by
  have h1:=drop_nil hd
  refine Nf _ _ _ _ _ _ _ _ _ _ ?_ (.refl _)
  unfold FW
  rw [decide_eq_false (by omega),cond_false]
  rfl
 |(q,prs,h)::l,i,acc,hd,aR,hi,hl=>by
  obtain ⟨h1,h2,h3⟩:=gl hd
  obtain ⟨m,hr,hm⟩:=aR (q,prs,h) (by simp)
  have hge:=ja hS.nd hm
  have hr:cE ⟨prs,h,m⟩=true:=hr
  have g:=qa hr
  have g1:=g.len;have g2:=g.wt
  simp only at g1 g2
  have w:W .i64 ((i:Int)+1)=((i+1:Nat):Int):=by rw [aX (by omega)];omega
  simp only [cL] at hl
  have hsl:=Nx f cnt prs acc
  have ih:=Ny (r:=r) (f:=f) (cnt:=cnt) hS P hP l (i+1) (jM f cnt acc prs) h2 (fun y hy=>aR y (by simp [hy])) (by omega) (by omega)
  rw [<-Nw,<-gY q prs h,<-w] at ih
  refine Nf _ _ _ _ _ _ _ _ _ _ ?_ (Nz (prs:=prs) (by omega) prs 0 acc rfl (by omega) (by omega) ih)
  unfold FW
  rw [decide_eq_true (by omega),cond_true,aG (by simp),bl,Ef h1,bU,qK (l:=⟨prs,h,m⟩) hS hge hr,bY]
  show some _=some _
  rw [fN]
  rfl
theorem Yw {n:Nat} {r:Int} {es:Es} {ups:List IL} {b:LL} (h:WT n r es ups b) (f:Bs) (cnt:Int):bN aA aH 34 [.ptr 0 0 0,.str f,.int .i64 cnt] (tM r n es)=some (qy (tM r n es) (bq (jM f cnt [] (bM b)))):=by
 obtain ⟨h1,h2⟩:=KW h
 obtain ⟨h3,h4⟩:=si h
 have hbl:(cw b).length=b.length:=by simp [cw]
 have:=Ny (r:=r) (f:=f) (cnt:=cnt) h.shf (cw b) (by omega) b 0 [] rfl (fun x hx=>by
  obtain ⟨m,h1,h2⟩:=Am (f:=cI) h.okF x hx
  exact ⟨m,h1,h4 _ h2⟩) (by omega) (by simp;omega)
 refine Sb _ _ _ _ _ _ ?_ ⟨_,_,this,by kernel_rfl⟩
 unfold I6
 rw [cU Lp (KO h),bY,bZ]
 rfl
def dh (sn:List Int):List (V × V):=sn.map fun p=>(V.int .i64 p,V.bool true)
theorem An {p:Int}:∀{sn:List Int},p∉sn->en (dh sn) (.int .i64 p)=some none
 | [],_=>rfl
 | a::sn,h=>by
  show ((dL (.int .i64 p) (.int .i64 a)).bind fun b=>if b then some (some (V.bool true)) else en (dh sn) (.int .i64 p))=_
  rw [wP,decide_eq_false (fun e=>h (by simp [e])),aJ]
  exact An fun e=>h (by simp [e])
theorem Ar {p:Int}:∀{sn:List Int},p∉sn->ix (dh sn) (.int .i64 p) (.bool true)=some (dh (sn++[p]))
 | [],_=>rfl
 | a::sn,h=>by
  show ((dL (.int .i64 p) (.int .i64 a)).bind fun q=>if q then some ((V.int .i64 a,V.bool true)::dh sn) else (ix (dh sn) (.int .i64 p) (.bool true)).map ((V.int .i64 a,V.bool true)::·))=_
  rw [wP,decide_eq_false (fun e=>h (by simp [e])),aJ,Ar fun e=>h (by simp [e])]
  rfl
abbrev gM {α:Type} (N:List α) (j:Nat) (x:α):List α:=N.take j++x::N.drop (j+1)
theorem HO {α:Type} {N:List α} {j:Nat} {x:α} (h:j < N.length):N.set j x=gM N j x:=by
 rw [List.set_eq_take_append_cons_drop,if_pos h]
theorem HN {α:Type} {N:List α} {j:Nat} {x:α} (h:N.length=j):gM N j x=N++[x]:=by
 unfold gM
 rw [kE (by omega),pq (by omega)]
theorem NQ (N:List Bs) (j:Nat) (x:Bs):(aV N).set j (V.str x)=aV (N.set j x):=by
 unfold aV;rw [List.map_set]
theorem TR {α:Type} {l:List α} {j:Nat} {x:α} (h:l[j]? = some x):j < l.length:=(bj.1 h).1
abbrev wG:CM:=⟨true,false,true,[3,9]⟩
theorem Ig {sn:List (V × V)} {N:List Int} {B:List Bs} {j:Nat} {p nx:Int} {lo hi:Bs} (hj:j<=2000) (hp:0<=p/\p < 100000) (hl:B.length=N.length) (h:N.length=j∨(N[j]? = some (p+1)/\B[j]? = some lo)) :
  bN aA wG 132 [.ptr 0 0 0,.int .i64 (j:Int),.int .i64 p,.str lo,.str hi,.int .i64 nx] (fm sn (aB N) (aV B))=some (oJ (true,sn,aB (gM N j nx),aV (gM B j hi))):=by
 have w:W .i64 (p+1)=p+1:=aX (by omega)
 rcases h with h | ⟨h1,h2⟩
 ·have g1:(N++[p+1])[0+j]? = some (p+1):=by rw [dZ,<-h];simp
  have g2:(B++[lo])[0+j]? = some lo:=by rw [dZ,<-h,<-hl];simp
  have e1:(N++[p+1]).set (0+j) nx=gM N j nx:=by
   rw [HN h,dZ,<-h,BO _ _ (bG _),iX];rfl
  have e2:(B++[lo]).set (0+j) hi=gM B j hi:=by
   rw [HN (by omega),dZ,<-h,<-hl,BO _ _ (bG _),iX];rfl
  have a1:aB N++[V.int .i64 (p+1)]=aB (N++[p+1]):=by simp [aB]
  have a2:aV B++[V.str lo]=aV (B++[lo]):=by simp [aV]
  have hs:xM (j:Int) p lo hi nx sn (aB N) (aV B)=some (.head 0 (yF (j:Int) p lo hi nx sn (aB (N++[p+1])) (aV (B++[lo])))):=by
   unfold xM
   rw [bZ,decide_eq_true (by omega),cond_true,aG (by simp;omega),fP,aG (by simp;omega),w,a1,a2]
  have hb:FI (j:Int) p lo hi nx sn (aB (N++[p+1])) (aV (B++[lo]))=some (.doneM (V.bool true) [O.box 144 (V.agg [V.mp 1,V.tail 4 0,V.tail 5 0]) false,O.map sn,O.dead,O.dead,O.row 3 (aB (gM N j nx)) 0,O.row 9 (aV (gM B j hi)) 0]):=by
   unfold FI
   rw [bZ,fP,decide_eq_false (by simp;omega),cond_false,w]
   simp only [bl,aG (show decide ((0:Int)<=(j:Int))=true by simp),aG (show decide (j < (N++[p+1]).length)=true by simp;omega),aG (show decide (j < (B++[lo]).length)=true by simp;omega),eg g1,ku g2,bU,eO,beq_self_eq_true,cond_true,z7,NQ,e1,e2]
  exact IV _ _ _ _ _ _ _ _ rfl ⟨_,_,MV _ _ _ _ _ _ _ _ hs (Yb _ _ _ _ _ _ _ _ hb (.refl _)),by kernel_rfl⟩
 ·have l1:=TR h1
  have g1:N[0+j]? = some (p+1):=by rw [dZ];exact h1
  have g2:B[0+j]? = some lo:=by rw [dZ];exact h2
  have e1:N.set (0+j) nx=gM N j nx:=by rw [dZ];exact HO l1
  have e2:B.set (0+j) hi=gM B j hi:=by rw [dZ];exact HO (by omega)
  have hs:xM (j:Int) p lo hi nx sn (aB N) (aV B)=some (.doneM (V.bool true) (fm sn (aB (gM N j nx)) (aV (gM B j hi)))):=by
   unfold xM
   rw [bZ,fP,decide_eq_false (by omega),cond_false,w]
   simp only [bl,aG (show decide ((0:Int)<=(j:Int))=true by simp),aG (show decide (j < N.length)=true by simp;omega),aG (show decide (j < B.length)=true by simp;omega),eg g1,ku g2,bU,eO,beq_self_eq_true,cond_true,z7,NQ,e1,e2]
  exact IV _ _ _ _ _ _ _ _ rfl ⟨_,_,MV _ _ _ _ _ _ _ _ hs (.refl _),by kernel_rfl⟩
def ff:List IL->LL->List Int
 | [],b=>[aW b 0]
 | l::d,b=>ff d b++[aW l 0]
theorem sR:∀(d:List IL) (b:LL),(ff d b).length=d.length+1
 | [],_=>rfl
 | l::d,b=>by rw [ff,c8,sR d b];rfl
def eQ (ups:List IL) (b:LL):List Int:=ups.flatMap cw++cw b
def Ab (lo:Bs) (b:LL):Prop:=∀z∈b,(∀x∈z.2.1,lt x.1 lo=false)/\(z.2.2=[]∨lt lo z.2.2=true)
theorem Vv (x:Bs):lt x []=false:=by cases x<;>rfl
theorem O6 (b:LL):Ab [] b:=fun z _=>⟨fun x _=>Vv x.1,by
 cases h:z.2.2 with
 | nil=>exact .inl rfl
 | cons a r=>exact .inr rfl⟩
structure Lk (es:Es) (r:Int) (ups:List IL) (b:LL) (lo:Bs) (X sn:List Int):Prop where
 okI:∀l∈ups,cH okI l 0
 okF:cH okF b 0
 inI:∀l∈ups,kC br es l
 inF:kC cI es b
 ord:iY b
 ab:Ab lo b
 ne:∀x∈b,x.2.1≠[]∨x.1=r
 two:∀l∈ups,∀x∈l,x.1≠r∨1 < x.2.length
 nd:(sn++X++eQ ups b).Nodup
theorem Vj {es:Es} {r:Int} {x:Int × nV} {b:LL} {lo:Bs} {X sn:List Int} (h:Lk es r [] (x::b) lo X sn):Lk es r [] b x.2.2 X (sn++[x.1]) where
 okI:=by simp
 okF:=h.okF.2
 inI:=by simp
 inF:=fun y hy=>h.inF y (jT _ hy)
 ord:=(gt.1 h.ord).2
 ab:=fun z hz=>by
  obtain ⟨h1,h2⟩:=(gt.1 h.ord).1 z hz
  exact ⟨h2,h1.2⟩
 ne:=fun y hy=>h.ne y (by simp [hy])
 two:=by simp
 nd:=by
  have:=h.nd
  have e:(sn++X++eQ [] (x::b)).Perm (sn++[x.1]++X++eQ [] b):=by
   simp only [eQ,List.flatMap_nil,dU,cw,dj,bu,Hl]
   exact List.Perm.append_left _ n4
  exact e.nodup_iff.1 this
theorem Vi {es:Es} {r:Int} {p:Int} {e:Su} {l:IL} {d:List IL} {b:LL} {lo:Bs} {X sn:List Int} (h:Lk es r (((p,e)::l)::d) b lo X sn):Lk es r d b lo (X++cw l) (sn++[p]) where
 okI:=fun l hl=>h.okI l (by simp [hl])
 okF:=h.okF
 inI:=fun l hl=>h.inI l (by simp [hl])
 inF:=h.inF
 ord:=h.ord
 ab:=h.ab
 ne:=h.ne
 two:=fun l hl=>h.two l (by simp [hl])
 nd:=by
  have:=h.nd
  have e:(sn++X++eQ (((p,e)::l)::d) b).Perm (sn++[p]++(X++cw l)++eQ d b):=by
   simp only [eQ,iD,cw,dj,bu,Hl,dv]
   exact List.Perm.append_left _ n4
  exact e.nodup_iff.1 this
theorem Vl {es:Es} {r:Int} {l:IL} {d:List IL} {b:LL} {hi:Bs} {X sn:List Int} (h:Lk es r d b hi (X++cw l) sn) (h1:cH okI l 0) (h2:kC br es l) (h3:∀x∈l,x.1≠r∨1 < x.2.length):Lk es r (l::d) b hi X sn where
 okI:=fun l' hl=>by exact (bP.1 hl).elim (fun e=>e ▸ h1) (fun hl=>h.okI _ hl)
 okF:=h.okF
 inI:=fun l' hl=>by exact (bP.1 hl).elim (fun e=>e ▸ h2) (fun hl=>h.inI _ hl)
 inF:=h.inF
 ord:=h.ord
 ab:=h.ab
 ne:=h.ne
 two:=fun l' hl=>by exact (bP.1 hl).elim (fun e=>e ▸ h3) (fun hl=>h.two _ hl)
 nd:=by
  have:=h.nd
  simpa [eQ,iD,bu] using this
theorem IC {lo:Bs}:∀{d:List IL} {s:Su} {b:LL},Dn s d b->(∀l∈d,cH okI l 0)->Ab lo b->∀y∈s,y.2=[]∨lt lo y.2=true
 | [],s,b,h,_,ha,y,hy=>by
  rw [iL h,bS] at hy
  obtain ⟨z,hz,rfl⟩:=dP.1 hy
  exact (ha z hz).2
 | l::d,s,b,h,hI,ha,y,hy=>by
  obtain ⟨e,hk⟩:=gk h
  rw [e,bw] at hy
  obtain ⟨z,hz,rfl⟩:=dP.1 hy
  have hne:=ia (hI _ (cB ..)) z hz
  have hm:(z.2.getLastD (0,[]))∈bc l:=by
   refine gK.2 ⟨z,hz,?_⟩
   rw [BJ,OM hne]
   exact List.getLast_mem hne
  have:=IC hk (fun x hx=>hI x (by simp [hx])) ha _ hm
  exact this
def kj (lo:Bs) (e1:Su):Bs:=(e1.getLastD (0,lo)).2
theorem Dz (lo:Bs) (a:Su) (x:Int × Bs):kj lo (a++[x])=x.2:=by simp [kj]
theorem Tw {lo:Bs} {e:Su} (h:e≠[]):kj lo e=aP e:=by
 obtain ⟨a,x,rfl⟩:∃a x,e=a++[x]:=by
  rcases d9 e with h' | ⟨l,x,h'⟩
  ·exact absurd h' h
  ·exact ⟨l,x,by simpa using h'⟩
 rw [Dz,fU _ (by simp)];rfl
section
variable {n:Nat} {r:Int} {es:Es}
abbrev lM (r:Int) (n:Nat) (es:Es) (sn N:List Int) (B:List Bs):List O:=lm r (dh sn) (aB N) (aV B) (n:Int) (aZ es) (aL n (aN es))
def St (f:Nat) (ups:List IL) (b:LL) (lo:Bs) (N:List Int) (B:List Bs):Prop:=N.take (f+1)=ff ups b/\B.take (f+1)=bE (f+1) lo
def tQ (n:Nat) (r:Int) (es:Es) (f:Nat):Prop:=∀(ups:List IL) (b:LL) (p:Int) (h lo:Bs) (s:Su) (X sn N:List Int) (B:List Bs),ups.length=f->Dn ((p,h)::s) ups b->Lk es r ups b lo X sn->B.length=N.length->(N=[]∨St f ups b lo N B) ->
 ∃ups' b' sn',ups'.length=f/\Dn s ups' b'/\Lk es r ups' b' h X sn' /\
  bN aA wG 85 [.ptr 0 0 0,.ptr 1 0 0,.int .i64 p,.str lo,.str h] (lM r n es sn N B) =
   some (nr ((f:Int),true,r,dh sn',(n:Int),aZ es,aL n (aN es),aB (ff ups' b'++N.drop (f+1)),aV (bE (f+1) h++B.drop (f+1))))
theorem Vr (hS:bX n es):tQ n r es 0:=by
 intro ups b p h lo s X sn N B hu hd hk hl hst
 obtain rfl:=List.length_eq_zero_iff.1 hu
 have e:=iL hd
 obtain ⟨x,b',rfl⟩:∃x b',b=x::b':=by
  cases b with
  | nil=>cases e
  | cons x b'=>exact ⟨x,b',rfl⟩
 obtain ⟨q,prs,h'⟩:=x
 rw [bS,dj] at e
 obtain ⟨e1,rfl⟩:=List.cons.inj e
 obtain ⟨rfl,rfl⟩:=Prod.mk.inj e1
 have hge:=ja hS.nd (hk.inF (p,cI (prs,h) (aW b' 0)) (cB ..))
 have hr:cE ⟨prs,h,aW b' 0⟩=true:=hk.okF.1
 have hpk:p∈aM es:=dP.2 ⟨_,hk.inF (p,cI (prs,h) (aW b' 0)) (cB ..),rfl⟩
 have hpr:=hS.rng p hpk
 have hn:=hS.le
 have hps:p∉sn:=by
  intro hp
  have:=hk.nd
  rw [bu] at this
  exact (yq.1 this).2.2 p hp p (by simp [eQ,cw]) rfl
 refine ⟨[],b',sn++[p],rfl,Dn.leaf b',Vj hk,?_⟩
 have hf:N.length=0∨(N[0]? = some (p+1)/\B[0]? = some lo):=by
  rcases hst with h0 | ⟨h1,h2⟩
  ·exact .inl (by rw [h0];rfl)
  ·refine .inr ⟨?_,?_⟩
   ·have:=congrArg (·[0]?) h1
    simpa [ff,aW,gI] using this
   ·have:=congrArg (·[0]?) h2
    simpa [gI] using this
 have hft:=Ig (sn:=dh (sn++[p])) (hi:=h) (nx:=aW b' 0) (j:=0) (by omega) (p:=p) (lo:=lo) ⟨hpr.1,by omega⟩ hl hf
 rw [show ((0:Nat):Int)=0 from rfl] at hft
 have hx:(cond ((bq prs).length==(0:Int)) true true)=true:=by cases ((bq prs).length==(0:Int))<;>rfl
 have hs0:tg p lo h r (dh sn) (aB N) (aV B) (n:Int) (aZ es) (aL n (aN es))=some (.head 1 (od p lo true r (dh (sn++[p])) (aB N) (aV B) (n:Int) (aZ es) (aL n (aN es)) (bq prs) h (aW b' 0))):=by
  unfold tg
  rw [Ar hps,iy,cU oL (s8 hS hge),bY,qK (l:=⟨prs,h,aW b' 0⟩) hS hge hr,bY,aK (Jy ⟨prs,h,aW b' 0⟩ hr),eO]
  rw [show (cI (prs,h) (aW b' 0)==bA ⟨prs,h,aW b' 0⟩)=true from beq_self_eq_true _,cond_true,beq_self_eq_true,cond_true,fN]
  cases prs with
  | nil =>
   have:p=r:=by
    rcases hk.ne (p,[],h) (cB ..) with h1 | h1
    ·exact absurd rfl h1
    ·exact h1
   rw [this]
   simp
  | cons y ps =>
   have hy:=(hk.ab (p,y::ps,h) (cB ..)).1 y (cB ..)
   have i1:(y::ps)[0]? = some y:=rfl
   rw [eK (by simp;omega),cond_false,li i1,j9]
   rw [show Op.bytesLess y.1 lo=false from hy,jq,cond_true,decide_eq_true (by simp),cond_true]
 have hs1:F8 p lo true r (dh (sn++[p])) (aB N) (aV B) (n:Int) (aZ es) (aL n (aN es)) (bq prs) h (aW b' 0)=some (.doneM (.tup [.int .i64 0,.bool true]) (ln r 10 11 (dh (sn++[p])) (n:Int) (aZ es) (aL n (aN es))++[O.box 120 (V.agg [V.sl (bq prs),V.str h,V.int .i64 (aW b' 0)]) false,O.row 3 (aB (gM N 0 (aW b' 0))) 0,O.row 9 (aV (gM B 0 h)) 0])):=by
  unfold F8
  rw [cond_true,cz Lm hft]
 refine Da _ _ _ _ _ _ _ _ _ _ (o:=.head 0 (t8 p lo h r (dh sn) (aB N) (aV B) (n:Int) (aZ es) (aL n (aN es)))) ?_ ⟨_,_,F7 _ _ _ _ _ _ _ _ _ _ hs0 (Yk _ _ _ _ _ _ _ _ _ _ _ _ _ hs1 (.refl _)),by kernel_rfl⟩
 unfold zx kv
 rw [An hps]
theorem YA (a:Su) (y x:Int × Bs) (b:Su):((a++[y]++x::b).dropLast.map (·.2))[a.length]? = some y.2:=by
 rw [pS,bu,gJ,cY (by simp)]
 simp
theorem Yz (a:Su) (x z:Int × Bs) (b:Su):((a++x::z::b).dropLast.map (·.2))[a.length]? = some x.2:=by
 rw [pS,gJ,cY (by simp)]
 simp
theorem K5 {f:Nat} (hf:f<=1100) (ih:tQ n r es f) {p:Int} {e K:Su} {lo:Bs} {nx:Int} (he:e≠[]) (hel:e.length<=1000):∀(e2 e1:Su),e=e1++e2->e1≠[]->∀(d:List IL) (b:LL) (X sn N:List Int) (B:List Bs),d.length=f->Dn (e2++K) d b->Lk es r d b (kj lo e1) X sn->B.length=N.length->St f d b (kj lo e1) N B ->
  ∃d' b' sn',d'.length=f/\Dn K d' b'/\Lk es r d' b' (aP e) X sn'/\∀o,
   Go qk true 9 (fF 85) (.head 3 (rv p lo (aP e) true (f:Int) true (aB (e.map (·.1))) (e.length:Int) (e.length:Int) r (dh sn') (n:Int) (aZ es) (aL n (aN es)) (aV (e.dropLast.map (·.2))) (aB (e.map (·.1))) (aP e) nx (aB (ff d' b'++N.drop (f+1))) (aV (bE (f+1) (aP e)++B.drop (f+1))))) o ->
   Go qk true 9 (fF 85) (.head 3 (rv p lo (aP e) true (f:Int) true (aB (e.map (·.1))) (e.length:Int) (e1.length:Int) r (dh sn) (n:Int) (aZ es) (aL n (aN es)) (aV (e.dropLast.map (·.2))) (aB (e.map (·.1))) (aP e) nx (aB N) (aV B))) o
 | [],e1,hE,h0,d,b,X,sn,N,B,hdl,hd,hk,hl,hst=>by
  have e0:e=e1:=by rw [hE,dA]
  subst e0
  have hfr:kj lo e=aP e:=Tw he
  obtain ⟨h1,h2⟩:=hst
  rw [hfr] at hk h2
  refine ⟨d,b,sn,hdl,hd,hk,fun o hg=>?_⟩
  rwa [<-h1,<-h2,ig,ig] at hg
 |(q,hq)::e2,e1,hE,h0,d,b,X,sn,N,B,hdl,hd,hk,hl,hst=>by
  obtain ⟨d1,b1,sn1,hd1l,hd1,hk1,hcall⟩:=ih d b q hq (kj lo e1) (e2++K) X sn N B hdl hd hk hl (.inr hst)
  have hfr1:kj lo (e1++[(q,hq)])=hq:=Dz ..
  have hn1:(ff d1 b1).length=f+1:=by rw [sR,hd1l]
  have hr1:(bE (f+1) hq).length=f+1:=by simp
  obtain ⟨d',b',sn',hdl',hd',hk',hgo⟩:=K5 hf ih (p:=p) (nx:=nx) he hel e2 (e1++[(q,hq)]) (by rw [hE];simp) (by simp) d1 b1 X sn1 (ff d1 b1++N.drop (f+1)) (bE (f+1) hq++B.drop (f+1)) hd1l hd1 (by rw [hfr1];exact hk1) (by simp only [c8,gg,hn1,hr1,hl]) ⟨mi _ _ hn1,by rw [hfr1];exact mi _ _ hr1⟩
  rw [pR _ _ hn1,pR _ _ hr1] at hgo
  refine ⟨d',b',sn',hdl',hd',hk',fun o hg=>?_⟩
  have hg:=hgo o hg
  have hlen:e.length=e1.length+(e2.length+1):=by rw [hE];simp
  have hk0:(e.map (·.1))[e1.length]? = some q:=by rw [hE];simp
  have hp:0 < e1.length:=js.2 h0
  have w:W .i64 ((e1.length:Int)+1)=((e1.length+1:Nat):Int):=by rw [aX (by omega)];omega
  have hs3:xQ p lo (aP e) true (f:Int) true (aB (e.map (·.1))) (e.length:Int) (e1.length:Int) r (dh sn) (n:Int) (aZ es) (aL n (aN es)) (aV (e.dropLast.map (·.2))) (aB (e.map (·.1))) (aP e) nx (aB N) (aV B) =
    some (.head 4 (yN p lo (aP e) true (f:Int) true (e1.length:Int) q (kj lo e1) (aP e) (aB (e.map (·.1))) (e.length:Int) (e1.length:Int) r (dh sn) (n:Int) (aZ es) (aL n (aN es)) (aV (e.dropLast.map (·.2))) (aB (e.map (·.1))) (aP e) nx (aB N) (aV B))):=by
   unfold xQ
   rw [decide_eq_true (by omega),cond_true,aG (by simp),bl,eg hk0,bU]
   rcases d9 e1 with h1 | ⟨a,y,h1⟩
   ·exact absurd h1 h0
   ·have h1:e1=a++[y]:=by simpa using h1
    have wl:W .i64 ((e1.length:Int) - 1)=((a.length:Nat):Int):=by rw [h1,aX (by rw [h1] at hlen;simp at hlen |-;omega)];simp
    have hy:(e.dropLast.map (·.2))[a.length]? = some y.2:=by rw [hE,h1];exact YA ..
    rw [decide_eq_true (by omega),cond_true,wl,aG (by simp),bl,ku hy,eO]
    have:kj lo e1=y.2:=by rw [h1];exact Dz ..
    rw [this]
  have hs4:Gc p lo (aP e) true (f:Int) true (e1.length:Int) q (kj lo e1) (aP e) (aB (e.map (·.1))) (e.length:Int) (e1.length:Int) r (dh sn) (n:Int) (aZ es) (aL n (aN es)) (aV (e.dropLast.map (·.2))) (aB (e.map (·.1))) (aP e) nx (aB N) (aV B) =
    some (.head 5 (yP p lo (aP e) true (f:Int) true (e1.length:Int) q (kj lo e1) hq (aB (e.map (·.1))) (e.length:Int) (e1.length:Int) r (dh sn) (n:Int) (aZ es) (aL n (aN es)) (aV (e.dropLast.map (·.2))) (aB (e.map (·.1))) (aP e) nx (aB N) (aV B))):=by
   unfold Gc
   have hsl:(aV (e.dropLast.map (·.2))).length=e.length - 1:=by rw [fP,Bc]
   rw [hsl]
   cases e2 with
   | nil =>
    have:aP e=hq:=by rw [hE,fU _ (by simp)];rfl
    rw [decide_eq_false (by rw [hlen];simp),cond_false,this]
   | cons z e2 =>
    have hy:(e.dropLast.map (·.2))[e1.length]? = some hq:=by rw [hE];exact Yz ..
    rw [decide_eq_true (by rw [hlen];simp;omega),cond_true,aG (by simp),bl,ku hy,eO]
  refine No _ _ _ _ _ _ _ _ _ _ _ _ _ _ _ _ _ _ _ _ hs3 (Yo _ _ _ _ _ _ _ _ _ _ _ _ _ _ _ _ _ _ _ _ _ _ _ _ hs4 (Yq _ _ _ _ _ _ _ _ _ _ _ _ _ _ _ _ _ _ _ _ _ _ _ _ ?_ hg))
  unfold Nq
  rw [cz Aq hcall,cond_true,cond_true,w,eK (by omega),cond_false]
  rw [beq_self_eq_true,bR,cond_false,c8]
  rfl
theorem Vp {f:Nat} (hf:f<=1100) (ih:tQ n r es f) {p:Int} {e K:Su} {lo:Bs} {nx:Int} (he:e≠[]) (hel:e.length<=1000) (d:List IL) (b:LL) (X sn N:List Int) (B:List Bs) (hdl:d.length=f) (hd:Dn (e++K) d b) (hk:Lk es r d b lo X sn) (hl:B.length=N.length) (hst:N=[]∨St f d b lo N B) :
  ∃d' b' sn',d'.length=f/\Dn K d' b'/\Lk es r d' b' (aP e) X sn'/\∀o,
   Go qk true 9 (fF 85) (.head 3 (rv p lo (aP e) true (f:Int) true (aB (e.map (·.1))) (e.length:Int) (e.length:Int) r (dh sn') (n:Int) (aZ es) (aL n (aN es)) (aV (e.dropLast.map (·.2))) (aB (e.map (·.1))) (aP e) nx (aB (ff d' b'++N.drop (f+1))) (aV (bE (f+1) (aP e)++B.drop (f+1))))) o ->
   Go qk true 9 (fF 85) (.head 3 (yM p lo (aP e) true (aB (e.map (·.1))) (e.length:Int) r (dh sn) (aB N) (aV B) (n:Int) (aZ es) (aL n (aN es)) (aV (e.dropLast.map (·.2))) (aB (e.map (·.1))) (aP e) nx)) o:=by
 obtain ⟨x,e2,hE⟩:=mB he
 obtain ⟨q,hq⟩:=x
 rw [hE] at hd
 obtain ⟨d1,b1,sn1,hd1l,hd1,hk1,hcall⟩:=ih d b q hq lo (e2++K) X sn N B hdl hd hk hl hst
 have hn1:(ff d1 b1).length=f+1:=by rw [sR,hd1l]
 have hr1:(bE (f+1) hq).length=f+1:=by simp
 have hfr1:kj lo [(q,hq)]=hq:=rfl
 obtain ⟨d',b',sn',hdl',hd',hk',hgo⟩:=K5 hf ih (p:=p) (lo:=lo) (nx:=nx) he hel e2 [(q,hq)] hE (by simp) d1 b1 X sn1 (ff d1 b1++N.drop (f+1)) (bE (f+1) hq++B.drop (f+1)) hd1l hd1 (by rw [hfr1];exact hk1) (by simp only [c8,gg,hn1,hr1,hl]) ⟨mi _ _ hn1,by rw [hfr1];exact mi _ _ hr1⟩
 rw [pR _ _ hn1,pR _ _ hr1] at hgo
 refine ⟨d',b',sn',hdl',hd',hk',fun o hg=>?_⟩
 have hg:=hgo o hg
 have hlen:e.length=e2.length+1:=by rw [hE];simp
 have hk0:(e.map (·.1))[0]? = some q:=by rw [hE];rfl
 have hs3:Ga p lo (aP e) true (aB (e.map (·.1))) (e.length:Int) r (dh sn) (aB N) (aV B) (n:Int) (aZ es) (aL n (aN es)) (aV (e.dropLast.map (·.2))) (aB (e.map (·.1))) (aP e) nx =
   some (.head 4 (BS p lo (aP e) true q lo (aP e) (aB (e.map (·.1))) (e.length:Int) r (dh sn) (aB N) (aV B) (n:Int) (aZ es) (aL n (aN es)) (aV (e.dropLast.map (·.2))) (aB (e.map (·.1))) (aP e) nx)):=by
  unfold Ga
  rw [decide_eq_true (by omega),cond_true,eg hk0,bU]
 have hs4:Gb p lo (aP e) true q lo (aP e) (aB (e.map (·.1))) (e.length:Int) r (dh sn) (aB N) (aV B) (n:Int) (aZ es) (aL n (aN es)) (aV (e.dropLast.map (·.2))) (aB (e.map (·.1))) (aP e) nx =
   some (.head 5 (yO p lo (aP e) true q lo hq (aB (e.map (·.1))) (e.length:Int) r (dh sn) (aB N) (aV B) (n:Int) (aZ es) (aL n (aN es)) (aV (e.dropLast.map (·.2))) (aB (e.map (·.1))) (aP e) nx)):=by
  unfold Gb
  have hsl:(aV (e.dropLast.map (·.2))).length=e.length - 1:=by rw [fP,Bc]
  rw [hsl]
  cases e2 with
  | nil =>
   have:aP e=hq:=by rw [hE];rfl
   rw [decide_eq_false (by rw [hlen];simp),cond_false,this]
  | cons z e2 =>
   have hy:(e.dropLast.map (·.2))[0]? = some hq:=by rw [hE];rfl
   rw [decide_eq_true (by rw [hlen];simp),cond_true,ku hy,eO]
 refine Ym _ _ _ _ _ _ _ _ _ _ _ _ _ _ _ _ _ hs3 (Yn _ _ _ _ _ _ _ _ _ _ _ _ _ _ _ _ _ _ _ _ hs4 (Yp _ _ _ _ _ _ _ _ _ _ _ _ _ _ _ _ _ _ _ _ ?_ hg))
 unfold Np
 rw [cz Aq hcall,cond_true]
 rfl
theorem Vq (hS:bX n es) {f:Nat} (hf:f+1<=1100) (ih:tQ n r es f):tQ n r es (f+1):=by
 intro ups b p h lo s X sn N B hu hd hk hl hst
 obtain ⟨l0,d,rfl⟩:∃l0 d,ups=l0::d:=by
  cases ups with
  | nil=>cases hu
  | cons a d=>exact ⟨a,d,rfl⟩
 have hdl:d.length=f:=by simpa using hu
 obtain ⟨e0,hdk⟩:=gk hd
 obtain ⟨x,l,rfl⟩:∃x l,l0=x::l:=by
  cases l0 with
  | nil=>cases e0
  | cons x l=>exact ⟨x,l,rfl⟩
 obtain ⟨q,e⟩:=x
 rw [bw,dj] at e0
 obtain ⟨e1,rfl⟩:=List.cons.inj e0
 obtain ⟨rfl,rfl⟩:=Prod.mk.inj e1
 have hin:=hk.inI _ (cB ..)
 have aR:=hk.okI _ (cB ..)
 have hme:(p,br e (aW l 0))∈es:=hin _ (cB ..)
 have hge:=ja hS.nd hme
 obtain ⟨⟨hne,hr⟩,hokl⟩:=aR
 have hpr:=hS.rng p (dP.2 ⟨_,hme,rfl⟩)
 have hn:=hS.le
 have hsm:=me hr
 have hel:e.length<=1000:=by have:=hsm.kids;simpa using this
 have hps:p∉sn:=by
  intro hp
  have:=hk.nd
  rw [bu] at this
  exact (yq.1 this).2.2 p hp p (by simp [eQ,cw]) rfl
 have hkk:bc ((p,e)::l)=e++bc l:=by simp [bc]
 rw [hkk] at hdk
 have hst0:N=[]∨St f d b lo N B:=by
  rcases hst with h0 | ⟨h1,h2⟩
  ·exact .inl h0
  ·refine .inr ⟨?_,?_⟩
   ·have:=congrArg (List.take (f+1)) h1
    rw [List.take_take,vZ (by omega),ff,mi _ _ (by rw [sR,hdl])] at this
    exact this
   ·have:=congrArg (List.take (f+1)) h2
    rw [List.take_take,vZ (by omega),List.take_replicate,vZ (by omega)] at this
    exact this
 obtain ⟨d',b',sn',hdl',hd',hk',hgo⟩:=Vp (by omega) ih (p:=p) (nx:=aW l 0) hne hel d b (X++cw l) (sn++[p]) N B hdl hdk (Vi hk) hl hst0
 have hkl:Dn (bw l) (l::d') b':=Dn.inn _ _ _ hd'
 refine ⟨l::d',b',sn',by simp [hdl'],hkl,Vl hk' hokl (fun x hx=>hin x (jT _ hx)) (fun x hx=>hk.two _ (cB ..) x (jT _ hx)),?_⟩
 have hn1:(ff d' b').length=f+1:=by rw [sR,hdl']
 have hr1:(bE (f+1) (aP e)).length=f+1:=by simp
 have hlN:(bE (f+1) (aP e)++B.drop (f+1)).length=(ff d' b'++N.drop (f+1)).length:=by
  simp only [c8,gg,hn1,hr1,hl]
 have hfit:(ff d' b'++N.drop (f+1)).length=f+1∨((ff d' b'++N.drop (f+1))[f+1]? = some (p+1)/\(bE (f+1) (aP e)++B.drop (f+1))[f+1]? = some lo):=by
  rcases hst with h0 | ⟨h1,h2⟩
  ·exact .inl (by rw [h0,c8,hn1];simp)
  ·refine .inr ⟨?_,?_⟩
   ·rw [cY (by omega),hn1,iX,gf,dK]
    have:=congrArg (·[f+1]?) h1
    simp only [gI,if_pos (show f+1 < f+1+1 by omega)] at this
    rw [this,ff,cY (by rw [sR];omega),sR,hdl,iX]
    rfl
   ·rw [cY (by omega),hr1,iX,gf,dK]
    have:=congrArg (·[f+1]?) h2
    simp only [gI,if_pos (show f+1 < f+1+1 by omega)] at this
    rw [this];simp
 have hft:=Ig (sn:=dh sn') (hi:=aP e) (nx:=aW l 0) (j:=f+1) (by omega) (p:=p) (lo:=lo) ⟨hpr.1,by omega⟩ hlN hfit
 have hN2:gM (ff d' b'++N.drop (f+1)) (f+1) (aW l 0)=ff (l::d') b'++N.drop (f+1+1):=by
  unfold gM
  rw [mi _ _ hn1,rk,pq (by omega),hn1,dU,nW,ff,bu]
  congr 3
  omega
 have hB2:gM (bE (f+1) (aP e)++B.drop (f+1)) (f+1) (aP e)=bE (f+1+1) (aP e)++B.drop (f+1+1):=by
  unfold gM
  rw [mi _ _ hr1,rk,pq (by omega),hr1,dU,nW,List.replicate_succ' (n:=f+1),bu]
  congr 3
  omega
 rw [hN2,hB2] at hft
 have w:W .i64 ((f:Int)+1)=((f+1:Nat):Int):=by rw [aX (by omega)];omega
 have hs0:tg p lo (aP e) r (dh sn) (aB N) (aV B) (n:Int) (aZ es) (aL n (aN es))=some (.head 2 (ug p lo (aP e) true r (dh (sn++[p])) (aB N) (aV B) (n:Int) (aZ es) (aL n (aN es)) (aV (e.dropLast.map (·.2))) (aB (e.map (·.1))) (aP e) (aW l 0))):=by
  unfold tg
  rw [Ar hps,iy,cU oL (s8 hS hge),bY,oU (m:=aD e (aW l 0)) hS hge hr,bY,aK (JA (aD e (aW l 0)) hsm),eO]
  rw [show (br e (aW l 0)==cD (aD e (aW l 0)))=true from beq_self_eq_true _,cond_true,beq_self_eq_true,cond_true,fP]
  cases e with
  | nil=>exact absurd rfl hne
  | cons x e =>
   cases e with
   | nil=>rfl
   | cons y e =>
    have h1:((x::y::e).dropLast.map (·.2))[0]? = some x.2:=rfl
    have hhp:=zm hdk (fun l hl=>ia (hk.okI l (by simp [hl]))) (AA hk.ord)
    have hxne:x.2≠[]:=((gt.1 hhp).1 y (by simp)).1
    have aC:lt lo x.2=true:=(IC hdk (fun l hl=>hk.okI l (by simp [hl])) hk.ab x (by simp)).resolve_left hxne
    rw [eK (by simp;omega),cond_false,ku h1,eO]
    have h2:Op.bytesLess x.2 lo=false:=l7 aC
    have h3:(x.2==lo)=false:=by
     rw [beq_eq_false_iff_ne]
     intro h
     rw [h,iw] at aC
     cases aC
    rw [h2,h3]
    rfl
 have hs3:xQ p lo (aP e) true (f:Int) true (aB (e.map (·.1))) (e.length:Int) (e.length:Int) r (dh sn') (n:Int) (aZ es) (aL n (aN es)) (aV (e.dropLast.map (·.2))) (aB (e.map (·.1))) (aP e) (aW l 0) (aB (ff d' b'++N.drop (f+1))) (aV (bE (f+1) (aP e)++B.drop (f+1))) =
   some (.doneM (.tup [.int .i64 ((f+1:Nat):Int),.bool true]) (ln r 12 13 (dh sn') (n:Int) (aZ es) (aL n (aN es))++[O.box 150 (V.agg [V.sl (aV (e.dropLast.map (·.2))),V.sl (aB (e.map (·.1))),V.str (aP e),V.int .i64 (aW l 0)]) false,O.dead,O.dead,O.row 3 (aB (ff (l::d') b'++N.drop (f+1+1))) 0,O.row 9 (aV (bE (f+1+1) (aP e)++B.drop (f+1+1))) 0])):=by
  unfold xQ
  rw [decide_eq_false (by omega),cond_false,cond_true,w,cz Lm hft,cond_true]
  by_cases hpr:p=r
  ·rw [hpr,bne_self_eq_false,cond_false]
   have h1:1 < e.length:=(hk.two _ (cB ..) (p,e) (cB ..)).resolve_left (fun h=>h hpr)
   rw [decide_eq_true (by rw [bZ,dO];omega)]
  ·rw [show (p != r)=true from bne_iff_ne.2 hpr,cond_true]
 have hs2:F9 p lo (aP e) true r (dh (sn++[p])) (aB N) (aV B) (n:Int) (aZ es) (aL n (aN es)) (aV (e.dropLast.map (·.2))) (aB (e.map (·.1))) (aP e) (aW l 0)=some (.head 3 (yM p lo (aP e) true (aB (e.map (·.1))) (e.length:Int) r (dh (sn++[p])) (aB N) (aV B) (n:Int) (aZ es) (aL n (aN es)) (aV (e.dropLast.map (·.2))) (aB (e.map (·.1))) (aP e) (aW l 0))):=by
  unfold F9
  rw [bZ,dO]
 have hend:=hgo _ (No _ _ _ _ _ _ _ _ _ _ _ _ _ _ _ _ _ _ _ _ hs3 (.refl _))
 refine Da _ _ _ _ _ _ _ _ _ _ (o:=.head 0 (t8 p lo (aP e) r (dh sn) (aB N) (aV B) (n:Int) (aZ es) (aL n (aN es)))) ?_ ⟨_,_,F7 _ _ _ _ _ _ _ _ _ _ hs0 (Yl _ _ _ _ _ _ _ _ _ _ _ _ _ _ _ hs2 hend),by kernel_rfl⟩
 unfold zx kv
 rw [An hps]
theorem K4 (hS:bX n es):∀f,f<=1100->tQ n r es f
 | 0,_=>Vr hS
 | f+1,h=>Vq hS h (K4 hS f (by omega))
end
theorem WS (ups:List IL) (b:LL):aM (cP ups++bg cI b 0)=eQ ups b:=by
 have h1:∀u:List IL,aM (cP u)=u.flatMap cw:=by
  intro u
  induction u with
  | nil=>rfl
  | cons l u ih =>
   rw [lP,iD,<-ih]
   show aM (bg br l 0++cP u)=_
   rw [aM,gJ]
   exact congrArg (·++_) (Er l 0)
 rw [aM,gJ]
 exact congr (congrArg _ (h1 ups)) (Er b 0)
theorem vg {n:Nat} {r:Int} {es:Es} {ups:List IL} {b:LL} (h:WT n r es ups b):(aM es).Perm (eQ ups b):=by
 rw [<-WS]
 exact h.rep.map _
theorem L6 {n:Nat} {r:Int} {es:Es} {ups:List IL} {b:LL} (h:WT n r es ups b):(eQ ups b).Nodup:=(vg h).nodup_iff.1 h.shf.nd
theorem Mx {r:Int} {l:IL} (h:[(r,([]:Bs))]=bw l):∃e,l=[(r,e)]:=by
 cases l with
 | nil=>cases h
 | cons x t =>
  cases t with
  | nil =>
   obtain ⟨q,e⟩:=x
   obtain ⟨h1,-⟩:=List.cons.inj h
   exact ⟨e,by rw [(Prod.mk.inj h1).1]⟩
  | cons y t=>simp [bw] at h
theorem Vk {n:Nat} {r:Int} {es:Es} {ups:List IL} {b:LL} (h:WF n r es ups b):Lk es r ups b [] [] [] where
 okI:=h.okI
 okF:=h.okF
 inI:=(si h.toWT).1
 inF:=(si h.toWT).2
 ord:=h.ord
 ab:=O6 b
 ne:=fun x hx=>by
  by_cases hu:ups=[]
  ·right
   have hd:=h.dn
   rw [hu] at hd
   have e:=iL hd
   have:(x.1,x.2.2)∈bS b:=dP.2 ⟨x,hx,rfl⟩
   rw [<-e] at this
   exact (Prod.mk.inj (eZ.1 this)).1
  ·exact .inl (h.ne hu x hx)
 two:=fun l hl x hx=>by
  cases ups with
  | nil=>cases hl
  | cons l0 d =>
   obtain ⟨e0,hd⟩:=gk h.dn
   obtain ⟨e,rfl⟩:=Mx e0
   rcases bP.1 hl with rfl | hl
   ·right
    obtain rfl:=eZ.1 hx
    exact h.rt [(r,e)] (by simp) _ (eZ.2 rfl)
   ·left
    intro hxr
    have:=L6 h.toWT
    rw [eQ,iD,bu,show cw [(r,e)]=[r] from rfl,Hl] at this
    refine (tN.1 this).1 (jS _ (gK.2 ⟨l,hl,?_⟩))
    rw [<-hxr]
    exact dP.2 ⟨x,hx,rfl⟩
 nd:=by simpa using L6 h.toWT
theorem uA:∀{d:List IL} {s:Su} {b:LL},Dn s d b->(∀l∈d,cH okI l 0)->s≠[]->b≠[]
 | [],s,b,h,_,hs=>by
  rintro rfl
  exact hs (iL h)
 | l::d,s,b,h,hI,hs=>by
  obtain ⟨e,hk⟩:=gk h
  have hl:l≠[]:=by rintro rfl;exact hs e
  exact uA hk (fun x hx=>hI x (by simp [hx])) (Aa hl (ia (hI _ (cB ..))))
theorem LA:∀{d:List IL} {b:LL},Dn [] d b->ff d b=bE (d.length+1) 0
 | [],b,h=>by
  have e:=iL h
  have:b=[]:=by
   cases b with
   | nil=>rfl
   | cons x b=>cases e
  rw [this];rfl
 | l::d,b,h=>by
  obtain ⟨e,hk⟩:=gk h
  have:l=[]:=by
   cases l with
   | nil=>rfl
   | cons x l=>cases e
  subst this
  rw [ff,LA hk,List.replicate_succ' (n:=(([]:IL)::d).length)]
  rfl
theorem If {n:Nat} {r:Int} {es:Es} {L:Nat} (hL:L<=5000):∀(k i:Nat),i+k=L ->
  Go qk true 5 (fF 40) (.head 0 (ru true (L:Int) (i:Int) r (n:Int) (aZ es) (aL n (aN es)) (aB (bE L 0)))) (.doneM (.int .i64 0) (tM r n es++[O.row 3 (aB (bE L 0)) 0]))
 | 0,i,h=>by
  refine FX _ _ _ _ _ _ _ _ ?_ (.refl _)
  unfold A5
  rw [decide_eq_false (by omega),cond_false,bR,cond_false]
 | k+1,i,h=>by
  have hg:(bE L (0:Int))[0+i]? = some 0:=by rw [dZ,List.getElem?_replicate,if_pos (by omega)]
  have w:W .i64 ((i:Int)+1)=((i+1:Nat):Int):=by rw [aX (by omega)];omega
  refine FX _ _ _ _ _ _ _ _ ?_ (If hL k (i+1) (by omega))
  unfold A5
  rw [decide_eq_true (by omega),cond_true,aG (by simp),bl,aG (decide_eq_true (by rw [bZ,vV];omega)),eg hg,bU,cond_true,w]
  rfl
theorem Ie {n:Nat} {r:Int} {es:Es} {ups:List IL} {b:LL} (h:WF n r es ups b):bN aA aH 40 [.ptr 0 0 0] (tM r n es)=some (l9 (tM r n es) 0):=by
 have hl:ups.length<=1100:=by have:=mo h.toWT;omega
 obtain ⟨d',b',sn',h1,h2,h3,h4⟩:=K4 (r:=r) h.shf ups.length hl ups b r [] [] [] [] [] [] [] rfl h.dn (Vk h) rfl (.inl rfl)
 rw [LA h2,h1,List.drop_nil,List.drop_nil,dA,dA] at h4
 refine I8 _ _ _ _ (o:=.head 0 (ru true ((ups.length+1:Nat):Int) ((0:Nat):Int) r (n:Int) (aZ es) (aL n (aN es)) (aB (bE (ups.length+1) 0)))) ?_ ⟨_,_,If (by omega) (ups.length+1) 0 (by omega),by kernel_rfl⟩
 unfold C0
 have h5:bN aA wG 85 [.ptr 0 0 0,.ptr 1 0 0,.int .i64 r,.str [],.str []] (lm r [] [] [] (n:Int) (aZ es) (aL n (aN es)))=_:=h4
 rw [cz Aq h5]
 simp only [bZ,vV]
 rfl
theorem IA {n:Nat} {r:Int} {es:Es} (hS:bX n es):∀(d:List IL) (b:LL) (p:Int) (h:Bs) (s:Su) (acc:Nat),Dn ((p,h)::s) d b->(∀l∈d,cH okI l 0)->cH okF b 0->(∀l∈d,kC br es l)->kC cI es b->acc+d.length<=5000 ->
  Go qk true 5 (fF 43) (.head 0 (yI (acc:Int) p r (n:Int) (aZ es) (aL n (aN es)))) (.doneM (.int .i64 ((acc+d.length:Nat):Int)) (tM r n es))
 | [],b,p,h,s,acc,hd,_,hF,_,hE,_=>by
  have e:=iL hd
  obtain ⟨x,b',rfl⟩:∃x b',b=x::b':=by
   cases b with
   | nil=>cases e
   | cons x b'=>exact ⟨x,b',rfl⟩
  obtain ⟨q,prs,h'⟩:=x
  rw [bS,dj] at e
  obtain ⟨e1,rfl⟩:=List.cons.inj e
  obtain ⟨rfl,rfl⟩:=Prod.mk.inj e1
  have hge:=ja hS.nd (hE (p,cI (prs,h) (aW b' 0)) (cB ..))
  have hr:cE ⟨prs,h,aW b' 0⟩=true:=hF.1
  refine Nh _ _ _ _ _ _ ?_ (.refl _)
  unfold FY
  rw [qK (l:=⟨prs,h,aW b' 0⟩) hS hge hr,bY]
  rfl
 | l0::d,b,p,h,s,acc,hd,hI,hF,hEI,hE,hl=>by
  obtain ⟨e0,hdk⟩:=gk hd
  obtain ⟨x,l,rfl⟩:∃x l,l0=x::l:=by
   cases l0 with
   | nil=>cases e0
   | cons x l=>exact ⟨x,l,rfl⟩
  obtain ⟨q,e⟩:=x
  rw [bw,dj] at e0
  obtain ⟨e1,rfl⟩:=List.cons.inj e0
  obtain ⟨rfl,rfl⟩:=Prod.mk.inj e1
  obtain ⟨⟨hne,hr⟩,_⟩:=hI _ (cB ..)
  have hge:=ja hS.nd (hEI _ (cB ..) (p,br e (aW l 0)) (cB ..))
  obtain ⟨y,e',rfl⟩:=mB hne
  obtain ⟨q1,h1⟩:=y
  have hk:bc ((p,(q1,h1)::e')::l)=(q1,h1)::(e'++bc l):=by simp [bc]
  rw [hk] at hdk
  simp only [cL] at hl
  have w:W .i64 ((acc:Int)+1)=((acc+1:Nat):Int):=by rw [aX (by omega)];omega
  have ih:=IA (r:=r) hS d b q1 h1 _ (acc+1) hdk (fun x hx=>hI x (by simp [hx])) hF (fun x hx=>hEI x (by simp [hx])) hE (by omega)
  rw [show acc+(((p,(q1,h1)::e')::l)::d).length=acc+1+d.length by simp;omega]
  refine Nh _ _ _ _ _ _ ?_ ih
  unfold FY
  have hg:(aD ((q1,h1)::e') (aW l 0)).kids[0]? = some q1:=rfl
  rw [oU (m:=aD ((q1,h1)::e') (aW l 0)) hS hge hr,bY]
  show aY (aB (aD ((q1,h1)::e') (aW l 0)).kids) 0 _=_
  rw [eg hg,bU,w]
theorem Cs {n:Nat} {r:Int} {es:Es} {ups:List IL} {b:LL} (h:WT n r es ups b):bN aA aH 43 [.ptr 0 0 0] (tM r n es)=some (ng (tM r n es) (ups.length:Int)):=by
 have hl:=mo h
 have:=IA (r:=r) h.shf ups b r [] [] 0 h.dn h.okI h.okF (si h).1 (si h).2 (by omega)
 rw [dZ] at this
 exact Se _ _ _ _ rfl ⟨_,_,this,by kernel_rfl⟩
theorem Ia:∀(l:List (List Int)) (ls:List (List Int)) (i acc:Nat),ls.drop i=l->acc+(l.flatten).length<=5000->i<=ls.length->ls.length<=5000->∀o,
  Go qk true 0 (fF 86) (.head 0 (uh (ls.map fun l=>V.sl (aB l)) ((acc+l.flatten.length:Nat):Int) (ls.map fun l=>V.sl (aB l)) (ls.length:Int) (ls.length:Int))) o ->
  Go qk true 0 (fF 86) (.head 0 (uh (ls.map fun l=>V.sl (aB l)) (acc:Int) (ls.map fun l=>V.sl (aB l)) (ls.length:Int) (i:Int))) o
 | [],ls,i,acc,hd,_,hi,_,o,hg=>by
  have:=drop_nil hd
  obtain rfl:i=ls.length:=by omega
  simpa using hg
 | x::l,ls,i,acc,hd,hl,hi,hll,o,hg=>by
  obtain ⟨h1,h2,h3⟩:=gl hd
  rw [Hd,c8] at hl hg
  have w:W .i64 ((i:Int)+1)=((i+1:Nat):Int):=by rw [aX (by omega)];omega
  have w2:W .i64 ((acc:Int)+((aB x).length:Int))=((acc+x.length:Nat):Int):=by rw [bZ,aX (by omega)];omega
  have hi1:(ls.map fun l=>V.sl (aB l))[i]? = some (V.sl (aB x)):=by rw [dB,h1];rfl
  refine Nr _ _ _ _ _ ?_ (Ia l ls (i+1) (acc+x.length) h2 (by omega) (by omega) hll o (by rw [gT];exact hg))
  unfold A8
  rw [decide_eq_true (by omega),cond_true,aG (by simp),bl,dk hi1,qe,w2,decide_eq_false (by omega),cond_false,w]
theorem Ib:∀(l:List (List Int)) (ls:List (List Int)) (i:Nat) (acc:List Int),ls.drop i=l->acc.length+(l.flatten).length<=5000->i<=ls.length->ls.length<=5000 ->
  Go qk true 0 (fF 86) (.head 1 (wz (ls.map fun l=>V.sl (aB l)) (ls.length:Int) (i:Int) (aB acc))) (.doneM (.tail 1 0) [O.row 3 [] 0,O.row 3 (aB (acc++l.flatten)) 0])
 | [],ls,i,acc,hd,_,hi,_=>by
  have:=drop_nil hd
  refine Ns _ _ _ _ ?_ (.refl _)
  unfold Ge
  rw [decide_eq_false (by omega),cond_false,List.flatten_nil,dA]
 | x::l,ls,i,acc,hd,hl,hi,hll=>by
  obtain ⟨h1,h2,h3⟩:=gl hd
  rw [Hd,c8] at hl
  have w:W .i64 ((i:Int)+1)=((i+1:Nat):Int):=by rw [aX (by omega)];omega
  have hi1:(ls.map fun l=>V.sl (aB l))[i]? = some (V.sl (aB x)):=by rw [dB,h1];rfl
  rw [Hd,<-bu]
  refine Ns _ _ _ _ ?_ (Ib l ls (i+1) (acc++x) h2 (by rw [c8];omega) (by omega) hll)
  unfold Ge
  rw [decide_eq_true (by omega),cond_true,aG (by simp),bl,dk hi1,qe,aG (o9 _),aG (decide_eq_true (by rw [bZ,bZ];omega)),w,xe]
theorem Ql (ls:List (List Int)) (h0:ls≠[]) (hT:0 < ls.flatten.length) (hl:ls.flatten.length<=5000) (hll:ls.length<=5000):bN aA ⟨true,false,false,[]⟩ 86 [.sl (ls.map fun l=>V.sl (aB l))] []=some (sN (aB ls.flatten)):=by
 obtain ⟨x,l,rfl⟩:=mB h0
 have hi1:((x::l).map fun l=>V.sl (aB l))[0]? = some (V.sl (aB x)):=rfl
 have w0:W .i64 ((((x::l).flatten.length:Nat):Int) - 0)=(((x::l).flatten.length:Nat):Int):=by rw [aX (by omega)];omega
 have hfl:(x::l).flatten=x++l.flatten:=rfl
 have h2:=Ib l (x::l) 1 x rfl (by rw [hfl,c8] at hl;omega) (by simp) hll
 rw [<-hfl] at h2
 have hs1:Gd (0 - 0) ((x::l).map fun l=>V.sl (aB l)) (((x::l).length:Nat):Int) (aB (bE (x::l).flatten.length 0))=some (.head 1 (wz ((x::l).map fun l=>V.sl (aB l)) (((x::l).length:Nat):Int) ((1:Nat):Int) (aB x))):=by
  unfold Gd
  rw [decide_eq_true (by simp),cond_true,dk hi1,qe,aG (o9 _),aG (decide_eq_true (by omega)),aG (decide_eq_true (by rw [bZ];rw [hfl,c8] at hl;omega))]
  rfl
 have hs0:A8 ((x::l).map fun l=>V.sl (aB l)) ((0+(x::l).flatten.length:Nat):Int) ((x::l).map fun l=>V.sl (aB l)) (((x::l).length:Nat):Int) (((x::l).length:Nat):Int)=some (.head 1 (BU (0 - 0) ((x::l).map fun l=>V.sl (aB l)) (((x::l).length:Nat):Int) (aB (bE (x::l).flatten.length 0)))):=by
  unfold A8
  have hr:bE (x::l).flatten.length (V.int .i64 0)=aB (bE (x::l).flatten.length 0):=by unfold aB;rw [Hh]
  rw [dZ,decide_eq_false (by omega),cond_false,decide_eq_false (by omega),cond_false,w0,decide_eq_true (by omega),cond_true,aG rfl,bl,aG (decide_eq_true (by omega)),hr,aG (o9 _),dO]
 have h1:=Ia (x::l) (x::l) 0 0 rfl (by omega) (by omega) hll _ (Nr _ _ _ _ _ hs0 (Yr _ _ _ _ hs1 h2))
 refine SJ _ (o:=.head 0 (uh ((x::l).map fun l=>V.sl (aB l)) ((0:Nat):Int) ((x::l).map fun l=>V.sl (aB l)) (((x::l).length:Nat):Int) ((0:Nat):Int))) ?_ ⟨_,_,h1,by kernel_rfl⟩
 unfold Jn
 rw [dO]
 rfl
theorem Ze (l:List Int):(srt l).Perm l:=List.mergeSort_perm _ _
theorem Zd (l:List Int):(srt l).Pairwise (·<=·):=by
 have:=List.pairwise_mergeSort (le:=fun x y:Int=>decide (x<=y)) (fun a b c h1 h2=>by simp at h1 h2 |-;omega) (fun a b=>by simp;omega) l
 exact this.imp fun h=>by simpa using h
theorem ZF {n:Nat} {r:Int} {es:Es} {ups:List IL} {b:LL} (h:WT n r es ups b):srt (eQ ups b)=ew n (aN es):=by
 have h1:(ew n (aN es)).Pairwise (· < ·):=by
  unfold ew
  rw [Hj]
  exact (List.Pairwise.filter _ List.pairwise_lt_range).imp fun h=>by omega
 have hp:(eQ ups b).Perm (ew n (aN es)):=by
  refine (vg h).symm.trans ((OO h.shf.nd (h1.imp fun h=>by omega)).2 fun p=>?_)
  unfold ew
  rw [dP]
  constructor
  ·intro hp
   have hr:=h.shf.rng p hp
   exact ⟨p.toNat,mD.2 ⟨by simp;omega,decide_eq_true (by rwa [Int.toNat_of_nonneg hr.1])⟩,Int.toNat_of_nonneg hr.1⟩
  ·rintro ⟨k,hk,rfl⟩
   exact of_decide_eq_true (mD.1 hk).2
 exact List.Perm.eq_of_pairwise (le:=(·<=·)) (fun a b _ _ h1 h2=>by omega) (Zd _) (h1.imp fun h=>by omega) ((Ze _).trans hp)
theorem WL {n:Nat} {r:Int} {es:Es} {ups:List IL} {b:LL} (h:WT n r es ups b):bN aA aH 42 [.ptr 0 0 0] (tM r n es)=some (qz (tM r n es) (aB (ew n (aN es)))):=by
 have hul:=mo h
 have hlv:lq ups b=(ups.map cw++[cw b]).map fun l=>V.sl (aB l):=by simp [lq]
 have hfl:(ups.map cw++[cw b]).flatten=eQ ups b:=by simp [eQ,List.flatMap]
 have hlen:=(vg h).length_eq
 have hle:=ql h.shf
 have hn:=h.shf.le
 have hes:(aM es).length=es.length:=by simp [aM]
 have hpos:0 < (eQ ups b).length:=by
  have:b≠[]:=by
   intro hb
   have:=uA h.dn h.okI (by simp)
   exact this hb
  rw [eQ,c8,cw,dO]
  have:=js.2 this
  omega
 have hc:=Ql (ups.map cw++[cw b]) (by simp) (by rw [hfl];exact hpos) (by rw [hfl];omega) (by simp;omega)
 rw [<-hlv,hfl] at hc
 refine Sc _ _ _ _ (o:=.doneM (.tail 6 0) (tM r n es++[O.row 3 [] 0,O.row 3 (aB (ew n (aN es))) 0])) ?_ (.done (by kernel_rfl))
 unfold I9
 have hi:qd (aB (eQ ups b))=some (eQ ups b):=Kw _
 rw [cU Lq (KX h),bY,cz V7 hc,aG (decide_eq_true (by rw [bZ];omega)),hi,iy,ZF h]
 rfl
theorem ZE {n:Nat} {es:Es} (h:bX n es):bN aA aH 50 [.ptr 0 0 0] (sM n es)=some (nj (sM n es) (aB (ew n (aN es)))):=by
 refine Sj _ _ _ (o:=.doneM (.sl (aB (ew n (aN es)))) (sM n es++[O.row 3 [] 0])) ?_ (.done (by kernel_rfl))
 unfold Je
 rw [cU Lr (N5 n h.le (aN es)),bY]
theorem J8 {n:Nat} {r:Int} {es:Es} {ups:List IL} {b:LL} (h:WT n r es ups b) (k:Bs):∃v e,bN aA aH 39 [.ptr 0 0 0,.str k] (tM r n es)=some (lu (tM r n es) (v,e)) /\
  ((e=0/\bF k=true/\(k,v)∈bM b)∨(v=[]/\((e=1/\bF k=false)∨(e=7/\bF k=true/\∀x∈bM b,x.1≠k)))):=by
 cases hk:bF k with
 | false =>
  refine ⟨[],1,I7 _ _ _ _ _ (o:=.doneM (.tup [.str [],.int .i64 1]) (tM r n es)) ?_ (.done (by kernel_rfl)),.inr ⟨rfl,.inl ⟨rfl,rfl⟩⟩⟩
  unfold CZ
  rw [aK (iv k),cR,hk,jq,cond_true]
 | true =>
  obtain ⟨p,h',ws,pre,prs,post,q1,q2,q3,q4,q5,q6⟩:=GR h hk
  have hul:=mo h
  have hF:=h.okF
  have hO:=h.ord
  rw [q2] at hF hO
  have hr:cE ⟨prs,h',aW post 0⟩=true:=Ax hF
  obtain ⟨c1,c2⟩:=GQ hO hF q3 q4
  have hris:=zH h.ord h.okF
  have hfl:bM b=bM pre++(prs++bM post):=by rw [q2,lc,gY]
  have hr2:pz prs:=by
   rw [hfl] at hris
   exact (dJ.1 (dJ.1 hris).2.1).1
  have hg:=J7 ⟨prs,h',aW post 0⟩ hr k
  have go:∀v e,bK aA 76 [eL ⟨prs,h',aW post 0⟩,.str k]=some (.tup [.str v,.int .i64 e])->bN aA aH 39 [.ptr 0 0 0,.str k] (tM r n es)=some (lu (tM r n es) (v,e)):=by
   intro v e hp
   refine I7 _ _ _ _ _ (o:=.doneM (.tup [.str v,.int .i64 e]) (tM r n es++[O.row 41 [] 0,O.box 120 (eL ⟨prs,h',aW post 0⟩) false])) ?_ (.done (by kernel_rfl))
   unfold CZ
   rw [aK (iv k),cR,hk,bR,cond_false,cU qA (qY h.shf q6 (by omega)),bY]
   show (aE aA _ [eL ⟨prs,h',aW post 0⟩,_] _)=_
   rw [aK hp,kZ]
  cases hh:co (aU prs) k with
  | true =>
   rw [show co (aU (⟨prs,h',aW post 0⟩:Lf).prs) k=true from hh,if_pos rfl] at hg
   refine ⟨_,_,go _ _ hg,.inl ⟨rfl,rfl,?_⟩⟩
   obtain ⟨h2,h3⟩:=rF hh
   have h2':bI (aU prs) k < prs.length:=by simpa [aU] using h2
   have hm:prs[bI (aU prs) k]∈prs:=vU h2'
   have e1:wY prs k=prs[bI (aU prs) k].2:=by unfold wY;rw [bC h2'];rfl
   have e2:prs[bI (aU prs) k].1=k:=by simpa [aU] using h3
   have e3:(k,wY prs k)=prs[bI (aU prs) k]:=by rw [e1];exact Prod.ext e2.symm rfl
   rw [hfl]
   refine mC _ (jS _ ?_)
   rw [show ((⟨prs,h',aW post 0⟩:Lf).prs)=prs from rfl,e3]
   exact hm
  | false =>
   rw [show co (aU (⟨prs,h',aW post 0⟩:Lf).prs) k=false from hh,if_neg (by simp)] at hg
   refine ⟨_,_,go _ _ hg,.inr ⟨rfl,.inr ⟨rfl,rfl,?_⟩⟩⟩
   intro x hx hxk
   rw [hfl] at hx
   rcases bp.1 hx with hx | hx
   ·have:=c1 x hx;rw [hxk,iw] at this;cases this
   ·rcases bp.1 hx with hx | hx
    ·rw [DO hr2] at hh
     have:=tI.1 hh x hx
     exact this (by simp [hxk])
    ·have:=c2 x hx;rw [hxk,iw] at this;cases this
abbrev fk:=Int × Bs × Bs × Int
def iS (o:fk):V:=.agg [.int .i64 o.1,.str o.2.1,.str o.2.2.1,.int .i64 o.2.2.2]
def fZ (l:List fk):List V:=l.map iS
theorem u6 (l:List fk):(fZ l).length=l.length:=by simp [fZ]
theorem P0 (n:Nat):(if 20 < (n:Int) then (20:Int) else (n:Int))=((min 20 n:Nat):Int):=by split<;>omega
theorem P1 (n:Nat):(if 40 < (n:Int) then (40:Int) else (n:Int))=((min 40 n:Nat):Int):=by split<;>omega
theorem GJ {α:Type} (l:List α) (c:Nat):l.take (min c l.length)=l.take c:=by
 rcases Nat.le_total c l.length with h | h
 ·rw [vZ h]
 ·rw [Nat.min_eq_right h,lC,kE h]
def Ck (o:fk):fk:=(o.1,o.2.1.take 20,o.2.2.1.take 40,o.2.2.2)
def i5 (N:Nat) (l:List fk):List fk:=(l.take N).map Ck
theorem LQ (l:List fk):((fZ l).all fun x=>x.cells.all V.flat1)=true:=by simp [fZ,iS,V.cells,V.flat1]
theorem Ir (N:Nat) (hN:N<=1000) (S:List fk) (hS:S.length<=maxLen):∀(d i:Nat),i+d=min N S.length ->
  Go qk false 0 (fF 14) (.head 0 (yG (fZ S) (N:Int) (i:Int) (fZ (i5 i S)))) (.done (.fr 38 (fZ (i5 N S))))
 | 0,i,hi=>by
  have e:i5 i S=i5 N S:=by
   unfold i5
   have:i=min N S.length:=by omega
   rw [this,GJ]
  refine MX _ _ _ _ ?_ (.refl _)
  unfold FK
  rw [u6,e]
  by_cases h:i < S.length
  ·rw [decide_eq_true (by omega),cond_true,decide_eq_false (by omega),cond_false,aG (LQ _)]
  ·rw [decide_eq_false (by omega),cond_false,aG (LQ _)]
 | d+1,i,hi=>by
  have aC:i < S.length:=by omega
  have h1:(fZ S)[i]? = some (iS S[i]):=by simp [fZ,bC aC]
  have w:W .i64 ((i:Int)+1)=((i+1:Nat):Int):=by rw [aX (by omega)];omega
  have e:i5 (i+1) S=i5 i S++[Ck S[i]]:=by
   unfold i5
   rw [Hm,bC aC,gJ]
   rfl
  have hl:(fZ (i5 i S)).length<=1000:=by rw [u6];simp [i5];omega
  have:=Ir N hN S hS d (i+1) (by omega)
  rw [e] at this
  refine MX _ _ _ _ ?_ this
  unfold FK
  rw [u6,decide_eq_true (by omega),cond_true,decide_eq_true (by omega),cond_true,aG (by simp),bl,dk h1,iS,uz,P0,P1,aG (by simp),bl,aG (decide_eq_true (by omega)),aG (by simp),bl,aG (decide_eq_true (by omega)),GJ,GJ,
   aG (decide_eq_true (by simp only [cL,fR];omega)),w]
  simp [fZ,iS,Ck]
theorem Qv (N:Nat) (hN:N<=1000) (S:List fk) (hS:S.length<=maxLen):bK aA 14 [.sl (fZ S),.int .i64 (N:Int)]=some (.fr 38 (fZ (i5 N S))):=Rp _ _ rfl (Ir N hN S hS (min N S.length) 0 (by omega))
def i7:Es:=[(0,[76,0,0,0,0])]
theorem Oq {n:Nat} (h:WT n 0 i7 [] [(0,[],[])]):WF n 0 i7 [] [(0,[],[])]:=⟨h,fun q=>absurd rfl q,fun l hl=>by cases hl⟩
theorem Oz {n:Nat} (h1:1<=n) (hn:n<=1024):WT n 0 i7 [] [(0,[],[])]:=by
 refine ⟨⟨hn,by simp [i7,aM],fun p hp=>by simp [i7,aM] at hp;omega⟩,?_,.leaf [(0,[],[])],by simp,⟨by unfold okF;decide,trivial⟩,by simp [iY]⟩
 have:cP []++bg cI [(0,([],[]))] 0=i7:=by decide +kernel
 rw [this]
abbrev nM (n:Nat):List O:=[O.box 140 (V.agg [V.ptr 1 0 0,V.mp 2]) false,O.box 192 (V.agg [V.tail 3 0,V.int .i64 (n:Int)]) false,O.map [],O.row 5 (bE ((n+7) / 8) (V.int .u8 0)) 0]
theorem Py (n:Nat):aL n (aN [])=bE ((n+7) / 8) (V.int .u8 0):=by
 unfold aL
 rw [List.eq_replicate_iff]
 refine ⟨by simp,fun x hx=>?_⟩
 obtain ⟨j,_,rfl⟩:=dP.1 hx
 rfl
theorem ZA {n:Nat} (h1:1<=n) (hn:n<=1024):bN aA aH 131 [.ptr 0 0 0,.int .i64 0] [O.box 192 (V.agg [V.tail 1 0,V.int .i64 (n:Int)]) false,O.row 5 (aL n (aN [])) 0]=some (oI ((0:Nat),0,n,aL n (eA (aN []) 0 true))):=by
 obtain ⟨r1,r2⟩:=Fu n hn
 have hk:(dl n).find? (fun k=>!aN [] k)=some 0:=by
  obtain ⟨m,rfl⟩:∃m,n=m+1:=⟨n - 1,by omega⟩
  rw [List.range_succ_eq_map]
  rfl
 refine Rj _ _ _ ?_ ⟨_,_,GI n hn (aN []) 0 (dl n) (fun k hk=>by simpa using hk) hk,by kernel_rfl⟩
 unfold IU
 rw [decide_eq_true (show (0:Int) ≥ 0 by omega),cond_true,decide_eq_true (show (0:Int) < (n:Int) by omega),bR,cond_false,r1,iy,r2]
 rfl
theorem N1 {n:Nat} (h1:1<=n) (hn:n<=1024):bN aA aH 84 [.ptr 0 0 0] (nM n)=some (lw (0,0,n,aZ [(0,[])],aL n (aN [(0,[])]))):=by
 have ht:aN [(0,[])]=eA (aN []) 0 true:=by
  funext j
  unfold eA aN aM
  by_cases e:j=0
  ·subst e;rfl
  ·rw [if_neg e,decide_eq_false,decide_eq_false]
   ·simp
   ·simp;omega
 rw [ht]
 refine SI _ _ _ (o:=.doneM (.tup [.int .i64 0,.int .i64 0]) (sm n (aZ [(0,[])]) (aL n (eA (aN []) 0 true)))) ?_ (.done (by kernel_rfl))
 unfold Jm
 have:=ZA h1 hn
 rw [Py] at this
 rw [cz Ll this,dV rfl,cond_true]
 rfl
theorem Ow {n:Nat} (h1:1<=n) (hn:n<=1024):bN aA aH 78 [.ptr 0 0 0,.int .i64 0,.ifc 120 (.agg [.sl [],.str [],.int .i64 0])] (tm 0 n (aZ [(0,[])]) (aL n (aN [(0,[])])))=some (eo (0,n,aZ i7,aL n (aN i7))):=by
 have hS:bX n [(0,[])]:=⟨hn,by simp [aM],fun p hp=>by simp [aM] at hp;omega⟩
 have:=pf (r:=0) hS (p:=0) (b:=[]) (l:=sw) rfl (by decide)
 have e:bk [(0,[])] 0 (bA sw)=i7:=by decide +kernel
 rw [e] at this
 exact this
def hS (w:Bool) (h:Bs) (a:Su):Su:=a.dropLast++(a.getLast?.toList.map fun x=>(x.1,bif w then h else x.2))
theorem lT (w:Bool) (h:Bs) (a:Su) (z:Int) (hz:Bs):hS w h (a++[(z,hz)])=a++[(z,bif w then h else hz)]:=by simp [hS]
theorem qS {α:Type} {a:List α} (h:a≠[]):∃a' x,a=a'++[x]:=by
 rcases d9 a with h' | ⟨l,x,h'⟩
 ·exact absurd h' h
 ·exact ⟨l,x,by simpa using h'⟩
theorem TW (w:Bool) (h:Bs) (a:Su) {b:Su} (hb:b≠[]):hS w h (a++b)=a++hS w h b:=by
 obtain ⟨b',⟨z,hz⟩,rfl⟩:=qS hb
 rw [<-bu,lT,lT,bu]
theorem TY (w:Bool) (h:Bs) {a:Su} (ha:a≠[]):hS w h a≠[]:=by
 obtain ⟨a',⟨z,hz⟩,rfl⟩:=qS ha
 rw [lT];simp
theorem TX (h:Bs) (a:Su):hS false h a=a:=by
 rcases d9 a with rfl | ⟨a',⟨z,hz⟩,rfl⟩
 ·rfl
 ·rw [gH,lT];rfl
theorem DW (w:Bool) (h:Bs) {a:Su} (ha:a≠[]):aP (hS w h a)=bif w then h else aP a:=by
 obtain ⟨a',⟨z,hz⟩,rfl⟩:=qS ha
 rw [lT,fU _ (by simp),fU _ (by simp)];rfl
def hI (w:Bool) (h:Bs) (l:IL):IL:=l.dropLast++(l.getLast?.toList.map fun x=>(x.1,hS w h x.2))
theorem w7 (w:Bool) (h:Bs) (l:IL) (z:Int) (ez:Su):hI w h (l++[(z,ez)])=l++[(z,hS w h ez)]:=by simp [hI]
theorem UW (w:Bool) (h:Bs) {l:IL} (hn:∀x∈l,x.2≠[]):bc (hI w h l)=hS w h (bc l):=by
 rcases d9 l with rfl | ⟨l',⟨z,ez⟩,rfl⟩
 ·rfl
 ·rw [gH] at hn |-
  have hz:ez≠[]:=hn (z,ez) (by simp)
  have e:bc (l'++[(z,ez)])=bc l'++ez:=by simp [bc]
  rw [w7,e,TW _ _ _ hz];simp [bc]
theorem Zu (w:Bool) (h:Bs) {l:IL} (hn:∀x∈l,x.2≠[]):bw (hI w h l)=hS w h (bw l):=by
 rcases d9 l with rfl | ⟨l',⟨z,ez⟩,rfl⟩
 ·rfl
 ·rw [gH] at hn |-
  have hz:ez≠[]:=hn (z,ez) (by simp)
  have e:bw (l'++[(z,ez)])=bw l'++[(z,aP ez)]:=by simp [bw]
  rw [w7,e,lT];simp [bw,DW w h hz]
def hF (w:Bool) (h:Bs) (b:LL):LL:=b.dropLast++(b.getLast?.toList.map fun x=>(x.1,x.2.1,bif w then h else x.2.2))
theorem uL (w:Bool) (h:Bs) (b:LL) (z:Int) (prs:List Pr) (hz:Bs):hF w h (b++[(z,prs,hz)])=b++[(z,prs,bif w then h else hz)]:=by simp [hF]
theorem Zt (w:Bool) (h:Bs) (b:LL):bS (hF w h b)=hS w h (bS b):=by
 rcases d9 b with rfl | ⟨b',⟨z,prs,hz⟩,rfl⟩
 ·rfl
 ·have e:bS (b'++[(z,prs,hz)])=bS b'++[(z,hz)]:=by simp [bS]
  rw [gH,uL,e,lT];simp [bS]
theorem Tl (w:Bool) (h:Bs) (b:LL):bM (hF w h b)=bM b:=by
 rcases d9 b with rfl | ⟨b',⟨z,prs,hz⟩,rfl⟩
 ·rfl
 ·rw [gH,uL,lc,lc];simp [bM]
def sW {α:Type} (a:List (Int × α)):List Int:=a.getLast?.toList.map (·.1)
theorem vd {α:Type} (a:List (Int × α)) (x:Int × α):sW (a++[x])=[x.1]:=by simp [sW]
abbrev Nd:=Int × Su × Int
def sy (l:IL) (nx:Int):List Nd:=l.getLast?.toList.map fun x=>(x.1,x.2,nx)
theorem uS (l:IL) (z:Int) (ez:Su) (nx:Int):sy (l++[(z,ez)]) nx=[(z,ez,nx)]:=by simp [sy]
def dx (w:Bool) (h:Bs) (zo gs:List Nd):List Nd:=List.zipWith (fun o g=>(o.1,hS w h o.2.1,g.2.2)) zo gs
def cj (l:List Nd):Es:=l.map fun z=>(z.1,br z.2.1 z.2.2)
inductive Rm (r:Int):List IL->Int->Bs->Su->Su->List aI->Bool->List IL->List Nd->List Nd->Nd->Nd->Prop
 | one {up:List IL} {q p:Int} {h:Bs} {pre post:IL} {sts:List aI} {w:Bool} {up':List IL} {gs zo:List Nd} {xo X:Nd} :
  Rm r up q h (bw pre) (bw post) sts w up' gs zo xo X ->
  Rm r ((pre++(q,[(p,h)])::post)::up) p h (bc pre) (bc post) ((q,[(p,h)],aW post 0,0)::sts) w ((hI w h pre++post)::up') ((q,[(p,h)],aW post 0)::gs) (sy pre (q+1)++zo) xo X
 | left {up:List IL} {q p y:Int} {h hy:Bs} {e1 e2:Su} {pre post:IL} {sts:List aI} :
  iF r up q (aP (e1++(y,hy)::(p,h)::e2)) (bw pre) (bw post) sts ->
  Rm r ((pre++(q,e1++(y,hy)::(p,h)::e2)::post)::up) p h (bc pre++(e1++[(y,hy)])) (e2++bc post) ((q,e1++(y,hy)::(p,h)::e2,aW post 0,e1.length+1)::sts) true
   ((pre++(q,e1++(y,h)::e2)::post)::up) [] [] (q,e1++(y,hy)::(p,h)::e2,aW post 0) (q,e1++(y,h)::e2,aW post 0)
 | first {up:List IL} {q p:Int} {h:Bs} {x:Int × Bs} {e2:Su} {pre post:IL} {sts:List aI} :
  iF r up q (aP ((p,h)::x::e2)) (bw pre) (bw post) sts ->
  Rm r ((pre++(q,(p,h)::x::e2)::post)::up) p h (bc pre) (x::e2++bc post) ((q,(p,h)::x::e2,aW post 0,0)::sts) false
   ((pre++(q,x::e2)::post)::up) [] [] (q,(p,h)::x::e2,aW post 0) (q,x::e2,aW post 0)
theorem XO {r:Int} {up:List IL} {p:Int} {h:Bs} {a c:Su} {sts:List aI} (hp:iF r up p h a c sts) (hm:∃s∈sts,2<=s.2.1.length):∃w up' gs zo xo X,Rm r up p h a c sts w up' gs zo xo X:=by
 induction hp with
 | top=>obtain ⟨s,hs,_⟩:=hm;cases hs
 | @st up q e1 p h e2 pre post sts hup ih =>
  rcases d9 e1 with rfl | ⟨e1',⟨y,hy⟩,rfl⟩
  ·cases e2 with
   | nil =>
    obtain ⟨w,up',gs,zo,xo,X,hr⟩:=ih (by
     obtain ⟨s,hs,h2⟩:=hm
     rcases bP.1 hs with rfl | hs
     ·simp at h2
     ·exact ⟨s,hs,h2⟩)
    have e1:bc pre++[]=bc pre:=dA _
    rw [e1]
    exact ⟨w,_,_,_,xo,X,.one hr⟩
   | cons x e2 =>
    have e1:bc pre++[]=bc pre:=dA _
    rw [e1]
    exact ⟨_,_,_,_,_,_,.first hup⟩
  ·rw [gH] at hup |-
   have e:e1'++[(y,hy)]++(p,h)::e2=e1'++(y,hy)::(p,h)::e2:=by simp
   have el:(e1'++[(y,hy)]).length=e1'.length+1:=by simp
   rw [e] at hup
   rw [e,el]
   exact ⟨_,_,_,_,_,_,.left hup⟩
theorem DV (e1:Su) (y:Int) (hy:Bs) (p:Int) (h:Bs) (e2:Su):aP (e1++(y,h)::e2)=aP (e1++(y,hy)::(p,h)::e2):=by
 rw [fU _ (by simp),fU _ (by simp),kq (y,hy) (by simp)]
 cases e2 with
 | nil=>rfl
 | cons x e2=>rw [kq (y,h) (by simp),kq (p,h) (by simp)]
section
variable {r:Int} {up:List IL} {p:Int} {h:Bs} {a c:Su} {sts:List aI} {w:Bool} {up':List IL} {gs zo:List Nd} {xo X:Nd}
theorem XN (hr:Rm r up p h a c sts w up' gs zo xo X):(∀l∈up,∀x∈l,x.2≠[])->∀{d:List IL} {b:LL},Dn (hS w h a++c) d b->Dn [(r,[])] (up'.reverse++d) b:=by
 induction hr with
 | @one up q p h pre post sts w up' gs zo xo X _ ih =>
  intro hn d b hd
  have hnp:∀x∈pre,x.2≠[]:=fun x hx=>hn _ (cB ..) x (by simp [hx])
  have ek:hS w h (bc pre)++bc post=bc (hI w h pre++post):=by rw [<-UW w h hnp];simp [bc]
  have es:bw (hI w h pre++post)=hS w h (bw pre)++bw post:=by rw [<-Zu w h hnp];simp [bw]
  rw [ek] at hd
  have hd:=Dn.inn _ _ _ hd
  rw [es] at hd
  have:=ih (fun l hl=>hn l (by simp [hl])) hd
  rwa [mF,bu]
 | @left up q p y h hy e1 e2 pre post sts hup =>
  intro hn d b hd
  have ek:hS true h (bc pre++(e1++[(y,hy)]))++(e2++bc post)=bc (pre++(q,e1++(y,h)::e2)::post):=by
   rw [<-bu (bc pre),lT];simp [bc]
  rw [ek] at hd
  have hd:=Dn.inn _ _ _ hd
  have es:bw (pre++(q,e1++(y,h)::e2)::post)=bw pre++(q,aP (e1++(y,hy)::(p,h)::e2))::bw post:=by
   rw [<-DV e1 y hy p h e2];simp [bw]
  rw [es] at hd
  have:=E0 hup hd
  rwa [mF,bu]
 | @first up q p h x e2 pre post sts hup =>
  intro hn d b hd
  have ek:hS false h (bc pre)++(x::e2++bc post)=bc (pre++(q,x::e2)::post):=by
   rw [TX];simp [bc]
  rw [ek] at hd
  have hd:=Dn.inn _ _ _ hd
  have es:bw (pre++(q,x::e2)::post)=bw pre++(q,aP ((p,h)::x::e2))::bw post:=by
   rw [kq _ (by simp)];simp [bw]
  rw [es] at hd
  have:=E0 hup hd
  rwa [mF,bu]
theorem UY {l:IL} (hn:∀x∈l,x.2≠[]) (h:bc l=[]):l=[]:=by
 cases l with
 | nil=>rfl
 | cons x l =>
  rw [bc,iD,po] at h
  exact absurd h.1 (hn x (by simp))
theorem AQ (hr:Rm r up p h a c sts w up' gs zo xo X):(∀l∈up,∀x∈l,x.2≠[])->(a=[]->zo=[])/\(a≠[]->zo.length=gs.length):=by
 induction hr with
 | @one up q p h pre post sts w up' gs zo xo X _ ih =>
  intro hn
  have hnp:∀x∈pre,x.2≠[]:=fun x hx=>hn _ (cB ..) x (by simp [hx])
  obtain ⟨h1,h2⟩:=ih fun l hl=>hn l (by simp [hl])
  constructor
  ·intro ha
   have:=UY hnp ha
   subst this
   rw [h1 rfl];rfl
  ·intro ha
   rcases d9 pre with rfl | ⟨l,⟨z,ez⟩,rfl⟩
   ·exact absurd rfl ha
   ·rw [gH] at h2 |-
    rw [uS]
    have:=h2 (by simp [bw])
    simp [this]
 | left _=>intro _;exact ⟨fun _=>rfl,fun _=>rfl⟩
 | first _=>intro _;exact ⟨fun _=>rfl,fun _=>rfl⟩
end
def fC (e:Su):List Bs:=e.dropLast.map (·.2)
theorem Fq:∀{l:List Bs} {p:Bs},d7 p l=true↔(∀s∈l,bF s=true/\lt p s=true)/\l.Pairwise fun a b=>lt a b=true
 | [],p=>by simp [d7]
 | s::l,p=>by
  rw [d7,bv,bv,Fq (l:=l) (p:=s),gt]
  constructor
  ·rintro ⟨⟨h1,h2⟩,h3,h4⟩
   refine ⟨fun x hx=>?_,fun x hx=>(h3 x hx).2,h4⟩
   rcases bP.1 hx with rfl | hx
   ·exact ⟨h1,h2⟩
   ·exact ⟨(h3 x hx).1,lt_trans h2 (h3 x hx).2⟩
  ·rintro ⟨h1,h2,h3⟩
   exact ⟨h1 s (by simp),fun x hx=>⟨(h1 x (by simp [hx])).1,h2 x hx⟩,h3⟩
structure mz (e:Su) (h:Bs):Prop where
 ne:e≠[]
 pg:∀x∈e,dE x.1=true
 key:∀s∈fC e,bF s=true
 ri:(fC e).Pairwise fun a b=>lt a b=true
 hi:h=[]∨(bF h=true/\∀s∈fC e,lt s h=true)
 sz:23+cA (fC e)<=252
theorem U0 {l:List Bs} {h:Bs} (hk:bF h=true) (ha:∀x∈l,lt x h=true):lt (l.getLastD []) h=true:=by
 rcases d9 l with rfl | ⟨a,x,rfl⟩
 ·exact qg hk
 ·have:(a.concat x).getLastD []=x:=by simp
  rw [this];exact ha x (by simp)
theorem Uq {e:Su} {nx:Int}:(e≠[]/\bL (aD e nx)=true)↔mz e (aP e)/\0<=nx/\nx<=1024:=by
 rw [qM,rQ]
 constructor
 ·rintro ⟨hne,h1,h2,h3,h4,h5,h6,h7⟩
  obtain ⟨q1,q2⟩:=Fq.1 h3
  refine ⟨⟨hne,fun x hx=>h2 x.1 (dP.2 ⟨x,hx,rfl⟩),fun s hs=>(q1 s hs).1,q2,?_,h7⟩,h5,h6⟩
  simp only [eJ,mTz,bv] at h4
  rcases h4 with h4 | ⟨h4,h8⟩
  ·exact .inl (by simpa using h4)
  ·refine .inr ⟨h4,fun s hs=>?_⟩
   have hs:s∈e.dropLast.map (·.2):=hs
   have q2:(e.dropLast.map (·.2)).Pairwise fun a b=>lt a b=true:=q2
   have h8:lt ((e.dropLast.map (·.2)).getLastD []) (aP e)=true:=h8
   show lt s (aP e)=true
   generalize e.dropLast.map (·.2)=l at hs h8 q2
   rcases d9 l with rfl | ⟨a,y,rfl⟩
   ·cases hs
   ·have e:(a.concat y).getLastD []=y:=by simp
    rw [e] at h8
    rw [gH] at hs q2
    rcases bp.1 hs with hs | hs
    ·exact lt_trans ((dJ.1 q2).2.2 s hs y (by simp)) h8
    ·have:s=y:=by simpa using hs
     rw [this];exact h8
 ·rintro ⟨o,h5,h6⟩
  refine ⟨o.ne,?_,?_,?_,?_,h5,h6,o.sz⟩
  ·have:=js.2 o.ne
   simp;omega
  ·intro k hk
   obtain ⟨x,hx,rfl⟩:=dP.1 hk
   exact o.pg x hx
  ·exact Fq.2 ⟨fun s hs=>⟨o.key s hs,qg (o.key s hs)⟩,o.ri⟩
  ·show eJ ((fC e).getLastD []) (aP e)=true
   unfold eJ
   rcases o.hi with h | ⟨hk,ha⟩
   ·rw [h];rfl
   ·rw [hk,U0 hk ha];simp
theorem sS {e:Su} {nx:Int}:okI e nx↔mz e (aP e)/\0<=nx/\nx<=1024:=Uq
theorem Zv {a b:List Bs} (h:a.Sublist b):cA a<=cA b:=by
 induction h with
 | slnil=>exact bG _
 | cons x _ ih=>rw [cA];omega
 | cons_cons x _ ih=>rw [cA,cA];omega
theorem Kq {e e':Su} {h:Bs} (o:mz e h) (hne:e'≠[]) (hp:∀x∈e',∃y∈e,y.1=x.1) (hs:(fC e').Sublist (fC e)):mz e' h:=by
 refine ⟨hne,fun x hx=>?_,fun s h=>o.key s (hs.subset h),o.ri.sublist hs,?_,?_⟩
 ·obtain ⟨y,hy,e⟩:=hp x hx
  rw [<-e];exact o.pg y hy
 ·rcases o.hi with h | ⟨h1,h2⟩
  ·exact .inl h
  ·exact .inr ⟨h1,fun s h=>h2 s (hs.subset h)⟩
 ·have:=Zv hs
  have:=o.sz
  omega
theorem Ba (a:Su) (x:Int × Bs) (b:Su):fC (a++x::b)=a.map (·.2)++fC (x::b):=by
 unfold fC
 rw [pS,gJ]
theorem Bb (x y:Int × Bs) (b:Su):fC (x::y::b)=x.2::fC (y::b):=rfl
theorem NA (w:Bool) (h:Bs) (e:Su):fC (hS w h e)=fC e:=by
 rcases d9 e with rfl | ⟨e',⟨z,hz⟩,rfl⟩
 ·rfl
 ·rw [gH,lT,Ba,Ba];rfl
theorem YB (e:Su):(fC e).Sublist (e.map (·.2)):=List.Sublist.map _ (List.dropLast_sublist _)
theorem Up {e:Su} (o:mz e (aP e)) {w:Bool} {h:Bs} (hk:h=[]∨bF h=true) (hl:∀x∈e,aC x.2 h):mz (hS w h e) (aP (hS w h e)):=by
 have hs:=NA w h e
 refine ⟨TY w h o.ne,?_,by rw [hs];exact o.key,by rw [hs];exact o.ri,?_,by rw [hs];exact o.sz⟩
 ·intro x hx
  obtain ⟨e',⟨z,hz⟩,rfl⟩:=qS o.ne
  rw [lT] at hx
  rcases bp.1 hx with hx | hx
  ·exact o.pg x (by simp [hx])
  ·have:x=(z,bif w then h else hz):=by simpa using hx
   rw [this];exact o.pg (z,hz) (by simp)
 ·rw [hs,DW w h o.ne]
  cases w with
  | false=>exact o.hi
  | true =>
   show h=[]∨(bF h=true/\∀s∈fC e,lt s h=true)
   rcases hk with hk | hk
   ·exact .inl hk
   ·refine .inr ⟨hk,fun s hs=>?_⟩
    obtain ⟨x,hx,rfl⟩:=dP.1 ((YB e).subset hs)
    exact (hl x hx).2.resolve_left (oE hk)
theorem Ur {e1:Su} {y:Int} {hy:Bs} {p:Int} {h:Bs} {e2:Su} {g:Bs} (o:mz (e1++(y,hy)::(p,h)::e2) g):mz (e1++(y,h)::e2) g:=by
 refine Kq o (by simp) ?_ ?_
 ·intro x hx
  rcases bp.1 hx with hx | hx
  ·exact ⟨x,by simp [hx],rfl⟩
  ·rcases bP.1 hx with rfl | hx
   ·exact ⟨(y,hy),by simp,rfl⟩
   ·exact ⟨x,by simp [hx],rfl⟩
 ·rw [Ba,Ba,Bb]
  refine List.Sublist.append_left ?_ _
  cases e2 with
  | nil=>exact List.nil_sublist _
  | cons x e2=>rw [Bb,Bb];exact (List.Sublist.refl _).cons _
theorem Uo {p:Int} {h:Bs} {x:Int × Bs} {e2:Su} {g:Bs} (o:mz ((p,h)::x::e2) g):mz (x::e2) g :=
 Kq o (by simp) (fun z hz=>⟨z,by simp [hz],rfl⟩) (by rw [Bb];exact (List.Sublist.refl _).cons _)
theorem XQ {r:Int} {up:List IL} {p:Int} {h:Bs} {a c:Su} {sts:List aI} {w:Bool} {up':List IL} {gs zo:List Nd} {xo X:Nd} (hr:Rm r up p h a c sts w up' gs zo xo X) :
  (∀l∈up,cH okI l 0)->HP (a++(p,h)::c)->(h=[]∨bF h=true)->∀l∈up',cH okI l 0:=by
 induction hr with
 | @one up q p h pre post sts w up' gs zo xo X _ ih =>
  intro hI hP hk l hl
  have h0:=hI _ (cB ..)
  obtain ⟨ok1,⟨ok3,ok2⟩⟩:=(fA _ _ _).1 h0
  have ok2:cH okI post 0:=ok2
  rcases bP.1 hl with rfl | hl
  ·refine (fA _ _ _).2 ⟨?_,ok2⟩
   rcases d9 pre with rfl | ⟨l',⟨z,ez⟩,rfl⟩
   ·trivial
   ·rw [gH] at ok1 hP |-
    rw [w7]
    obtain ⟨k1,k2,_⟩:=(fA _ _ _).1 ok1
    refine (fA _ _ _).2 ⟨k1,?_,trivial⟩
    have o:=(sS.1 k2).1
    have hx:=(sS.1 ok3).2
    refine sS.2 ⟨Up o hk fun x hx=>?_,hx⟩
    have e:bc (l'++[(z,ez)])=bc l'++ez:=by simp [bc]
    rw [e] at hP
    exact (dJ.1 hP).2.2 x (by simp [hx]) (p,h) (by simp)
  ·have e0:bc pre++(p,h)::bc post=bc (pre++(q,[(p,h)])::post):=by simp [bc]
   rw [e0] at hP
   have:=zS (ia h0) hP
   have e':bw (pre++(q,[(p,h)])::post)=bw pre++(q,h)::bw post:=by simp [bw,aP]
   rw [e'] at this
   exact ih (fun l hl=>hI l (by simp [hl])) this hk l hl
 | @left up q p y h hy e1 e2 pre post sts hup =>
  intro hI hP hk l hl
  have h0:=hI _ (cB ..)
  obtain ⟨ok1,⟨ok3,ok2⟩⟩:=(fA _ _ _).1 h0
  rcases bP.1 hl with rfl | hl
  ·refine (fA _ _ _).2 ⟨ok1,?_,ok2⟩
   have o:=sS.1 ok3
   refine sS.2 ⟨?_,o.2⟩
   rw [DV e1 y hy p h e2]
   exact Ur o.1
  ·exact hI l (by simp [hl])
 | @first up q p h x e2 pre post sts hup =>
  intro hI hP hk l hl
  have h0:=hI _ (cB ..)
  obtain ⟨ok1,⟨ok3,ok2⟩⟩:=(fA _ _ _).1 h0
  rcases bP.1 hl with rfl | hl
  ·refine (fA _ _ _).2 ⟨ok1,?_,ok2⟩
   have o:=sS.1 ok3
   refine sS.2 ⟨?_,o.2⟩
   have:=Uo o.1
   rwa [kq _ (by simp)] at this
  ·exact hI l (by simp [hl])
def c1 (x a:Int × Bs):Nat:=if a=x then 1 else 0
def cn (x:Int × Bs):Es->Nat
 | []=>0
 | a::l=>c1 x a+cn x l
theorem jy (x:Int × Bs):∀(a b:Es),cn x (a++b)=cn x a+cn x b
 | [],b=>by simp [cn]
 | y::a,b=>by rw [dv,cn,cn,jy x a b];omega
theorem Cf (x:Int × Bs):∀l:Es,cn x l=l.count x
 | []=>rfl
 | a::l=>by
  rw [cn,Cf x l,List.count_cons,c1]
  by_cases h:a=x
  ·simp [h];omega
  ·simp [h]
theorem jH {a b:Es}:a.Perm b↔∀x,cn x a=cn x b:=by
 rw [List.perm_iff_count]
 exact forall_congr' fun x=>by rw [Cf,Cf]
theorem kR (x a:Int × Bs) (l:Es):cn x (a::l)=c1 x a+cn x l:=rfl
theorem rJ (x:Int × Bs):cn x []=0:=rfl
theorem ou (x:Nd) (l:List Nd):cj (x::l)=(x.1,br x.2.1 x.2.2)::cj l:=rfl
theorem XS {r:Int} {up:List IL} {p:Int} {h:Bs} {a c:Su} {sts:List aI} {w:Bool} {up':List IL} {gs zo:List Nd} {xo X:Nd} (hr:Rm r up p h a c sts w up' gs zo xo X) :
  (∀l∈up,∀x∈l,x.2≠[])->∃R,(cP up).Perm (cj zo++(cj gs++(cj [xo]++R)))/\(cP up').Perm (cj (dx w h zo gs)++(cj [X]++R)):=by
 induction hr with
 | @one up q p h pre post sts w up' gs zo xo X hr ih =>
  intro hn
  obtain ⟨R,h1,h2⟩:=ih fun l hl=>hn l (by simp [hl])
  rw [jH] at h1 h2
  rcases d9 pre with rfl | ⟨l,⟨z,ez⟩,rfl⟩
  ·have hz:=(AQ hr fun l hl=>hn l (by simp [hl])).1 rfl
   subst hz
   refine ⟨bg br post 0++R,jH.2 fun x=>?_,jH.2 fun x=>?_⟩
   ·have h1:=h1 x
    have e:cP (([]++(q,[(p,h)])::post)::up)=(q,br [(p,h)] (aW post 0))::bg br post 0++cP up:=rfl
    have e2:sy [] (q+1)=[]:=rfl
    rw [e,e2]
    simp only [jy,kR,ou,dU] at h1 |-
    omega
   ·have h2:=h2 x
    have e:cP ((hI w h []++post)::up')=bg br post 0++cP up':=rfl
    have e2:dx w h (sy [] (q+1)++[]) ((q,[(p,h)],aW post 0)::gs)=[]:=rfl
    have e3:dx w h [] gs=[]:=rfl
    rw [e,e2]
    rw [e3] at h2
    simp only [jy,kR,ou,dU] at h2 |-
    omega
  ·rw [gH]
   refine ⟨bg br l (z+1)++bg br post 0++R,jH.2 fun x=>?_,jH.2 fun x=>?_⟩
   ·have h1:=h1 x
    have e:cP ((l++[(z,ez)]++(q,[(p,h)])::post)::up)=bg br l (z+1)++(z,br ez (q+1))::(q,br [(p,h)] (aW post 0))::bg br post 0++cP up:=by
     rw [lP,bu,i6];rfl
    rw [e,uS]
    simp only [jy,kR,ou,dU,dv] at h1 |-
    omega
   ·have h2:=h2 x
    have e:cP ((hI w h (l++[(z,ez)])++post)::up')=bg br l (z+1)++(z,br (hS w h ez) (aW post 0))::bg br post 0++cP up':=by
     rw [w7,lP,bu,i6];rfl
    have e2:dx w h (sy (l++[(z,ez)]) (q+1)++zo) ((q,[(p,h)],aW post 0)::gs)=(z,hS w h ez,aW post 0)::dx w h zo gs:=by rw [uS];rfl
    rw [e,e2]
    simp only [jy,kR,ou,dU,dv] at h2 |-
    omega
 | @left up q p y h hy e1 e2 pre post sts hup =>
  intro hn
  refine ⟨bg br pre (q+1)++bg br post 0++cP up,?_,?_⟩
  ·rw [lP,i6,bg]
   show ((bg br pre (q+1)++_::bg br post 0)++cP up).Perm (_::(bg br pre (q+1)++bg br post 0++cP up))
   rw [bu,dv,bu]
   exact n4
  ·rw [lP,i6,bg]
   show ((bg br pre (q+1)++_::bg br post 0)++cP up).Perm (_::(bg br pre (q+1)++bg br post 0++cP up))
   rw [bu,dv,bu]
   exact n4
 | @first up q p h x e2 pre post sts hup =>
  intro hn
  refine ⟨bg br pre (q+1)++bg br post 0++cP up,?_,?_⟩
  ·rw [lP,i6,bg]
   show ((bg br pre (q+1)++_::bg br post 0)++cP up).Perm (_::(bg br pre (q+1)++bg br post 0++cP up))
   rw [bu,dv,bu]
   exact n4
  ·rw [lP,i6,bg]
   show ((bg br pre (q+1)++_::bg br post 0)++cP up).Perm (_::(bg br pre (q+1)++bg br post 0++cP up))
   rw [bu,dv,bu]
   exact n4
end Go.Proofs.YtlphgcjepphhcaaGreat
