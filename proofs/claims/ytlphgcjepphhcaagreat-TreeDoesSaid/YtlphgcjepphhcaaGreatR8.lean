/-
  Texts that the last one stands on.
-/
import Derived.Test.YtlphgcjepphhcaaGreatR7
import Derived.Shelf.Spec.SlicesInsert
import Derived.Lib.SliceRun
import Derived.RangeFuncNested
import Derived.RangeFuncBound
import Derived.RangeFuncCalls
import Derived.RangeFuncLeaves
import Derived.Shelf.Abstract
import Derived.Shelf.RegionOpen
import Derived.WalkKit
import Derived.OwnWalkIn
import Derived.TacticsInMore
import Derived.LoopNIn
import Derived.LoopIn
import Derived.Stop.RegionWithIn
import Derived.Test.YtlphgcjepphhcaaGreatProg
import Derived.Shelf.SortM.Plain
import Derived.Shelf.SortM.SortNone
import Derived.KernelRfl
import Derived.Shelf.SlMaps.Clone
set_option linter.all false
noncomputable section
open Bool renaming true->aD,false->aE,true_and->fP,not_true->cN,not_false->lQ
open Option renaming some->aA,getD_some->uH,none->aF,bind_some->bu
open Go.IntKind renaming i64->aB,wrap_i64->oW,u8->bK
open List renaming mem_of_getElem?->dH,map_reverse->zn,reverse_reverse->Ce,length_append->gJ,length_map->gm,mem_cons_self->dl,nil_append->il,append_assoc->c8,nodup_cons->nP,nodup_append->uG,reverse_cons->Cd,exists_cons_of_ne_nil->mW,getElem?_eq_some_iff->cE,length_cons->d8,pairwise_iff_getElem->Cc,getElem?_eq_getElem->cI,mem_append_right->mX,mem_cons_of_mem->mY,map_nil->lU,length->se,length_reverse->zm,mem_append->cG,mem_map->fi,mem_singleton->iN,eq_nil_or_concat->fS,map_cons->fJ,perm_middle->zp,mem_append_left->sh,length_pos_iff->lT,mem_filter->si,length_nil->jo,size_toArray->wO,push_toArray->MH,append_toArray->Mw,cons_append->gI,all_eq_true->e9,range->eQ,getElem?_map->gy,getElem?_range->B8
open Go.Lite.O renaming box->aM,row->aN,map->dI
open Go.Lite.V renaming sl->aH,agg->aI,str->aG,int->aC,tup->aV,ptr->aL,mp->dJ,tail->bl,one->fL,cells->gV
open Nat renaming add_comm->so,zero_add->eW,mul_one->nR,sub_self->nS,add_zero->gn,le_refl->cZ
open Go renaming Program->bv,World->bg,TypeId->aP,grownCap->gq,Calls->fQ,Value->aR
open Go.Program renaming underlying->bO
open Array renaming replicate_succ->Mq,replicate_zero->Mr
namespace Go.Proofs.YtlphgcjepphhcaaGreat
open Go Go.Lite
set_option linter.unusedSimpArgs false
set_option linter.unusedVariables false
set_option maxRecDepth 100000
def Kk l (h:cX l=aD) (k:Bs) (hk:k.length<=1000):∃g,bP aJ 105 [eL l,.str k]=aA (.tup [.str g,.int aB (bif cY (bD l.prs) k then 0 else 7)]):=by
 rw[Tb l h k hk];cases cY (bD l.prs) k with
 |true=>grind
 |false=>grind
def uv ws pl:(aO (dQ ws pl))[ws.length]? = aA (.int aB pl):=by simp[aO,ai4]
def ai6 ws pl:(aO (dQ ws pl)).take ws.length=aO (ws.map (·.1)):=by
 unfold dQ;rw[<-oq];exact qi _ _ (by rw[bR];simp)
def agM{n:Nat}{r:Int}{es:Es}{k v:Bs}{ok:Bool}{e r':Int}{es':Es}(h:o4 n r es k v ok e r' es')(Ls:List Bs)(hL:dx n es Ls) :
  ∃Ls',dx n es' Ls'/\bW aJ aU 65 [.ptr 0 0 0,.str k,.str v] (rM r n es Ls)=aA (AV (ok,e,r',aY Ls',c9 n (bi es'))):=by
 cases h with
 |arg h =>
  refine⟨Ls,hL,?_⟩;refine DF _ _ _ _ _ (o:=.doneM (.tup [.bool aE,.int aB 1]) (rM r n es Ls)) ?_ (.done (by kernel_rfl));unfold Al;rw[aQ (jA k),bX];cases hk:cz k with
  |false=>rfl
  |true =>
   rw[hk,fP]at h;rw[cN,be,aQ (y9 v),bX,h];rfl
 |@put ws pl l hs hk hv hw hl hg hr0 hh hz hr =>
  have hk2:=(fd hk).2;obtain⟨g,hget⟩:=Kk l hr0 k (by omega);have hput:=Bp l hr0 k v hk hv hh;unfold kj at hput;rw[bc hz]at hput;have w:W aB (((aO (dQ ws pl)).length:Int) - 1)=((ws.length:Nat):Int):=by rw[oR,bd (by omega)];omega
  have hr1:=hs.rng pl (fp hg);refine⟨_,kf hs hL hr1 (bA ⟨du l.prs k v,l.high,l.next⟩),?_⟩;apply DF
  ·unfold Al;rw[aQ (jA k),bX,hk,cN,be,aQ (y9 v),bX,hv,cN,be,co tD (tZ hs hL (by omega) hw (by omega)),bN,w,aS (by simp),bq,cM (uv ws pl),bL,co mQ (oI hs hL hg hr0),bN];rw[aQ hget,iD];rw[aQ hput,n4,dL rfl,bn];rw[aQ (qa _ hr),de,cL lG (lK hs hL (fp hg) (pw hr)),D8]
  ·exact .done (by kernel_rfl)
 |@full ws pl l hs hk hv hw hl hg hr0 hh hz hf =>
  have hk2:=(fd hk).2;obtain⟨g,hget⟩:=Kk l hr0 k (by omega);have hput:=Bp l hr0 k v hk hv hh;unfold kj at hput;rw[bh hz]at hput;have w:W aB (((aO (dQ ws pl)).length:Int) - 1)=((ws.length:Nat):Int):=by rw[oR,bd (by omega)];omega
  have w1:W aB (((aO (dQ ws pl)).length:Int)+1)=((ws.length+2:Nat):Int):=by rw[oR,bd (by omega)];omega
  refine⟨Ls,hL,?_⟩;apply DF
  ·unfold Al;rw[aQ (jA k),bX,hk,cN,be,aQ (y9 v),bX,hv,cN,be,co tD (tZ hs hL (by omega) hw (by omega)),bN,w,aS (by simp),bq,cM (uv ws pl),bL,co mQ (oI hs hL hg hr0),bN];rw[aQ hget,iD];rw[aQ hput];rw[n4,ew (by decide),be,co RE (Ta hs hL),bN,w1,aZ (by omega),bn]
  ·exact .done (by kernel_rfl)
 |@split ws pl l j x A B r' es' hs hk hv hw hl hg hr0 hh hz hf hfj hj hq h2 hx rA0 rB0 rA rB hc hu =>
  have hk2:=(fd hk).2;obtain⟨g,hget⟩:=Kk l hr0 k (by omega);have hput:=Bp l hr0 k v hk hv hh;unfold kj at hput;rw[bh hz]at hput;have hn:=hs.le;have w:W aB (((aO (dQ ws pl)).length:Int) - 1)=((ws.length:Nat):Int):=by rw[oR,bd (by omega)];omega
  have w1:W aB (((aO (dQ ws pl)).length:Int)+1)=((ws.length+2:Nat):Int):=by rw[oR,bd (by omega)];omega
  have hspl:=agW l hr0 h2 j (by omega);simp only[qh]at hspl;rw[hx]at hspl;simp only[uH]at hspl;have hs1:=qg hs (b:=[]) hj hq;have hpj:pl≠(j:Int):=λe=>hq (e ▸ fp hg)
  have hg1:c7 (bQ es j []) pl=aA _:=(s8 hpj).trans hg;have hs2:=i4 hs1 (b:=bA ⟨A,x.1,(j:Int)+1⟩) (fp hg1);have hg2:c7 (bQ (bQ es j []) pl (bA ⟨A,x.1,(j:Int)+1⟩)) j=aA []:=(s8 hpj.symm).trans xF;have hr1:=hs.rng pl (fp hg);have hL1:=kf hs hL (p:=(j:Int)) (by omega) [];rw[bq]at hL1;have hL2:=kf hs1 hL1 hr1 (bA ⟨A,x.1,(j:Int)+1⟩);have hL3:=kf hs2 hL2 (p:=(j:Int)) (by omega) (bA ⟨B,l.high,l.next⟩);rw[bq]at hL3;have hxk:cz x.1=true:=((lA hr0).mem x (dH hx)).1;have hxl:=(fd hxk).2;obtain⟨Ls',hL',hup⟩:=ag4 hu hxk (by grind) _ hL3;rw[zn,Ce]at hup;refine⟨Ls',hL',?_⟩
  have h0:UG (aO (dQ ws pl)) pl (bif cY (bD l.prs) k then 0 else 7) (j:Int) r (aY (Ls.set j [])) (c9 n (bi (bQ es j []))) (bw A) x.1 ((j:Int)+1) (bw B) l.high l.next =
    aA (.doneM (.tup [.bool (!cY (bD l.prs) k),.int aB 0]) (rm r' (aY Ls') (c9 n (bi es'))++[aM 108 (eL ⟨A,x.1,(j:Int)+1⟩) aE,aM 108 (eL ⟨B,l.high,l.next⟩) aE])):=by
   show(aT aJ _ [eL ⟨A,x.1,(j:Int)+1⟩] _)=_;rw[aQ (qa _ rA),de];rw[cL lG (lK hs1 hL1 (fp hg1) (pw rA))];rw[aQ (qa _ rB),de];have hw2:=lK hs2 hL2 (fp hg2) (pw rB);rw[bq]at hw2;rw[cL lG hw2,aS (k7 _),w,aS (by simp),bq,aS (aZ (by rw[oR];omega)),ai6];rw[cL RF hup,D8]
  refine DF _ _ _ _ _ (o:=.head 0 (CN (aO (dQ ws pl)) pl (bif cY (bD l.prs) k then 0 else 7) (j:Int) r (aY (Ls.set j [])) (c9 n (bi (bQ es j []))) (bw A) x.1 ((j:Int)+1) (bw B) l.high l.next)) ?_ ⟨_,_,ahj _ _ _ _ _ _ _ _ _ _ _ _ _ h0 (.refl _),by kernel_rfl⟩;unfold Al;rw[aQ (jA k),bX,hk,cN,be,aQ (y9 v),bX,hv,cN,be,co tD (tZ hs hL (by omega) hw (by omega)),bN,w,aS (by simp),bq,cM (uv ws pl),bL,co mQ (oI hs hL hg hr0),bN];rw[aQ hget,iD];rw[aQ hput];rw[n4,ew (by decide),be,co RE (Ta hs hL),bN,w1,bF (by omega),be,cL ED (Ff hs hL hfj hj hq)];rw[aQ hspl,X0,aQ (mb k x.1 (by omega)),bX];rcases hc with⟨hkx,rfl,hwA,rfl⟩|⟨hkx,rfl,rfl,hwB⟩
  ·have hput:=Bp _ rA0 k v hk hv (.inr hkx);unfold kj at hput;rw[bc hwA]at hput;rw[hkx,bn];rw[aQ hput,n4]
  ·have hput:=Bp _ rB0 k v hk hv hh;unfold kj at hput;rw[bc hwB]at hput;rw[hkx,be];rw[aQ hput,n4]
section
variable {n:Nat}{r:Int}{es:Es}{Ls:List Bs}
def Tu(hS:cH n es)(hL:dx n es Ls) P (hP:P.length<=2000) m6 {o} :
  ∀(l:IL) i acc,P.drop i=bH l->(∀x∈l,∃m,okI x.2 m/\(x.1,cw x.2 m)∈es)->acc.length+(bM l).length<=2000->i<=P.length ->
  Go qk aD 5 (fF 56) (.head 1 (nU (aO P) P.length r (aY Ls) (c9 n (bi es)) m6 (aO (acc++bH (bM l))))) o ->
  Go qk aD 5 (fF 56) (.head 1 (nU (aO P) i r (aY Ls) (c9 n (bi es)) m6 (aO acc))) o
 | [],i,acc,hd,_,_,hi0,hg=>by
  have hi:=drop_nil hd;have e:i=P.length:=by omega
  subst e;simpa[bM,bH]using hg
 |(q,x)::l,i,acc,hd,bC,hlen,hi0,hg=>by
  obtain⟨h1,h2,h3⟩:=dZ hd;obtain⟨m,⟨hne,hr⟩,hm⟩:=bC (q,x) (by simp);have hge:=gY hS.nd hm;have e1:bM ((q,x)::l)=x++bM l:=by simp[bM]
  rw[e1]at hlen hg;rw[gJ]at hlen;have w:W aB ((i)+1)=((i+1:Nat)):=by rw[bd (by omega)];omega
  refine FG _ _ _ _ _ _ _ (o:=.head 1 (nU (aO P) ((i+1)) r (aY Ls) (c9 n (bi es)) m6 (aO (acc++bH x)))) ?_
   (Tu hS hL P hP m6 l (i+1) (acc++bH x) h2 (λy hy=>bC y (by grind)) (by simp[bH];omega) (by omega) (by simpa[bH]using hg))
  unfold BD;rw[bR,aZ (by omega),aS (by simp),bq,fN h1,bL,co md (qc hS hL hge hr),bN,aS (k7 _),aS (aZ (by simp only[bR,gm];omega)),w,oq];rfl
def Tv(hS:cH n es)(hL:dx n es Ls) P (hP:P.length<=2000) m6 {o} :
  ∀(l:LL) (i:Nat),P.drop i=bH l->(∀x∈l,∃m,okF x.2 m/\(x.1,dF x.2 m)∈es)->i<=P.length ->
  Go qk aD 5 (fF 56) (.head 1 (nU (aO P) (P.length) r (aY Ls) (c9 n (bi es)) m6 [])) o ->
  Go qk aD 5 (fF 56) (.head 1 (nU (aO P) i r (aY Ls) (c9 n (bi es)) m6 [])) o
 | [],i,hd,_,hi,hg=>by
  have h1:=drop_nil hd;grind
 |(q,x)::l,i,hd,bC,hi,hg=>by
  obtain⟨h1,h2,h3⟩:=dZ hd;obtain⟨m,hr,hm⟩:=bC (q,x) (by simp);have hge:=gY hS.nd hm;have w:W aB ((i)+1)=((i+1:Nat)):=by rw[bd (by omega)];omega
  refine FG _ _ _ _ _ _ _ (o:=.head 1 (nU (aO P) (i+1:Nat) r (aY Ls) (c9 n (bi es)) m6 [])) ?_
   (Tv hS hL P hP m6 l (i+1) h2 (λy hy=>bC y (by grind)) (by omega) hg)
  unfold BD;rw[bR,aZ (by omega),bn,aS (by simp),bq,fN h1,bL,co md (Bl (l:=⟨x.1,x.2,m⟩) hS hL hge hr),bN,be,w]
def Tx{Ts bs acc P o}(hl:acc.length<=3000)
  (h:Go qk aD 5 (fF 56) (.head 1 (nU (aO P) (0:Nat) r Ts bs (acc++[aH (aO P)]) [])) o) :
  Go qk aD 5 (fF 56) (.head 0 (zS r Ts bs (acc++[aH (aO P)]))) o:=by
 have w:W aB ((acc++[aH (aO P)]).length - 1)=acc.length:=by
  rw[bd (by grind)];simp
 have hg:(acc++[aH (aO P)])[acc.length]? = aA (aH (aO P)):=by simp
 refine ahi _ _ _ _ ?_ h;unfold UE;rw[w,aS (by simp),aS (aZ (by simp)),bq,cM hg];rfl
def Tw(hS:cH n es)(hL:dx n es Ls):∀(d:List IL) (b:LL) (s:Su) (acc:List V),Dn s d b->(∀l∈d,dG okI l 0)->dG okF b 0->(∀l∈d,lR cw es l)->lR dF es b->(∀l∈d,l.length<=1024)->b.length<=1024->acc.length+d.length<=2000->s≠[] ->
  Go qk aD 5 (fF 56) (.head 0 (zS r (aY Ls) (c9 n (bi es)) (acc++[aH (aO (bH s))]))) (.doneM (.own 5) (rM r n es Ls++[aN 80 (acc++fA d b) 0]))
 | [],b,s,acc,hd,_,hF,_,hE,_,hb,hl,_=>by
  have e:=jM hd;have ep:bH s=bH b:=by rw[e,JO]
  rw[ep];have hbl:(bH b).length=b.length:=by simp[bH]
  refine Tx (by grind) (Tv hS hL (bH b) (by omega) _ b 0 rfl (λx hx=>?_) (by omega) (FG _ _ _ _ _ _ _ ?_ (.refl _)))
  ·obtain⟨m,h1,h2⟩:=vD (f:=dF) hF x hx;exact⟨m,h1,hE _ h2⟩
  ·unfold BD;rw[bR,bF (by omega),be];rfl
 |l::d,b,s,acc,hd,hI,hF,hEI,hE,hdl,hb,hl,hne=>by
  obtain⟨e,hdk⟩:=gX hd;have ep:bH s=bH l:=by rw[e,JN]
  have hll:=hdl l (dl ..);have hpl:(bH l).length=l.length:=by simp[bH]
  have hkl:=N7 hdk (λx hx=>hdl x (by grind)) hb;have hlne:l≠[]:=by rintro rfl;exact hne e
  have hkne:=AH hlne (jE (hI _ (dl ..)));have ih:=Tw hS hL d b (bM l) (acc++[aH (aO (bH l))]) hdk (λx hx=>hI x (by grind)) hF (λx hx=>hEI x (by grind)) hE (λx hx=>hdl x (by grind)) hb (by grind) hkne;have e2:acc++[aH (aO (bH l))]++fA d b=acc++fA (l::d) b:=by simp[fA]
  rw[e2]at ih;rw[ep];refine Tx (by grind) (Tu hS hL (bH l) (by omega) _ l 0 [] rfl (λx hx=>?_) (by grind) (by omega) (FG _ _ _ _ _ _ _ ?_ ih))
  ·obtain⟨m,h1,h2⟩:=vD (f:=cw) (hI _ (dl ..)) x hx;exact⟨m,h1,hEI _ (dl ..) _ h2⟩
  ·unfold BD;rw[il,bR,bF (by omega),be,ew,be,aS (aZ (by grind))];rw[bR,bH];simp_all
def Kn{ups b}(h:WT n r es ups b)(hL:dx n es Ls):bW aJ aU 56 [.ptr 0 0 0] (rM r n es Ls)=aA (pM (rM r n es Ls) (fA ups b)):=by
 have hl:=ml h;obtain⟨h1,h2⟩:=xP h;obtain⟨h3,h4⟩:=qQ h;have:=Tw (r:=r) h.shf hL ups b [(r,[])] [] h.dn h.okI h.okF h3 h4 h1 h2 (by grind) (by simp);exact aaA _ _ _ rfl ⟨_,_,this,by kernel_rfl⟩
def Ty{ups b}(h:WT n r es ups b)(hL:dx n es Ls):bW aJ aU 55 [.ptr 0 0 0] (rM r n es Ls)=aA (vK (rM r n es Ls) (aO (bH b))):=by
 have hl:=ml h;have hlen:(fA ups b).length=ups.length+1:=by simp[fA]
 have w:W aB ((fA ups b).length - 1)=ups.length:=by rw[bd (by omega)];omega
 have hg:(fA ups b)[ups.length]? = aA (aH (aO (bH b))):=by simp[fA]
 refine aaz _ _ _ (o:=.doneM (.sl (aO (bH b))) (rM r n es Ls++[aN 3 [] 0])) ?_ (.done (by kernel_rfl));unfold O5;rw[co Jx (Kn h hL),bN,w,aS (by simp),bq,cM hg,ma]
def TI(hS:cH n es)(hL:dx n es Ls) P (hP:P.length<=2000):∀(l:LL) (i:Nat) acc,P.drop i=bH l->(∀x∈l,∃m,okF x.2 m/\(x.1,dF x.2 m)∈es)->i<=P.length->acc.length+1000 * l.length<=5000000 ->
  Go qk aD 5 (fF 67) (.head 0 (CO (aO P) i r (aY Ls) (c9 n (bi es)) (bw acc))) (.doneM (.own 6) (rM r n es Ls++[aN 41 [] 0,aN 41 (bw (acc++cF l)) 0]))
 | [],i,acc,hd,_,hi,_=>by
  have h1:=drop_nil hd;refine UH _ _ _ _ _ _ ?_ (.refl _);unfold Lp;rw[bR,bF (by omega)];simp[cF]
 |(q,prs,h)::l,i,acc,hd,bC,hi,hl=>by
  obtain⟨h1,h2,h3⟩:=dZ hd;obtain⟨m,hr,hm⟩:=bC (q,prs,h) (by simp);have hge:=gY hS.nd hm;have g:=lA hr;have g1:=g.len;have g2:=g.wt;simp only at g1 g2;have w:W aB (i+1)=(i+1:Nat):=by rw[bd (by omega)];omega
  have ih:=TI hS hL P hP l (i+1) (acc++prs) h2 (λy hy=>bC y (by grind)) (by omega) (by grind);have e:acc++prs++cF l=acc++cF ((q,prs,h)::l):=by rw[kO,c8]
  rw[e]at ih;refine UH _ _ _ _ _ _ ?_ ih;unfold Lp;rw[bR,aZ (by omega),bn,aS (by simp),bq,fN h1,bL,co mQ (oI (l:=⟨prs,h,m⟩) hS hL hge hr),bN,aS (jG _),aS (aZ (by simp only[dq];omega)),w,Bc]
def agK{ups b}(h:WT n r es ups b)(hL:dx n es Ls):bW aJ aU 67 [.ptr 0 0 0] (rM r n es Ls)=aA (yg (rM r n es Ls) (bw (cF b))):=by
 obtain⟨h1,h2⟩:=xP h;obtain⟨h3,h4⟩:=qQ h;have hbl:(bH b).length=b.length:=by simp[bH]
 have:=TI (r:=r) h.shf hL (bH b) (by omega) b 0 [] rfl (λx hx=>by
  obtain⟨m,h1,h2⟩:=vD (f:=dF) h.okF x hx;exact⟨m,h1,h4 _ h2⟩) (by omega) (by grind)
 refine aaD _ _ _ ?_ ⟨_,_,this,by kernel_rfl⟩;unfold Pb;rw[co RQ (Ty h hL),bN];rfl
end
section
variable {n:Nat}{r:Int}{es:Es}{Ls:List Bs}{g:Int}{w:Bool}
def E9{P}(hP:P.length<=20000){Ts bs o}:∀l T i,P.drop i=l++T->(∀x∈l,x≠g) ->
  Go qk aD 5 (fF 151) (.head 0 (mB (aO P) g w (i+l.length:Nat) r Ts bs)) o->Go qk aD 5 (fF 151) (.head 0 (mB (aO P) g w i r Ts bs)) o
 | [],_,_,_,_,hg=>hg
 |x::l,T,i,hd,hx,hg=>by
  obtain⟨h1,h2,h3⟩:=dZ (r:=l++T) hd;have w1:W aB ((i)+1)=((i+1:Nat)):=by rw[bd (by omega)];omega
  refine KX _ _ _ _ _ _ _ ?_ (E9 hP l T (i+1) h2 (λy hy=>hx y (by grind)) (by rw[show i+1+l.length=i+(x::l).length by grind];exact hg));unfold yL;rw[bR,aZ (by omega),bn,aS (by simp),bq,fN h1,bL,jz (hx x (by simp)),bn,w1]
def Tf{P Ts bs}{i:Nat}(hi:i=P.length):Go qk aD 5 (fF 151) (.head 0 (mB (aO P) g w i r Ts bs)) (.doneM (.tup []) (rm r Ts bs)):=by
 refine KX _ _ _ _ _ _ _ ?_ (.refl _);unfold yL;rw[bR,bF (by omega),be]
def age{C}(hd:(g::C).Nodup)(hP:C.length<=10000){Ts bs}:bW aJ aU 151 [.ptr 0 0 0,.sl (aO (g::C)),.int aB g,.bool w] (rm r Ts bs)=aA (tF (r,Ts,bs)):=by
 have hg:=(nP.1 hd).1
 have h1:Go qk aD 5 (fF 151) (.head 0 (mB (aO (g::C)) g w 1 r Ts bs)) (.doneM (.tup []) (rm r Ts bs)) :=
  E9 (by grind) C [] 1 (by simp) (λx hx e=>hg (e ▸ hx)) (Tf (by grind))
 exact OD _ _ _ _ _ _ rfl ⟨_,_,h1,by kernel_rfl⟩
def Tg{A C:List Int}{z:Int}(hd:(A++z::g::C).Nodup)(hP:(A++z::g::C).length<=10000){Ts bs Ts' bs':List V}
  (hs:yL (aO (A++z::g::C)) g w ((A.length+1:Nat):Int) r Ts bs=aA (.head 0 (mB (aO (A++z::g::C)) g w ((A.length+2:Nat):Int) r Ts' bs'))) :
  bW aJ aU 151 [.ptr 0 0 0,.sl (aO (A++z::g::C)),.int aB g,.bool w] (rm r Ts bs)=aA (tF (r,Ts',bs')):=by
 obtain⟨_,h2,h3⟩:=uG.1 hd;obtain⟨h4,h5⟩:=nP.1 h2;have h6:=(nP.1 h5).1;have hl:(A++z::g::C).length=A.length+2+C.length:=by grind
 obtain⟨D,hD,hDl⟩:∃D,(A++z::g::C).drop 1=D++g::C/\D.length=A.length/\∀x∈D,x∈A++[z]:=by
  cases A with
  |nil=>grind
  |cons a A=>exact⟨A++[z],by simp,by simp,by grind⟩
 have h1:Go qk aD 5 (fF 151) (.head 0 (mB (aO (A++z::g::C)) g w ((1:Nat):Int) r Ts bs)) (.doneM (.tup []) (rm r Ts' bs')):=by
  refine E9 (by omega) D (g::C) 1 hD (λx hx e=>?_) ?_
  ·grind
  ·rw[hDl.1,so 1];refine KX _ _ _ _ _ _ _ hs (E9 (by omega) C [] (A.length+2) ?_ (λx hx e=>h6 (e ▸ hx)) (Tf (by omega)));simp_all
 exact OD _ _ _ _ _ _ rfl ⟨_,_,h1,by kernel_rfl⟩
def Rv{A C z}:(A++z::g::C)[A.length+1]? = aA g/\(A++z::g::C)[A.length]? = aA z:=by
 grind
def agc(hSh:cH n es)(hL:dx n es Ls){A C z}(hd:(A++z::g::C).Nodup)(hP:(A++z::g::C).length<=10000){ez eg nz ng}(hz:c7 es z=aA (cR (aX ez nz)))(hg:c7 es g=aA (cR (aX eg ng)))(rz:cy (aX ez nz)=aD)(rg:cy (aX eg ng)=aD)(hne:ez≠[])
  (rn:cy (aX (hS w (bp eg) ez) ng)=aD) :
  bW aJ aU 151 [.ptr 0 0 0,.sl (aO (A++z::g::C)),.int aB g,.bool w] (rM r n es Ls)=aA (tF (r,aY (Ls.set z.toNat (cw (hS w (bp eg) ez) ng)),c9 n (bi (bQ es z (cw (hS w (bp eg) ez) ng))))):=by
 have hl:(A++z::g::C).length=A.length+2+C.length:=by grind
 obtain⟨i1,i2⟩:=Rv (A:=A) (C:=C) (z:=z) (g:=g);have w1:W aB ((A.length+1:Nat)+1)=(A.length+2):=by rw[bd (by omega)];omega
 have w2:W aB ((A.length+1:Nat) - 1)=A.length:=by rw[bd (by omega)];omega
 have hH:=Pw w (bp eg) ez hne nz ng;refine Tg hd hP ?_;unfold yL;rw[bR,aZ (by omega),aS (aZ (by omega)),bq,fN i1,bL,ef rfl,be,w2,bq,fN i2,bL,co mQ (Tt hSh hL hz rz),bN,co mQ (Tt hSh hL hg rg),bN,fN i2,bL,co md (qc hSh hL hz rz),bN,co md (qc hSh hL hg rg),bN,be];cases w with
 |true =>
  rw[fN i2,bL];have hH:aI [aH (aY (aX ez nz).seps),aH (aO (aX ez nz).kids),aG (bp eg),aC aB ng]=eI (aX (hS aD (bp eg) ez) ng):=hH;rw[hH,aQ (sV _ (gv rn)),de,cL lG (lK hSh hL (fp hz) (ny rn)),w1];rfl
 |false =>
  rw[be,fN i2,bL];have hH:aI [aH (aY (aX ez nz).seps),aH (aO (aX ez nz).kids),aG (aX ez nz).high,aC aB ng]=eI (aX (hS aE (bp eg) ez) ng):=hH;rw[hH,aQ (sV _ (gv rn)),de,cL lG (lK hSh hL (fp hz) (ny rn)),w1];rfl
def agd(hSh:cH n es)(hL:dx n es Ls){A C z}(hd:(A++z::g::C).Nodup)(hP:(A++z::g::C).length<=10000){lz lg}(hz:c7 es z=aA (bA lz))(hg:c7 es g=aA (bA lg))(rz:cX lz=aD)(rg:cX lg=aD)
  (rn:cX ⟨lz.prs,bif w then lg.high else lz.high,lg.next⟩=aD) :
  bW aJ aU 151 [.ptr 0 0 0,.sl (aO (A++z::g::C)),.int aB g,.bool w] (rM r n es Ls)=aA (tF (r,aY (Ls.set z.toNat (bA ⟨lz.prs,bif w then lg.high else lz.high,lg.next⟩)),c9 n (bi (bQ es z (bA ⟨lz.prs,bif w then lg.high else lz.high,lg.next⟩))))):=by
 have hl:(A++z::g::C).length=A.length+2+C.length:=by grind
 obtain⟨i1,i2⟩:=Rv (A:=A) (C:=C) (z:=z) (g:=g);have w1:W aB ((A.length+1:Nat)+1)=A.length+2:=by rw[bd (by omega)];omega
 have w2:W aB ((A.length+1:Nat) - 1)=A.length:=by rw[bd (by omega)];omega
 refine Tg hd hP ?_;unfold yL;rw[bR,aZ (by omega),aS (aZ (by omega)),bq,fN i1,bL,ef rfl,be,w2,bq,fN i2,bL,co mQ (oI hSh hL hz rz),bN,co mQ (oI hSh hL hg rg),bN,fN i2,bL,co md (Bl hSh hL hz rz),bN,co md (Bl hSh hL hg rg),bN];cases w with
 |true =>
  rw[fN i2];have rn:cX ⟨lz.prs,lg.high,lg.next⟩=true:=rn;show(aT aJ _ [eL ⟨lz.prs,lg.high,lg.next⟩] _)=_;rw[aQ (qa _ rn),de,cL lG (lK hSh hL (fp hz) (pw rn)),w1];rfl
 |false =>
  rw[be,fN i2];have rn:cX ⟨lz.prs,lz.high,lg.next⟩=true:=rn;show(aT aJ _ [eL ⟨lz.prs,lz.high,lg.next⟩] _)=_;rw[aQ (qa _ rn),de,cL lG (lK hSh hL (fp hz) (pw rn)),w1];rfl
end
def Qm{es p b}(h:c7 es p=aA b):(p,b)∈es:=by
 induction es with
 |nil=>cases h
 |cons x es ih =>
  rw[c7]at h;grind
def adF{n}{E1 E2:Es}{Ls}(hn:(bo E1).Nodup)(hp:E1.Perm E2)(h:dx n E1 Ls):dx n E2 Ls :=
 ⟨h.len,λp b hb=>h.at_ p b (gY hn (hp.mem_iff.2 (Qm hb)))⟩
def aiI{E1 E2}(hp:E1.Perm E2):bi E1=bi E2:=Md λp=>List.Perm.mem_iff (hp.map λx:Int × Bs=>x.1)
def adR{a b c d e f}(h1:mZ a c e)(h2:mZ b d f):mZ (a++b) (c++d) (e++f):=by
 induction h1 with
 |nil=>grind
 |cons q _ ih=>exact .cons q ih
def adS{a c e}(h:mZ a c e):mZ a.reverse c.reverse e.reverse:=by
 induction h with
 |nil=>exact .nil
 |cons q _ ih=>simp[Cd];exact adR ih (.cons q .nil)
def Ru{a b e f}(h1:mw a e)(h2:mw b f):mw (a++b) (e++f):=by
 induction h1 with
 |nil=>grind
 |cons q _ ih=>exact .cons q ih
def adT{a e}(h:mw a e):mw a.reverse e.reverse:=by
 induction h with
 |nil=>exact .nil
 |cons q _ ih=>simp[Cd];exact Ru ih (.cons q .nil)
section
variable {n:Nat}{r:Int}{es:Es}{Ls:List Bs}{o:d6}
def agT{r':Int}{es':Es}(h:lp n r es r' es')(hL:dx n es Ls):dx n es' Ls/\∃i:List V × List V × Bs × Int × Bool,bW aJ aU 95 [.ptr 0 0 0,.int aB r] (rM r n es Ls)=aA (jQ (rM r n es Ls) i) /\
  ∃b,Go qk aD 5 (fF 111) (.head 4 (Ct i.2.2.2.2 r (aY Ls) (c9 n (bi es)) i.1 i.2.1 i.2.2.1 i.2.2.2.1)) (.doneM (.tup []) (rM r' n es' Ls++[aM 152 b aE])):=by
 induction h with
 |@leaf r es l hs hg hr =>
  refine⟨hL,_,Bl hs hL hg hr,aI [aH [],aH [],aG [],aC aB 0],KF _ _ _ _ _ _ _ _ ?_ (.refl _)⟩;unfold Fj;grind
 |@stop r es e nx hs hg hr h2 =>
  refine⟨hL,_,qc hs hL hg hr,eI (aX e nx),KF _ _ _ _ _ _ _ _ ?_ (.refl _)⟩;unfold Fj;rw[bn,ew (show((aO (aX e nx).kids).length:Int)≠1 by rw[bR,gm];omega),be]
 |@one r es k h nx r' es' hs hg hr _ ih =>
  obtain⟨h1,i,h2,b,h3⟩:=ih (Rk hs hL);refine⟨h1,_,qc hs hL hg hr,b,KF _ _ _ _ _ _ _ _ ?_ h3⟩;unfold Fj;rw[bn,dL (by rfl),bn,cL RN (Tc hs hL (fp hg)),fN (show(aX [(k,h)] nx).kids[0]? = aA k from rfl),bL];show(cJ aJ _ _ _ _ (rM k n (fo es r) Ls) _)=_;rw[co md h2,bN]
def Td{X:List Int}(hX:X.length<=20000):∀(ps:Es) (i:Nat) (es R:Es),X.drop i=bo ps->i<=X.length->cH n es->dx n es Ls->es.Perm (ps++R) ->
  (dx n (pE es (bo ps)) Ls->Go qk aD 5 (fF 111) (.head 3 (wU (aO X) (X.length:Int) r (aY Ls) (c9 n (bi (pE es (bo ps)))))) o) ->
  Go qk aD 5 (fF 111) (.head 3 (wU (aO X) (i:Int) r (aY Ls) (c9 n (bi es)))) o
 | [],i,es,R,hd,hi,_,hL,_,hg=>by
  have h1:=drop_nil hd;have e:i=X.length:=by omega
  subst e;exact hg hL
 |(p,b)::ps,i,es,R,hd,hi,hS,hL,hp,hg=>by
  obtain⟨h1,h2,h3⟩:=dZ hd;have ih:=Td hX ps (i+1) (fo es p) R h2 (by omega) (FP hS p) (Rk hS hL) (Do hS.nd hp) hg;have w:W aB ((i:Int)+1)=((i+1:Nat):Int):=by rw[bd (by omega)];omega
  refine T5 _ _ _ _ _ ?_ ih;unfold KE;rw[bR,aZ (by omega),bn,aS (by simp),bq,fN h1,bL,cL RN (Tc hS hL (gk hp)),w]
def Te(hS0:cH n es)(hL:dx n es Ls){X:List Int}(hX:X.length<=20000):∀(ss:List br) (x:br) (rest:List br) (D:List Int) (s:br) (T:List br),ss++x::rest=s::T->X=(ss++x::rest).reverse.map (·.1)++D->(∀s∈ss,s.2.1.length=1)->(∀s∈ss++[x],c7 es s.1=aA (cR (aX s.2.1 s.2.2.1))/\cy (aX s.2.1 s.2.2.1)=aD) ->
  Go qk aD 5 (fF 111) (.head 0 (zy (aO X) (rest.length:Int) r (aY Ls) (c9 n (bi es)) (aY (aX x.2.1 x.2.2.1).seps) (aO (aX x.2.1 x.2.2.1).kids) (bp x.2.1) x.2.2.1)) o ->
  Go qk aD 5 (fF 111) (.head 0 (zy (aO X) (T.length:Int) r (aY Ls) (c9 n (bi es)) (aY (aX s.2.1 s.2.2.1).seps) (aO (aX s.2.1 s.2.2.1).kids) (bp s.2.1) s.2.2.1)) o
 | [],x,rest,D,s,T,h,_,_,_,hg=>by
  grind
 |a::ss,x,rest,D,s,T,h,hd,h1,bC,hg=>by
  obtain⟨rfl,hT⟩:=List.cons.inj h;obtain⟨s2,T2,hT2⟩:∃s2 T2,ss++x::rest=s2::T2:=mW (by simp);have hT':T=s2::T2:=hT.symm.trans hT2;subst hT';have hd2:X=(ss++x::rest).reverse.map (·.1)++(a.1::D):=by grind
  have ih:=Te hS0 hL hX ss x rest (a.1::D) s2 T2 hT2 hd2 (λs hs=>h1 s (by grind)) (λs hs=>bC s (by grind)) hg
  have hin:s2∈ss++[x]:=by
   cases ss with
   |nil=>grind
   |cons b ss=>grind
  obtain⟨hg2,hr2⟩:=bC s2 (by grind)
  have hx:X[T2.length]? = aA s2.1:=by
   simp_all
  have hl:T2.length < X.length:=(cE.1 hx).1;have w:W aB (((s2::T2).length:Int) - 1)=((T2.length:Nat):Int):=by rw[d8,bd (by omega)];omega
  have hk:((aO (aX a.2.1 a.2.2.1).kids).length:Int)=1:=by rw[bR,gm,h1 a (by simp)];rfl
  refine T3 _ _ _ _ _ _ _ _ _ ?_ ih;unfold KB;rw[dL hk,bn,w,aS (by simp),bq,fN hx,bL,co md (qc hS0 hL hg2 hr2),bN]
def Tr{X kids:List Int}{at_:Nat}{q:Int}(hX:X.length<=20000)(hk:kids.length<=20000)(hx:X[at_+1]? = aA q)(hn:kids.Nodup){xi:Nat}(hxi:kids[xi]? = aA q){Ts bs sp:List V}{hi:Bs}{nx:Int}{lv:List V}{mm:List O}
  (hlv:bW aJ aU 56 [.ptr 0 0 0] (rm r Ts bs)=aA (pM (rm r Ts bs) lv))
  (hg:Go qk aD 5 (fF 111) (.head 2 (m7 (aO X) (at_:Int) (xi:Int) lv ((at_+1:Nat):Int) r Ts bs sp (aO kids) hi nx)) o):∀(d i:Nat),i+d=xi ->
  Go qk aD 5 (fF 111) (.head 1 (Cs (aO X) (at_:Int) (i:Int) r Ts bs sp (aO kids) hi nx)) o
 |0,i,hi0=>by
  obtain rfl:i=xi:=by omega
  have hl:=(cE.1 hx).1;have w:W aB ((at_:Int)+1)=((at_+1:Nat):Int):=by rw[bd (by omega)];omega
  refine T4 _ _ _ _ _ _ _ _ _ _ ?_ hg;unfold KD;rw[aS (by simp),bq,fN hxi,bL,w,aS (aZ (by omega)),bq,fN hx,bL,ef rfl,be,co Jx hlv,bN]
 |d+1,i,hi0=>by
  have hl:=(cE.1 hx).1;obtain⟨hl2,hv⟩:=cE.1 hxi;have hi1:i < kids.length:=by omega
  have hne:kids[i]≠q:=by
   rw[<-hv];exact Cc.1 hn i xi hi1 hl2 (by omega)
  have w:W aB ((at_:Int)+1)=((at_+1:Nat):Int):=by rw[bd (by omega)];omega
  have w1:W aB ((i:Int)+1)=((i+1:Nat):Int):=by rw[bd (by omega)];omega
  refine T4 _ _ _ _ _ _ _ _ _ _ ?_ (Tr hX hk hx hn hxi (mm:=mm) hlv hg d (i+1) (by omega));unfold KD;rw[aS (by simp),bq,fN (cI hi1),bL,w,aS (aZ (by omega)),bq,fN hx,bL,jz hne,bn,w1]
def Tj{X:List Int}(hX:X.length<=20000){LV:List V}{at_ xi nx:Int}{sp kd:List V}{hi:Bs}{Ts bs:List V}:∀(Ps:List (List Int)) (gs:List Int) (k:Nat),mw Ps gs->(∃T,X.drop k=gs++T)->(∃T,LV.drop k=Ps.map (λP=>aH (aO P))++T)->(∀P∈Ps,P.length<=10000) ->
  Go qk aD 5 (fF 111) (.head 2 (m7 (aO X) at_ xi LV ((k+gs.length:Nat):Int) r Ts bs sp kd hi nx)) o ->
  Go qk aD 5 (fF 111) (.head 2 (m7 (aO X) at_ xi LV (k:Int) r Ts bs sp kd hi nx)) o
 |_,_,_,.nil,_,_,_,hg=>hg
 |_,_,k,@mw.cons C g Ps gs hd hr,⟨T,h1⟩,⟨T2,h2⟩,hP,hg=>by
  obtain⟨a1,a2,a3⟩:=dZ (l:=X) (r:=gs++T) h1;obtain⟨b1,b2,b3⟩:=dZ (l:=LV) (r:=Ps.map (λP=>aH (aO P))++T2) h2;have hC:=hP (g::C) (by simp);simp only[d8]at hC;have w:W aB ((k:Int)+1)=((k+1:Nat):Int):=by rw[bd (by omega)];omega
  have ih:=Tj hX (LV:=LV) (at_:=at_) (xi:=xi) (nx:=nx) (sp:=sp) (kd:=kd) (hi:=hi) (Ts:=Ts) (bs:=bs) Ps gs (k+1) hr ⟨T,a2⟩ ⟨T2,b2⟩ (λP hp=>hP P (by grind)) (by rw[show k+1+gs.length=k+(g::gs).length by grind];grind);refine Fi _ _ _ _ _ _ _ _ _ _ _ _ ?_ ih;unfold Bu;rw[bR,aZ (by omega),bn,aS (by simp),bq,cM b1,ma,aS (by simp),fN a1,bL,cL Jr (age hd (by omega)),w]
def xR(Ls:List Bs)(l:Es):List Bs:=l.foldl (λe x=>e.set x.1.toNat x.2) Ls
def Ti{X:List Int}(hX:X.length<=20000){LV:List V}{at_ xi nx:Int}{sp kd:List V}{hi:Bs}{w:Bool}(hw:w=decide (xi > 0))(h:Bs):∀(Ps:List (List Int)) (zo gs:List Nd) (k:Nat) (es R:Es) (Ls:List Bs),mZ Ps (zo.map (·.1)) (gs.map (·.1))->cH n es->dx n es Ls->es.Perm (cv zo++R)->(∀g∈gs,(g.1,cw g.2.1 g.2.2)∈R) ->
  (∀z∈zo,z.2.1≠[]/\cy (aX z.2.1 z.2.2)=aD)->(∀g∈gs,cy (aX g.2.1 g.2.2)=aD/\bp g.2.1=h)->(∀z∈dB w h zo gs,cy (aX z.2.1 z.2.2)=aD)->(∃T,X.drop k=gs.map (·.1)++T)->(∃T,LV.drop k=Ps.map (λP=>aH (aO P))++T)->(∀P∈Ps,P.length<=10000) ->
  (dx n (dE es (cv (dB w h zo gs))) (xR Ls (cv (dB w h zo gs)))->Go qk aD 5 (fF 111) (.head 2 (m7 (aO X) at_ xi LV ((k+gs.length:Nat):Int) r (aY (xR Ls (cv (dB w h zo gs)))) (c9 n (bi (dE es (cv (dB w h zo gs))))) sp kd hi nx)) o) ->
  Go qk aD 5 (fF 111) (.head 2 (m7 (aO X) at_ xi LV (k:Int) r (aY Ls) (c9 n (bi es)) sp kd hi nx)) o
 |_,[],[],k,es,R,Ls,_,_,hL,_,_,_,_,_,_,_,_,hg=>hg hL
 |_,[],_::_,_,_,_,_,hl,_,_,_,_,_,_,_,_,_,_,_=>by cases hl
 |_,_::_,[],_,_,_,_,hl,_,_,_,_,_,_,_,_,_,_,_=>by cases hl
 |_,(z,ez,nz)::zo,(q,eq,nq)::gs,k,es,R,Ls,@mZ.cons A C _ _ Ps _ _ hd hr,hs,hL,hp,hR,hz,hgs,hnew,⟨T,h1⟩,⟨T2,h2⟩,hP,hg=>by
  obtain⟨a1,a2,a3⟩:=dZ (l:=X) (r:=gs.map (·.1)++T) h1;obtain⟨b1,b2,b3⟩:=dZ (l:=LV) (r:=Ps.map (λP=>aH (aO P))++T2) h2;obtain⟨hne,hrz⟩:=hz (z,ez,nz) (by simp);obtain⟨hrq,hhq⟩:=hgs (q,eq,nq) (by simp);simp only at hhq;subst hhq;have hrn:cy (aX (hS w (bp eq) ez) nq)=true:=hnew (z,hS w (bp eq) ez,nq) (by simp[dB]);have hgz:c7 es z=aA (cR (aX ez nz)):=nD hs.nd hp;have hgq:c7 es q=aA (cR (aX eq nq)):=gY hs.nd (hp.mem_iff.2 (mX _ (hR (q,eq,nq) (by simp))));have hp2:=jU (b':=cR (aX (hS w (bp eq) ez) nq)) hs.nd hp;have hs2:=i4 hs (b:=cR (aX (hS w (bp eq) ez) nq)) (gk hp);have hL2:=kf hs hL (hs.rng z (gk hp)) (cR (aX (hS w (bp eq) ez) nq));have hPl:=hP _ (dl ..)
  have ih:=Ti hX (LV:=LV) (at_:=at_) (xi:=xi) (nx:=nx) (sp:=sp) (kd:=kd) (hi:=hi) hw (bp eq) Ps zo gs (k+1) _ ((z,cR (aX (hS w (bp eq) ez) nq))::R) _ hr hs2 hL2 (hp2.trans List.perm_middle.symm) (λg hg=>mY _ (hR g (by grind))) (λy hy=>hz y (by grind)) (λy hy=>hgs y (by grind)) (λy hy=>hnew y (by
   show y∈(z,hS w (bp eq) ez,nq)::dB w (bp eq) zo gs;grind)) ⟨T,a2⟩ ⟨T2,b2⟩ (λP hp=>hP P (by grind)) (λhL'=>by
   have:=hg hL';rw[show k+1+gs.length=k+((q,eq,nq)::gs).length by grind];exact this)
  have w1:W aB ((k:Int)+1)=((k+1:Nat):Int):=by rw[bd (by omega)];omega
  refine Fi _ _ _ _ _ _ _ _ _ _ _ _ ?_ ih;unfold Bu;rw[bR,aZ (by omega),bn,aS (by simp),bq,cM b1,ma,aS (by simp),fN a1,bL,<-hw];show(bV aJ _ _ _ _ (rM r n es Ls) _)=_;rw[cL Jr (agc hs hL hd hPl hgz hgq hrz hrq hne hrn),w1];rfl
end
def ai2{es k p ws pl l}(h:jt es k p ws pl l):(dQ ws pl)[0]? = aA p:=by
 cases h with
 |leaf _ _=>rfl
 |inn _ _ _ _ _=>rfl
def ai3{es k p ws pl l}(h:jt es k p ws pl l):∀A s D,ws=A++s::D->∃q,(aX s.2.1 s.2.2.1).kids[s.2.2.2]? = aA q/\(dQ ws pl)[A.length+1]? = aA q:=by
 induction h with
 |leaf _ _=>simp_all
 |@inn p e nx i p' sts pl l hg hr hf hi hw ih =>
  intro A s D e0;cases A with
  |nil =>
   obtain⟨rfl,rfl⟩:=List.cons.inj e0;exact⟨p',hi,ai2 hw⟩
  |cons a A =>
   obtain⟨rfl,e2⟩:=List.cons.inj e0;obtain⟨q,h1,h2⟩:=ih A s D e2;exact⟨q,h1,h2⟩
def Rl{n}:∀{L L':Es} {es R:Es} {Ls},es.Perm (L++R)->bo L=bo L'->cH n es->dx n es Ls->dx n (dE es L') (xR Ls L')
 | [],[],_,_,_,_,_,_,hL=>hL
 |(a,x)::L,[],_,_,_,_,e,_,_=>by simp[bo]at e
 | [],(a,x)::L,_,_,_,_,e,_,_=>by simp[bo]at e
 |(a,x)::L,(a',y)::L',es,R,Ls,h,e,hs,hL=>by
  obtain⟨rfl,e2⟩:=List.cons.inj e;exact Rl (L:=L) (L':=L') (es:=bQ es a y) (R:=(a,y)::R) (Ls:=Ls.set a.toNat y) ((jU (b':=y) hs.nd h).trans List.perm_middle.symm) e2 (i4 hs (gk h)) (kf hs hL (hs.rng a (gk h)) y)
section
variable {n:Nat}{r:Int}{es:Es}{ws:List br}{pl:Int}{lf:Lf}{w:Bool}{zl:List Nl}{gs zo:List Nd}{xo X:Nd}{ss:List br}{xi:Nat}{rest:List br}{out:List Int}{R:Es}{r':Int}{es':Es}{Ls:List Bs}
def V2(d:k9 n es ws pl lf w zl gs zo xo X ss xi rest out R):ws=rest.reverse++(xo.1,xo.2.1,xo.2.2,xi)::ss.reverse:=by
 have:=di List.reverse d.x.fst;grind
def VS(d:k9 n es ws pl lf w zl gs zo xo X ss xi rest out R):(dQ ws pl)[rest.length]? = aA xo.1/\(dQ ws pl).drop (rest.length+1)=gs.reverse.map (·.1)++[pl]/\(dQ ws pl).length=rest.length+1+gs.length+1:=by
 have e:dQ ws pl=rest.reverse.map (·.1)++xo.1::(gs.reverse.map (·.1)++[pl]):=by
  unfold dQ;rw[V2 d,d.x.fgs];simp_all
 rw[e];refine⟨?_,?_,by grind⟩
 ·grind
 ·rw[show rest.reverse.map (·.1)++xo.1::(gs.reverse.map (·.1)++[pl])=(rest.reverse.map (·.1)++[xo.1])++(gs.reverse.map (·.1)++[pl]) by simp];exact sR _ _ (by simp)
def S5(d:k9 n es ws pl lf w zl gs zo xo X ss xi rest out R)(hsk:lp n r (pu es pl lf w zl gs zo X) r' es')(LV:List V){E2:Es}{Ls2:List Bs}
  (hp:E2.Perm (fM (gl w lf zl)++(cv (dB w lf.high zo gs)++((pl,bA lf)::(cv gs++(cv [xo]++R)))))) (hs2:cH n E2) (hL2:dx n E2 Ls2) :
  dx n es' (Ls2.set xo.1.toNat (cw X.2.1 X.2.2))/\∃b,Go qk aD 5 (fF 111) (.head 2 (m7 (aO (dQ ws pl)) (rest.length:Int) (xi:Int) LV ((dQ ws pl).length:Int) r (aY Ls2) (c9 n (bi E2)) (aY (aX xo.2.1 xo.2.2).seps) (aO (aX xo.2.1 xo.2.2).kids) (bp xo.2.1) xo.2.2))
   (.doneM (.tup []) (rM r' n es' (Ls2.set xo.1.toNat (cw X.2.1 X.2.2))++[aM 152 b aE])):=by
 obtain⟨x1,x2,x3⟩:=VS d;have hlen:=d.len;have hwl:(dQ ws pl).length=ws.length+1:=by simp[dQ]
 have hp2:E2.Perm ((xo.1,cw xo.2.1 xo.2.2)::((((pl,bA lf)::cv gs))++(fM (gl w lf zl)++(cv (dB w lf.high zo gs)++R)))):=by
  refine hp.trans (kZ.2 λx=>?_);simp only[kG,lX,oa];simp only[cv,lU,pm];omega
 have hp3:=jU (b':=cw X.2.1 X.2.2) hs2.nd hp2;have hs3:=i4 hs2 (b:=cw X.2.1 X.2.2) (gk hp2);have hL3:=kf hs2 hL2 (hs2.rng xo.1 (gk hp2)) (cw X.2.1 X.2.2);obtain⟨ps,hps⟩:∃ps,ps=((pl,bA lf)::cv gs).reverse:=⟨_,rfl⟩
 have hkp:bo ps=gs.reverse.map (·.1)++[pl]:=by rw[hps];simp[bo,cv]
 have hp4:(bQ E2 xo.1 (cw X.2.1 X.2.2)).Perm (ps++((X.1,cw X.2.1 X.2.2)::(fM (gl w lf zl)++(cv (dB w lf.high zo gs)++R)))):=by
  have h1:ps.Perm ((pl,bA lf)::cv gs):=by grind
  refine(hp3.trans (kZ.2 λx=>?_)).trans (List.Perm.append_right _ h1.symm);rw[d.x.pg];simp only[kG,lX];omega
 have h5:=IQ hs3 hp4;have hdp:=d.left.1
 have hpd:=by
  refine h5.1.trans (List.Perm.trans (kZ.2 λx=>?_) hdp.symm);simp only[kG,lX,oa];simp only[cv,lU,pm];omega
 have hdel:iT (aX xo.2.1 xo.2.2) (xi:Int)=(aX X.2.1 X.2.2,0):=by
  unfold iT;have:=d.x.lti;have:=d.x.two;rw[bc ⟨d.rxo,by omega,by grind,by grind⟩,bq,d.x.del]
 have hdo:=Ye (aX xo.2.1 xo.2.2) (xi:Int) (gv d.rxo);rw[hdel]at hdo
 have hL4:=by
  refine adF h5.2.nd hpd ⟨hL3.len,λq b hq=>?_⟩;refine hL3.at_ q b (gY hs3.nd (hp4.mem_iff.2 (mX _ (h5.1.mem_iff.1 (Qm hq)))))
 obtain⟨hL',i,hi,b,hgo⟩:=agT hsk hL4;have w1:W aB ((rest.length:Int)+1)=((rest.length+1:Nat):Int):=by rw[bd (by omega)];omega
 refine⟨hL',b,Fi _ _ _ _ _ _ _ _ _ _ _ _ (o:=.head 3 (wU (aO (dQ ws pl)) ((rest.length+1:Nat):Int) r (aY (Ls2.set xo.1.toNat (cw X.2.1 X.2.2))) (c9 n (bi (bQ E2 xo.1 (cw X.2.1 X.2.2)))))) ?_ (Td (by omega) ps (rest.length+1) _ _ (by grind) (by omega) hs3 hL3 hp4 λ_=>?_)⟩
 ·unfold Bu;rw[bR,bF (by omega),be];rw[aQ hdo,uU,bq,fN x1,bL];rw[aQ (sV _ (gv d.rX)),de,cL lG (lK hs2 hL2 (gk hp2) (ny d.rX)),w1];rfl
 ·rw[aiI hpd];refine T5 _ _ _ _ _ ?_ hgo;unfold KE;rw[bR,bF (by omega),be];rw[co md hi,bN]
def afX(d:k9 n es ws pl lf w zl gs zo xo X ss xi rest out R)(hl:BY n r es ws pl zl gs zo xo)(hsk:lp n r (pu es pl lf w zl gs zo X) r' es')(hL:dx n es Ls) :
  ∃Ls',dx n es' Ls'/\∃LV b,bW aJ aU 56 [.ptr 0 0 0] (rM r n es Ls)=aA (pM (rM r n es Ls) LV) /\
   Go qk aD 5 (fF 111) (.head 2 (m7 (aO (dQ ws pl)) (rest.length:Int) (xi:Int) LV ((rest.length+1:Nat):Int) r (aY Ls) (c9 n (bi es)) (aY (aX xo.2.1 xo.2.2).seps) (aO (aX xo.2.1 xo.2.2).kids) (bp xo.2.1) xo.2.2))
   (.doneM (.tup []) (rM r' n es' Ls'++[aM 152 b aE])):=by
 obtain⟨ups,b,Ps,U,A,C,hW,hnd,hul,l1,l2,l3,l4,l5,l6,l7⟩:=hl;obtain⟨x1,x2,x3⟩:=VS d;have hlen:=d.len;have hwl:(dQ ws pl).length=ws.length+1:=by simp[dQ]
 have hu:=di se l1;rw[gm,zm,gJ]at hu;have hU:U.length=rest.length+1:=by omega
 have e1:ups.map bH=U.reverse++Ps.reverse:=by
  simp_all
 have hLV:fA ups b=U.reverse.map (λP=>aH (aO P))++(Ps.reverse++[bH b]).map (λP=>aH (aO P)):=by
  have:(ups.map λl=>aH (aO (bH l)))=(ups.map bH).map λP=>aH (aO P):=by simp
  unfold fA;grind
 have hd:(fA ups b).drop (rest.length+1)=(Ps.reverse++[bH b]).map (λP=>aH (aO P)):=by grind
 obtain⟨le1,le2⟩:=xP hW
 have hPl:∀P∈Ps.reverse++[bH b],P.length<=10000:=by
  intro P hP;rcases cG.1 hP with hP|hP
  ·have:P∈ups.map bH:=by grind
   obtain⟨l,hl,rfl⟩:=fi.1 this;have:=le1 l hl;simp only[bH,gm];omega
  ·rw[iN.1 hP];simp only[bH,gm];omega
 have hlv:=Kn hW hL;have hzl1:=d.zl1
 match hzl:zl,hzl1 with
 | [],_ =>
  have hzo:=d.zl0 rfl;subst hzo;obtain⟨h1,b2,h2⟩:=S5 d hsk (fA ups b) (E2:=es) (Ls2:=Ls) d.perm d.shf hL;refine⟨_,h1,_,b2,hlv,?_⟩
  have hA:A=[]:=by
   simp_all
  subst hA;rw[il]at l3
  have hN:mw (Ps.reverse++[bH b]) (gs.reverse.map (·.1)++[pl]):=by
   refine Ru ?_ (by rw[l3]at l4 |-;exact .cons l4 .nil);rw[zn];exact adT (l7 rfl)
  refine Tj (by omega) _ _ _ hN ⟨[],by grind⟩ ⟨[],by grind⟩ hPl ?_;grind
 | [(z,lz)],_ =>
  have hzo:=d.zo1 (by simp);have hgl:=d.x.fgs;have hF:=l6 (by simp)
  obtain⟨A',rfl⟩:∃A',A=A'++[z]:=by
   rcases fS A with rfl|⟨A',y,rfl⟩
   all_goals grind
  have l3:bH b=A'++z::pl::C:=by grind
  have hperm:=d.perm
  have hP1:es.Perm (cv zo.reverse++((z,bA lz)::(pl,bA lf)::(cv gs++(cv [xo]++R)))):=by
   have h1:(cv zo.reverse).Perm (cv zo):=by simp only[cv,zn];grind
   refine hperm.trans (List.Perm.trans (kZ.2 λx=>?_) (List.Perm.append_right _ h1.symm));simp only[kG,lX,fM,fJ,lU,pm];omega
  have hNr:dB w lf.high zo.reverse gs.reverse=(dB w lf.high zo gs).reverse:=by
   unfold dB;grind
  have hk1:bo (cv zo.reverse)=bo (cv (dB w lf.high zo.reverse gs.reverse)):=by
   rw[tl,tl,JB _ _ _ _ (by grind)]
  have hq1:=Ge d.shf.nd hP1 hk1;have hq2:=FT d.shf hP1 hk1;have hgz:=nD hq2.nd (hq1.1.trans zp);have hgp:c7 (dE es (cv (dB w lf.high zo.reverse gs.reverse))) pl=aA (bA lf):=gY hq2.nd (hq1.1.mem_iff.2 (by simp));have hrz:=d.rzl (z,lz) (by simp);have hrn:cX ⟨lz.prs,bif w then lf.high else lz.high,lf.next⟩=true:=d.rzl' (z,_) (by simp[gl]);have hs3:=i4 hq2 (b:=bA ⟨lz.prs,bif w then lf.high else lz.high,lf.next⟩) (fp hgz);have hp3:=jU (b':=bA ⟨lz.prs,bif w then lf.high else lz.high,lf.next⟩) hq2.nd (hq1.1.trans zp)
  have hp3':(bQ (dE es (cv (dB w lf.high zo.reverse gs.reverse))) z (bA ⟨lz.prs,bif w then lf.high else lz.high,lf.next⟩)).Perm (fM (gl w lf [(z,lz)])++(cv (dB w lf.high zo gs)++((pl,bA lf)::(cv gs++(cv [xo]++R))))):=by
   refine hp3.trans (List.Perm.cons _ (List.Perm.append_right _ ?_));rw[hNr];simp only[cv,zn];grind
  have hLk:∀L1,dx n (dE es (cv (dB w lf.high zo.reverse gs.reverse))) L1->dx n (bQ (dE es (cv (dB w lf.high zo.reverse gs.reverse))) z (bA ⟨lz.prs,bif w then lf.high else lz.high,lf.next⟩)) (L1.set z.toNat (bA ⟨lz.prs,bif w then lf.high else lz.high,lf.next⟩)):=λL1 h1=>kf hq2 h1 (hq2.rng z (fp hgz)) _
  have hloop:∀o,(dx n (dE es (cv (dB w lf.high zo.reverse gs.reverse))) (xR Ls (cv (dB w lf.high zo.reverse gs.reverse)))->Go qk aD 5 (fF 111) (.head 2 (m7 (aO (dQ ws pl)) (rest.length:Int) (xi:Int) (fA ups b) ((rest.length+1+gs.reverse.length:Nat):Int) r (aY (xR Ls (cv (dB w lf.high zo.reverse gs.reverse)))) (c9 n (bi (dE es (cv (dB w lf.high zo.reverse gs.reverse))))) (aY (aX xo.2.1 xo.2.2).seps) (aO (aX xo.2.1 xo.2.2).kids) (bp xo.2.1) xo.2.2)) o)->Go qk aD 5 (fF 111) (.head 2 (m7 (aO (dQ ws pl)) (rest.length:Int) (xi:Int) (fA ups b) ((rest.length+1:Nat):Int) r (aY Ls) (c9 n (bi es)) (aY (aX xo.2.1 xo.2.2).seps) (aO (aX xo.2.1 xo.2.2).kids) (bp xo.2.1) xo.2.2)) o:=by
   intro o hg;refine Ti (by omega) d.x.fw lf.high Ps.reverse zo.reverse gs.reverse (rest.length+1) es _ Ls (by rw[zn,zn];exact adS hF) d.shf hL hP1 ?_ ?_ ?_ ?_ ⟨[pl],x2⟩ ⟨[aH (aO (bH b))],by grind⟩ (λP hP=>hPl P (sh _ hP)) hg
   ·intro g hg;have:(g.1,cw g.2.1 g.2.2)∈cv gs:=fi.2 ⟨g,by grind,rfl⟩;grind
   ·intro z hz;exact d.rzo z (by grind)
   ·intro g hg;exact⟨d.rgs g (by grind),d.x.hi g (by grind)⟩
   ·intro z hz;rw[hNr]at hz;exact d.rzo' z (by grind)
  have hL1:=Rl hP1 hk1 d.shf hL;obtain⟨h1,b2,h2⟩:=S5 d hsk (fA ups b) hp3' hs3 (hLk _ hL1);refine⟨_,h1,_,b2,hlv,hloop _ λ_=>?_⟩;rw[zm]
  have hi1:(dQ ws pl)[rest.length+1+gs.length]? = aA pl:=by
   have:((dQ ws pl).drop (rest.length+1))[gs.length]? = aA pl:=by grind
   grind
  have hi2:(fA ups b)[rest.length+1+gs.length]? = aA (aH (aO (bH b))):=by
   simp_all
  have w1:W aB (((rest.length+1+gs.length:Nat):Int)+1)=((rest.length+1+gs.length+1:Nat):Int):=by rw[bd (by omega)];omega
  rw[x3]at h2;refine Fi _ _ _ _ _ _ _ _ _ _ _ _ ?_ h2;unfold Bu;have hbl:(bH b).length<=10000:=hPl _ (by simp);have hir:=agd (r:=r) (w:=w) hq2 hL1 (A:=A') (C:=C) (by grind) (by grind) hgz hgp hrz d.rlf hrn;rw[<-l3]at hir;rw[bR,aZ (by omega),bn,aS (aZ (by omega)),bq,cM hi2,ma,aS (aZ (by omega)),fN hi1,bL,<-d.x.fw];show(bV aJ _ _ _ _ (rM r n (dE es (cv (dB w lf.high zo.reverse gs.reverse))) (xR Ls (cv (dB w lf.high zo.reverse gs.reverse)))) _)=_;rw[cL Jr hir,w1]
 |_::_::_,h=>grind
end
section
variable {n:Nat}{r:Int}{es:Es}{ws:List br}{pl:Int}{lf:Lf}{w:Bool}{zl:List Nl}{gs zo:List Nd}{xo X:Nd}{ss:List br}{xi:Nat}{rest:List br}{out:List Int}{R:Es}{r':Int}{es':Es}{Ls:List Bs}
def afY{k:Bs}{lw:Lf}(d:k9 n es ws pl lf w zl gs zo xo X ss xi rest out R)(hl:BY n r es ws pl zl gs zo xo)(hsk:lp n r (pu es pl lf w zl gs zo X) r' es')(hw:jt es k r ws pl lw)(hL:dx n es Ls) :
  ∃Ls',dx n es' Ls'/\bW aJ aU 111 [.ptr 0 0 0,.sl (aO (dQ ws pl))] (rM r n es Ls)=aA (AM (r',aY Ls',c9 n (bi es'))):=by
 obtain⟨Ls',hL',LV,b,hlv,hgo⟩:=afX d hl hsk hL;obtain⟨_,_,_,_,_,_,_,hnd,_⟩:=hl;refine⟨Ls',hL',?_⟩;have hlen:=d.len;have hwl:(dQ ws pl).length=ws.length+1:=by simp[dQ]
 have hx2:=d.x.two;obtain⟨q,k1,k2⟩:=ai3 hw rest.reverse (xo.1,xo.2.1,xo.2.2,xi) ss.reverse (V2 d);rw[zm]at k2;have hwr:(ss++(xo.1,xo.2.1,xo.2.2,xi)::rest).reverse=ws:=by rw[<-d.x.fst,Ce]
 have hwn:ss.length+rest.length+1=ws.length:=by grind
 have hkl:(aX xo.2.1 xo.2.2).kids.length=xo.2.1.length:=by simp
 have hki:=(cE.1 k1).1
 have hmem:∀x∈cv gs++cv [xo],x∈es:=by
  intro x hx;refine d.perm.mem_iff.2 (mX _ (mX _ (mY _ ?_)));grind
 have hgx:c7 es xo.1=aA (cR (aX xo.2.1 xo.2.2)):=gY d.shf.nd (hmem _ (mX _ (by simp[cv,cw])))
 have hkn:2<=(aX xo.2.1 xo.2.2).kids.length/\(aX xo.2.1 xo.2.2).kids.length<=20000:=by
  have:=(gv d.rxo).kids;grind
 have bC:∀s∈ss++[(xo.1,xo.2.1,xo.2.2,xi)],c7 es s.1=aA (cR (aX s.2.1 s.2.2.1))/\cy (aX s.2.1 s.2.2.1)=true:=by
  intro s hs;rcases cG.1 hs with hs|hs
  ·have hg:(s.1,s.2.1,s.2.2.1)∈gs:=by rw[d.x.fgs];grind
   exact⟨gY d.shf.nd (hmem _ (sh _ (fi.2 ⟨_,hg,rfl⟩))),d.rgs _ hg⟩
  ·rw[iN.1 hs];exact⟨hgx,d.rxo⟩
 obtain⟨s,T,hsT⟩:∃s T,ss++(xo.1,xo.2.1,xo.2.2,xi)::rest=s::T:=mW (by simp);have hTl:T.length+1=ws.length:=by grind
 have hs1:(dQ ws pl)[T.length]? = aA s.1:=by
  rw[<-hwr,hsT];unfold dQ;grind
 have hsin:s∈ss++[(xo.1,xo.2.1,xo.2.2,xi)]:=by
  cases ss with
  |nil=>grind
  |cons c ss=>grind
 obtain⟨hgs,hrs⟩:=bC s hsin;have hk:=Tr (mm:=[]) (X:=dQ ws pl) (by omega) hkn.2 k2 hnd k1 hlv hgo xi 0 (eW _)
 have h0:=Te (r:=r) (X:=dQ ws pl) d.shf hL (by omega) ss (xo.1,xo.2.1,xo.2.2,xi) rest [pl] s T hsT (by rw[hwr];rfl) d.x.one bC (T3 _ _ _ _ _ _ _ _ _ (by
  unfold KB;rw[ew (show((aO (aX xo.2.1 xo.2.2).kids).length:Int)≠1 by rw[bR];omega),be];rfl) hk)
 have w0:W aB (((aO (dQ ws pl)).length:Int) - 2)=((T.length:Nat):Int):=by rw[bR,bd (by omega)];omega
 refine YG _ _ _ _ ?_ ⟨_,_,h0,by kernel_rfl⟩;unfold Of;rw[w0,aS (by simp),bq,fN hs1,bL,co md (qc d.shf hL hgs hrs),bN]
end
def afW{n:Nat}{r:Int}{es:Es}{k:Bs}{e r':Int}{es':Es}(h:qu n r es k e r' es') Ls (hL:dx n es Ls) :
  ∃Ls',dx n es' Ls'/\bW aJ aU 66 [.ptr 0 0 0,.str k] (rM r n es Ls)=aA (AW (e,r',aY Ls',c9 n (bi es'))):=by
 cases h with
 |arg h =>
  refine⟨Ls,hL,Am _ _ _ _ (o:=.doneM (.int aB 1) (rM r n es Ls)) ?_ (.done (by kernel_rfl))⟩;unfold xv;rw[aQ (jA k),bX,h];rfl
 |@no ws pl l hs hk hw hl hr0 hh =>
  have hk2:=(fd hk).2;have hdl:=Ke l hr0 k (by omega);rw[hh]at hdl;have hg:=(BS hw).1;have w:W aB (((aO (dQ ws pl)).length:Int) - 1)=((ws.length:Nat):Int):=by rw[oR,bd (by omega)];omega
  refine⟨Ls,hL,?_⟩;apply Am
  ·unfold xv;rw[aQ (jA k),bX,hk,cN,co tD (tZ hs hL (by omega) hw (by omega)),bN,w,bq,cM (uv ws pl),bL,co mQ (oI hs hL hg hr0),bN];show(aT aJ _ [eL l,_] _)=_;rw[aQ hdl];show(qJ (aV [eL kX,aC aB 7]) _)=_;rw[n4,jz (by decide),bn]
  ·exact .done (by kernel_rfl)
 |@put ws pl l hs hk hw hl hg hr0 hh hd hr =>
  have hk2:=(fd hk).2;have hdl:=Ke l hr0 k (by omega);rw[hh,bc rfl]at hdl;have hr1:=hs.rng pl (fp hg);have w:W aB (((aO (dQ ws pl)).length:Int) - 1)=((ws.length:Nat):Int):=by rw[oR,bd (by omega)];omega
  refine⟨_,kf hs hL hr1 (bA ⟨gC l.prs k,l.high,l.next⟩),?_⟩
  by_cases h0:gC l.prs k=[]
  ·have hw0:=hd.resolve_left λq=>q h0
   apply Am
   ·unfold xv;rw[aQ (jA k),bX,hk,cN,co tD (tZ hs hL (by omega) hw (by omega)),bN,w,bq,cM (uv ws pl),bL,co mQ (oI hs hL hg hr0),bN];show(aT aJ _ [eL l,_] _)=_;rw[aQ hdl,n4,ef rfl,bF (by rw[dq,h0];simp),dL (by rw[hw0];rfl)];show(aT aJ _ [eL ⟨gC l.prs k,l.high,l.next⟩] _)=_;rw[aQ (qa _ hr),de,cL lG (lK hs hL (fp hg) (pw hr))]
   ·exact .done (by kernel_rfl)
  ·apply Am
   ·unfold xv;rw[aQ (jA k),bX,hk,cN,co tD (tZ hs hL (by omega) hw (by omega)),bN,w,bq,cM (uv ws pl),bL,co mQ (oI hs hL hg hr0),bN];rw[aQ hdl,n4,aZ (show((bw (gC l.prs k)).length:Int) > 0 by rw[dq];have:=lT.2 h0;omega)];show(aT aJ _ [eL ⟨gC l.prs k,l.high,l.next⟩] _)=_;rw[aQ (qa _ hr),de,cL lG (lK hs hL (fp hg) (pw hr))]
   ·exact .done (by kernel_rfl)
 |@drop ws pl l w zl gs zo xo X ss xi rest out R r' es' hk hw hr0 hh hd hw0 d hsk hdl0 =>
  have hk2:=(fd hk).2;have hdl:=Ke l hr0 k (by omega);rw[hh,bc rfl]at hdl;have hlen:=d.len;obtain⟨Ls',hL',hdr⟩:=afY d hdl0 hsk hw hL;have hg:=(BS hw).1;have w:W aB (((aO (dQ ws pl)).length:Int) - 1)=((ws.length:Nat):Int):=by rw[oR,bd (by omega)];omega
  refine⟨Ls',hL',?_⟩;apply Am
  ·unfold xv;rw[aQ (jA k),bX,hk,cN,co tD (tZ d.shf hL (by omega) hw (by omega)),bN,w,bq,cM (uv ws pl),bL,co mQ (oI d.shf hL hg hr0),bN];show(aT aJ _ [eL l,_] _)=_;rw[aQ hdl,n4,ef rfl,be,bF (by rw[dq,hd];simp),be,ew (by rw[oR];have:=lT.2 hw0;omega),be,cL aea hdr]
  ·exact .done (by kernel_rfl)
section
variable {n:Nat}{r:Int}{es:Es}{ups:List IL}{b:LL}{Ls:List Bs}
def ab1(h:WT n r es ups b)(hL:dx n es Ls)(k:Bs):∃v e,bW aJ aU 39 [.ptr 0 0 0,.str k] (tM r n es)=aA (mR (tM r n es) (v,e)) /\
  bW aJ aU 91 [.ptr 0 0 0,.str k] (rM r n es Ls)=aA (vO (rM r n es Ls) (v,e)):=by
 cases hk:cz k with
 |false =>
  refine⟨[],1,DC _ _ _ _ _ (o:=.doneM (.tup [.str [],.int aB 1]) (tM r n es)) ?_ (.done (by kernel_rfl)),Pl _ _ _ _ (o:=.doneM (.tup [.str [],.int aB 1]) (rM r n es Ls)) ?_ (.done (by kernel_rfl))⟩
  ·unfold Ak;rw[aQ (jB k),bX,hk,lQ,bn]
  ·unfold Ik;rw[aQ (jA k),bX,hk,lQ,bn]
 |true =>
  obtain⟨p,h',ws,pre,prs,post,q1,q2,q3,q4,q5,q6⟩:=Ga h hk;have hul:=ml h;have hk2:=(fd hk).2;obtain⟨hgp,hr⟩:=BS q6;obtain⟨l,hl⟩:∃l:Lf,l=⟨prs,h',bS post 0⟩:=⟨_,rfl⟩
  rw[<-hl]at q6 hgp hr
  have go:∀v e,bP aJ 76 [eL l,.str k]=aA (.tup [.str v,.int aB e])->bW aJ aU 39 [.ptr 0 0 0,.str k] (tM r n es)=aA (mR (tM r n es) (v,e)):=by
   intro v e hp;refine DC _ _ _ _ _ (o:=.doneM (.tup [.str v,.int aB e]) (tM r n es++[aN 41 [] 0,aM 120 (eL l) aE])) ?_ (.done (by kernel_rfl));unfold Ak;rw[aQ (jB k),bX,hk,cN,be,co rh (rQ h.shf q6 (by omega)),bN];show(aT aJ _ [eL l,_] _)=_;rw[aQ hp,iD]
  have w:W aB (((aO (dQ ws p)).length:Int) - 1)=((ws.length:Nat):Int):=by rw[oR,bd (by omega)];omega
  have go2:∀v e,bP aJ 105 [eL l,.str k]=aA (.tup [.str v,.int aB e])->bW aJ aU 91 [.ptr 0 0 0,.str k] (rM r n es Ls)=aA (vO (rM r n es Ls) (v,e)):=by
   intro v e hp;refine Pl _ _ _ _ (o:=.doneM (.tup [.str v,.int aB e]) (rM r n es Ls++[aN 41 [] 0,aM 108 (eL l) aE])) ?_ (.done (by kernel_rfl));unfold Ik;rw[aQ (jA k),bX,hk,cN,be,co tD (tZ h.shf hL (by omega) q6 (by omega)),bN,w,aS (by simp),bq,cM (uv ws p),bL,co mQ (oI h.shf hL hgp hr),bN];show(aT aJ _ [eL l,_] _)=_;rw[aQ hp,iD]
  have h1:=IK l hr k;have h2:=Tb l hr k (by omega);grind
def TK{f:Bs}{c:Int}(hf:f.length<=1000)(L:List Pr)(hl:L.length<=1000000):∀(q:List Pr) (i:Nat) (acc:List Pr),L.drop i=q->i<=L.length->acc.length<=i ->
  Go qk aD 5 (fF 92) (.head 0 (zY f c (bw L) (i:Int) r (aY Ls) (c9 n (bi es)) (bw acc))) (.doneM (.own 6) (rM r n es Ls++[aN 41 [] 0,aN 41 (bw (kq f c acc q)) 0]))
 | [],i,acc,hd,hi,_=>by
  have h1:=drop_nil hd;refine LG _ _ _ _ _ _ _ _ ?_ (.refl _);unfold FK;rw[dq,bF (by omega),be];rfl
 |x::q,i,acc,hd,hi,ha=>by
  obtain⟨h1,h2,h3⟩:=dZ hd;have w:W aB ((i:Int)+1)=((i+1:Nat):Int):=by rw[bd (by omega)];omega
  by_cases hc:(acc.length:Int) < c
  ·have ih:=TK (c:=c) hf L hl q (i+1) (if !(lt x.1 f) && decide ((acc.length:Int) < c) then acc++[x] else acc) h2 (by omega) (by
   grind)
   refine LG _ _ _ _ _ _ _ _ ?_ ih;unfold FK;rw[dq,aZ (by omega),bn,dq,aZ hc,bn,aS (by simp),bq,fG h1,fZ,aQ (mb x.1 f (by omega)),bX,Bool.and_true];cases lt x.1 f with
   |true=>grind
   |false =>
    rw[lQ,bn,aS (by simp),fG h1,fZ,aS (aZ (by grind)),w];simp[bw]
  ·refine LG _ _ _ _ _ _ _ _ ?_ (.refl _);unfold FK;rw[UW f c _ _ (by omega),dq,aZ (by omega),bn,dq,bF hc,be]
def agS(h:WT n r es ups b)(hL:dx n es Ls)(hb:(cF b).length<=1000000){f:Bs}(hf:f.length<=1000)(c:Int):bW aJ aU 92 [.ptr 0 0 0,.str f,.int aB c] (rM r n es Ls)=aA (yk (rM r n es Ls) (bw (kq f c [] (cF b)))):=by
 have:=TK (r:=r) (n:=n) (es:=es) (Ls:=Ls) (c:=c) hf (cF b) hb (cF b) 0 [] rfl (by omega) (by simp);refine aa3 _ _ _ _ _ ?_ ⟨_,_,this,by kernel_rfl⟩;unfold Pm;rw[co aep (agK h hL),bN];rfl
abbrev FY(n:Nat)(es:Es)(Ls:List Bs):List O:=[aM 140 (aI [aL 2 0 0,dJ 3]) aE,aM 102 (aI [aL 4 0 0,bl 5 0]) aE,aM 192 (aI [bl 6 0,aC aB (n:Int)]) aD,dI (bZ es),aM 159 (aI [bl 7 0]) aE,aN 9 (aY Ls) 0,aN 5 (bI n (bi es)) 0,aN 4 (c9 n (bi es)) 0]
def UT(hS:cH n es)(hL:dx n es Ls):∀(q:List Int) (i:Nat),(fO n (bi es)).drop i=q->i<=(fO n (bi es)).length ->
  Go qk aD 8 (fF 54) (.head 0 (CK (aO (fO n (bi es))) (i:Int) (n:Int) (bZ es) (aY Ls) (bI n (bi es)) (c9 n (bi es)))) (.doneM (.bool aD) (FY n es Ls))
 | [],i,hd,hi=>by
  have h1:=drop_nil hd;refine UD _ _ _ _ _ _ _ ?_ (.refl _);unfold Lm;rw[bR,bF (by omega),be]
 |p::q,i,hd,hi=>by
  obtain⟨h1,h2,h3⟩:=dZ hd;have hll:=vy hS;have hn:=hS.le;have htl:=uq hS
  have hp:p∈bo es:=by
   have hm:=dH h1;unfold fO at hm;obtain⟨j,hj,rfl⟩:=fi.1 hm;have:=(si.1 hj).2;simpa[bi]using this
  obtain⟨c,hc⟩:∃c,c7 es p=aA c:=by
   cases hg:c7 es p with
   |none=>exact fY hp (vk.1 hg)
   |some c=>grind
  have w:W aB ((i:Int)+1)=((i+1:Nat):Int):=by rw[bd (by omega)];omega
  refine UD _ _ _ _ _ _ _ ?_ (UT hS hL q (i+1) h2 (by omega));unfold Lm;rw[bR,aZ (by omega),bn,aS (by simp),bq,fN h1,bL];show(cJ aJ _ _ _ _ (sM n es) _)=_;rw[co tI (yy hS hc),bN,aS (by simp),fN h1,bL];show(cJ aJ _ _ _ _ (lJ n es Ls) _)=_;rw[co AY (Bq hS hL hc),bN,gg,cN,be,w]
def ahu(hS:cH n es)(hL:dx n es Ls):bW aJ aU 54 [.ptr 0 0 0,.ptr 1 0 0] (FY n es Ls)=aA (yf (FY n es Ls) aD):=by
 have hll:=vy hS;have hn:=hS.le;have htl:=uq hS;have i2:=QN (fO n (bi es)) (fO n (bi es)) (by omega);rw[gg]at i2;refine aay _ _ _ _ _ ?_ ⟨_,_,UT hS hL (fO n (bi es)) 0 rfl (by omega),by kernel_rfl⟩;unfold O4;show(cJ aJ _ _ _ _ (sM n es) _)=_;rw[co RP (Vw hS),bN];show(cJ aJ _ _ _ _ (rb (c9 n (bi es))) _)=_;rw[co RX (TP n hn (bi es)),bN,aQ i2,bX,cN,be];show(cJ aJ _ _ _ _ (sM n es) _)=_;rw[co RP (Vw hS),bN];rfl
abbrev A8(r:Int)(n:Nat)(es:Es)(Ls:List Bs):List O:=[aM 128 (aI [aL 2 0 0,aC aB r]) aE,aM 91 (aI [aL 3 0 0,aC aB r]) aE,aM 140 (aI [aL 4 0 0,dJ 5]) aE,aM 102 (aI [aL 6 0 0,bl 7 0]) aE,aM 192 (aI [bl 8 0,aC aB (n:Int)]) aD,dI (bZ es),aM 159 (aI [bl 9 0]) aE,aN 9 (aY Ls) 0,aN 5 (bI n (bi es)) 0,aN 4 (c9 n (bi es)) 0]
abbrev plV(r:Int)(n:Nat)(es:Es)(Ls:List Bs):Bool × Int × Int × Int × List (V × V) × List V × List V × List V:=(aD,r,r,(n:Int),bZ es,aY Ls,bI n (bi es),c9 n (bi es))
end
def afi{n:Nat}{r:Int}{es:Es}{ups:List IL}{b:LL}{Ls:List Bs}(h:WF n r es ups b)(hL:dx n es Ls)(hb:(cF b).length<=100000)(o:iB)(ho:o.2.1.length<=1000) :
  ∃r' es' ups' b' Ls',WF n r' es' ups' b'/\dx n es' Ls'/\(cF b').length<=(cF b).length+1/\bW aJ aU 53 [.ptr 0 0 0,.ptr 1 0 0,.agg [.int aB o.1,.str o.2.1,.str o.2.2.1,.int aB o.2.2.2]] (A8 r n es Ls)=aA (AU (plV r' n es' Ls')):=by
 by_cases k0:o.1=0
 ·obtain⟨ok,e,r',es',ups',b',hW,hR,hT⟩:=J4 h o.2.1 o.2.2.1;obtain⟨Ls',hL',hQ⟩:=agM hR Ls hL;refine⟨r',es',ups',b',Ls',hW,hL',afw hT,?_⟩;refine H7 _ _ _ _ _ _ _ _ _ _ _ (o:=.doneM (.bool aD) (A8 r' n es' Ls'++[aM 38 (aI [aC aB o.1,aG o.2.1,aG o.2.2.1,aC aB o.2.2.2]) aE])) ?_ (.done (by kernel_rfl));unfold DD;rw[dL k0,bn,cL AT (Bh hR),cL aen hQ,gg,bn,gg];rfl
 by_cases k1:o.1=1
 ·obtain⟨e,r',es',ups',b',hW,hR,hT⟩:=He h o.2.1;obtain⟨Ls',hL',hQ⟩:=afW hR Ls hL;refine⟨r',es',ups',b',Ls',hW,hL',by have:=Yb hT;omega,?_⟩;refine H7 _ _ _ _ _ _ _ _ _ _ _ (o:=.doneM (.bool aD) (A8 r' n es' Ls'++[aM 38 (aI [aC aB o.1,aG o.2.1,aG o.2.2.1,aC aB o.2.2.2]) aE])) ?_ (.done (by kernel_rfl));unfold DD;rw[ew k0,be,dL k1,bn,cL EC (Dp hR),cL aeo hQ,gg];rfl
 refine⟨r,es,ups,b,Ls,h,hL,by omega,?_⟩;refine H7 _ _ _ _ _ _ _ _ _ _ _ (o:=.doneM (.bool aD) (A8 r n es Ls++[aM 38 (aI [aC aB o.1,aG o.2.1,aG o.2.2.1,aC aB o.2.2.2]) aE])) ?_ (.done (by kernel_rfl));unfold DD;rw[ew k0,be,ew k1,be]
 by_cases k2:o.1=2
 ·obtain⟨v,e,g1,g2⟩:=ab1 h.toWT hL o.2.1;rw[dL k2,bn];show(cJ aJ _ _ _ _ (tM r n es) _)=_;rw[co Js g1,bN];show(cJ aJ _ _ _ _ (rM r n es Ls) _)=_;rw[co aeA g2,bN,gg,bn,gg];rfl
 ·have hs:=LK o.2.1 o.2.2.2 (cF b) [];simp only[jo,eW]at hs;rw[ew k2,be];show(cJ aJ _ _ _ _ (tM r n es) _)=_;rw[co RO (UY h.toWT o.2.1 o.2.2.2),bN];show(cJ aJ _ _ _ _ (rM r n es Ls) _)=_;rw[co aeB (agS h.toWT hL (by omega) ho o.2.2.2),bN,aQ (afb _ (by omega)),bX];rfl
def GK{P:bv}{w:bg}{tx e:aP}{A:Option Addr}{c sz:Nat}(ht:(bO P) tx=aA (.slice e)):jH P w tx (.slice A 0 c) sz 0 []:=by
 refine⟨.inr ⟨e,ht⟩,λw2=>rfl,by simp,λn w2 hn _=>?_,by simp⟩;have:n=0:=by omega
 subst this;cases A<;>simp[Builtin.firstCells,loadCells,loadCellsFrom]
set_option maxHeartbeats 4000000 in
set_option maxRecDepth 100000 in
def acN:Gl Tryz.prog 212 225 100 9 3 aB:=by
 have hce:Tryz.prog.cellsOf 9=1:=by kernel_rfl
 have mixed:Tryz.prog.follows .mixedOrders=true:=by kernel_rfl
 have t22:Tryz.prog.underlying 100=aA (.slice 9):=by kernel_rfl
 refine⟨t22,by kernel_rfl,by kernel_rfl,?_,?_,?_,?_⟩
 ·intro w g g2 o m c2 lb cb us us2 hne hg hg2 hus
  rw[run_callFunc_extern (P:=Tryz.prog) (f:=225) (fn:=Tryz.f225) (by kernel_rfl) (by kernel_rfl) (by kernel_rfl) (by kernel_rfl) (e:=Extern.SlicesOverlaps.overlaps #[100,100] #[4]) (by kernel_rfl),
   Lib.run_overlaps_apart w 100 4 9 t22 1 (λw=>by kernel_rfl) ⟨g2,0,aF⟩ ⟨g,o,aF⟩ m c2 lb cb hne 9 9 us2.size us.size (by simp[World.shape?,hg2]) (by simp[World.shape?,hg]) (by omega) (by simp[World.frozen?,hg2]) (by simp[World.frozen?,hg2])]
  rfl
 ·intro g n c i g2 m c2 w w2 w3 k1 k2 hi hm hroom hc63 hov hcp1 hcp2;rw[hce]at hcp1 hcp2;simp only[nR]at hcp1 hcp2;have hz1:¬((m:Int)=0):=by omega
  have hz2:¬((i:Int)=(n:Int)):=by omega
  have hw1:IntKind.i64.wrap ((i:Int)+(m:Int))=(i:Int)+(m:Int):=by rw[oW];omega
  have hw2:IntKind.i64.wrap ((n:Int)+(m:Int))=(n:Int)+(m:Int):=by rw[oW];omega
  have hb1:(0:Int)<=(i:Int)+(m:Int):=by omega
  have hin:i<=n:=by omega
  have htn:((i:Int)+(m:Int)).toNat=i+m:=by omega
  have hb2:¬(c=i+m):=by omega
  have hb3:(i:Int)<=(n:Int)+(m:Int):=by omega
  have hb4:¬(c=i):=by omega
  go_enter Tryz.func212,Tryz.ntmps212
  go_wp2_with (simp only[hov])
  go_region_law_o (refine step_copy_runI rfl _ _ 100 100 rfl _ _ (by simp[Act.eval,Act.put]) (by simp[Act.eval,Act.put]) (hcp1 _ _ _) ?_)
  go_wp2_with (at_builtin;refine wpList_copy_runI _ rfl _ _ 100 100 rfl _ _ rfl rfl (hcp2 _ _) ?_)
  go_ret;simp_all
 ·intro A A2 n c m c2 w w1 r hm hnc hc63 hA0 hA1 hr;have hz1:¬((m:Int)=0):=by omega
  cases A with
  |none =>
   obtain⟨rfl,rfl⟩:=hA0 rfl
   go_enter Tryz.func212,Tryz.ntmps212
   go_wp2_with (at_builtin;refine Lib.wpList_append_run _ rfl _ _ _ _ rfl _ _ rfl rfl _ _ (hr _) ?_)
   all_goals (go_ret;simp_all)
  |some a =>
   obtain⟨g,rfl⟩:=hA1 a rfl
   go_enter Tryz.func212,Tryz.ntmps212
   go_wp2_with (at_builtin;refine Lib.wpList_append_run _ rfl _ _ _ _ rfl _ _ rfl rfl _ _ (hr _) ?_)
   all_goals (go_ret;simp_all)
 ·intro g n c i g2 m c2 N G w w1 w2 w3 k1 k2 hi hm hnc hgr hlen hGn hG63 hap hcp1 hcp2;rw[hce]at hcp1 hcp2;simp only[nR]at hcp1 hcp2;have hz1:¬((m:Int)=0):=by omega
  have hz2:¬((i:Int)=(n:Int)):=by omega
  have hz3:(c:Int) < (n:Int)+(m:Int):=by omega
  have hw1:IntKind.i64.wrap ((i:Int)+(m:Int))=(i:Int)+(m:Int):=by rw[oW];omega
  have hw2:IntKind.i64.wrap ((n:Int)+(m:Int))=(n:Int)+(m:Int):=by rw[oW];omega
  have hw3:IntKind.i64.wrap ((n:Int)+(m:Int) - (i:Int))=(n:Int)+(m:Int) - (i:Int):=by rw[oW];omega
  have hb1:(0:Int)<=(i:Int)+(m:Int):=by omega
  have hin:i<=n:=by omega
  have htn:((i:Int)+(m:Int)).toNat=i+m:=by omega
  have hGi:¬(G=i):=by omega
  have hGim:¬(G=i+m):=by omega
  have hci:¬(c=i):=by omega
  have hb3:(i:Int)<=(n:Int):=by omega
  go_enter Tryz.func212,Tryz.ntmps212
  go_wp2_with (first
   |(at_builtin;refine Lib.wpList_append_run _ rfl _ _ _ _ rfl _ _ rfl rfl _ _ (hap _) ?_)
   |(at_builtin;refine wpList_copy_runI _ rfl _ _ 100 100 rfl _ _ rfl rfl (hcp1 _ _) ?_))
  go_region_law_o (refine step_copy_runI rfl _ _ 100 100 rfl (.slice (aA ⟨N,(i+m),aF⟩) (n+m - (i+m)) (G - (i+m))) (.slice (aA ⟨g,i,aF⟩) (n - i) (c - i)) (by simp[Act.eval,Act.put]) (by simp[Act.eval,Act.put]) (hcp2 3 (G - (i+m)) (c - i)) ?_)
  go_wp2
  go_ret;simp_all
set_option maxHeartbeats 4000000 in
set_option maxRecDepth 100000 in
def Yg:Gj Tryz.prog 170 100 9:=by
 have hce:Tryz.prog.cellsOf 9=1:=by kernel_rfl
 have mixed:Tryz.prog.follows .mixedOrders=true:=by kernel_rfl
 have t22:Tryz.prog.underlying 100=aA (.slice 9):=by kernel_rfl
 refine⟨t22,by kernel_rfl,?_,?_,?_⟩
 ·intro i z hi hz;have h1:(Tryz.prog.info? 9).bind (·.zero)=aA (.string "".toUTF8):=by kernel_rfl
  rw[hi]at h1;simp only[bu,hz,Option.some.injEq]at h1;subst h1;intro v hv;simp[Value.cells]at hv;subst hv;rfl
 ·intro A n c i w hin hnc hc63 hA0 hA1;cases A with
  |none =>
   obtain⟨rfl,rfl⟩:=hA0 rfl;have:i=0:=by omega
   subst this
   go_enter Tryz.func170,Tryz.ntmps170
   go_wp2
   all_goals (go_ret;simp_all)
  |some a =>
   obtain⟨g,q,rfl⟩:=hA1 a rfl
   go_enter Tryz.func170,Tryz.ntmps170
   go_wp2
   all_goals (go_ret;simp_all)
 ·intro g q n c i jj w w2 w3 k hij hjn hnc hc63 hap hcl;rw[hce]at hap hcl;simp only[nR]at hap hcl;have hz1:¬((i:Int)=(jj:Int)):=by omega
  have hin:i<=n:=by omega
  have hij':i<=jj:=by omega
  have hb1:¬(c=i):=by omega
  have hb2:i+(n - jj)<=n:=by omega
  have hb3:¬(c=i+(n - jj)):=by omega
  have hic:i<=c:=by omega
  have hjc':jj<=c:=by omega
  have hbc:i+(n - jj)<=c:=by omega
  have hnij:(i:Int)+((n - jj:Nat):Int)<=(n:Int):=by omega
  by_cases hjc:c=jj
  ·have hn:n=jj:=by omega
   subst hn;subst hjc;have hap':=λty=>hap ty (aA ⟨g,q,aF⟩) 0 (λh=>fY h (by omega))
   simp only[nS,gn]at hap' hcl |-
   go_enter Tryz.func170,Tryz.ntmps170
   go_wp2
   go_region_law_o (refine F2 rfl _ _ 100 100 rfl (.slice (aA ⟨g,q,aF⟩) i c) (.slice (aA ⟨g,q,aF⟩) 0 0) (by simp[Act.eval,Act.put]) (by simp[Act.eval,Act.put]) (hap' 100) ?_)
   go_wp2
   go_ret;simp_all
  ·go_enter Tryz.func170,Tryz.ntmps170
   go_wp2
   go_region_law_o (refine F2 rfl _ _ 100 100 rfl (.slice (aA ⟨g,q,aF⟩) i c) (.slice (aA ⟨g,q+jj,aF⟩) (n - jj) (c - jj)) (by simp[Act.eval,Act.put]) (by simp[Act.eval,Act.put]) (hap 100 (aA ⟨g,q+jj,aF⟩) (c - jj) (λ_=>rfl)) ?_)
   go_wp2
   go_ret;simp_all
set_option maxHeartbeats 4000000 in
set_option maxRecDepth 100000 in
def XF:BX Tryz.prog 171 100 9:=by
 have hce:Tryz.prog.cellsOf 9=1:=by kernel_rfl
 have mixed:Tryz.prog.follows .mixedOrders=true:=by kernel_rfl
 have t22:Tryz.prog.underlying 100=aA (.slice 9):=by kernel_rfl
 have q22:∀(w:bg) (a:Option Addr) (n c n' c':Nat),(binOp .eql 100 (.slice a n c) (.slice aF n' c')).run Tryz.prog w = .ok (.bool a.isNone) w:=λw a n c n' c'=>Lib.run_eql_slice_nil w _ _ a n c n' c' t22
 refine⟨t22,by kernel_rfl,?_,?_,?_⟩
 ·intro n c w
  go_enter Tryz.func171,Tryz.ntmps171
  go_wp2
  go_ret;simp_all
 ·intro g b n c w w2 r hr
  go_enter Tryz.func171,Tryz.ntmps171
  go_wp2_with (at_builtin;refine Lib.wpList_append_run _ rfl _ _ _ _ rfl _ _ rfl rfl _ _ (hr _) ?_)
  go_ret;simp_all
 ·intro a c w;obtain⟨ab,ao,asp⟩:=a;have hr:∀(ty:aP) (w:bg),(Builtin.append_ #[100,100] ty #[.slice (aA ⟨w.heap.size,0,aF⟩) 0 0,.slice (aA ⟨ab,ao,asp⟩) 0 c]).run Tryz.prog (w.alloc (.cells #[] 9)) = .ok (.slice (aA ⟨w.heap.size,0,aF⟩) 0 0) (w.alloc (.cells #[] 9)):=λty w=>yF t22 (by grind) (GK t22) (cZ _)
  go_enter Tryz.func171,Tryz.ntmps171
  go_wp2_with (at_builtin;refine Lib.wpList_append_run _ rfl _ _ _ _ rfl _ _ rfl rfl _ _ (hr _ _) ?_)
  go_ret;simp_all
set_option maxHeartbeats 4000000 in
set_option maxRecDepth 100000 in
def acM:Gl Tryz.prog 213 227 80 3 3 aB:=by
 have hce:Tryz.prog.cellsOf 3=1:=by kernel_rfl
 have mixed:Tryz.prog.follows .mixedOrders=true:=by kernel_rfl
 have t22:Tryz.prog.underlying 80=aA (.slice 3):=by kernel_rfl
 refine⟨t22,by kernel_rfl,by kernel_rfl,?_,?_,?_,?_⟩
 ·intro w g g2 o m c2 lb cb us us2 hne hg hg2 hus
  rw[run_callFunc_extern (P:=Tryz.prog) (f:=227) (fn:=Tryz.f227) (by kernel_rfl) (by kernel_rfl) (by kernel_rfl) (by kernel_rfl) (e:=Extern.SlicesOverlaps.overlaps #[80,80] #[4]) (by kernel_rfl),
   Lib.run_overlaps_apart w 80 4 3 t22 1 (λw=>by kernel_rfl) ⟨g2,0,aF⟩ ⟨g,o,aF⟩ m c2 lb cb hne 3 3 us2.size us.size (by simp[World.shape?,hg2]) (by simp[World.shape?,hg]) (by omega) (by simp[World.frozen?,hg2]) (by simp[World.frozen?,hg2])]
  rfl
 ·intro g n c i g2 m c2 w w2 w3 k1 k2 hi hm hroom hc63 hov hcp1 hcp2;rw[hce]at hcp1 hcp2;simp only[nR]at hcp1 hcp2;have hz1:¬((m:Int)=0):=by omega
  have hz2:¬((i:Int)=(n:Int)):=by omega
  have hw1:IntKind.i64.wrap ((i:Int)+(m:Int))=(i:Int)+(m:Int):=by rw[oW];omega
  have hw2:IntKind.i64.wrap ((n:Int)+(m:Int))=(n:Int)+(m:Int):=by rw[oW];omega
  have hb1:(0:Int)<=(i:Int)+(m:Int):=by omega
  have hin:i<=n:=by omega
  have htn:((i:Int)+(m:Int)).toNat=i+m:=by omega
  have hb2:¬(c=i+m):=by omega
  have hb3:(i:Int)<=(n:Int)+(m:Int):=by omega
  have hb4:¬(c=i):=by omega
  go_enter Tryz.func213,Tryz.ntmps213
  go_wp2_with (simp only[hov])
  go_region_law_o (refine step_copy_runI rfl _ _ 80 80 rfl _ _ (by simp[Act.eval,Act.put]) (by simp[Act.eval,Act.put]) (hcp1 _ _ _) ?_)
  go_wp2_with (at_builtin;refine wpList_copy_runI _ rfl _ _ 80 80 rfl _ _ rfl rfl (hcp2 _ _) ?_)
  go_ret;simp_all
 ·intro A A2 n c m c2 w w1 r hm hnc hc63 hA0 hA1 hr;have hz1:¬((m:Int)=0):=by omega
  cases A with
  |none =>
   obtain⟨rfl,rfl⟩:=hA0 rfl
   go_enter Tryz.func213,Tryz.ntmps213
   go_wp2_with (at_builtin;refine Lib.wpList_append_run _ rfl _ _ _ _ rfl _ _ rfl rfl _ _ (hr _) ?_)
   all_goals (go_ret;simp_all)
  |some a =>
   obtain⟨g,rfl⟩:=hA1 a rfl
   go_enter Tryz.func213,Tryz.ntmps213
   go_wp2_with (at_builtin;refine Lib.wpList_append_run _ rfl _ _ _ _ rfl _ _ rfl rfl _ _ (hr _) ?_)
   all_goals (go_ret;simp_all)
 ·intro g n c i g2 m c2 N G w w1 w2 w3 k1 k2 hi hm hnc hgr hlen hGn hG63 hap hcp1 hcp2;rw[hce]at hcp1 hcp2;simp only[nR]at hcp1 hcp2;have hz1:¬((m:Int)=0):=by omega
  have hz2:¬((i:Int)=(n:Int)):=by omega
  have hz3:(c:Int) < (n:Int)+(m:Int):=by omega
  have hw1:IntKind.i64.wrap ((i:Int)+(m:Int))=(i:Int)+(m:Int):=by rw[oW];omega
  have hw2:IntKind.i64.wrap ((n:Int)+(m:Int))=(n:Int)+(m:Int):=by rw[oW];omega
  have hw3:IntKind.i64.wrap ((n:Int)+(m:Int) - (i:Int))=(n:Int)+(m:Int) - (i:Int):=by rw[oW];omega
  have hb1:(0:Int)<=(i:Int)+(m:Int):=by omega
  have hin:i<=n:=by omega
  have htn:((i:Int)+(m:Int)).toNat=i+m:=by omega
  have hGi:¬(G=i):=by omega
  have hGim:¬(G=i+m):=by omega
  have hci:¬(c=i):=by omega
  have hb3:(i:Int)<=(n:Int):=by omega
  go_enter Tryz.func213,Tryz.ntmps213
  go_wp2_with (first
   |(at_builtin;refine Lib.wpList_append_run _ rfl _ _ _ _ rfl _ _ rfl rfl _ _ (hap _) ?_)
   |(at_builtin;refine wpList_copy_runI _ rfl _ _ 80 80 rfl _ _ rfl rfl (hcp1 _ _) ?_))
  go_region_law_o (refine step_copy_runI rfl _ _ 80 80 rfl (.slice (aA ⟨N,(i+m),aF⟩) (n+m - (i+m)) (G - (i+m))) (.slice (aA ⟨g,i,aF⟩) (n - i) (c - i)) (by simp[Act.eval,Act.put]) (by simp[Act.eval,Act.put]) (hcp2 3 (G - (i+m)) (c - i)) ?_)
  go_wp2
  go_ret;simp_all
set_option maxHeartbeats 4000000 in
set_option maxRecDepth 100000 in
def Yf:Gj Tryz.prog 172 80 3:=by
 have hce:Tryz.prog.cellsOf 3=1:=by kernel_rfl
 have mixed:Tryz.prog.follows .mixedOrders=true:=by kernel_rfl
 have t22:Tryz.prog.underlying 80=aA (.slice 3):=by kernel_rfl
 refine⟨t22,by kernel_rfl,?_,?_,?_⟩
 ·intro i z hi hz;have h1:(Tryz.prog.info? 3).bind (·.zero)=aA (.int aB 0):=by kernel_rfl
  rw[hi]at h1;simp only[bu,hz,Option.some.injEq]at h1;subst h1;intro v hv;simp[Value.cells]at hv;subst hv;rfl
 ·intro A n c i w hin hnc hc63 hA0 hA1;cases A with
  |none =>
   obtain⟨rfl,rfl⟩:=hA0 rfl;have:i=0:=by omega
   subst this
   go_enter Tryz.func172,Tryz.ntmps172
   go_wp2
   all_goals (go_ret;simp_all)
  |some a =>
   obtain⟨g,q,rfl⟩:=hA1 a rfl
   go_enter Tryz.func172,Tryz.ntmps172
   go_wp2
   all_goals (go_ret;simp_all)
 ·intro g q n c i jj w w2 w3 k hij hjn hnc hc63 hap hcl;rw[hce]at hap hcl;simp only[nR]at hap hcl;have hz1:¬((i:Int)=(jj:Int)):=by omega
  have hin:i<=n:=by omega
  have hij':i<=jj:=by omega
  have hb1:¬(c=i):=by omega
  have hb2:i+(n - jj)<=n:=by omega
  have hb3:¬(c=i+(n - jj)):=by omega
  have hic:i<=c:=by omega
  have hjc':jj<=c:=by omega
  have hbc:i+(n - jj)<=c:=by omega
  have hnij:(i:Int)+((n - jj:Nat):Int)<=(n:Int):=by omega
  by_cases hjc:c=jj
  ·have hn:n=jj:=by omega
   subst hn;subst hjc;have hap':=λty=>hap ty (aA ⟨g,q,aF⟩) 0 (λh=>fY h (by omega))
   simp only[nS,gn]at hap' hcl |-
   go_enter Tryz.func172,Tryz.ntmps172
   go_wp2
   go_region_law_o (refine F2 rfl _ _ 80 80 rfl (.slice (aA ⟨g,q,aF⟩) i c) (.slice (aA ⟨g,q,aF⟩) 0 0) (by simp[Act.eval,Act.put]) (by simp[Act.eval,Act.put]) (hap' 80) ?_)
   go_wp2
   go_ret;simp_all
  ·go_enter Tryz.func172,Tryz.ntmps172
   go_wp2
   go_region_law_o (refine F2 rfl _ _ 80 80 rfl (.slice (aA ⟨g,q,aF⟩) i c) (.slice (aA ⟨g,q+jj,aF⟩) (n - jj) (c - jj)) (by simp[Act.eval,Act.put]) (by simp[Act.eval,Act.put]) (hap 80 (aA ⟨g,q+jj,aF⟩) (c - jj) (λ_=>rfl)) ?_)
   go_wp2
   go_ret;simp_all
set_option maxHeartbeats 4000000 in
set_option maxRecDepth 100000 in
def XE:BX Tryz.prog 173 80 3:=by
 have hce:Tryz.prog.cellsOf 3=1:=by kernel_rfl
 have mixed:Tryz.prog.follows .mixedOrders=true:=by kernel_rfl
 have t22:Tryz.prog.underlying 80=aA (.slice 3):=by kernel_rfl
 have q22:∀(w:bg) (a:Option Addr) (n c n' c':Nat),(binOp .eql 80 (.slice a n c) (.slice aF n' c')).run Tryz.prog w = .ok (.bool a.isNone) w:=λw a n c n' c'=>Lib.run_eql_slice_nil w _ _ a n c n' c' t22
 refine⟨t22,by kernel_rfl,?_,?_,?_⟩
 ·intro n c w
  go_enter Tryz.func173,Tryz.ntmps173
  go_wp2
  go_ret;simp_all
 ·intro g b n c w w2 r hr
  go_enter Tryz.func173,Tryz.ntmps173
  go_wp2_with (at_builtin;refine Lib.wpList_append_run _ rfl _ _ _ _ rfl _ _ rfl rfl _ _ (hr _) ?_)
  go_ret;simp_all
 ·intro a c w;obtain⟨ab,ao,asp⟩:=a;have hr:∀(ty:aP) (w:bg),(Builtin.append_ #[80,80] ty #[.slice (aA ⟨w.heap.size,0,aF⟩) 0 0,.slice (aA ⟨ab,ao,asp⟩) 0 c]).run Tryz.prog (w.alloc (.cells #[] 3)) = .ok (.slice (aA ⟨w.heap.size,0,aF⟩) 0 0) (w.alloc (.cells #[] 3)):=λty w=>yF t22 (by grind) (GK t22) (cZ _)
  go_enter Tryz.func173,Tryz.ntmps173
  go_wp2_with (at_builtin;refine Lib.wpList_append_run _ rfl _ _ _ _ rfl _ _ rfl rfl _ _ (hr _ _) ?_)
  go_ret;simp_all
set_option maxHeartbeats 4000000 in
set_option maxRecDepth 100000 in
def XD:BX Tryz.prog 139 66 5:=by
 have hce:Tryz.prog.cellsOf 5=1:=by kernel_rfl
 have mixed:Tryz.prog.follows .mixedOrders=true:=by kernel_rfl
 have t22:Tryz.prog.underlying 66=aA (.slice 5):=by kernel_rfl
 have q22:∀(w:bg) (a:Option Addr) (n c n' c':Nat),(binOp .eql 66 (.slice a n c) (.slice aF n' c')).run Tryz.prog w = .ok (.bool a.isNone) w:=λw a n c n' c'=>Lib.run_eql_slice_nil w _ _ a n c n' c' t22
 refine⟨t22,by kernel_rfl,?_,?_,?_⟩
 ·intro n c w
  go_enter Tryz.func139,Tryz.ntmps139
  go_wp2
  go_ret;simp_all
 ·intro g b n c w w2 r hr
  go_enter Tryz.func139,Tryz.ntmps139
  go_wp2_with (at_builtin;refine Lib.wpList_append_run _ rfl _ _ _ _ rfl _ _ rfl rfl _ _ (hr _) ?_)
  go_ret;simp_all
 ·intro a c w;obtain⟨ab,ao,asp⟩:=a;have hr:∀(ty:aP) (w:bg),(Builtin.append_ #[66,66] ty #[.slice (aA ⟨w.heap.size,0,aF⟩) 0 0,.slice (aA ⟨ab,ao,asp⟩) 0 c]).run Tryz.prog (w.alloc (.cells #[] 5)) = .ok (.slice (aA ⟨w.heap.size,0,aF⟩) 0 0) (w.alloc (.cells #[] 5)):=λty w=>yF t22 (by grind) (GK t22) (cZ _)
  go_enter Tryz.func139,Tryz.ntmps139
  go_wp2_with (at_builtin;refine Lib.wpList_append_run _ rfl _ _ _ _ rfl _ _ rfl rfl _ _ (hr _ _) ?_)
  go_ret;simp_all
set_option maxHeartbeats 4000000 in
set_option maxRecDepth 100000 in
def ae5:MR Tryz.prog 209 9 66 5:=by
 have mixed:Tryz.prog.follows .mixedOrders=true:=by kernel_rfl
 have ts:Tryz.prog.underlying 9=aA .string:=by kernel_rfl
 have tr:Tryz.prog.underlying 66=aA (.slice 5):=by kernel_rfl
 have tb:Tryz.prog.underlying 5=aA (.int bK):=by kernel_rfl
 refine⟨ts,tr,tb,by kernel_rfl,?_⟩;intro b n L c A w w2 r hn hcap hcopy hconv;have hcopy1:=λty=>hcopy ty n (.inl rfl)
 have hcopy2:gq w b.size 0 5=n->∀ty,_:=λh ty=>hcopy ty 0 (.inr h)
 have hrun:=Lib.run_convert_string_bytes w 9 66 5 b ts tr tb
 go_enter Tryz.func209,Tryz.ntmps209
 by_cases hcn:gq w b.size 0 5=n
 ·have hcopy3:=hcopy2 hcn;clear hcopy2;rw[hcn]at hrun hcopy3 hcopy1 hconv hcap;rw[nS,show b.size - n=0 by omega]at hcopy3 hcopy1;clear hcopy hcn
  go_wp2
  go_ret;simp_all
 ·clear hcopy hcopy2
  go_wp2
  go_ret;simp_all
set_option maxRecDepth 100000 in
def XI(a b:ByteArray)(w:bg):fQ Tryz.prog 207 #[.string a,.string b] w λe w'=>e = .returned (.int aB (Lib.compareBytes a.data.toList b.data.toList))/\w'=w:=by
 go_enter Tryz.func207,Tryz.ntmps207
 go_wp2
 rw[run_callFunc_extern Tryz.func224 (by kernel_rfl) (by kernel_rfl) (by kernel_rfl) (e:=Extern.BytealgCompare.compare) (by kernel_rfl),Lib.run_compareString];simp only[Result.andThen];rw[Oper.upon_value]
 go_wp2
 go_ret;simp_all
set_option maxRecDepth 100000 in
def XH(a b:ByteArray)(w:bg):fQ Tryz.prog 158 #[.string a,.string b] w λe w'=>e = .returned (.int aB (Lib.compareBytes a.data.toList b.data.toList))/\w'=w:=by
 go_enter Tryz.func158,Tryz.ntmps158
 go_wp2_with (go_at_call 207;refine(XI _ _ _).mono ?_;rintro e w' ⟨rfl,rfl⟩)
 go_ret;simp_all
end Go.Proofs.YtlphgcjepphhcaaGreat
namespace Go.Proofs.YtlphgcjepphhcaaGreat
open Go Go.RowKit Go.Shelf
 attribute [local go_sem] Oper.semAt_some
set_option maxRecDepth 100000 in
set_option maxHeartbeats 4000000 in
def Xa(l B1 o1 B2 o2 n1 c1 n2 c2 N:Nat)(hN:N=min n1 n2)(A1 A2:Option Addr)(fx fy:Nat->aR)(I:Nat->bg->Prop)(Ix:bg->Prop)(hn:n1<=16777216)(hS:∀k W,I k W->I k W.drew)
  (h1:∀k W,I k W->W.cell? ⟨B1,o1,aF⟩=aA (.slice A1 n1 c1)) (h2:∀k W,I k W->W.cell? ⟨B2,o2,aF⟩=aA (.slice A2 n2 c2))
  (hx:∀k,k < n1->k < n2->∃b1 p1 b2 p2,A1=aA ⟨b1,p1,aF⟩/\A2=aA ⟨b2,p2,aF⟩/\∀W,I k W->W.cell? ⟨b1,p1+k,aF⟩=aA (fx k)/\W.cell? ⟨b2,p2+k,aF⟩=aA (fy k))
  (hY:∀k W,k < n1->k < n2->I k W->YieldAt Fence.wide 0 Tryz.prog l #[fx k,fy k] W λe W2=>(e = .returned (.bool aD)/\I (k+1) W2)∨(e = .returned (.bool aE)/\Ix W2))
  (W:bg) (h0:I 0 W) :
  CallsIn Fence.wide 1 Tryz.prog 210 #[.func (.yield l) #[] #[],.pointer (aA ⟨B1,o1,aF⟩),.pointer (aA ⟨B2,o2,aF⟩)] W λe W'=>(∃v,e = .returned v)/\(I N W'∨Ix W'):=by
 have g1:=h1 0 W h0;have g2:=h2 0 W h0;refine callsIn_of_wp Tryz.func210 rfl trivial ?_ rfl;simp only[Tryz.ntmps210,wO,d8,jo,Nat.reduceAdd,Nat.reduceSub,Mq,Mr,MH,Mw,il,gI];gi_wp2;rw[show min ((n1:Nat):Int) ((n2:Nat):Int)=((N:Nat):Int) by omega]
 gi_loopw [10] (λi wr=>∃k:Nat,k<=N/\i = .int aB k/\I k wr)
  (λi _=>N - (intOf i).toNat)
 case atStart=>grind
 case round =>
  obtain⟨k,hk,rfl,hI⟩:=hrel
  by_cases bf:k < N
  ·obtain⟨b1,p1,b2,p2,rfl,rfl,hcell⟩:=hx k (by omega) (by omega);obtain⟨fn,tmps,assign,body,hy,hR⟩:=hY k wr.drew (by omega) (by omega) (hS k wr hI);have q1:=h1 k wr hI;have q2:=h2 k wr hI;have hk1:k < n1:=by omega
   have hk2:k < n2:=by omega
   obtain⟨q3,q4⟩:=hcell wr hI;clear h1 h2 hx hY hS hcell g1 g2 h0;gi_wp2
   have hR:=hR.mono (R':=λe W2=>∃bb,e = .returned (.bool bb)/\(bb=aD->I (k+1) W2)/\(bb=aE->Ix W2)) (by
    grind)
   gi_region_with (refine hR.mono ?_;rintro e W3 ⟨bb,rfl,hb1,hb2⟩)
   all_goals
    cases bb;rotate_left
    ·gi_wp2
     go_roundw
     case rel=>grind
     case measure=>simp[intOf];omega
    ·gi_wp2;refine bodyPost_ret (results_none rfl _ _ _) rfl ?_;grind
  ·obtain rfl:k=N:=by omega
   clear h1 h2 hx hY hS g1 g2 h0;gi_wp2
   go_end0
   grind
set_option maxRecDepth 100000 in
set_option maxHeartbeats 4000000 in
def WW(l B1 o1 n1 c1:Nat)(A1:Option Addr)(f:Nat->Nat->aR)(I:Nat->bg->Prop)(Ix:bg->Prop)(hn:n1<=16777216)
  (h1:∀k W,I k W->W.cell? ⟨B1,o1,aF⟩=aA (.slice A1 n1 c1))
  (hx:∀k,k < n1->∃b1 p1,A1=aA ⟨b1,p1,aF⟩/\∀W m,I m W->∀i,i < 6->W.cell? ⟨b1,p1+k * 6+i,aF⟩=aA (f k i))
  (hY:∀k W,k < n1->I k W->YieldAt Fence.wide 0 Tryz.prog l #[.int aB ((n1:Int) - 1 - (k:Int)),(.agg #[f (n1 - 1 - k) 0,f (n1 - 1 - k) 1,f (n1 - 1 - k) 2,f (n1 - 1 - k) 3,f (n1 - 1 - k) 4,f (n1 - 1 - k) 5])] W λe W2=>(e = .returned (.bool aD)/\I (k+1) W2)∨(e = .returned (.bool aE)/\Ix W2))
  (W:bg) (h0:I 0 W) :
  CallsIn Fence.wide 1 Tryz.prog 211 #[.func (.yield l) #[] #[],.pointer (aA ⟨B1,o1,aF⟩)] W λe W'=>(∃v,e = .returned v)/\(I n1 W'∨Ix W'):=by
 have g1:=h1 0 W h0;refine callsIn_of_wp Tryz.func211 rfl trivial ?_ rfl;simp only[Tryz.ntmps211,wO,d8,jo,Nat.reduceAdd,Nat.reduceSub,Mq,Mr,MH,Mw,il,gI];gi_wp2
 gi_loopw [3] (λi wr=>∃k:Nat,k<=n1/\i = .int aB ((n1:Int) - 1 - (k:Int))/\I k wr)
  (λi _=>(intOf i+1).toNat)
 case atStart=>grind
 case round =>
  obtain⟨k,hk,rfl,hI⟩:=hrel
  by_cases bf:k < n1
  ·obtain⟨b1,p1,rfl,hcell⟩:=hx (n1 - 1 - k) (by omega);have hY2:=hY k wr bf hI;obtain⟨fn,tmps,assign,body,hy,hR⟩:=hY2;have q2:=hcell wr k hI 0 (by omega);have q3:=hcell wr k hI 1 (by omega);have q4:=hcell wr k hI 2 (by omega);have q5:=hcell wr k hI 3 (by omega);have q6:=hcell wr k hI 4 (by omega);have q7:=hcell wr k hI 5 (by omega);rw[gn]at q2;have q1:=h1 k wr hI;have e1:((n1 - 1 - k:Nat):Int)=(n1:Int) - 1 - (k:Int):=by omega
   have e2:((n1:Int) - 1 - (k:Int)).toNat=n1 - 1 - k:=by omega
   have e3:((n1:Int) - 1 - (k:Int)) ≥ 0:=by omega
   clear h1 hx hY hcell g1 h0;gi_wp2;refine hR.mono ?_;rintro e W3 (⟨rfl,hJ3⟩|⟨rfl,hJx3⟩)
   ·gi_wp2
    go_roundw
    case rel=>grind
    case measure=>simp[intOf];omega
   ·gi_wp2;refine bodyPost_ret (results_none rfl _ _ _) rfl ?_;simp_all
  ·obtain rfl:k=n1:=by omega
   clear h1 hx hY g1 h0;gi_wp2
   go_end0
   simp_all
set_option maxRecDepth 100000 in
set_option maxHeartbeats 4000000 in
def agD(l B1 o1 B2 o2 BB ob n s:Nat)(I:Nat->bg->Prop)(Ix:bg->Prop)(hn:n<=16777216)(hs:s<=16777216)(hS:∀k W,I k W->I k W.drew)
  (h1:∀k W,I k W->W.cell? ⟨B1,o1,aF⟩=aA (.pointer (aA ⟨BB,ob,aF⟩))) (h2:∀k W,I k W->W.cell? ⟨B2,o2,aF⟩=aA (.int aB (s:Int)))
  (h3:∀k W,I k W->W.cell? ⟨BB,ob+1,aF⟩=aA (.int aB (n:Int)))
  (hY:∀k W,k < n->I k W->YieldAt Fence.wide 0 Tryz.prog l #[.int aB (((s:Int)+(k:Int)) % (n:Int))] W λe W2=>(e = .returned (.bool aD)/\I (k+1) W2)∨(e = .returned (.bool aE)/\Ix W2))
  (W:bg) (h0:I 0 W) :
  CallsIn Fence.wide 1 Tryz.prog 192 #[.func (.yield l) #[] #[],.pointer (aA ⟨B1,o1,aF⟩),.pointer (aA ⟨B2,o2,aF⟩)] W λe W'=>(∃v,e = .returned v)/\(I n W'∨Ix W'):=by
 have g1:=h1 0 W h0;have g2:=h2 0 W h0;have g3:=h3 0 W h0;refine callsIn_of_wp Tryz.func192 rfl trivial ?_ rfl;simp only[Tryz.ntmps192,wO,d8,jo,Nat.reduceAdd,Nat.reduceSub,Mq,Mr,MH,Mw,il,gI];gi_wp2
 gi_loopw [9] (λi wr=>∃k:Nat,k<=n/\i = .int aB k/\I k wr)
  (λi _=>n - (intOf i).toNat)
 case atStart=>grind
 case round =>
  obtain⟨k,hk,rfl,hI⟩:=hrel
  by_cases bf:k < n
  ·obtain⟨fn,tmps,assign,body,hy,hR⟩:=hY k wr.drew bf (hS k wr hI);have q1:=h1 k wr hI;have q2:=h2 k wr hI;have q3:=h3 k wr hI;have w1:IntKind.i64.wrap ((s:Int)+(k:Int))=((s+k:Nat):Int):=by rw[oW];omega
   have w2:((s+k:Nat):Int).tmod (n:Int)=(((s+k) % n:Nat):Int):=rfl;have w3:¬((n:Int)=0):=by omega
   clear h1 h2 h3 hY hS g1 g2 g3 h0;gi_wp2
   have hR:=hR.mono (R':=λe W2=>∃bb,e = .returned (.bool bb)/\(bb=aD->I (k+1) W2)/\(bb=aE->Ix W2)) (by
    grind)
   gi_region_with (refine hR.mono ?_;rintro e W3 ⟨bb,rfl,hb1,hb2⟩)
   all_goals
    cases bb;rotate_left
    ·gi_wp2
     go_roundw
     case rel=>grind
     case measure=>simp[intOf];omega
    ·gi_wp2;refine bodyPost_ret (results_none rfl _ _ _) rfl ?_;grind
  ·obtain rfl:k=n:=by omega
   clear h1 h2 h3 hY hS g1 g2 g3 h0;gi_wp2
   go_end0
   grind
end Go.Proofs.YtlphgcjepphhcaaGreat
namespace Go.Proofs.YtlphgcjepphhcaaGreat
open Go Go.Proofs Go.Lite
set_option maxRecDepth 100000
def ahZ:Go.Shelf.Ren:=⟨fun|5=>88|8=>135|7=>134|19=>190|20=>191|10=>181|11=>182|12=>183|13=>184|14=>185|15=>186|16=>187|17=>188|18=>189|30=>215|31=>216|32=>217|33=>218|34=>219|35=>220|40=>229|n=>n,fun|23=>80|25=>3|3=>3|32=>197|22=>80|0=>0|44=>255|46=>224|4=>4|36=>248|35=>247|41=>145|5=>5|9=>9|53=>272|57=>276|63=>283|64=>284|n=>n,fun|n=>n⟩
def U9:Go.Proofs.SlLaysM.n5 Tryz.prog ahZ where
 mixed:=by kernel_rfl
 f5:=⟨"slices.Sort[[]int,int]",by decide,Tryz.func88.trans (di aA (by kernel_rfl))⟩
 f7:=⟨"slices.pdqsortOrdered[int]",by decide,Tryz.func134.trans (di aA (by kernel_rfl))⟩
 f8:=Tryz.func135.trans (di aA (by kernel_rfl))
 f10:=⟨"slices.insertionSortOrdered[int]",by decide,Tryz.func181.trans (di aA (by kernel_rfl))⟩
 f11:=⟨"slices.heapSortOrdered[int]",by decide,Tryz.func182.trans (di aA (by kernel_rfl))⟩
 f12:=⟨"slices.breakPatternsOrdered[int]",by decide,Tryz.func183.trans (di aA (by kernel_rfl))⟩
 f13:=⟨"slices.choosePivotOrdered[int]",by decide,Tryz.func184.trans (di aA (by kernel_rfl))⟩
 f14:=⟨"slices.reverseRangeOrdered[int]",by decide,Tryz.func185.trans (di aA (by kernel_rfl))⟩
 f15:=⟨"slices.partialInsertionSortOrdered[int]",by decide,Tryz.func186.trans (di aA (by kernel_rfl))⟩
 f16:=⟨"cmp.Less[int]",by decide,Tryz.func187.trans (di aA (by kernel_rfl))⟩
 f17:=⟨"slices.partitionEqualOrdered[int]",by decide,Tryz.func188.trans (di aA (by kernel_rfl))⟩
 f18:=⟨"slices.partitionOrdered[int]",by decide,Tryz.func189.trans (di aA (by kernel_rfl))⟩
 f19:=Tryz.func190.trans (di aA (by kernel_rfl))
 f20:=Tryz.func191.trans (di aA (by kernel_rfl))
 f30:=⟨"slices.siftDownOrdered[int]",by decide,Tryz.func215.trans (di aA (by kernel_rfl))⟩
 f31:=Tryz.func216.trans (di aA (by kernel_rfl))
 f32:=Tryz.func217.trans (di aA (by kernel_rfl))
 f33:=⟨"slices.medianAdjacentOrdered[int]",by decide,Tryz.func218.trans (di aA (by kernel_rfl))⟩
 f34:=⟨"slices.medianOrdered[int]",by decide,Tryz.func219.trans (di aA (by kernel_rfl))⟩
 f35:=⟨"cmp.isNaN[int]",by decide,Tryz.func220.trans (di aA (by kernel_rfl))⟩
 f40:=⟨"slices.order2Ordered[int]",by decide,Tryz.func229.trans (di aA (by kernel_rfl))⟩
 t0:=Tryz.underlying0
 a0:=Tryz.isAgg0
 z0:=Tryz.sizeOf0
 v0:=Tryz.zeroValue0
 t3:=Tryz.underlying3
 a3:=Tryz.isAgg3
 z3:=Tryz.sizeOf3
 v3:=Tryz.zeroValue3
 t4:=Tryz.underlying4
 a4:=Tryz.isAgg4
 z4:=Tryz.sizeOf4
 v4:=Tryz.zeroValue4
 t5:=Tryz.underlying5
 a5:=Tryz.isAgg5
 z5:=Tryz.sizeOf5
 v5:=Tryz.zeroValue5
 t9:=Tryz.underlying9
 a9:=Tryz.isAgg9
 z9:=Tryz.sizeOf9
 v9:=Tryz.zeroValue9
 t22:=Tryz.underlying80
 a22:=Tryz.isAgg80
 z22:=Tryz.sizeOf80
 v22:=Tryz.zeroValue80
 t23:=Tryz.underlying80
 a23:=Tryz.isAgg80
 z23:=Tryz.sizeOf80
 v23:=Tryz.zeroValue80
 t25:=Tryz.underlying3
 a25:=Tryz.isAgg3
 z25:=Tryz.sizeOf3
 v25:=Tryz.zeroValue3
 t32:=Tryz.underlying197
 a32:=Tryz.isAgg197
 z32:=Tryz.sizeOf197
 v32:=Tryz.zeroValue197
 t35:=Tryz.underlying247
 a35:=Tryz.isAgg247
 z35:=Tryz.sizeOf247
 v35:=Tryz.zeroValue247
 t36:=Tryz.underlying248
 a36:=Tryz.isAgg248
 z36:=Tryz.sizeOf248
 v36:=Tryz.zeroValue248
 t41:=Tryz.underlying145
 a41:=Tryz.isAgg145
 z41:=Tryz.sizeOf145
 v41:=Tryz.zeroValue145
 t44:=Tryz.underlying255
 a44:=Tryz.isAgg255
 z44:=Tryz.sizeOf255
 v44:=Tryz.zeroValue255
 t46:=Tryz.underlying224
 a46:=Tryz.isAgg224
 z46:=Tryz.sizeOf224
 v46:=Tryz.zeroValue224
 t53:=Tryz.underlying272
 a53:=Tryz.isAgg272
 z53:=Tryz.sizeOf272
 v53:=Tryz.zeroValue272
 t57:=Tryz.underlying276
 a57:=Tryz.isAgg276
 z57:=Tryz.sizeOf276
 v57:=Tryz.zeroValue276
 t63:=Tryz.underlying283
 a63:=Tryz.isAgg283
 z63:=Tryz.sizeOf283
 v63:=Tryz.zeroValue283
 t64:=Tryz.underlying284
 a64:=Tryz.isAgg284
 z64:=Tryz.sizeOf284
 v64:=Tryz.zeroValue284
def ad4:Go.Shelf.Ren:=⟨fun|5=>97|7=>140|n=>n,fun|23=>138|25=>3|3=>9|4=>4|20=>20|n=>n,fun|n=>n⟩
def ad3:Go.Proofs.SlLaysW.n5 Tryz.prog ad4 where
 mixed:=by kernel_rfl
 f5:=⟨"maps.Clone[map[int]string,int,string]",by decide,Tryz.func97.trans (di aA (by kernel_rfl))⟩
 f7:=Tryz.func140.trans (di aA (by kernel_rfl))
 t4:=Tryz.underlying4
 a4:=Tryz.isAgg4
 z4:=Tryz.sizeOf4
 v4:=Tryz.zeroValue4
 t20:=Tryz.underlying20
 a20:=Tryz.isAgg20
 z20:=Tryz.sizeOf20
 v20:=Tryz.zeroValue20
 t23:=Tryz.underlying138
 a23:=Tryz.isAgg138
 z23:=Tryz.sizeOf138
 v23:=Tryz.zeroValue138
def ahW(blk off cap:Nat)(zs:List Int)(w:bg)(hH:Go.Sort.Holds (Value.int aB) w blk off zs.toArray)(hblk:blk < w.heap.size)(hsz:zs.length < 4611686018427387904) :
  fQ Tryz.prog 88 #[.slice (aA ⟨blk,off,aF⟩) zs.length cap] w λe w'=>e = .returned (.tuple #[])/\∃n os,w'=Go.Sort.grow (Go.Sort.putRow (Value.int aB) (Go.Sort.ahead w n) blk off (zs.mergeSort λx y=>decide (x<=y)).toArray) os :=
 AnyM.slices_Sort_int U9 blk off cap zs w hH hblk hsz
def ahX(p:Option Addr)(cap:Nat)(w:bg):fQ Tryz.prog 88 #[.slice p 0 cap] w λe w'=>e = .returned (.tuple #[])/\w'=w:=AnyM.slices_Sort_int_none U9 p cap w
def ah0:Go.Lite.SortW Tryz.prog 88:=⟨ahW,ahX⟩
def ad5:Go.Lite.MclW Tryz.prog 97:=⟨λb es clock w hb=>AnyW.maps_Clone ad3 b es clock w hb⟩
def Xx:Tryz.prog.cellsOf 3=1:=by kernel_rfl
end Go.Proofs.YtlphgcjepphhcaaGreat
namespace Go.Proofs.YtlphgcjepphhcaaGreat
open Go Go.Lite
def TF{_P:bv}{Z:Zs}{w:bg}{a:List V}{u:aR}(h:VR Z w j0 (.sl a) u)(h1:a.all fL=aD) :
  ∃(A:Option Addr) (c:Nat) (fx:Nat->aR),u = .slice A a.length c/\∀k x,a[k]? = aA x->VR Z w j0 x (fx k)/\∃g b,A=aA ⟨g,b,aF⟩/\Z g (b+k)/\w.cell? ⟨g,b+k,aF⟩=aA (fx k):=by
 rcases h.slInv with⟨A,c,rfl,rfl⟩|⟨g,b,c,sz,rfl,_,hsz,hh⟩
 ·simp_all
 ·refine⟨aA ⟨g,b,aF⟩,c,λk=>(w.cell? ⟨g,b+k,aF⟩).getD default,rfl,λk x hk=>?_⟩;have hone:x.one=true:=e9.1 h1 x (dH hk);obtain⟨l1,l2,l3⟩:=hh k x hk;rw[lW hone]at l1 l3;have:sz=1:=l1.symm;subst this;obtain⟨_,u,hu,hv⟩:=l3 0 x rfl;grind
def agI{_P:bv}{Z:Zs}{w:bg}{a:List V}{u:aR}(h:VR Z w j0 (.sl a) u)(h1:a.all ES=aD) :
  ∃(A:Option Addr) (c:Nat) (f:Nat->Nat->aR),u = .slice A a.length c/\∀k x,a[k]? = aA x->VR Z w j0 x (.agg #[f k 0,f k 1,f k 2,f k 3,f k 4,f k 5])/\∃g b,A=aA ⟨g,b,aF⟩/\∀i,i < 6->Z g (b+k * 6+i)/\w.cell? ⟨g,b+k * 6+i,aF⟩=aA (f k i):=by
 rcases h.slInv with⟨A,c,rfl,rfl⟩|⟨g,b,c,sz,rfl,_,hsz,hh⟩
 ·simp_all
 ·refine⟨aA ⟨g,b,aF⟩,c,λk i=>(w.cell? ⟨g,b+k * 6+i,aF⟩).getD default,rfl,λk x hk=>?_⟩;have hone:ES x=true:=e9.1 h1 x (dH hk);obtain⟨l1,l2,l3⟩:=hh k x hk;unfold ES at hone;split at hone;rotate_left
  ·grind
  rename_i cs;have hl:cs.length=6:=by grind
  have e:gV (.agg cs)=cs:=rfl;rw[e]at l1 l3;have:sz=6:=by omega
  subst this
  have key:∀i,i < 6->∃u,w.cell? ⟨g,b+k * 6+i,aF⟩=aA u/\∀y,cs[i]? = aA y->VR Z w j0 y u:=λi hi=>by
   have hy:cs[i]? = aA cs[i]:=cI (by omega);obtain⟨_,u,hu,hv⟩:=l3 i _ hy;grind
  have hz:∀i,i < 6->Z g (b+k * 6+i):=λi hi=>by grind
  refine⟨?_,g,b,rfl,λi hi=>⟨hz i hi,?_⟩⟩
  ·refine .agg (us:=[_,_,_,_,_,_]) (by grind) λi c u hc hu=>?_
   have hi:i < 6:=by grind
   grind
  grind
def ahA:sw Tryz.prog Kd:=by
 intro f ts h xs rounds hf hr Z w us hzin ha;unfold Kd at hf;split at hf
 ·rename_i e;subst e;cases hf;unfold yE at hr;split at hr;rotate_left
  ·grind
  rename_i q n from0;split at hr;rotate_left
  ·grind
  rename_i hc;obtain⟨hn0,hn,hf0,hf⟩:=hc;cases hr;obtain⟨n,rfl⟩:∃m:Nat,n=(m:Int):=⟨n.toNat,by omega⟩
  obtain⟨s,rfl⟩:∃m:Nat,from0=(m:Int):=⟨from0.toNat,by omega⟩
  obtain⟨hl,hv⟩:=ha
  match us,hl,hv with
  | [u1,u2],hl,hv =>
  have v1:=hv 0 _ u1 rfl rfl;have v2:=hv 1 _ u2 rfl rfl;refine⟨Go.Proofs.enters_of Tryz.func192 (by kernel_rfl) rfl,?_⟩;cases v1 with
  |ref f1 c1 d1 =>
  rename_i B1 o1;cases v2 with
  |ref f2 c2 d2 =>
  rename_i B2 o2;obtain⟨_,z1,e1⟩:=c1 0 _ rfl;obtain⟨_,z2,e2⟩:=c2 0 _ rfl;have r1:=d1 0 _ rfl;have r2:=d2 0 _ rfl;generalize f1 0=g1 at e1 r1;generalize f2 0=g2 at e2 r2;cases r2;cases r1 with
  |ref f3 c3 d3 =>
  rename_i BB ob;obtain⟨_,z3,e3⟩:=c3 1 _ rfl;have r3:=d3 1 _ rfl;generalize f3 1=g3 at e3 r3;cases r3;have hbl:(we (n:Int) (s:Int)).length=n:=by simp[we]
  refine⟨(eQ n).map λk:Nat=>[.int aB (((s:Int)+(k:Int)) % (n:Int))],by grind,?_,?_⟩
  ·intro k x u hx hu;have hk:k < n:=by grind
   unfold we at hx;rw[gy,B8 (by omega)]at hx;rw[gy,B8 hk]at hu;simp at hu hx;subst hu;subst hx;refine⟨rfl,λi y' v hy' hv'=>?_⟩
   match i,hy',hv' with
   |0,hy',hv'=>simp at hy' hv';subst hy';subst hv';exact .int
   |i+1,hy',hv'=>grind
  ·intro l I Ix W hI hIx hK hY h0
   have hY':∀k W,k < n->I k W->YieldAt Fence.wide 0 Tryz.prog l #[.int aB (((s:Int)+(k:Int)) % (n:Int))] W λe W2=>(e = .returned (.bool aD)/\I (k+1) W2)∨(e = .returned (.bool aE)/\Ix W2):=by
    grind
   have:=agD l B1 (o1+0) B2 (o2+0) BB (ob+0) n s I Ix (by omega) (by omega) (λk W hi=>hI k W W.drew hi ⟨rfl,rfl,rfl,rfl⟩) (λk W hi=>((hK k W hi).2 _ _ z1).trans e1) (λk W hi=>((hK k W hi).2 _ _ z2).trans e2) (λk W hi=>((hK k W hi).2 _ _ z3).trans e3) hY' W h0;have:=(callsIn_wide (n:=1)).1 this;simp_all
 split at hf
 ·rename_i e;subst e;cases hf;unfold C0 at hr;split at hr;rotate_left
  ·grind
  rename_i a;split at hr;rotate_left
  ·grind
  rename_i hc;obtain⟨hlen,hpair⟩:=hc;cases hr;obtain⟨hl,hv⟩:=ha
  match us,hl,hv with
  | [u1],hl,hv =>
  have v1:=hv 0 _ u1 rfl rfl;refine⟨Go.Proofs.enters_of Tryz.func211 (by kernel_rfl) rfl,?_⟩;cases v1 with
  |ref f1 c1 d1 =>
  rename_i B1 o1;obtain⟨_,z1,e1⟩:=c1 0 (.sl a) rfl;obtain⟨A1,p1,fa,w1,r1⟩:=agI (_P:=Tryz.prog) (d1 0 (.sl a) rfl) hpair;rw[w1]at e1;have hbl:(sI a).length=a.length:=by simp[sI]
  have hbg:∀k x,(sI a)[k]? = aA x->∃y,a[a.length - 1 - k]? = aA y/\k < a.length/\x=[.int aB ((a.length - 1 - k:Nat):Int),y]:=by
   intro k x hx;have hk:k < a.length:=by grind
   unfold sI at hx;rw[List.getElem?_reverse (by grind)]at hx;simp only[gm,List.length_zipIdx,gy,List.getElem?_zipIdx]at hx;grind
  refine⟨(eQ a.length).map λk:Nat=>[.int aB ((a.length:Int) - 1 - (k:Int)),.agg #[fa (a.length - 1 - k) 0,fa (a.length - 1 - k) 1,fa (a.length - 1 - k) 2,fa (a.length - 1 - k) 3,fa (a.length - 1 - k) 4,fa (a.length - 1 - k) 5]],by grind,?_,?_⟩
  ·intro k x u hx hu;obtain⟨y,hy,hk,rfl⟩:=hbg k x hx;rw[gy,B8 hk]at hu;simp at hu;subst hu;refine⟨rfl,λi y' v hy' hv'=>?_⟩
   match i,hy',hv' with
   |0,hy',hv' =>
    simp at hy' hv';subst hy';subst hv';have:((a.length - 1 - k:Nat):Int)=(a.length:Int) - 1 - (k:Int):=by omega
    rw[this];exact .int
   |1,hy',hv'=>simp at hy' hv';grind
   |i+2,hy',hv'=>simp_all
  ·intro l I Ix W hI hIx hK hY h0
   have hY':∀k W,k < a.length->I k W->YieldAt Fence.wide 0 Tryz.prog l #[.int aB ((a.length:Int) - 1 - (k:Int)),.agg #[fa (a.length - 1 - k) 0,fa (a.length - 1 - k) 1,fa (a.length - 1 - k) 2,fa (a.length - 1 - k) 3,fa (a.length - 1 - k) 4,fa (a.length - 1 - k) 5]] W λe W2=>(e = .returned (.bool aD)/\I (k+1) W2)∨(e = .returned (.bool aE)/\Ix W2):=by
    simp_all
   have hx:∀k,k < a.length->∃b1 p1,A1=aA ⟨b1,p1,aF⟩/\∀W m,I m W->∀i,i < 6->W.cell? ⟨b1,p1+k * 6+i,aF⟩=aA (fa k i):=by
    intro k hk1;obtain⟨_,g1,q1,m1,m2⟩:=r1 k a[k] (by grind);exact⟨g1,q1,m1,λW m hi i h6=>((hK m W hi).2 _ _ (m2 i h6).1).trans (m2 i h6).2⟩
   have:=WW l B1 (o1+0) a.length p1 A1 fa I Ix hlen (λk W hi=>((hK k W hi).2 _ _ z1).trans e1) hx hY' W h0;have:=(callsIn_wide (n:=1)).1 this;simp_all
 split at hf
 ·rename_i e;subst e;cases hf;unfold xj at hr;split at hr;rotate_left
  ·grind
  rename_i a b;split at hr;rotate_left
  ·grind
  rename_i hc;obtain⟨hal,ha1,hb1⟩:=hc;cases hr;obtain⟨hl,hv⟩:=ha
  match us,hl,hv with
  | [u1,u2],hl,hv =>
  have v1:=hv 0 _ u1 rfl rfl;have v2:=hv 1 _ u2 rfl rfl;refine⟨Go.Proofs.enters_of Tryz.func210 (by kernel_rfl) rfl,?_⟩;cases v1 with
  |ref f1 c1 d1 =>
  rename_i B1 o1;cases v2 with
  |ref f2 c2 d2 =>
  rename_i B2 o2;obtain⟨_,z1,e1⟩:=c1 0 (.sl a) rfl;obtain⟨_,z2,e2⟩:=c2 0 (.sl b) rfl;obtain⟨A1,p1,fx,w1,r1⟩:=TF (_P:=Tryz.prog) (d1 0 (.sl a) rfl) ha1;obtain⟨A2,p2,fy,w2,r2⟩:=TF (_P:=Tryz.prog) (d2 0 (.sl b) rfl) hb1;rw[w1]at e1;rw[w2]at e2;refine⟨(eQ (min a.length b.length)).map λk=>[fx k,fy k],by simp,?_,?_⟩
  ·intro k x u hx hu;rw[List.getElem?_zipWith]at hx;rw[gy]at hu;cases hxa:a[k]? with
   |none=>grind
   |some xa =>
    cases hxb:b[k]? with
    |none=>grind
    |some xb =>
     simp[hxa,hxb]at hx;subst hx;have hka:=(cE.1 hxa).1;have hkb:=(cE.1 hxb).1;rw[B8 (by omega)]at hu;simp at hu;subst hu;refine⟨rfl,λi y v hy hv=>?_⟩;grind
  ·intro l I Ix W hI hIx hK hY h0
   have hY':∀k W,k < a.length->k < b.length->I k W->YieldAt Fence.wide 0 Tryz.prog l #[fx k,fy k] W λe W2=>(e = .returned (.bool aD)/\I (k+1) W2)∨(e = .returned (.bool aE)/\Ix W2):=by
    grind
   have hx:∀k,k < a.length->k < b.length->∃b1 p1 b2 p2,A1=aA ⟨b1,p1,aF⟩/\A2=aA ⟨b2,p2,aF⟩/\∀W,I k W->W.cell? ⟨b1,p1+k,aF⟩=aA (fx k)/\W.cell? ⟨b2,p2+k,aF⟩=aA (fy k):=by
    intro k hk1 hk2;obtain⟨_,g1,q1,m1,m2,m3⟩:=r1 k _ (cI hk1);obtain⟨_,g2,q2,n1,n2,n3⟩:=r2 k _ (cI hk2);exact⟨g1,q1,g2,q2,m1,n1,λW hi=>⟨((hK k W hi).2 _ _ m2).trans m3,((hK k W hi).2 _ _ n2).trans n3⟩⟩
   have:=Xa l B1 (o1+0) B2 (o2+0) a.length p1 b.length p2 (min a.length b.length) rfl A1 A2 fx fy I Ix hal (λk W hi=>hI k W W.drew hi ⟨rfl,rfl,rfl,rfl⟩) (λk W hi=>((hK k W hi).2 _ _ z1).trans e1) (λk W hi=>((hK k W hi).2 _ _ z2).trans e2) hx hY' W h0;have:=(callsIn_wide (n:=1)).1 this;simp_all
 grind
def bC:zh aJ:=by
 have hceS:Tryz.prog.cellsOf 9=1:=by kernel_rfl
 have hceI:Tryz.prog.cellsOf 3=1:=by kernel_rfl
 refine⟨by kernel_rfl,?_,?_,ahA⟩
 ·intro f g h;have h:Kb f=aA g:=h;unfold Kb at h;split at h
  ·rename_i e;subst e;cases h;have:=G4 XF;rw[hceS]at this;exact this
  split at h
  ·rename_i e;subst e;cases h;have:=G4 XE;rw[hceI]at this;exact this
  split at h
  ·rename_i e;subst e;cases h;exact ae7 ae5
  split at h
  ·rename_i e;subst e;cases h;exact XL XH
  grind
 ·intro f g h;have h:J9 f=aA g:=h;unfold J9 at h;split at h
  ·rename_i e;subst e;cases h;have:=QK acN;rw[hceS]at this;exact this
  split at h
  ·rename_i e;subst e;cases h;have:=QK acM;rw[hceI]at this;exact this
  split at h
  ·rename_i e;subst e;cases h;exact NZ Yg
  split at h
  ·rename_i e;subst e;cases h;exact NZ Yf
  split at h
  ·rename_i e;subst e;cases h;exact ah1 ah0 Xx
  split at h
  ·rename_i e;subst e;cases h;exact ad6 ad5
  split at h
  ·rename_i e;subst e;cases h;have:=G4 XD;rw[show Tryz.prog.cellsOf 5=1 by kernel_rfl]at this;exact XC this
  grind
end Go.Proofs.YtlphgcjepphhcaaGreat
