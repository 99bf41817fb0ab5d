/-
  Texts that the last one stands on.
-/
import Derived.Test.YtlphgcjepphhcaaGreatD5
noncomputable section
open Option renaming some->aA,map_some->du,none->aF,bind_some->bk,map_eq_bind->FU,bind_assoc->uB,bind_none->FS
open Go.Lite.V renaming int->aB,str->aE,tup->aT,bool->bc,one->fq,sl->aG,flat1->jw,agg->aH,ptr->aK,tail->bC,cells->gT
open List renaming cons_append->ew,nil_append->eA,map_cons->d8,replicate->dh,getElem?_eq_getElem->cj,take_add_one->FO,take_length->iM,drop_eq_getElem_cons->qy,take_succ_cons->o6,length_take->eC,drop_eq_nil_iff->Lj,length->oZ,length_drop->fD,length_set->gS,length_map->d9,length_append->eV,length_cons->dp,length_nil->fc,map_append->gA,map_nil->fX,append_assoc->cO,pairwise_cons->iL,mem_of_getElem?->dx,getElem?_eq_none->rY,zip_cons_cons->FP,getLastD->y5,all_cons->oY,mem_cons->dE,take_append_of_le_length->BC,drop_append->Bq,drop_eq_nil_of_le->FI,all_eq_true->eJ,append_nil->fh,drop_zero->rW,take_append_drop->lk,drop_drop->uu,take_of_length_le->sd,eq_of_mem_replicate->y3,mem_append->cz,mem_of_mem_take->o4,mem_of_mem_drop->qA,range->fK,getElem?_map->fW,getElem?_range->rZ,ext_getElem?->uw,getElem?_set->FL,getElem?_eq_some_iff->bX,filter_cons_of_pos->FK,filter_cons_of_neg->FJ,take_zero->se,getElem?_append_left->eK,getElem?_append_right->eO,nodup_cons->o5,mem_cons_self->er,perm_middle->y7,nodup_append->uA,nodup_nil->FM,mem_map->ib,mem_filter->mW,mem_range->Bw,filter_eq_self->Lk,getLastD_eq_getLast?->UA,dropLast_append_of_ne_nil->Uy,eq_nil_or_concat->gg,mem_flatMap->jN,pairwise_append->fJ,exists_cons_of_ne_nil->uv,flatMap_cons->nZ,append_eq_nil_iff->ww,length_pos_iff->uy,mem_append_left->Bv,mem_append_right->uz,getElem_mem->Bu
open Bool renaming false->aD,not_true->bK,not_false->gb,and_true->mT,true_and->dL,and_false->gP,false_and->iZ,or_true->mh,true_or->lh,or_false->j9,false_or->gq,false_eq_true->dw,true_eq_false->nU,true_beq->nT,false_beq->nR,true->aC,and_eq_true->co,or_eq_true->nS,not_eq_true'->kE
open Nat renaming le_refl->c7,pow_le_pow_right->Lw,zero_le->jQ,lt_or_ge->mY,add_zero->fL,add_assoc->jP,zero_add->fY,mod_eq_of_lt->FQ,eq_zero_or_pos->BF,add_comm->sg,sub_self->qC
open Int renaming natCast_add->nW,natCast_one->nX,natCast_zero->mV,toNat_zero->nY,cast_ofNat_Int->nV,fdiv_eq_ediv_of_nonneg->Ux,natCast_nonneg->Lg
open Go.Lite.O renaming box->aJ,row->aM
namespace Go.Proofs.YtlphgcjepphhcaaGreat
open Go Go.Lite
set_option linter.unusedSimpArgs false
set_option linter.unusedVariables false
def vR(s:Bs)(n:Int)(t:Bs):Bs × Int × Int :=
 if 0<=n/\n<=(s.length:Int) then
  if 255 < t.length then ([],0,2) else
  if (s.length:Int) - n < (t.length:Int)+1 then ([],0,3) else (rk s n.toNat (UInt8.ofNat t.length::t),n+t.length+1,0)
 else ([],0,1)
theorem adN(s:Bs)(n:Int)(t:Bs)(hs:dk s)(ht:dk t) :
  bJ aI 162 [.str s,.int .i64 n,.str t]=aA (.tup [.str (vR s n t).1,.int .i64 (vR s n t).2.1,.int .i64 (vR s n t).2.2]):=by
 refine XG _ _ _ ?_;have hsl:=hs;have htl:=ht;unfold G0 vR;rw[aN (I1 s n),bF];unfold AC
 by_cases h:0<=n/\n<=(s.length:Int)
 ·rw[aU h,aU h];obtain⟨m,rfl⟩:∃m:Nat,n=(m:Int):=⟨n.toNat,by omega⟩
  rw[bi];have w1:W .i64 ((s.length:Int) - (m:Int))=(s.length:Int) - (m:Int):=bf (by omega);have w2:W .i64 ((t.length:Int)+1)=(t.length:Int)+1:=bf (by omega);rw[w1,w2,dA rfl,aP]
  by_cases h2:255 < t.length
  ·rw[aU h2,aW (show(t.length:Int) > 255 by omega)];rfl
  rw[aY h2,bp (show ¬(t.length:Int) > 255 by omega),aP]
  by_cases h3:(s.length:Int) - (m:Int) < (t.length:Int)+1
  ·rw[aU h3,aW h3];rfl
  rw[aY h3,bp h3,aP];have w3:W .u8 ((t.length:Int))=((t.length:Nat):Int):=by rw[mr];omega
  have w4:W .i64 ((m:Int)+(t.length:Int))=(m:Int)+(t.length:Int):=bf (by omega);have w5:W .i64 ((m:Int)+(t.length:Int)+1)=(m:Int)+(t.length:Int)+1:=bf (by omega)
  have e1:iv ([aB .u8 ((t.length:Nat):Int)]++fA t)=aA (((t.length:Nat):Int)::t.map fun b=>(b.toNat:Int)):=by
   simp only[ew,eA,iv,DN,du]
  have e2:((((t.length:Nat):Int)::t.map fun b=>(b.toNat:Int)).map fun x=>UInt8.ofNat x.toNat)=UInt8.ofNat t.length::t:=by
   rw[d8,DO,bi]
  rw[w3,w4,w5,aQ (ag6 t),aQ (by simp[Ga];omega),aN (QR s m (UInt8.ofNat t.length::t) (by simp;omega) _ _ e1 e2),cR]
 ·rw[aY h,aY h];rfl
def iU(s:Bs)(n:Int):Bs × Int:=if n < 0∨65536 < n then ([],1) else if n < (s.length:Int) then ([],2) else (s++dh (n.toNat - s.length) 0,0)
theorem ac6(k:Nat):iv (dh k (aB .u8 0))=aA (dh k 0):=by
 have:=ac5 (dh k 0)
 rwa [List.map_replicate]at this
theorem adt(s:Bs)(n:Int)(hs:dk s):bJ aI 160 [.str s,.int .i64 n]=aA (.tup [.str (iU s n).1,.int .i64 (iU s n).2]):=by
 refine XE _ _ ?_;have hsl:=hs;unfold GY iU
 by_cases h1:n < 0
 ·rw[aW h1,aU (.inl h1)];rfl
 rw[bp h1,aP]
 by_cases h2:n > 65536
 ·rw[aW h2,aU (.inr h2)];rfl
 rw[bp h2,aP,aY (by omega)]
 by_cases h3:(s.length:Int) > n
 ·rw[aW h3,aU h3];rfl
 rw[bp h3,aP,aY h3];obtain⟨k,rfl⟩:∃k:Nat,n=((s.length+k:Nat):Int):=⟨(n - s.length).toNat,by omega⟩
 have w:W .i64 (((s.length+k:Nat):Int) - (s.length:Int))=(k:Int):=by rw[bf (by omega)];omega
 rw[w,bi,bi,aQ (by simp),aQ (by simp),aQ (by simp;omega),ac6,iT,List.map_replicate,show s.length+k - s.length=k by omega];rw[aQ (by simp;omega)];rfl
def mz(s:Bs):Bs:=(s.reverse.dropWhile fun b=>b==0).reverse
theorem U9(s:Bs):mz (s++[0])=mz s:=by simp[mz]
theorem U7(s:Bs){c:UInt8}(h:c≠0):mz (s++[c])=s++[c]:=by simp[mz,h]
theorem U8(s:Bs)(hs:dk s):∀n,n<=s.length->Go qk aD 0 (fF 176) (.head 0 (zt s (n:Int))) (.done (.str (mz (s.take n)))):=by
 intro n;have hsl:=hs
 induction n with
 |zero =>
  intro _;refine Kd _ _ ?_ (.refl _);unfold EH;rw[bp (by omega),aP,aQ (by simp),aQ (by simp)];rfl
 |succ n ih =>
  intro hn;have bd:n < s.length:=by omega
  have hc:s[n]? = aA s[n]:=cj bd;have e1:s.take (n+1)=s.take n++[s[n]]:=by rw[FO,hc];rfl
  have w:W .i64 (((n+1:Nat):Int) - 1)=(n:Int):=by rw[bf (by omega)];omega
  by_cases hz:s[n]=0
  ·refine Kd _ _ (o:=.head 0 (zt s (n:Int))) ?_ ?_
   ·unfold EH;rw[aW (by omega),aZ,w,aQ (by simp),bi,cG hc,hz];rfl
   ·have:=ih (by omega);rw[e1,hz,U9];exact this
  ·refine Kd _ _ ?_ (.refl _);unfold EH
   have hz2:¬((s[n].toNat:Int)=0):=by
    intro e;exact hz (UInt8.toNat_inj.1 (by simpa using e))
   rw[aW (by omega),aZ,w,aQ (by simp),bi,cG hc,dH hz2,aP,aQ (by simp;omega),bi,aQ (by simp;omega),e1,U7 _ hz]
theorem L4(s:Bs)(hs:dk s):bJ aI 176 [.str s]=aA (.str (mz s)):=by
 have:=U8 s hs s.length (c7 _);rw[iM]at this;exact XS _ rfl this
theorem abV:∀(k n:Nat),n < 18446744073709551616->k < 4294967296->bJ aI 222 [.int .u64 (n:Int),.int .i64 (k:Int)]=aA (.str (cN k n)):=by
 intro k
 induction k with
 |zero =>
  intro n _ _;refine Ny _ _ ?_;unfold CO;rw[db (by omega)];rfl
 |succ k ih =>
  intro n hn hk;refine Ny _ _ ?_;unfold CO
  have w1:W .u64 (((n:Int)).tdiv 256)=((n / 256:Nat):Int):=by
   rw[show((n:Int)).tdiv 256=((n / 256:Nat):Int) from rfl];exact lq (by omega)
  have w2:W .i64 (((k+1:Nat):Int) - 1)=(k:Int):=by rw[bf (by omega)];omega
  have w3:W .u8 (((n:Int)).tmod 256)=((n % 256:Nat):Int):=by
   rw[show((n:Int)).tmod 256=((n % 256:Nat):Int) from rfl,mr];omega
  rw[dH (by omega),aP,w1,w2,aN (ih (n / 256) (by omega) (by omega)),cR,w3,bi,aQ (by simp[eP];omega)];rfl
theorem L3(s:Bs)(n size:Int)(hs:dk s):bJ aI 230 [.str s,.int .i64 n,.int .i64 size]=aA (.int .i64 (ky s n size)):=by
 refine Yp _ _ _ ?_;have hsl:=hs;unfold Hl ky
 by_cases h1:size < 1
 ·rw[aW h1,aU (.inl h1)];rfl
 rw[bp h1,aP]
 by_cases h2:size > 8
 ·rw[aW h2,aU (.inr (.inl h2))];rfl
 rw[bp h2,aP]
 by_cases h3:n < 0
 ·rw[aW h3,aU (.inr (.inr (by omega)))];rfl
 rw[bp h3,aP]
 by_cases h4:n > (s.length:Int)
 ·rw[aW h4,aU (.inr (.inr (by omega)))];rfl
 rw[bp h4,aP,bf (by omega),aY (by omega)]
 by_cases h5:n+size > (s.length:Int)
 ·rw[aW h5,aU (by omega)];rfl
 ·rw[bp h5,aY (by omega)];rfl
theorem aaz(s:Bs)(n k:Nat)(hk:k<=8)(hl:n+k<=s.length)(hs:dk s):∀j,j<=k ->
  Go qk aD 0 (fF 221) (.head 0 (wP s (n:Int) ((dU ((s.drop (n+j)).take (k - j)):Nat):Int) ((j:Int) - 1))) (.done (.tup [.int .u64 ((dU ((s.drop n).take k):Nat):Int),.int .i64 0])):=by
 intro j;have hsl:=hs
 induction j with
 |zero =>
  intro _;refine S0 _ _ _ _ ?_ (.refl _);unfold Kj;rw[bp (by omega)];rfl
 |succ j ih =>
  intro hj;have bd:n+j < s.length:=by omega
  obtain⟨c,hc⟩:∃c,s[n+j]? = aA c:=⟨_,cj bd⟩
  have e1:(s.drop (n+j)).take (k - j)=c::(s.drop (n+(j+1))).take (k - (j+1)):=by
   rw[qy bd,show k - j=(k - (j+1))+1 by omega,o6];rw[cj bd]at hc;injection hc with hc
   rw[hc];rfl
  generalize hR:(s.drop (n+(j+1))).take (k - (j+1))=r at e1;have hr:r.length<=7:=by rw[<-hR,eC];omega
  have hu:=Bi r;have hp:256 ^ r.length<=256 ^ 7:=Lw (by decide) hr;have h7:(256:Nat) ^ 7=72057594037927936:=by decide
  have hcl:=c.toNat_lt;refine S0 _ _ _ _ (o:=.head 0 (wP s (n:Int) ((dU ((s.drop (n+j)).take (k - j)):Nat):Int) ((j:Int) - 1))) ?_ (ih (by omega));unfold Kj;have w1:W .i64 ((n:Int)+(((j+1:Nat):Int) - 1))=((n+j:Nat):Int):=by rw[bf (by omega)];omega
  have w2:W .u64 (256 * ((dU r:Nat):Int))=256 * ((dU r:Nat):Int):=lq (by omega);have w3:W .u64 (c.toNat:Int)=(c.toNat:Int):=lq (by omega);have w4:W .u64 (256 * ((dU r:Nat):Int)+(c.toNat:Int))=((dU (c::r):Nat):Int):=by rw[lq (by omega)];simp only[dU];omega
  have w5:W .i64 ((((j+1:Nat):Int) - 1) - 1)=(j:Int) - 1:=by rw[bf (by omega)];omega
  rw[aW (by omega),aZ,w1,aQ (by simp;omega),bi,cG hc,w2,w3,w4,w5,e1]
theorem aaA(s:Bs)(n size:Int)(hs:dk s):bJ aI 221 [.str s,.int .i64 n,.int .i64 size]=aA (.tup [.int .u64 (fe s n size).1,.int .i64 (fe s n size).2]):=by
 by_cases h:ky s n size=0
 ·obtain⟨h1,h2,h3,h4⟩:=Jz h;obtain⟨k,rfl⟩:∃k:Nat,size=(k:Int):=⟨size.toNat,by omega⟩
  obtain⟨m,rfl⟩:∃m:Nat,n=(m:Int):=⟨n.toNat,by omega⟩
  have hl:=aaz s m k (by omega) (by omega) hs k (c7 _);have w:W .i64 ((k:Int) - 1)=(k:Int) - 1:=bf (by omega);refine Nx _ _ _ ?_ (o:=.head 0 (wP s (m:Int) 0 ((k:Int) - 1))) ?_
  ·unfold Hj;rw[aN (L3 s _ _ hs),bF,h,w];rfl
  ·unfold fe;rw[aU h];simpa[dU]using hl
 ·refine Nx _ _ _ ?_ (.refl _);unfold Hj fe;rw[aN (L3 s _ _ hs),bF,aY h,fP h];rfl
theorem agF(s:Bs)(n:Int)(hs:dk s):bJ aI 72 [.str s,.int .i64 n]=aA (.tup [.str (dW s n).1,.int .i64 (dW s n).2.1,.int .i64 (dW s n).2.2]):=by
 refine Y1 _ _ ?_;have hsl:=hs;unfold Hu dW
 by_cases h1:n < 0
 ·rw[aW h1,aY (by omega)];rfl
 rw[bp h1,aP]
 by_cases h2:n > (s.length:Int)
 ·rw[aW h2,aY (by omega)];rfl
 rw[bp h2,aP,aU (by omega)];obtain⟨m,rfl⟩:∃m:Nat,n=(m:Int):=⟨n.toNat,by omega⟩
 rw[bi];cases hd:s.drop m with
 |nil =>
  have:s.length<=m:=Lj.1 hd;rw[db (show(m:Int)=(s.length:Int) by omega)];rfl
 |cons c r =>
  obtain⟨h1,h2,h3⟩:=ej hd
  have hrl:r.length+m+1=s.length:=by
   have:=ef oZ hd;simp at this;omega
  have hcl:=c.toNat_lt;have w1:W .i64 (c.toNat:Int)=(c.toNat:Int):=bf (by omega);have w3:W .i64 ((m:Int)+1)=((m+1:Nat):Int):=by rw[bf (by omega)];omega
  have w4:W .i64 (((m+1:Nat):Int)+(c.toNat:Int))=((m+1+c.toNat:Nat):Int):=by rw[bf (by omega)];omega
  rw[dH (show(m:Int)≠(s.length:Int) by omega)];simp only[cG h1,w1,w3,w4,bi]
  by_cases hb:r.length < c.toNat
  ·rw[aU hb,aW (show((m+1+c.toNat:Nat):Int) > (s.length:Int) by omega)];simp
  ·rw[aY hb,bp (show ¬((m+1+c.toNat:Nat):Int) > (s.length:Int) by omega)]
   have e1:(s.take (m+1+c.toNat)).drop (m+1)=r.take c.toNat:=by
    rw[List.drop_take,show m+1+c.toNat - (m+1)=c.toNat by omega];congr 1
   rw[e1];simp;omega
theorem PM:∀k,cN k 0=dh k 0
 |0=>rfl
 |k+1=>by rw[cN,Nat.zero_div,PM k];rfl
theorem DX(s:Bs)(n:Int)(hs:dk s):bJ aI 195 [.str s,.int .i64 n]=aA (.tup [.str (iU s n).1,.int .i64 (iU s n).2]):=by
 refine XY _ _ ?_;have hsl:=hs;unfold G7 iU
 by_cases h1:n < 0
 ·rw[aW h1,aU (.inl h1)];rfl
 rw[bp h1,aP]
 by_cases h2:n > 65536
 ·rw[aW h2,aU (.inr h2)];rfl
 rw[bp h2,aP,aY (by omega)]
 by_cases h3:(s.length:Int) > n
 ·rw[aW h3,aU h3];rfl
 rw[bp h3,aP,aY h3];obtain⟨k,rfl⟩:∃k:Nat,n=((s.length+k:Nat):Int):=⟨(n - s.length).toNat,by omega⟩
 have w:W .i64 (((s.length+k:Nat):Int) - (s.length:Int))=(k:Int):=by rw[bf (by omega)];omega
 have hq:bJ aI 222 [.int .u64 0,.int .i64 (k:Int)]=aA (.str (dh k 0)):=by
  have:=abV k 0 (by decide) (by omega)
  rwa [PM]at this
 rw[w,bi,aN hq,cR,show s.length+k - s.length=k by omega,aQ (by simp;omega)]
def cg(s:Bs):Bool:=!(s==[]) && decide (s.length<=16)
theorem lC(s:Bs):bJ aI 73 [.str s]=aA (.bool (cg s)):=by
 refine Y3 _ ?_;unfold Hv cg;cases h:s==[]with
 |true=>rfl
 |false =>
  rw[lW.2 (show((s.length:Int)<=16)↔(s.length<=16) by omega)];rfl
theorem kq(s:Bs):bJ aI 47 [.str s]=aA (.bool (cg s)):=by
 refine YG _ ?_;unfold Hm cg;cases s with
 |nil=>rfl
 |cons c s =>
  rw[aW (by simp;omega),lW.2 (show(((c::s).length:Int)<=16)↔((c::s).length<=16) by omega)];rfl
theorem abR(a b:Bs)(hl:b.length < 4611686018427387904):∀(r s:Bs) (k:Nat),a.drop k=r->b.drop k=s->k<=a.length->k<=b.length ->
  Go qk aD 0 (fF 35) (.head 0 (zx a b (k:Int))) (.done (.bool (lt r s))):=by
 intro r
 induction r with
 |nil =>
  intro s k hr hs ha hb;have h1:=fT hr;refine EP _ _ _ ?_ (.refl _);cases s with
  |nil =>
   have h2:=fT hs;have e:decide ((a.length:Int) < (b.length:Int))=false:=bp (by omega);simp (disch:=omega) only[yA,lt,Op.bytesLess,e,aZ,aP,decide_true,decide_false,nB,bI,bF,cR,jD,nG,jf,ir,jo,jp,iT,aW,bp,db,dH,fP,dA,bi,nQ,nP,bf,eC,fD,gS,d9,eV,dp,fc,bK,gb,mT,dL,gP,iZ,mh,lh,j9,gq,dw,nU,fj,nT,nR,nW,nX,mV,nY,nV,gA,d8,fX,cO,eA,ew,cZ,dI,aU,aY]
  |cons y s =>
   obtain⟨_,_,h3⟩:=ej hs;have e:decide ((a.length:Int) < (b.length:Int))=true:=aW (by omega);simp (disch:=omega) only[yA,lt,Op.bytesLess,e,aZ,aP,decide_true,decide_false,nB,bI,bF,cR,jD,nG,jf,ir,jo,jp,iT,aW,bp,db,dH,fP,dA,bi,nQ,nP,bf,eC,fD,gS,d9,eV,dp,fc,bK,gb,mT,dL,gP,iZ,mh,lh,j9,gq,dw,nU,fj,nT,nR,nW,nX,mV,nY,nV,gA,d8,fX,cO,eA,ew,cZ,dI,aU,aY]
 |cons x r ih =>
  intro s k hr hs ha hb;obtain⟨h1,h2,h3⟩:=ej hr;cases s with
  |nil =>
   have h4:=fT hs;refine EP _ _ _ ?_ (.refl _);have e:decide ((a.length:Int) < (b.length:Int))=false:=bp (by omega);simp (disch:=omega) only[yA,lt,Op.bytesLess,e,aZ,aP,decide_true,decide_false,nB,bI,bF,cR,jD,nG,jf,ir,jo,jp,iT,aW,bp,db,dH,fP,dA,bi,nQ,nP,bf,eC,fD,gS,d9,eV,dp,fc,bK,gb,mT,dL,gP,iZ,mh,lh,j9,gq,dw,nU,fj,nT,nR,nW,nX,mV,nY,nV,gA,d8,fX,cO,eA,ew,cZ,dI,aU,aY]
  |cons y s =>
   obtain⟨h4,h5,h6⟩:=ej hs
   by_cases e:x=y
   ·subst e;refine EP _ _ _ (o:=.head 0 (zx a b ((k+1:Nat):Int))) ?_ ?_
    ·simp (disch:=omega) only[yA,cG h1,cG h4,bne_self_eq_false,aZ,aP,decide_true,decide_false,nB,bI,bF,cR,jD,nG,jf,ir,jo,jp,iT,aW,bp,db,dH,fP,dA,bi,nQ,nP,bf,eC,fD,gS,d9,eV,dp,fc,bK,gb,mT,dL,gP,iZ,mh,lh,j9,gq,dw,nU,fj,nT,nR,nW,nX,mV,nY,nV,gA,d8,fX,cO,eA,ew,cZ,dI,aU,aY]
    ·have:=ih s (k+1) h2 h5 (by omega) (by omega);have e:lt (x::r) (x::s)=lt r s:=by simp[lt,Op.bytesLess]
     rw[e];exact this
   ·refine EP _ _ _ ?_ (.refl _)
    have e2:((x.toNat:Int) != (y.toNat:Int))=true:=by
     simp only[bne_iff_ne,ne_eq,Int.natCast_inj];exact fun h=>e (UInt8.toNat_inj.1 h)
    have e3:lt (x::r) (y::s)=decide ((x.toNat:Int) < (y.toNat:Int)):=by
     simp[lt,Op.bytesLess,e,UInt8.lt_iff_toNat_lt]
    simp (disch:=omega) only[yA,cG h1,cG h4,e2,e3,aZ,aP,decide_true,decide_false,nB,bI,bF,cR,jD,nG,jf,ir,jo,jp,iT,aW,bp,db,dH,fP,dA,bi,nQ,nP,bf,eC,fD,gS,d9,eV,dp,fc,bK,gb,mT,dL,gP,iZ,mh,lh,j9,gq,dw,nU,fj,nT,nR,nW,nX,mV,nY,nV,gA,d8,fX,cO,eA,ew,cZ,dI,aU,aY]
theorem kX(a b:Bs)(hl:b.length < 4611686018427387904):bJ aI 35 [.str a,.str b]=aA (.bool (lt a b)) :=
 YC a b rfl (abR a b hl a b 0 rfl rfl (jQ _) (jQ _))
def bg(l:List Bs):List V:=l.map aE
def aS(l:List Int):List V:=l.map (aB .i64)
theorem d7(l:List Bs):(bg l).length=l.length:=by simp[bg]
theorem cy(l:List Int):(aS l).length=l.length:=by simp[aS]
theorem jC{l:List Bs}{n:Nat}{x:Bs}{k:V->R}(h:l[n]? = aA x):bl (bg l) n k=k (.str x):=If h
theorem iq{l:List Int}{n:Nat}{x:Int}{k:V->R}(h:l[n]? = aA x):bl (aS l) n k=k (.int .i64 x):=If h
def ln(l:List Bs):Prop:=l.Pairwise fun p q=>lt p q=aC
def bY(m:List Bs)(k:Bs):Nat:=(m.takeWhile fun p=>lt p k).length
def c9(m:List Bs)(k:Bs):Bool:=match m[bY m k]? with|some p=>p==k|none=>aD
theorem vm(m:List Bs)(k:Bs):bY m k<=m.length:=(List.takeWhile_sublist _).length_le
theorem Ag(p:Bs)(m:List Bs)(k:Bs):bY (p::m) k=if lt p k then bY m k+1 else 0:=by
 unfold bY;rw[List.takeWhile_cons];split<;>simp_all
theorem Dr{m:List Bs}(hs:ln m)(k:Bs):∀{i:Nat} {p:Bs},m[i]? = aA p->(lt p k=aC↔i < bY m k):=by
 induction m with
 |nil=>intro i p h;simp at h
 |cons x m ih =>
  intro i p h;rw[Ag];have hx:=iL.1 hs;cases i with
  |zero =>
   simp at h;subst h;cases hl:lt x k<;>simp
  |succ i =>
   simp at h;have hp:=hx.1 p (dx h);cases hl:lt x k with
   |true =>
    have:=ih hx.2 h;simp only[cZ,this];omega
   |false =>
    simp only[dw,dI];constructor
    ·intro h2;rw[lt_trans hp h2]at hl;cases hl
    ·intro h2;omega
theorem O1{i j:Nat}(h:i+j < 4611686018427387904):W .i64 ((W .u64 (W .i64 ((i:Int)+(j:Int)))).fdiv (2 ^ (min 1 (IntKind.bits .u64))))=((i+j) / 2:Nat):=by
 rw[bf (n:=(i:Int)+(j:Int)) (by omega),lq (by omega)];have e:(2:Int) ^ (min 1 (IntKind.bits .u64))=2:=rfl;rw[e,Ux _ (by omega)];have e2:((i:Int)+(j:Int)) / 2=((i+j) / 2:Nat):=by omega
 rw[e2];exact bf (by omega)
theorem abj(s:Bs):bJ aI 223 [.str s]=aA (.bool aD):=Ym _ (by unfold Hk;simp)
theorem abi(s:Bs):bJ aI 206 [.str s]=aA (.bool aD):=Yg _ (by unfold He;simp)
theorem PQ(a b:Bs):bJ aI 205 [.str a,.str b]=aA (.bool (lt a b)):=by
 refine Ye _ _ ?_;unfold Hd;rw[aN (abj a)];rfl
theorem afJ(m:List Bs)(hs:ln m)(k:Bs)(hl:m.length<=1000000):∀(d i j:Nat),j - i<=d->i<=bY m k->bY m k<=j->j<=m.length ->
  Go qk aD 0 (fF 155) (.head 0 (su (bg m) k m.length i j)) (.done (.tup [.int .i64 (bY m k),.bool (c9 m k)])):=by
 intro d
 induction d with
 |zero =>
  intro i j hd hi hj hn;have e:i=bY m k:=by omega
  refine J5 _ _ _ _ _ ?_ (.refl _);unfold EF;rw[bp (by omega),aP]
  by_cases bd:i < m.length
  ·have h1:m[i]? = aA m[i]:=cj bd;have e2:c9 m k=(m[i]==k):=by unfold c9;rw[<-e,h1]
   rw[<-e,aW (by omega),aZ,aQ (by simp),bi,jC h1,cR,e2];cases hx:m[i]==k with
   |true=>rfl
   |false =>
    rw[aP,aQ (by simp),jC h1,cR,aN (abi _),bI];rfl
  ·have e2:c9 m k=false:=by unfold c9;rw[<-e,rY (by omega)]
   rw[<-e,e2,bp (by omega)];rfl
 |succ d ih =>
  intro i j hd hi hj hn
  by_cases hij:i < j
  ·have hh:=O1 (i:=i) (j:=j) (by omega);generalize hg:(i+j) / 2=h at hh;have hb:i<=h/\h < j:=by omega
   have h1:m[h]? = aA m[h]:=cj (by omega);have hlb:=Dr hs k h1;have w:W .i64 ((h:Int)+1)=((h+1:Nat):Int):=by rw[bf (by omega)];omega
   cases hx:lt m[h] k with
   |true =>
    refine J5 _ _ _ _ _ (o:=.head 0 (su (bg m) k m.length ((h+1:Nat):Int) j)) ?_ (ih (h+1) j (by omega) (by have:=hlb.1 hx;omega) hj hn);unfold EF;rw[aW (by omega),aZ,hh,aQ (by simp),bi,jC h1,cR,aN (PQ _ _),bI,hx,aZ,w]
   |false =>
    have hge:bY m k<=h:=by
     rcases mY h (bY m k)with q|q
     ·rw[hlb.2 q]at hx;cases hx
     ·exact q
    refine J5 _ _ _ _ _ (o:=.head 0 (su (bg m) k m.length i h)) ?_ (ih i h (by omega) hi hge (by omega));unfold EF;rw[aW (by omega),aZ,hh,aQ (by simp),bi,jC h1,cR,aN (PQ _ _),bI,hx,aP]
  ·exact ih i j (by omega) hi hj hn
theorem afK(m:List Bs)(hs:ln m)(k:Bs)(hl:m.length<=1000000):bJ aI 155 [.sl (bg m),.str k]=aA (.tup [.int .i64 (bY m k),.bool (c9 m k)]):=by
 refine Xz _ _ (o:=.head 0 (su (bg m) k m.length ((0:Nat):Int) m.length)) ?_ (afJ m hs k hl _ 0 m.length (c7 _) (jQ _) (vm m k) (c7 _));unfold Nh;rw[d7];rfl
structure bV where
 seps:List Bs
 kids:List Int
 high:Bs
 next:Int
abbrev eI(n:bV):V:=.agg [.sl (bg n.seps),.sl (aS n.kids),.str n.high,.int .i64 n.next]
structure Sm(n:bV):Prop where
 seps:n.seps.length<=1000
 sep:∀s∈n.seps,s.length<=1000
 kids:n.kids.length<=1000
 high:n.high.length<=1000
def cW:List Bs->Nat
 | []=>0
 |s::r=>3+s.length+cW r
theorem TJ:∀{l:List Bs},(∀s∈l,s.length<=1000)->cW l<=1003 * l.length
 | [],_=>c7 _
 |s::r,h=>by
  have h1:=h s (by simp);have h2:=TJ (l:=r) fun x hx=>h x (by simp[hx])
  simp only[cW,dp];omega
def ff(n:bV):Nat:=7+n.high.length+cW n.seps
theorem EZ{n:bV}(h:Sm n):ff n<=1100000:=by
 have h1:=TJ h.sep;have h2:=h.seps;have h3:=h.high;unfold ff;omega
theorem afX(l:List Bs)(hl:l.length<=1000)(hs:∀s∈l,s.length<=1000):∀(r:List Bs) (k a:Nat),l.drop k=r->a<=2000+1003 * k ->
  Go qk aD 0 (fF 163) (.head 0 (wL (a:Int) (bg l) (l.length:Int) (k:Int))) (.done (.int .i64 ((a+cW r:Nat):Int))):=by
 intro r
 induction r with
 |nil =>
  intro k a hr ha;have h1:=fT hr;refine SJ _ _ _ _ ?_ (.refl _);simp (disch:=omega) only[J9,cW,fL,aZ,aP,decide_true,decide_false,nB,bI,bF,cR,jD,nG,jf,ir,jo,jp,iT,aW,bp,db,dH,fP,dA,bi,nQ,nP,bf,eC,fD,gS,d9,eV,dp,fc,bK,gb,mT,dL,gP,iZ,mh,lh,j9,gq,dw,nU,fj,nT,nR,nW,nX,mV,nY,nV,gA,d8,fX,cO,eA,ew,cZ,dI,aU,aY]
 |cons x r ih =>
  intro k a hr ha;obtain⟨h1,h2,h3⟩:=ej hr;have hx:=hs x (dx h1);refine SJ _ _ _ _ (o:=.head 0 (wL ((a+(3+x.length):Nat):Int) (bg l) (l.length:Int) ((k+1:Nat):Int))) ?_ ?_
  ·simp (disch:=omega) only[J9,jC h1,aZ,aP,decide_true,decide_false,nB,bI,bF,cR,jD,nG,jf,ir,jo,jp,iT,aW,bp,db,dH,fP,dA,bi,nQ,nP,bf,eC,fD,gS,d9,eV,dp,fc,bK,gb,mT,dL,gP,iZ,mh,lh,j9,gq,dw,nU,fj,nT,nR,nW,nX,mV,nY,nV,gA,d8,fX,cO,eA,ew,cZ,dI,aU,aY]
  ·have:=ih (k+1) (a+(3+x.length)) h2 (by omega);rw[cW,<-jP a (3+x.length)];exact this
theorem Tz(n:bV)(h:Sm n):bJ aI 163 [eI n]=aA (.int .i64 (ff n:Int)):=by
 have hh:=h.high;refine XI _ _ _ _ (o:=.head 0 (wL ((7+n.high.length:Nat):Int) (bg n.seps) (n.seps.length:Int) ((0:Nat):Int))) ?_ (afX n.seps h.seps h.sep n.seps 0 _ rfl (by omega));simp (disch:=omega) only[Nk,d7,aZ,aP,decide_true,decide_false,nB,bI,bF,cR,jD,nG,jf,ir,jo,jp,iT,aW,bp,db,dH,fP,dA,bi,nQ,nP,bf,eC,fD,gS,d9,eV,dp,fc,bK,gb,mT,dL,gP,iZ,mh,lh,j9,gq,dw,nU,fj,nT,nR,nW,nX,mV,nY,nV,gA,d8,fX,cO,eA,ew,cZ,dI,aU,aY]
theorem afW(n:bV)(h:Sm n):∀(r:List Bs) (k a:Nat),n.seps.drop k=r->a<=2000+1003 * k ->
  Go qk aD 0 (fF 201) (.head 0 (wM (a:Int) (k:Int) (bg n.seps) (aS n.kids) n.high n.next)) (.done (.int .i64 ((a+cW r:Nat):Int))):=by
 intro r;have hl:=h.seps
 induction r with
 |nil =>
  intro k a hr ha;have h1:=fT hr;refine SY _ _ _ _ _ _ ?_ (.refl _);simp (disch:=omega) only[Kh,d7,cW,fL,aZ,aP,decide_true,decide_false,nB,bI,bF,cR,jD,nG,jf,ir,jo,jp,iT,aW,bp,db,dH,fP,dA,bi,nQ,nP,bf,eC,fD,gS,d9,eV,dp,fc,bK,gb,mT,dL,gP,iZ,mh,lh,j9,gq,dw,nU,fj,nT,nR,nW,nX,mV,nY,nV,gA,d8,fX,cO,eA,ew,cZ,dI,aU,aY]
 |cons x r ih =>
  intro k a hr ha;obtain⟨h1,h2,h3⟩:=ej hr;have hx:=h.sep x (dx h1);refine SY _ _ _ _ _ _ (o:=.head 0 (wM ((a+3+x.length:Nat):Int) ((k+1:Nat):Int) (bg n.seps) (aS n.kids) n.high n.next)) ?_ ?_
  ·simp (disch:=omega) only[Kh,jC h1,d7,aZ,aP,decide_true,decide_false,nB,bI,bF,cR,jD,nG,jf,ir,jo,jp,iT,aW,bp,db,dH,fP,dA,bi,nQ,nP,bf,eC,fD,gS,d9,eV,dp,fc,bK,gb,mT,dL,gP,iZ,mh,lh,j9,gq,dw,nU,fj,nT,nR,nW,nX,mV,nY,nV,gA,d8,fX,cO,eA,ew,cZ,dI,aU,aY]
  ·have:=ih (k+1) (a+3+x.length) h2 (by omega);rw[cW,show a+(3+x.length+cW r)=a+3+x.length+cW r by omega];exact this
theorem Ty(n:bV)(h:Sm n):bJ aI 201 [eI n]=aA (.int .i64 (ff n:Int)):=by
 have hh:=h.high;refine X8 _ _ _ _ (o:=.head 0 (wM ((7+n.high.length:Nat):Int) ((0:Nat):Int) (bg n.seps) (aS n.kids) n.high n.next)) ?_ (afW n h n.seps 0 _ rfl (by omega));simp (disch:=omega) only[Ns,d7,aZ,aP,decide_true,decide_false,nB,bI,bF,cR,jD,nG,jf,ir,jo,jp,iT,aW,bp,db,dH,fP,dA,bi,nQ,nP,bf,eC,fD,gS,d9,eV,dp,fc,bK,gb,mT,dL,gP,iZ,mh,lh,j9,gq,dw,nU,fj,nT,nR,nW,nX,mV,nY,nV,gA,d8,fX,cO,eA,ew,cZ,dI,aU,aY]
def d6(n:Int):Bool:=decide (0<=n) && decide (n < 1024)
theorem AB(n:Int):bJ aI 203 [.int .i64 n]=aA (.bool (d6 n)):=by
 refine Ya _ ?_;unfold Hb d6
 by_cases h:0<=n
 ·rw[aW h];rfl
 ·rw[bp h];rfl
theorem IW(n:Int):bJ aI 200 [.int .i64 n]=aA (.bool (d6 n)):=by
 refine X6 _ ?_;unfold Ha d6
 by_cases h:0<=n
 ·rw[aW h,lW.2 (show n<=1023↔n < 1024 by omega)];rfl
 ·rw[bp h];rfl
def jV(n:bV):Bool:=decide (16+7+cW n.seps<=252)
theorem Oy(n:bV)(h:Sm n):bJ aI 204 [eI n]=aA (.bool (jV n)):=by
 refine Yc _ _ _ _ ?_;have h1:=EZ h;have h2:=h.high;unfold Hc;rw[aN (Tz n h),bF,bf (n:=(ff n:Int) - (n.high.length:Int)) (by omega),bf (by omega)];unfold jV;rw[lW.2 (show(ff n:Int) - (n.high.length:Int)+16<=252↔16+7+cW n.seps<=252 by unfold ff;omega)]
def eY(p:Bs):List Bs->Bool
 | []=>aC
 |s::r=>cg s && lt p s && eY s r
def gk(p:Bs)(high:Bs):Bool:=high==[] ||cg high && lt p high
def qR(n:bV):Bool:=decide (0<=n.next) && decide (n.next<=1024) && jV n
def bZ(n:bV):Bool:=decide (n.kids.length=n.seps.length+1) && n.kids.all d6 && eY [] n.seps && gk (n.seps.getLastD []) n.high && qR n
abbrev eT(p:Bs × Int):V:=.tup [.str p.1,.int .i64 p.2]
theorem L9(a:List Bs)(b:List Int):((List.zipWith (fun x y=>[x,y]) (bg a) (aS b)).map aT)=(a.zip b).map eT:=by
 induction a generalizing b with
 |nil=>rfl
 |cons x a ih =>
  cases b with
  |nil=>rfl
  |cons y b =>
   have:=ih b;simp only[bg,aS,d8,List.zipWith_cons_cons,FP]at this |-
   rw[this]
def oV(n:bV):Bs->List (Bs × Int)->Bool
 |p,[]=>gk p n.high && qR n
 |p,(s,k)::r=>cg s && lt p s && d6 k && oV n s r
theorem aeC(n:bV)(h:Sm n):∀(l:List (Bs × Int)) (p:Bs),
  Go qk aD 0 (fF 154) (.head 0 (zq (l.map eT) (bg n.seps) (aS n.kids) n.high n.next p)) (.done (.bool (oV n p l))):=by
 intro l
 induction l with
 |nil =>
  intro p;refine AZ _ _ _ _ _ _ ?_ (.refl _);unfold EE;simp only[fX,md,aN (Oy n h),bI,aN (lC n.high),oV,gk,qR];cases n.high==[]with
  |true =>
   by_cases h1:0<=n.next
   ·rw[aW h1];cases decide (n.next<=1024)<;>rfl
   ·rw[bp h1];rfl
  |false =>
   cases cg n.high with
   |false=>rfl
   |true =>
    show(cond (lt p n.high) _ _)=_;cases lt p n.high with
    |false=>rfl
    |true =>
     by_cases h1:0<=n.next
     ·rw[aW h1];cases decide (n.next<=1024)<;>rfl
     ·rw[bp h1];rfl
 |cons x l ih =>
  obtain⟨s,k⟩:=x;intro p
  have e0:EE (((s,k)::l).map eT) (bg n.seps) (aS n.kids) n.high n.next p=cond (!cg s) (aA (.done (bc aD))) (cond (Op.bytesLess s p ||s==p) (aA (.done (bc aD))) (cond (!d6 k) (aA (.done (bc aD))) (aA (.head 0 (zq (l.map eT) (bg n.seps) (aS n.kids) n.high n.next s))))):=by
   unfold EE;simp only[d8,md,jf,jo,cR,bF,jp,aN (lC s),bI,aN (AB k)]
  rw[Iv s p]at e0;cases h1:cg s with
  |false =>
   refine AZ _ _ _ _ _ _ (e0.trans ?_) (.refl _);rw[h1,oV,h1];rfl
  |true =>
   rw[h1]at e0;cases h2:lt p s with
   |false =>
    refine AZ _ _ _ _ _ _ (e0.trans ?_) (.refl _);rw[h2,oV,h1,h2];rfl
   |true =>
    rw[h2]at e0;cases h3:d6 k with
    |false =>
     refine AZ _ _ _ _ _ _ (e0.trans ?_) (.refl _);rw[h3,oV,h1,h2,h3];rfl
    |true =>
     rw[h3]at e0;refine AZ _ _ _ _ _ _ e0 ?_;rw[oV,h1,h2,h3];exact ih s
theorem Ut(n:bV):∀(a:List Bs) (b:List Int) (p:Bs),b.length=a.length->oV n p (a.zip b)=(b.all d6 && eY p a && gk (a.getLastD p) n.high && qR n)
 | [],b,p,h=>by
  have:b=[]:=by simpa using h
  subst this;simp[oV,eY]
 |s::a,[],p,h=>by simp at h
 |s::a,k::b,p,h=>by
  have ih:=Ut n a b s (by simpa using h)
  have e:(s::a).getLastD p=a.getLastD s:=by
   cases a with
   |nil=>rfl
   |cons y a=>simp[y5]
  rw[FP,oV,ih,e,eY,oY];cases cg s<;>cases lt p s<;>cases d6 k<;>cases b.all d6<;>rfl
theorem TH(l:List Bs):(bg l).all fq=true:=by simp[bg,fq]
theorem Po(l:List Int):(aS l).all fq=true:=by simp[aS,fq]
theorem mS(l:List Int):cw 1 (aS l)=true:=K2 fun _=>rfl
theorem yT(l:List Bs):cw 1 (bg l)=true:=K2 fun _=>rfl
theorem yp(n:bV)(h:Sm n):bJ aI 154 [eI n]=aA (.bool (bZ n)):=by
 have hl:=h.seps;have hk:=h.kids;have w:W .i64 ((n.seps.length:Int)+1)=((n.seps.length+1:Nat):Int):=by rw[bf (by omega)];omega
 by_cases h1:n.kids.length=n.seps.length+1
 ·cases hn:n.kids with
  |nil=>rw[hn]at h1;simp at h1
  |cons k ks =>
   have h0:n.kids[0]? = aA k:=by rw[hn];rfl
   have hd:n.kids.drop 1=ks:=by rw[hn];rfl
   cases hp:d6 k with
   |false =>
    refine GV _ _ _ _ ?_ (.refl _);unfold CK;rw[d7,cy,w,dA (by omega),aP,iq h0,bF,aN (AB k),bI,hp]
    have:bZ n=false:=by
     unfold bZ;rw[hn,oY,hp];cases decide ((k::ks).length=n.seps.length+1)<;>rfl
    rw[this];rfl
   |true =>
    have hz:=Ut n n.seps ks [] (by rw[hn]at h1;simpa using h1)
    have e1:oV n [] (n.seps.zip ks)=bZ n:=by
     rw[hz];unfold bZ;rw[aW h1,hn,oY,hp];rfl
    rw[<-e1];refine GV _ _ _ _ ?_ (aeC n h (n.seps.zip ks) []);unfold CK;have e2:((aS n.kids).take (aS n.kids).length).drop 1=aS ks:=by rw[iM,hn];rfl
    rw[dA (by rw[d7,cy,w];omega),aP,iq h0,bF,aN (AB k),bI,hp,bK,aP,aQ (mS _),aQ (by rw[cy,hn];simp),e2];simp only[wV,aU (show(bg n.seps).length<=16777216/\(bg n.seps).all fq=aC/\(aS ks).all fq=aC from⟨by rw[d7];omega,TH _,Po _⟩),iT,L9]
 ·refine GV _ _ _ _ ?_ (.refl _);unfold CK;have:bZ n=false:=by unfold bZ;rw[bp h1];rfl
  rw[d7,cy,w,fP (by omega),this];rfl
def tS(high p:Bs):List Bs->Bool
 | []=>aC
 |s::r=>cg s && lt p s && (high==[] ||lt s high) && tS high s r
def xf(n:bV):Bool:=decide (n.kids.length=n.seps.length+1) && decide (n.high.length<=16) && decide (0<=n.next) && decide (n.next<=1024) && jV n
theorem aey(n:bV)(h:Sm n)(k:Nat)(hk:n.seps.length<=k):A3 (k:Int) (bg n.seps) (aS n.kids) n.high n.next=aA (.done (.bool (xf n))):=by
 have h1:=EZ h;have h2:=h.high;have hl:=h.seps;have w:W .i64 ((n.seps.length:Int)+1)=((n.seps.length+1:Nat):Int):=by rw[bf (by omega)];omega
 unfold A3;rw[bp (by rw[d7];omega),aP,d7,cy,w];unfold xf
 by_cases h1:n.kids.length=n.seps.length+1
 ·rw[aW h1,db (by omega),aZ,dL,lW.2 (show((n.high.length:Int)<=16)↔(n.high.length<=16) by omega)];cases decide (n.high.length<=16)with
  |false=>rfl
  |true =>
   rw[aZ,dL,lW.2 (show(n.next ≥ 0)↔(0<=n.next) by omega)];cases decide (0<=n.next)with
   |false=>rfl
   |true =>
    rw[aZ,dL];cases decide (n.next<=1024)with
    |false=>rfl
    |true =>
     rw[aZ,dL,aN (Ty n h),bF,bf (by omega)];unfold jV;rw[lW.2 (show(ff n:Int) - (n.high.length:Int)<=236↔16+7+cW n.seps<=252 by unfold ff;omega)]
 ·rw[bp h1,dH (by omega)];rfl
theorem qV{s:Bs}(h:cg s=aC):lt [] s=true:=by
 cases s with
 |nil=>cases h
 |cons c s=>rfl
theorem aeB(n:bV)(h:Sm n):∀(r:List Bs) (k:Nat) (p:Bs),n.seps.drop k=r->(k=0->p=[])->(0 < k->n.seps[k - 1]? = aA p) ->
  Go qk aD 0 (fF 196) (.head 1 (m7 (k:Int) (bg n.seps) (aS n.kids) n.high n.next)) (.done (.bool (tS n.high p r && xf n))):=by
 intro r;have hl:=h.seps;have hh:=h.high
 induction r with
 |nil =>
  intro k p hr _ _;have h1:=fT hr;exact Kf _ _ _ _ _ (aey n h k h1) (.refl _)
 |cons s r ih =>
  intro k p hr hp0 hp1;obtain⟨h1,h2,h3⟩:=ej hr;have hsl:=h.sep s (dx h1);have w:W .i64 ((k:Int)+1)=((k+1:Nat):Int):=by rw[bf (by omega)];omega
  have ih':=ih (k+1) s h2 (by omega) (fun _=>by simpa using h1)
  have tail:cond (!(n.high==[])) (gd (decide (0<=(k:Int)))<|bl (bg n.seps) ((k:Int)).toNat fun v=>kS v fun s_3=>aL aI 35 [aE s_3,aE n.high] fun r_2=>kB r_2 fun r34_1=>cond (!r34_1) (aA (.done (bc aD))) (aA (.head 1 (m7 (W .i64 ((k:Int)+1)) (bg n.seps) (aS n.kids) n.high n.next))))
    (aA (.head 1 (m7 (W .i64 ((k:Int)+1)) (bg n.seps) (aS n.kids) n.high n.next)))=cond (n.high==[] ||lt s n.high) (aA (.head 1 (m7 ((k+1:Nat):Int) (bg n.seps) (aS n.kids) n.high n.next))) (aA (.done (bc aD))):=by
   rw[w];cases n.high==[]with
   |true=>rfl
   |false =>
    rw[aQ (by simp),bi,jC h1,cR,aN (kX s n.high (by omega)),bI];cases lt s n.high<;>rfl
  have e0:A3 (k:Int) (bg n.seps) (aS n.kids) n.high n.next=cond (cg s && lt p s && (n.high==[] ||lt s n.high)) (aA (.head 1 (m7 ((k+1:Nat):Int) (bg n.seps) (aS n.kids) n.high n.next))) (aA (.done (bc aD))):=by
   unfold A3;rw[aW (by rw[d7];omega),aZ,aQ (by simp)];rw[bi,jC h1,cR,aN (kq s),bI];cases hk:cg s with
   |false=>rfl
   |true =>
    rw[bK,aP,dL]
    by_cases hk0:k=0
    ·rw[hp0 hk0,qV hk,dL,<-tail];rw[bp (show ¬(k:Int) > 0 by omega),aP,bi]
    ·have h4:=hp1 (by omega);have w1:W .i64 ((k:Int) - 1)=((k - 1:Nat):Int):=by rw[bf (by omega)];omega
     rw[aW (show(k:Int) > 0 by omega),aZ,w1,aQ (by simp),bi,jC h4,cR,aQ (by simp),jC h1,cR,aN (kX p s (by omega)),bI];cases lt p s with
     |false=>rfl
     |true =>
      rw[bK,aP,dL,<-tail,bi]
  rw[tS];cases hc:(cg s && lt p s && (n.high==[] ||lt s n.high))with
  |false =>
   rw[hc]at e0;exact Kf _ _ _ _ _ e0 (.refl _)
  |true =>
   rw[hc]at e0;exact Kf _ _ _ _ _ e0 ih'
theorem aeA(n:bV)(h:Sm n):∀(r:List Int) (k:Nat),n.kids.drop k=r ->
  Go qk aD 0 (fF 196) (.head 0 (zu (k:Int) (bg n.seps) (aS n.kids) n.high n.next)) (.done (.bool (r.all d6 && (tS n.high [] n.seps && xf n)))):=by
 intro r;have hl:=h.kids
 induction r with
 |nil =>
  intro k hr;have h1:=fT hr;refine Ke _ _ _ _ _ (o:=.head 1 (m7 ((0:Nat):Int) (bg n.seps) (aS n.kids) n.high n.next)) ?_ (aeB n h n.seps 0 [] rfl (fun _=>rfl) (fun h=>by omega));unfold EI;rw[bp (by rw[cy];omega)];rfl
 |cons x r ih =>
  intro k hr;obtain⟨h1,h2,h3⟩:=ej hr;have w:W .i64 ((k:Int)+1)=((k+1:Nat):Int):=by rw[bf (by omega)];omega
  have e0:EI (k:Int) (bg n.seps) (aS n.kids) n.high n.next=cond (d6 x) (aA (.head 0 (zu ((k+1:Nat):Int) (bg n.seps) (aS n.kids) n.high n.next))) (aA (.done (bc aD))):=by
   unfold EI;rw[aW (by rw[cy];omega),aZ,aQ (by simp),bi,iq h1,bF,aN (IW x),bI,w];cases d6 x<;>rfl
  rw[oY];cases hx:d6 x with
  |false=>rw[hx]at e0;exact Ke _ _ _ _ _ e0 (.refl _)
  |true=>rw[hx]at e0;exact Ke _ _ _ _ _ e0 (ih (k+1) h2)
theorem RG(high:Bs):∀(l:List Bs) (p:Bs),tS high p l=(eY p l && (high==[] ||l.all fun s=>lt s high))
 | [],p=>by simp[tS,eY]
 |s::r,p=>by
  rw[tS,RG high r s,eY,oY];cases cg s<;>cases lt p s<;>cases high==[]<;>cases lt s high<;>cases eY s r<;>rfl
theorem RL(high:Bs):∀(l:List Bs) (p:Bs),eY p l=aC->lt (l.getLastD p) high=aC->lt p high=aC/\(l.all fun s=>lt s high)=aC
 | [],p,_,h=>⟨h,rfl⟩
 |s::r,p,h,hl=>by
  have e:(s::r).getLastD p=r.getLastD s:=by
   cases r with
   |nil=>rfl
   |cons y r=>simp[y5]
  rw[e]at hl;simp only[eY,co]at h;obtain⟨h1,h2⟩:=RL high r s h.2 hl;exact⟨lt_trans h.1.2 h1,by rw[oY,h1,h2];rfl⟩
theorem PF(high:Bs):∀(l:List Bs) (p:Bs),lt p high=aC->(l.all fun s=>lt s high)=aC->lt (l.getLastD p) high=aC
 | [],p,h,_=>h
 |s::r,p,h,hl=>by
  have e:(s::r).getLastD p=r.getLastD s:=by
   cases r with
   |nil=>rfl
   |cons y r=>simp[y5]
  rw[e];simp only[oY,co]at hl;exact PF high r s hl.1 hl.2
theorem aez(n:bV):(n.kids.all d6 && (tS n.high [] n.seps && xf n))=bZ n:=by
 unfold bZ xf qR gk;rw[RG];cases hr:eY [] n.seps with
 |false=>cases decide (n.kids.length=n.seps.length+1)<;>cases n.kids.all d6<;>rfl
 |true =>
  cases hh:n.high==[]with
  |true =>
   have:n.high=[]:=by simpa using hh
   rw[this];cases decide (n.kids.length=n.seps.length+1)<;>cases n.kids.all d6<;>cases decide (0<=n.next)<;>cases decide (n.next<=1024)<;>cases jV n<;>rfl
  |false =>
   have hk:cg n.high=decide (n.high.length<=16):=by unfold cg;rw[hh];rfl
   have hl:(n.seps.all fun s=>lt s n.high)=lt (n.seps.getLastD []) n.high:=by
    have h0:lt [] n.high=true:=by
     cases hq:n.high with
     |nil=>rw[hq]at hh;cases hh
     |cons c s=>rfl
    cases h1:lt (n.seps.getLastD []) n.high with
    |true=>exact(RL _ _ _ hr h1).2
    |false =>
     cases h2:(n.seps.all fun s=>lt s n.high)with
     |false=>rfl
     |true=>rw[PF _ _ _ h0 h2]at h1;cases h1
   rw[hk,hl];cases decide (n.kids.length=n.seps.length+1)<;>cases n.kids.all d6<;>cases decide (n.high.length<=16)<;>cases lt (n.seps.getLastD []) n.high<;>cases decide (0<=n.next)<;>cases decide (n.next<=1024)<;>cases jV n<;>rfl
theorem qb(n:bV)(h:Sm n):bJ aI 196 [eI n]=aA (.bool (bZ n)):=by
 rw[<-aez];exact X0 _ _ _ _ (by simp (disch:=omega) only[Nq,mV,aZ,aP,decide_true,decide_false,nB,bI,bF,cR,jD,nG,jf,ir,jo,jp,iT,aW,bp,db,dH,fP,dA,bi,nQ,nP,bf,eC,fD,gS,d9,eV,dp,fc,bK,gb,mT,dL,gP,iZ,mh,lh,j9,gq,dw,nU,fj,nT,nR,nW,nX,mV,nY,nV,gA,d8,fX,cO,eA,ew,cZ,dI,aU,aY]) (aeA n h n.kids 0 rfl)
theorem RN:∀(l:List Bs) (p:Bs),eY p l=aC->(∀s∈l,lt p s=aC)/\ln l
 | [],p,_=>⟨fun s h=>by simp at h,List.Pairwise.nil⟩
 |s::r,p,h=>by
  simp only[eY,co]at h;obtain⟨h1,h2⟩:=RN r s h.2;refine⟨fun x hx=>?_,iL.2 ⟨h1,h2⟩⟩;rcases dE.1 hx with rfl|hx
  ·exact h.1.2
  ·exact lt_trans h.1.2 (h1 x hx)
theorem aeD{n:bV}(h:bZ n=aC):ln n.seps:=by
 unfold bZ at h;simp only[co]at h;exact(RN _ _ h.1.1.2).2
def fS(l:List Bs)(key:Bs):Nat:=(l.takeWhile fun s=>!(lt key s)).length
theorem F3(l:List Bs)(key:Bs):fS l key<=l.length:=(List.takeWhile_sublist _).length_le
theorem sE(s:Bs)(l:List Bs)(key:Bs):fS (s::l) key=if lt key s then 0 else fS l key+1:=by
 unfold fS;rw[List.takeWhile_cons];cases lt key s<;>simp
theorem abI{l:List Bs}(h:ln l)(key:Bs):fS l key=bY l key+(if c9 l key then 1 else 0):=by
 induction l with
 |nil=>rfl
 |cons s l ih =>
  have hx:=iL.1 h;have ih:=ih hx.2;rw[sE,Ag];cases h1:lt s key with
  |true =>
   rw[nI h1]
   have e:c9 (s::l) key=c9 l key:=by
    unfold c9;rw[Ag,h1];rfl
   rw[e,ih];simp;omega
  |false =>
   have e:c9 (s::l) key=(s==key):=by
    unfold c9;rw[Ag,h1];rfl
   rw[e]
   by_cases hk:s=key
   ·subst hk;rw[lE]
    have:fS l s=0:=by
     cases l with
     |nil=>rfl
     |cons y l=>rw[sE,hx.1 y (by simp)];rfl
    simp[this]
   ·rw[nJ h1 hk];simp[hk]
def jB(n:bV)(key:Bs):Int × Int :=
 if bZ n && cg key && (n.high==[] ||lt key n.high) then ((fS n.seps key:Nat),0) else (0,1)
theorem Ov(n:bV)(key:Bs)(h:Sm n):bJ aI 114 [eI n,.str key]=aA (.tup [.int .i64 (jB n key).1,.int .i64 (jB n key).2]):=by
 refine WV _ _ _ _ _ ?_;have hl:=h.seps;unfold GF jB;rw[aN (yp n h),bI];cases hr:bZ n with
 |false=>rfl
 |true =>
  rw[bK,aP,aN (lC key),bI];cases cg key with
  |false=>rfl
  |true =>
   rw[bK,aP,dL,dL];have hs:=aeD hr;have hle:=vm n.seps key;have w:W .i64 ((bY n.seps key:Int)+1)=((bY n.seps key+1:Nat):Int):=by rw[bf (by omega)];omega
   have e1:=abI hs key
   have fin:(aL aI 155 [aG (bg n.seps),aE key] fun r_3=>lu r_3 fun a b=>cond b (aA (.done (aT [aB .i64 (W .i64 (a+1)),aB .i64 0]))) (aA (.done (aT [aB .i64 a,aB .i64 0]))))=aA (.done (.tup [.int .i64 (fS n.seps key:Nat),.int .i64 0])):=by
    rw[aN (afK n.seps hs key (by omega)),sN,e1];cases c9 n.seps key with
    |false=>rfl
    |true=>rw[w];rfl
   cases hh:n.high==[]with
   |true =>
    rw[bK,aP,lh,fin];rfl
   |false =>
    rw[gb,aZ,gq];show cond (!(lt key n.high)) _ _=_;cases lt key n.high with
    |false=>rfl
    |true =>
     rw[bK,aP,fin];rfl
theorem ZT(n:bV)(h:Sm n)(key:Bs):∀(r:List Bs) (k:Nat),n.seps.drop k=r ->
  Go qk aD 0 (fF 145) (.head 0 (wI key (k:Int) (bg n.seps) (aS n.kids) n.high n.next)) (.done (.tup [.int .i64 ((k+fS r key:Nat):Int),.int .i64 0])):=by
 intro r;have hl:=h.seps
 induction r with
 |nil =>
  intro k hr;have h1:=fT hr;refine J0 _ _ _ _ _ _ ?_ (.refl _);unfold EA;rw[bp (by rw[d7];omega)];rfl
 |cons s r ih =>
  intro k hr;obtain⟨h1,h2,h3⟩:=ej hr;have hsl:=h.sep s (dx h1);have w:W .i64 ((k:Int)+1)=((k+1:Nat):Int):=by rw[bf (by omega)];omega
  have e0:EA key (k:Int) (bg n.seps) (aS n.kids) n.high n.next=cond (!(lt key s)) (aA (.head 0 (wI key ((k+1:Nat):Int) (bg n.seps) (aS n.kids) n.high n.next))) (aA (.done (.tup [.int .i64 (k:Int),.int .i64 0]))):=by
   unfold EA;rw[aW (by rw[d7];omega),aZ,aQ (by simp),bi,jC h1,cR,aN (kX key s (by omega)),bI,w]
  rw[sE];cases hx:lt key s with
  |true =>
   rw[hx]at e0;exact J0 _ _ _ _ _ _ e0 (.refl _)
  |false =>
   rw[hx]at e0;refine J0 _ _ _ _ _ _ e0 ?_;have:=ih (k+1) h2;rw[show k+1+fS r key=k+(if aD=aC then 0 else fS r key+1) by simp;omega]at this;exact this
theorem Oo(n:bV)(key:Bs)(h:Sm n)(hk:key.length<=1000):bJ aI 145 [eI n,.str key]=aA (.tup [.int .i64 (jB n key).1,.int .i64 (jB n key).2]):=by
 have hh:=h.high;have hloop:=ZT n h key n.seps 0 rfl;rw[fY]at hloop;unfold jB;cases hr:bZ n with
 |false =>
  refine zR _ _ _ _ _ ?_ (.refl _);unfold w9;rw[aN (qb n h),bI,hr];rfl
 |true =>
  cases hkb:cg key with
  |false =>
   refine zR _ _ _ _ _ ?_ (.refl _);unfold w9;rw[aN (qb n h),bI,hr,bK,aP,aN (kq key),bI,hkb];rfl
  |true =>
   cases hhb:n.high==[]with
   |true =>
    refine zR _ _ _ _ _ ?_ hloop;unfold w9;rw[aN (qb n h),bI,hr,bK,aP,aN (kq key),bI,hkb,bK,aP,hhb];rfl
   |false =>
    cases hlb:lt key n.high with
    |false =>
     refine zR _ _ _ _ _ ?_ (.refl _);unfold w9;rw[aN (qb n h),bI,hr,bK,aP,aN (kq key),bI,hkb,bK,aP,hhb,gb,aZ,aN (kX key n.high (by omega)),bI,hlb];rfl
    |true =>
     refine zR _ _ _ _ _ ?_ hloop;unfold w9;rw[aN (qb n h),bI,hr,bK,aP,aN (kq key),bI,hkb,bK,aP,hhb,gb,aZ,aN (kX key n.high (by omega)),bI,hlb];rfl
abbrev fR(m:Nat):Bs:=dh m 0
theorem ahb(m k:Nat):(fR m).drop k=fR (m - k):=by simp[fR]
theorem QQ(d t:Bs)(m:Nat)(h:t.length<=m):rk (d++fR m) d.length t=d++t++fR (m - t.length):=by
 unfold rk;rw[BC (c7 _),iM,Bq,FI (by omega),eA,show d.length+t.length - d.length=t.length by omega,ahb]
theorem yh(d:Bs)(m k x:Nat)(n kk:Int)(hkk:kk=(k:Int))(hn:n=(d.length:Int))(h1:1<=k)(h8:k<=8)(hm:k<=m)(hx:x < 256 ^ k):vQ (d++fR m) n kk x=(d++cN k x++fR (m - k),0):=by
 subst hkk;unfold vQ;rw[aU (yr (by omega) (by omega) (by omega) (by simp;omega)),bi,aU hx,hn,bi,QQ _ _ _ (by rw[eP];exact hm),eP]
theorem AH(d t:Bs)(m:Nat)(n:Int)(hn:n=(d.length:Int))(hl:t.length<=255)(hm:t.length+1<=m) :
  vR (d++fR m) n t=(d++(UInt8.ofNat t.length::t)++fR (m - (t.length+1)),n+t.length+1,0):=by
 unfold vR;rw[aU (by simp;omega),aY (by omega),aY (by simp;omega),hn,bi,QQ _ _ _ (by simpa using hm)];simp
theorem yi{s t:Bs}{n size e:Int}{x:Nat}(h:vQ s n size x=(t,e))(hx:x < 18446744073709551616)(hs:dk s):bJ aI 161 [.str s,.int .i64 n,.int .i64 size,.int .u64 (x:Int)]=aA (.tup [.str t,.int .i64 e]):=by
 rw[adR s n size x hx hs,h]
theorem AI{s t u:Bs}{n m e:Int}(h:vR s n t=(u,m,e))(hs:dk s)(ht:dk t):bJ aI 162 [.str s,.int .i64 n,.str t]=aA (.tup [.str u,.int .i64 m,.int .i64 e]):=by
 rw[adN s n t hs ht,h]
theorem QV{s t:Bs}{n e:Int}(h:iU s n=(t,e))(hs:dk s):bJ aI 160 [.str s,.int .i64 n]=aA (.tup [.str t,.int .i64 e]):=by
 rw[adt s n hs,h]
abbrev bN(s:Bs):Bs:=UInt8.ofNat s.length::s
def eU:List (Bs × Int)->Bs
 | []=>[]
 |(s,k)::r=>bN s++cN 2 k.toNat++eU r
def xq(n:bV):Bs:=UInt8.ofNat n.seps.length::(cN 2 n.next.toNat++(bN n.high++cN 2 (n.kids.headD 0).toNat))
def mA(n:bV):Bs:=xq n++eU (n.seps.zip n.kids.tail)
def cv(n:bV):Bs:=if bZ n then 78::mA n else []
theorem Ek:∀(a:List Bs) (b:List Int),b.length=a.length->(eU (a.zip b)).length=cW a
 | [],b,h=>by
  have:b=[]:=by simpa using h
  subst this;rfl
 |s::a,[],h=>by simp at h
 |s::a,k::b,h=>by
  have ih:=Ek a b (by simpa using h);rw[FP,eU,cW];simp[eP,ih];omega
theorem k8{n:bV}(h:bZ n=aC):n.kids.length=n.seps.length+1/\(∀k∈n.kids,d6 k=aC)/\(∀s∈n.seps,cg s=aC)/\n.high.length<=16/\0<=n.next/\n.next<=1024/\23+cW n.seps<=252:=by
 have h2:∀(l:List Bs) (p:Bs),eY p l=aC->∀s∈l,cg s=true:=by
  intro l
  induction l with
  |nil=>intro p _ s hs;simp at hs
  |cons x l ih =>
   intro p hp s hs;simp only[eY,co]at hp;rcases dE.1 hs with rfl|hs
   ·exact hp.1.1
   ·exact ih _ hp.2 s hs
 unfold bZ qR jV gk at h;simp only[co,iR,nS,iN,eJ]at h;obtain⟨⟨⟨⟨h1,hk⟩,hr⟩,hh⟩,⟨hn1,hn2⟩,hf⟩:=h;refine⟨h1,hk,h2 _ _ hr,?_,hn1,hn2,by omega⟩;rcases hh with hh|⟨hh,_⟩
 ·rw[hh];simp
 ·unfold cg at hh;simp only[co,iR]at hh;exact hh.2
theorem fm{s:Bs}(h:cg s=aC):1<=s.length/\s.length<=16:=by
 unfold cg at h;simp only[co,iR,kE,beq_eq_false_iff_ne]at h;refine⟨?_,h.2⟩;cases s with
 |nil=>exact(h.1 rfl).elim
 |cons c s=>simp
theorem rp{k:Int}(h:d6 k=aC):0<=k/\k < 1024:=by
 unfold d6 at h;simpa using h
theorem oR:∀{l:List Bs},(∀s∈l,cg s=aC)->4 * l.length<=cW l
 | [],_=>c7 _
 |s::r,h=>by
  have h1:=(fm (h s (by simp))).1;have h2:=oR (l:=r) fun x hx=>h x (by simp[hx])
  simp only[cW,dp];omega
theorem gF{n:bV}(h:bZ n=aC):Sm n:=by
 obtain⟨h1,h2,h3,h4,h5,h6,h7⟩:=k8 h;have:=oR h3;exact⟨by omega,fun s hs=>by have:=(fm (h3 s hs)).2;omega,by omega,by omega⟩
theorem uV{n:bV}(h:bZ n=aC):(cv n).length=ff n:=by
 obtain⟨h1,_⟩:=k8 h;unfold cv mA xq ff;rw[aU h];have:=Ek n.seps n.kids.tail (by simp;omega);simp[eP,this];omega
theorem Zy:∀(l:List (Bs × Int)) (d:Bs),(∀x∈l,x.1.length<=255/\d6 x.2=aC)->d.length+(eU l).length<=100000 ->
  Go qk aD 0 (fF 121) (.head 0 (zh (l.map eT) (d++fR (eU l).length) (d.length:Int))) (.done (.str (d++eU l))):=by
 intro l
 induction l with
 |nil =>
  intro d _ _;refine Sz _ _ _ ?_ (.refl _);unfold JW;simp[md,eU]
 |cons x l ih =>
  obtain⟨s,k⟩:=x;intro d h hd;obtain⟨hs,hk⟩:=h (s,k) (by simp);simp only at hs hk;have hk2:=rp hk;obtain⟨kn,rfl⟩:∃kn:Nat,k=(kn:Int):=⟨k.toNat,by omega⟩
  have hlen:(eU ((s,(kn:Int))::l)).length=s.length+1+2+(eU l).length:=by
   rw[eU];simp[eP];omega
  rw[hlen]at hd |-
  have e1:=AH d s (s.length+1+2+(eU l).length) (d.length:Int) rfl hs (by omega);have e2:=yh (d++bN s) (2+(eU l).length) 2 kn ((d.length:Int)+s.length+1) 2 rfl (by simp;omega) (by omega) (by omega) (by omega) (by omega);rw[show s.length+1+2+(eU l).length - (s.length+1)=2+(eU l).length by omega]at e1;rw[show 2+(eU l).length - 2=(eU l).length by omega]at e2;have w:W .u64 (kn:Int)=(kn:Int):=lq (by omega)
  have w2:W .i64 ((d.length:Int)+s.length+1+2)=(((d++bN s++cN 2 kn).length:Nat):Int):=by
   rw[bf (by omega)];simp[eP];omega
  refine Sz _ _ _ (o:=.head 0 (zh (l.map eT) (d++bN s++cN 2 kn++fR (eU l).length) (((d++bN s++cN 2 kn).length:Nat):Int))) ?_ ?_
  ·unfold JW;simp only[d8,md,jf,jo,cR,bF,jp];rw[aN (AI e1 (by simp[dk];omega) (by simp only[dk];omega)),d5,w,aN (yi e2 (by omega) (by simp[dk];omega)),jA,w2]
  ·have:=ih (d++bN s++cN 2 kn) (fun x hx=>h x (by simp[hx])) (by simp[eP];omega);rw[eU,bi];simpa[cO]using this
theorem K4{n:bV}(h:bZ n=aC):∀x∈n.seps.zip n.kids.tail,x.1.length<=255/\d6 x.2=true:=by
 obtain⟨h1,h2,h3,_⟩:=k8 h;intro x hx;have hz:=List.of_mem_zip hx;have:=(fm (h3 _ hz.1)).2;exact⟨by omega,h2 _ (List.mem_of_mem_tail hz.2)⟩
theorem Zz(n:bV)(h:Sm n):bJ aI 121 [eI n]=aA (.str (cv n)):=by
 cases hr:bZ n with
 |false =>
  refine MZ _ _ _ _ ?_ (.refl _);unfold GJ cv;rw[aN (yp n h),bI,hr];rfl
 |true =>
  obtain⟨h1,h2,h3,h4,h5,h6,h7⟩:=k8 hr;have hg:=oR h3
  obtain⟨k,ks,hks⟩:∃k ks,n.kids=k::ks:=by
   cases hk:n.kids with
   |nil=>rw[hk]at h1;simp at h1
   |cons k ks=>exact⟨k,ks,rfl⟩
  have hk:=rp (h2 k (by rw[hks];simp));obtain⟨kn,rfl⟩:∃kn:Nat,k=(kn:Int):=⟨k.toNat,by omega⟩
  obtain⟨nn,hnn⟩:∃nn:Nat,n.next=(nn:Int):=⟨n.next.toNat,by omega⟩
  have hkl:ks.length=n.seps.length:=by rw[hks]at h1;simpa using h1
  have hrl:=Ek n.seps ks hkl;obtain⟨R,hR⟩:∃R,R=eU (n.seps.zip ks):=⟨_,rfl⟩
  have hRl:R.length=cW n.seps:=by rw[hR,hrl]
  obtain⟨c,hc⟩:∃c:UInt8,c=UInt8.ofNat n.seps.length:=⟨_,rfl⟩
  have e0:iU [78] ((ff n:Nat):Int)=([78]++fR (1+(2+(n.high.length+1+(2+R.length)))),0):=by
   have hz:ff n=1+(1+(2+(n.high.length+1+(2+R.length)))):=by unfold ff;omega
   unfold iU;rw[aY (by omega),aY (by simp;omega),bi,hz];congr 3;simp
  have e1:=yh [78] (1+(2+(n.high.length+1+(2+R.length)))) 1 n.seps.length 1 1 rfl rfl (by omega) (by omega) (by omega) (by omega)
  have f1:cN 1 n.seps.length=[c]:=by
   rw[hc];show [UInt8.ofNat (n.seps.length % 256)]=_;rw[FQ (by omega)]
  rw[f1,show 1+(2+(n.high.length+1+(2+R.length))) - 1=2+(n.high.length+1+(2+R.length)) by omega]at e1;have e2:=yh ([78]++[c]) (2+(n.high.length+1+(2+R.length))) 2 nn 2 2 rfl rfl (by omega) (by omega) (by omega) (by omega);rw[show 2+(n.high.length+1+(2+R.length)) - 2=n.high.length+1+(2+R.length) by omega]at e2;have e3:=AH ([78]++[c]++cN 2 nn) n.high (n.high.length+1+(2+R.length)) 4 (by simp[eP]) (by omega) (by omega);rw[show n.high.length+1+(2+R.length) - (n.high.length+1)=2+R.length by omega]at e3;have e4:=yh ([78]++[c]++cN 2 nn++bN n.high) (2+R.length) 2 kn (4+n.high.length+1) 2 rfl (by simp[eP];omega) (by omega) (by omega) (by omega) (by omega);rw[show 2+R.length - 2=R.length by omega]at e4;have hd:([78]++[c]++cN 2 nn++bN n.high++cN 2 kn).length=4+n.high.length+1+2:=by simp[eP];omega
  have hm:∀x∈n.seps.zip ks,x.1.length<=255/\d6 x.2=true:=by
   have:=K4 hr;rw[hks]at this;exact this
  have hl:=Zy (n.seps.zip ks) ([78]++[c]++cN 2 nn++bN n.high++cN 2 kn) hm (by rw[hd,<-hR];omega)
  have hfin:[78]++[c]++cN 2 nn++bN n.high++cN 2 kn++eU (n.seps.zip ks)=cv n:=by
   unfold cv mA xq;rw[aU hr,hks,hnn,hc];simp
  rw[hfin,<-hR]at hl;have w0:W .u64 (n.seps.length:Int)=(n.seps.length:Int):=lq (by omega);have w1:W .u64 (nn:Int)=(nn:Int):=lq (by omega);have w2:W .u64 (kn:Int)=(kn:Int):=lq (by omega);have w3:W .i64 (4+(n.high.length:Int)+1+2)=((([78]++[c]++cN 2 nn++bN n.high++cN 2 kn).length:Nat):Int):=by rw[bf (by omega),hd];omega
  have g0:n.kids[0]? = aA (kn:Int):=by rw[hks];rfl
  refine MZ _ _ _ _ ?_ hl;unfold GJ;have s78:[UInt8.ofNat ((78:Int)).toNat]=([78]:Bs):=rfl;rw[aN (yp n h),bI,hr,bK,aP,aN (Tz n h),bF,s78,aN (QV e0 (by decide)),jA,d7,w0];rw[aN (yi e1 (by omega) (by simp[dk];omega))];rw[jA,hnn,w1,aN (yi e2 (by omega) (by simp[dk];omega))];rw[jA,aN (AI e3 (by simp[dk,eP];omega) (by simp only[dk];omega)),d5,iq g0,bF,w2,aN (yi e4 (by omega) (by simp[dk,eP];omega))];rw[jA,aQ (mS _),aQ (by rw[cy,hks];simp)];have e5:((aS n.kids).take (aS n.kids).length).drop 1=aS ks:=by rw[iM,hks];rfl
  rw[e5,w3];simp only[wV,aU (show(bg n.seps).length<=16777216/\(bg n.seps).all fq=aC/\(aS ks).all fq=aC from⟨by rw[d7];omega,TH _,Po _⟩),iT,L9]
theorem K0(n:Nat)(h:n < 65536):bJ aI 198 [.int .i64 (n:Int)]=aA (.str (cN 2 n)):=by
 refine X2 _ ?_;unfold G8
 have w1:W .u8 (((n:Int)).tmod 256)=((n % 256:Nat):Int):=by
  rw[show((n:Int)).tmod 256=((n % 256:Nat):Int) from rfl,mr];omega
 have w2:W .u8 (W .i64 (((n:Int)).tdiv 256))=((n / 256 % 256:Nat):Int):=by
  rw[show((n:Int)).tdiv 256=((n / 256:Nat):Int) from rfl,bf (by omega),mr]
 rw[w1,w2,bi,bi];rfl
theorem TZ(s:Bs)(h:s.length<=255):bJ aI 199 [.str s]=aA (.str (bN s)):=by
 refine X4 _ ?_;unfold G9;have w1:W .u8 ((s.length:Int))=((s.length:Nat):Int):=by rw[mr];omega
 rw[w1,bi,aQ (by simp;omega)];rfl
theorem Zx(n:bV)(h:bZ n=aC):∀(r:List (Bs × Int)) (k:Nat) (d:Bs),(n.seps.zip n.kids.tail).drop k=r->d.length+(eU r).length<=100000 ->
  Go qk aD 0 (fF 148) (.head 0 (zp d (k:Int) (bg n.seps) (aS n.kids) n.high n.next)) (.done (.str (d++eU r))):=by
 intro r;obtain⟨h1,_⟩:=k8 h;have hsm:=gF h;have hls:=hsm.seps;have hzl:(n.seps.zip n.kids.tail).length=n.seps.length:=by simp;omega
 induction r with
 |nil =>
  intro k d hr _;have hk:=fT hr;refine SF _ _ _ _ _ _ ?_ (.refl _);unfold J2;rw[bp (by rw[d7];omega),aP,eU,fh]
 |cons x r ih =>
  obtain⟨s,kk⟩:=x;intro k d hr hd;obtain⟨g1,g2,g3⟩:=ej hr;obtain⟨hs,hk⟩:=K4 h (s,kk) (dx g1);simp only at hs hk;have hk2:=rp hk;obtain⟨kn,rfl⟩:∃kn:Nat,kk=(kn:Int):=⟨kk.toNat,by omega⟩
  obtain⟨q1,q2⟩:=List.getElem?_zip_eq_some.1 g1;have q3:n.kids[k+1]? = aA (kn:Int):=by rw[<-q2,List.getElem?_tail]
  have hlen:(eU ((s,(kn:Int))::r)).length=s.length+1+2+(eU r).length:=by
   rw[eU];simp[eP];omega
  rw[hlen]at hd;have w:W .i64 ((k:Int)+1)=((k+1:Nat):Int):=by rw[bf (by omega)];omega
  refine SF _ _ _ _ _ _ (o:=.head 0 (zp (d++(bN s++cN 2 kn)) ((k+1:Nat):Int) (bg n.seps) (aS n.kids) n.high n.next)) ?_ ?_
  ·unfold J2;rw[aW (by rw[d7];omega),aZ,aQ (by simp),bi,jC q1,cR,aN (TZ s hs),cR,w,aQ (by simp;omega),bi,iq q3,bF,aN (K0 kn (by omega)),cR,aQ (by simp[eP];omega),aQ (by simp[eP];omega)]
  ·have:=ih (k+1) (d++(bN s++cN 2 kn)) g2 (by simp[eP];omega);rw[eU,bi];simpa[cO]using this
theorem sU(n:bV)(h:Sm n):bJ aI 148 [eI n]=aA (.str (cv n)):=by
 cases hr:bZ n with
 |false =>
  refine Nc _ _ _ _ ?_ (.refl _);unfold GN cv;rw[aN (qb n h),bI,hr];rfl
 |true =>
  obtain⟨h1,h2,h3,h4,h5,h6,h7⟩:=k8 hr;have hg:=oR h3
  obtain⟨k,ks,hks⟩:∃k ks,n.kids=k::ks:=by
   cases hk:n.kids with
   |nil=>rw[hk]at h1;simp at h1
   |cons k ks=>exact⟨k,ks,rfl⟩
  have hk:=rp (h2 k (by rw[hks];simp));obtain⟨kn,rfl⟩:∃kn:Nat,k=(kn:Int):=⟨k.toNat,by omega⟩
  obtain⟨nn,hnn⟩:∃nn:Nat,n.next=(nn:Int):=⟨n.next.toNat,by omega⟩
  have g0:n.kids[0]? = aA (kn:Int):=by rw[hks];rfl
  have hkl:n.kids.tail.length=n.seps.length:=by simp;omega
  have hrl:=Ek n.seps n.kids.tail hkl;have hl:=Zx n hr _ 0 ([78]++[UInt8.ofNat n.seps.length]++cN 2 nn++bN n.high++cN 2 kn) rfl (by rw[rW,hrl];simp[eP];omega);rw[rW]at hl
  have hfin:[78]++[UInt8.ofNat n.seps.length]++cN 2 nn++bN n.high++cN 2 kn++eU (n.seps.zip n.kids.tail)=cv n:=by
   unfold cv mA xq;rw[aU hr,hks,hnn];simp
  rw[hfin]at hl;refine Nc _ _ _ _ ?_ hl;have w1:W .u8 ((n.seps.length:Int))=((n.seps.length:Nat):Int):=by rw[mr];omega
  unfold GN;rw[aN (qb n h),bI,hr,bK,aP,d7,w1,bi,aQ (by simp),hnn,aN (K0 nn (by omega)),cR,aQ (by simp[eP]),aN (TZ n.high (by omega)),cR,aQ (by simp[eP];omega),iq g0,bF,aN (K0 kn (by omega)),cR,aQ (by simp[eP];omega)];rfl
theorem lL{s t:Bs}{n m e:Int}(h:dW s n=(t,m,e))(hs:dk s):bJ aI 71 [.str s,.int .i64 n]=aA (.tup [.str t,.int .i64 m,.int .i64 e]):=by
 rw[Fg s n hs,h]
theorem iz{s t:Bs}{n m e:Int}(h:dW s n=(t,m,e))(hs:dk s):bJ aI 72 [.str s,.int .i64 n]=aA (.tup [.str t,.int .i64 m,.int .i64 e]):=by
 rw[agF s n hs,h]
theorem kQ{s:Bs}{n size x e:Int}(h:fe s n size=(x,e))(hs:dk s):bJ aI 214 [.str s,.int .i64 n,.int .i64 size]=aA (.tup [.int .u64 x,.int .i64 e]):=by
 rw[aaC s n size hs,h]
theorem OS(s:Bs)(n:Int):0<=(fe s n 2).1/\(fe s n 2).1 < 65536:=by
 unfold fe;split
 ·have h1:=Bi ((s.drop n.toNat).take (2:Int).toNat);have h2:((s.drop n.toNat).take (2:Int).toNat).length<=2:=by rw[eC];exact Nat.min_le_left _ _
  have h3:256 ^ ((s.drop n.toNat).take (2:Int).toNat).length<=256 ^ 2:=Lw (by decide) h2;have h4:(256:Nat) ^ 2=65536:=by decide
  constructor
  ·exact Lg _
  ·show((dU _:Nat):Int) < 65536;omega
 ·simp
theorem ma{s:Bs}{n x e:Int}(h:fe s n 2=(x,e))(hs:dk s):bJ aI 194 [.str s,.int .i64 n]=aA (.int .i64 x):=by
 refine XW _ _ ?_;have h2:=OS s n;rw[h]at h2;simp only at h2;unfold G6;rw[aN (aaA s n 2 hs),h,ki,bf (by omega)]
def j4(r:Bs):Option ((Bs × Int) × Bs) :=
 match r with
 | []=>aF
 |c::r=>if r.length < c.toNat+2 then aF else aA ((r.take c.toNat,((dU ((r.drop c.toNat).take 2):Nat):Int)),r.drop (c.toNat+2))
def fQ:Nat->Bs->Option (List (Bs × Int) × Bs)
 |0,r=>aA ([],r)
 |j+1,r=>(j4 r).bind fun x=>(fQ j x.2).map fun y=>(x.1::y.1,y.2)
theorem Ud{l:Bs}(h:l.length=2):cN 2 (dU l)=l:=by
 have:=PL l
 rwa [h]at this
theorem tN{r r':Bs}{t:Bs}{k:Int}(h:j4 r=aA ((t,k),r')):r=bN t++cN 2 k.toNat++r'/\t.length<=255/\0<=k/\k < 65536:=by
 unfold j4 at h;cases r with
 |nil=>cases h
 |cons c r =>
  simp only at h;split at h
  ·cases h
  rename_i hl;have hl:c.toNat+2<=r.length:=by omega
  simp only[Option.some.injEq,Prod.mk.injEq]at h;obtain⟨⟨rfl,rfl⟩,rfl⟩:=h;have hc:=c.toNat_lt;have h2:((r.drop c.toNat).take 2).length=2:=by simp;omega
  have hu:=Bi ((r.drop c.toNat).take 2);rw[h2]at hu;have h256:(256:Nat) ^ 2=65536:=by decide
  have ht:(r.take c.toNat).length=c.toNat:=by simp;omega
  refine⟨?_,by rw[ht];omega,by omega,by omega⟩;rw[bi,Ud h2];unfold bN;rw[ht,UInt8.ofNat_toNat];simp only[ew,cO,List.cons.injEq,true_and];have e1:=lk c.toNat r;have e2:=lk 2 (r.drop c.toNat);rw[uu]at e2;rw[e2,e1]
theorem QS{t r':Bs}{k:Nat}(ht:t.length<=255)(hk:k < 65536):j4 (bN t++cN 2 k++r')=aA ((t,(k:Int)),r'):=by
 have e:(UInt8.ofNat t.length).toNat=t.length:=by simp;omega
 have hl2:=eP 2 k;unfold j4;simp only[ew,cO,e];rw[aY (by first|(simp[hl2];done)|(simp[hl2];omega))];have e1:(t++(cN 2 k++r')).take t.length=t:=by simp
 have e2:(t++(cN 2 k++r')).drop t.length=cN 2 k++r':=by simp
 have e3:(cN 2 k++r').take 2=cN 2 k:=by
  rw[BC (by omega),sd (by omega)]
 have e4:(t++(cN 2 k++r')).drop (t.length+2)=r':=by
  rw[<-uu,e2,Bq,FI (by omega),hl2]
  first|done|simp
 rw [e1,e2,e3,e4,Fj 2 k (by have:(256:Nat) ^ 2=65536:=by decide
                            omega)]
theorem QT:∀{j:Nat} {r r':Bs} {l:List (Bs × Int)},fQ j r=aA (l,r')->r=eU l++r'/\l.length=j/\∀x∈l,x.1.length<=255
 |0,r,r',l,h=>by
  simp only[fQ,Option.some.injEq,Prod.mk.injEq]at h;obtain⟨rfl,rfl⟩:=h;exact⟨rfl,rfl,by simp⟩
 |j+1,r,r',l,h=>by
  simp only[fQ,obi,omi,Prod.mk.injEq]at h;obtain⟨⟨⟨t,k⟩,r1⟩,h1,⟨l2,r2⟩,h2,rfl,rfl⟩:=h;obtain⟨e1,h3,h4,h5⟩:=tN h1;obtain⟨e2,h6,h7⟩:=QT h2;refine⟨?_,by simp[h6],?_⟩
  ·rw[e1,eU,cO,cO,cO,<-e2]
  ·intro x hx;rcases dE.1 hx with rfl|hx
   ·exact h3
   ·exact h7 x hx
theorem QU:∀(l:List (Bs × Int)) (r':Bs),(∀x∈l,x.1.length<=255/\d6 x.2=aC)->fQ l.length (eU l++r')=aA (l,r')
 | [],r',_=>rfl
 |(t,k)::l,r',h=>by
  obtain⟨h1,h2⟩:=h (t,k) (by simp);simp only at h1 h2;have h3:=rp h2;obtain⟨kn,rfl⟩:∃kn:Nat,k=(kn:Int):=⟨k.toNat,by omega⟩
  have ih:=QU l r' fun x hx=>h x (by simp[hx])
  rw[dp,fQ,eU,bi,cO (bN t++cN 2 kn),QS h1 (by omega),bk,ih];rfl
theorem yJ{s:Bs}{m:Nat}{t:Bs}{k:Int}{r':Bs}(h:j4 (s.drop m)=aA ((t,k),r')) :
  dW s (m:Int)=(t,(m:Int)+1+t.length,0)/\fe s ((m:Int)+1+t.length) 2=(k,0)/\s.drop (m+1+t.length+2)=r'/\m+1+t.length+2<=s.length:=by
 unfold j4 at h;cases hd:s.drop m with
 |nil=>rw[hd]at h;cases h
 |cons c r =>
  rw[hd]at h;simp only at h;split at h
  ·cases h
  rename_i hl;simp only[Option.some.injEq,Prod.mk.injEq]at h;obtain⟨⟨rfl,rfl⟩,rfl⟩:=h;obtain⟨h1,h2,h3⟩:=ej hd
  have hrl:r.length+m+1=s.length:=by
   have:=ef oZ hd;simp at this;omega
  have ht:(r.take c.toNat).length=c.toNat:=by simp;omega
  have hdr:s.drop (m+1+c.toNat)=r.drop c.toNat:=by rw[<-uu,h2]
  rw[ht];refine⟨?_,?_,?_,by omega⟩
  ·unfold dW;rw[aU (by omega),bi,hd];simp only;rw[aY (by omega)]
  ·unfold fe;rw[aU (yr (by omega) (by omega) (by omega) (by omega))];rw[show((m:Int)+1+(c.toNat:Int)).toNat=m+1+c.toNat by omega,hdr];rfl
  ·rw[<-h2,uu];congr 1
theorem yI{s:Bs}{m:Nat}(hm:m<=s.length)(h:j4 (s.drop m)=aF):∀{t:Bs} {to e:Int},dW s (m:Int)=(t,to,e)->(e≠0/\t=[]/\to=0)∨(e=0/\t.length<=255/\to=(m:Int)+1+t.length/\(s.length:Int) < to+2/\to<=(s.length:Int)/\(fe s to 2)=(0,3)):=by
 intro t to e he;unfold j4 at h;unfold dW at he;rw[aU (by omega),bi]at he;cases hd:s.drop m with
 |nil=>rw[hd]at he;simp only[Prod.mk.injEq]at he;exact .inl ⟨by omega,he.1.symm,he.2.1.symm⟩
 |cons c r =>
  rw[hd]at h he;obtain⟨h1,h2,h3⟩:=ej hd
  have hrl:r.length+m+1=s.length:=by
   have:=ef oZ hd;simp at this;omega
  have hcl:=c.toNat_lt;simp only at h he;split at he
  ·simp only[Prod.mk.injEq]at he;exact .inl ⟨by omega,he.1.symm,he.2.1.symm⟩
  rename_i hx;simp only[Prod.mk.injEq]at he;obtain⟨rfl,rfl,rfl⟩:=he;split at h
  ·rename_i hy;have ht:(r.take c.toNat).length=c.toNat:=by simp;omega
   refine .inr ⟨rfl,by omega,by rw[ht],by omega,by omega,?_⟩
   have:ky s ((m:Int)+1+(c.toNat:Int)) 2=3:=by
    unfold ky;rw[aY (by omega),aU (by omega)]
   unfold fe;rw[aY (by rw[this];decide),this]
  ·cases h
def oq(n:bV)(rest:Bs):Option bV:=if bZ n && mz rest==[] then aA n else aF
def kv(s:Bs):Option bV :=
 if s.length<=4∨252 < s.length∨s.head?≠aA 78 then aF else
 (j4 (s.drop 4)).bind fun x=>(fQ (s.getD 1 0).toNat x.2).bind fun y =>
  oq ⟨y.1.map (·.1),x.1.2::y.1.map (·.2),x.1.1,((dU ((s.drop 2).take 2):Nat):Int)⟩ y.2
abbrev jG:bV:=⟨[],[],[],0⟩
def qO:Option bV->V
 |some n=>.tup [eI n,.int .i64 0]
 |none=>.tup [eI jG,.int .i64 4]
theorem Gx{α:Type}{p:α->Bool}:∀{l:List α},l.dropWhile p=[]↔∀x∈l,p x=aC
 | []=>by simp
 |x::l=>by
  rw[List.dropWhile_cons];cases h:p x with
  |true=>simp only[cZ];rw[Gx];simp[h]
  |false=>simp[h]
theorem F4{r:Bs}:mz r=[]↔r=fR r.length:=by
 unfold mz;rw[List.reverse_eq_nil_iff];constructor
 ·intro h
  have h2:∀x∈r,x=0:=by
   intro x hx;have:=Gx.1 h x (List.mem_reverse.2 hx);simpa using this
  exact List.eq_replicate_iff.2 ⟨rfl,h2⟩
 ·intro h;rw[Gx];intro x hx;have:=List.mem_reverse.1 hx;rw[h]at this;simpa using y3 this
abbrev pC:V:=.tup [.agg [.sl [],.sl [],.str [],.int .i64 0],.int .i64 4]
def N9 (s:Bs) (m:Int) (n:bV):R :=
 aL aI 154 [eI n] fun r_3=>kB r_3 fun r13=>cond (!r13) (aA (.done pC))
  (gd (decide (0<=m))<|gd (decide (m.toNat<=s.length))<|aL aI 176 [aE ((s.take s.length).drop m.toNat)] fun r_4=>kS r_4 fun r37=>cond (!(r37==[])) (aA (.done pC)) (aA (.done (aT [eI n,aB .i64 0]))))
theorem Oa(s:Bs)(hs:dk s)(m:Nat)(hm:m<=s.length)(n:bV)(hn:Sm n):N9 s (m:Int) n=aA (.done (qO (oq n (s.drop m)))):=by
 unfold N9 oq;have hsl:=hs;rw[aN (yp n hn),bI];cases bZ n with
 |false=>rfl
 |true =>
  rw[bK,aP,aQ (by simp),bi,aQ (by simpa using hm),iM,aN (L4 (s.drop m) (by simp only[dk,fD];omega)),cR,dL];cases mz (s.drop m)==[]<;>rfl
theorem Cz{s:Bs}{i m nx:Int}{hi:Bs}{a b:List V}:tW s i s m aD hi nx a b=aA (.done (qO aF)):=rfl
theorem Wi(hi:Bs)(nx:Int)(hh:hi.length<=255){s:Bs}(hs:s.length<=252){c:UInt8}(hc:s[1]? = aA c):∀(j m i:Nat) (seps:List Bs) (kids:List Int),i+j=c.toNat->m<=s.length->seps.length=i->kids.length=i+1->(∀x∈seps,x.length<=255) ->
  Go qk aD 0 (fF 130) (.head 0 (pd s (i:Int) s (m:Int) aC hi nx (bg seps) (aS kids))) (.done (qO ((fQ j (s.drop m)).bind fun y=>oq ⟨seps++y.1.map (·.1),kids++y.1.map (·.2),hi,nx⟩ y.2))):=by
 intro j;have hcl:=c.toNat_lt;have hss:dk s:=by simp only[dk];omega
 have wc:W .i64 (c.toNat:Int)=(c.toNat:Int):=bf (by omega)
 induction j with
 |zero =>
  intro m i seps kids hij hm hsl hkl hse;have hn:Sm ⟨seps,kids,hi,nx⟩:=⟨by simp only;omega,fun x hx=>by have:=hse x hx;omega,by simp only;omega,by simp only;omega⟩
  refine tX _ _ _ _ _ _ _ _ _ ?_ (.refl _);unfold tW;rw[aZ,cG hc,wc,bp (by omega),aP,bK,aP];have:=Oa s hss m hm _ hn;simp only[fQ,bk,fX,fh];exact this
 |succ j ih =>
  intro m i seps kids hij hm hsl hkl hse;cases hp:j4 (s.drop m)with
  |some x =>
   obtain⟨⟨t,k⟩,r'⟩:=x;obtain⟨h1,h2,h3,hle⟩:=yJ hp;obtain⟨_,htl,hk0,hk1⟩:=tN hp;have wk:W .i64 k=k:=bf (by omega);have wn:W .i64 ((m:Int)+1+t.length+2)=((m+1+t.length+2:Nat):Int):=by rw[bf (by omega)];omega
   refine tX _ _ _ _ _ _ _ _ _ (o:=.head 0 (pd s ((i+1:Nat):Int) s ((m+1+t.length+2:Nat):Int) aC hi nx (bg (seps++[t])) (aS (kids++[k])))) ?_ ?_
   ·unfold tW;rw[aZ,cG hc,wc,aW (by omega),aZ,aN (lL h1 hss),d5,aZ,aQ (by simp[d7];omega),aU (by omega),aN (kQ h2 hss),ki,db rfl,aZ,aQ (by simp[cy];omega),wn,wk];rw[bf (n:=(i:Int)+1) (by omega)];simp[bg,aS]
   ·have:=(ih (m+1+t.length+2) (i+1) (seps++[t]) (kids++[k]) (by omega) hle (by simp;omega) (by simp;omega) (by intro x hx;rcases cz.1 hx with hx|hx;exact hse x hx;simp at hx;rw[hx];exact htl))
    rw[h3]at this;simp only[fQ,hp,bk,FU,uB];simpa[uB,Function.comp_def]using this
  |none =>
   have hnone:((fQ (j+1) (s.drop m)).bind fun y=>oq ⟨seps++y.1.map (·.1),kids++y.1.map (·.2),hi,nx⟩ y.2)=none:=by
    simp only[fQ,hp,FS]
   rw[hnone];obtain⟨t,to,e,he⟩:∃t to e,dW s (m:Int)=(t,to,e):=⟨_,_,_,rfl⟩
   have hb:=yI hm hp he;rcases hb with⟨hb,_,_⟩|⟨rfl,_,hto,h4,h5,h6⟩
   ·obtain⟨x,e2,hx⟩:∃x e2,fe s (if (m:Int) < to then to else m) 2=(x,e2):=⟨_,_,rfl⟩
    have hq:=Eq.refl (tW s (i:Int) s (m:Int) aC hi nx (bg seps) (aS kids))
    conv at hq =>
     rhs
     unfold tW;rw[aZ,cG hc,wc,aW (by omega),aZ,aN (lL he hss),d5,aZ,aQ (by simp[d7];omega),aN (kQ hx hss),ki,dH hb,aP,aQ (by simp[cy];omega)]
    exact tX _ _ _ _ _ _ _ _ _ hq (tX _ _ _ _ _ _ _ _ _ Cz (.refl _))
   ·have hif:(if (m:Int) < to then to else m)=to:=aU (by omega);have hq:=Eq.refl (tW s (i:Int) s (m:Int) aC hi nx (bg seps) (aS kids))
    conv at hq =>
     rhs
     unfold tW;rw[aZ,cG hc,wc,aW (by omega),aZ,aN (lL he hss),d5,aZ,aQ (by simp[d7];omega),hif,aN (kQ h6 hss),ki,db rfl,aZ,aQ (by simp[cy];omega),dH (by decide)]
    exact tX _ _ _ _ _ _ _ _ _ hq (tX _ _ _ _ _ _ _ _ _ Cz (.refl _))
theorem Wh(hi:Bs)(nx:Int)(hh:hi.length<=255){s:Bs}(hs:s.length<=252){c:UInt8}(hc:s[1]? = aA c):∀(j m:Nat) (kids:List Int),j=c.toNat->m<=s.length->kids.length=1 ->
  Go qk aD 0 (fF 130) (.head 0 (zk s s (m:Int) aC hi nx (aS kids))) (.done (qO ((fQ j (s.drop m)).bind fun y=>oq ⟨y.1.map (·.1),kids++y.1.map (·.2),hi,nx⟩ y.2))):=by
 intro j;have hcl:=c.toNat_lt;have hss:dk s:=by simp only[dk];omega
 have wc:W .i64 (c.toNat:Int)=(c.toNat:Int):=bf (by omega);have seps:List Bs:=[]
 cases j with
 |zero =>
  intro m kids hij hm hkl;have hn:Sm ⟨[],kids,hi,nx⟩:=⟨by simp only[fc];omega,fun x hx=>by simp at hx,by simp only;omega,by simp only;omega⟩
  refine yw _ _ _ _ _ _ _ ?_ (.refl _);unfold vZ;rw[aZ,cG hc,wc,bp (by omega),aP,bK,aP];have:=Oa s hss m hm _ hn;simp only[fQ,bk,fX,fh];exact this
 |succ j =>
  intro m kids hij hm hkl;cases hp:j4 (s.drop m)with
  |some x =>
   obtain⟨⟨t,k⟩,r'⟩:=x;obtain⟨h1,h2,h3,hle⟩:=yJ hp;obtain⟨_,htl,hk0,hk1⟩:=tN hp;have wk:W .i64 k=k:=bf (by omega);have wn:W .i64 ((m:Int)+1+t.length+2)=((m+1+t.length+2:Nat):Int):=by rw[bf (by omega)];omega
   refine yw _ _ _ _ _ _ _ (o:=.head 0 (pd s ((1:Nat):Int) s ((m+1+t.length+2:Nat):Int) aC hi nx (bg [t]) (aS (kids++[k])))) ?_ ?_
   ·unfold vZ;rw[aZ,cG hc,wc,aW (by omega),aZ,aN (lL h1 hss),d5,aZ,aQ (by simp),aU (by omega),aN (kQ h2 hss),ki,db rfl,aZ,aQ (by simp[cy];omega),wn,wk];simp[bg,aS]
   ·have:=(Wi hi nx hh hs hc j (m+1+t.length+2) 1 [t] (kids++[k]) (by omega) hle rfl (by simp;omega) (by simpa using htl))
    rw[h3]at this;simp only[fQ,hp,bk,FU,uB];simpa[uB,Function.comp_def]using this
  |none =>
   have hnone:((fQ (j+1) (s.drop m)).bind fun y=>oq ⟨y.1.map (·.1),kids++y.1.map (·.2),hi,nx⟩ y.2)=none:=by
    simp only[fQ,hp,FS]
   rw[hnone];obtain⟨t,to,e,he⟩:∃t to e,dW s (m:Int)=(t,to,e):=⟨_,_,_,rfl⟩
   have hb:=yI hm hp he;rcases hb with⟨hb,_,_⟩|⟨rfl,_,hto,h4,h5,h6⟩
   ·obtain⟨x,e2,hx⟩:∃x e2,fe s (if (m:Int) < to then to else m) 2=(x,e2):=⟨_,_,rfl⟩
    have hq:=Eq.refl (vZ s s (m:Int) aC hi nx (aS kids))
    conv at hq =>
     rhs
     unfold vZ;rw[aZ,cG hc,wc,aW (by omega),aZ,aN (lL he hss),d5,aZ,aQ (by simp),aN (kQ hx hss),ki,dH hb,aP,aQ (by simp[cy];omega)]
    exact yw _ _ _ _ _ _ _ hq (tX _ _ _ _ _ _ _ _ _ Cz (.refl _))
   ·have hif:(if (m:Int) < to then to else m)=to:=aU (by omega);have hq:=Eq.refl (vZ s s (m:Int) aC hi nx (aS kids))
    conv at hq =>
     rhs
     unfold vZ;rw[aZ,cG hc,wc,aW (by omega),aZ,aN (lL he hss),d5,aZ,aQ (by simp),hif,aN (kQ h6 hss),ki,db rfl,aZ,aQ (by simp[cy];omega),dH (by decide)]
    exact yw _ _ _ _ _ _ _ hq (tX _ _ _ _ _ _ _ _ _ Cz (.refl _))
theorem OT{s:Bs}{c:UInt8}(h:s[1]? = aA c):s.getD 1 0=c:=by
 simp[List.getD,h]
theorem Wj(s:Bs)(hss:dk s):bJ aI 130 [.str s]=aA (qO (kv s)):=by
 have hsl:=hss
 by_cases h1:s.length<=4
 ·refine w8 _ ?_ (.refl _);unfold qQ kv;rw[aW (by omega),aU (.inl h1)];rfl
 by_cases h2:252 < s.length
 ·refine w8 _ ?_ (.refl _);unfold qQ kv;rw[bp (by omega),aP,aW (by omega),aU (.inr (.inl h2))];rfl
 have hs:s.length<=252:=by omega
 obtain⟨c0,hc0⟩:∃c,s[0]? = aA c:=⟨_,cj (by omega)⟩
 obtain⟨c,hc⟩:∃c,s[1]? = aA c:=⟨_,cj (by omega)⟩
 have hh:s.head? = aA c0:=by rw[<-hc0];exact List.head?_eq_getElem?
 by_cases h3:c0=78
 rotate_left
 ·refine w8 _ ?_ (.refl _)
  have h4:((c0.toNat:Int))≠78:=by
   intro e;have h78:(78:UInt8).toNat=78:=rfl;exact h3 (UInt8.toNat_inj.1 (by omega))
  unfold qQ kv;rw[bp (by omega),aP,bp (by omega),aP,cG hc0,fP h4,aU (.inr (.inr (by rw[hh];simpa using h3)))];rfl
 subst h3
 have hg2:fe s 2 2=(((dU ((s.drop 2).take 2):Nat):Int),0):=by
  unfold fe;rw[aU (yr (by omega) (by omega) (by omega) (by omega))];rfl
 have hn2:=OS s 2;rw[hg2]at hn2;simp only at hn2;have wn2:W .i64 ((dU ((s.drop 2).take 2):Nat):Int)=((dU ((s.drop 2).take 2):Nat):Int):=bf (by omega)
 have hparse:kv s=(j4 (s.drop 4)).bind fun x=>(fQ c.toNat x.2).bind fun y=>oq ⟨y.1.map (·.1),x.1.2::y.1.map (·.2),x.1.1,((dU ((s.drop 2).take 2):Nat):Int)⟩ y.2:=by
  unfold kv;rw[aY (by rw[hh];simp;omega),OT hc]
 rw[hparse];cases hp:j4 (s.drop 4)with
 |some x =>
  obtain⟨⟨hi,k⟩,r'⟩:=x;obtain⟨g1,g2,g3,hle⟩:=yJ hp;obtain⟨_,htl,hk0,hk1⟩:=tN hp;have wk:W .i64 k=k:=bf (by omega);have wn:W .i64 (((4:Nat):Int)+1+hi.length+2)=((4+1+hi.length+2:Nat):Int):=by rw[bf (by omega)];omega
  have:=Wh hi ((dU ((s.drop 2).take 2):Nat):Int) htl hs hc c.toNat (4+1+hi.length+2) [k] rfl hle rfl;rw[g3]at this;refine w8 _ ?_ this;unfold qQ;have g1:dW s 4=(hi,((4:Nat):Int)+1+hi.length,0):=g1;rw[bp (by omega),aP,bp (by omega),aP,cG hc0,dA (by decide),aP,aN (kQ hg2 hss),ki,aN (lL g1 hss),d5,db rfl,aZ,aU (by omega),aN (kQ g2 hss),ki,db rfl,aZ,aQ (by simp),wn,wk,wn2];rfl
 |none =>
  obtain⟨t,to,e,he⟩:∃t to e,dW s ((4:Nat):Int)=(t,to,e):=⟨_,_,_,rfl⟩
  have hb:=yI (by omega) hp he;have he:dW s 4=(t,to,e):=he;rcases hb with⟨hb,_,_⟩|⟨rfl,_,hto,h4,h5,h6⟩
  ·obtain⟨x,e2,hx⟩:∃x e2,fe s (if (4:Int) < to then to else 4) 2=(x,e2):=⟨_,_,rfl⟩
   have hq:=Eq.refl (qQ s)
   conv at hq =>
    rhs
    unfold qQ;rw[bp (by omega),aP,bp (by omega),aP,cG hc0,dA (by decide),aP,aN (kQ hg2 hss),ki,aN (lL he hss),d5,db rfl,aZ,aN (kQ hx hss),ki,dH hb,aP,aQ (by simp)]
   exact w8 _ hq (yw _ _ _ _ _ _ _ rfl (.refl _))
  ·have hif:(if (4:Int) < to then to else 4)=to:=aU (by omega);have hq:=Eq.refl (qQ s)
   conv at hq =>
    rhs
    unfold qQ;rw[bp (by omega),aP,bp (by omega),aP,cG hc0,dA (by decide),aP,aN (kQ hg2 hss),ki,aN (lL he hss),d5,db rfl,aZ,hif,aN (kQ h6 hss),ki,aZ,aQ (by simp),dH (by decide)]
   exact w8 _ hq (yw _ _ _ _ _ _ _ rfl (.refl _))
def ot(s:Bs)(n:bV):Option bV:=if bZ n && iU (cv n) (s.length:Int)==(s,0) then aA n else aF
def Ob (s:Bs) (e:Int) (n:bV):R :=
 aL aI 148 [eI n] fun r_2=>kS r_2 fun r19=>aL aI 195 [aE r19,aB .i64 (s.length:Int)] fun r_3=>i7 r_3 fun r33_0 r33_1 =>
  cond (e != (0:Int)) (aA (.done pC)) (cond (r33_1 != (0:Int)) (aA (.done pC)) (cond (!(r33_0==s)) (aA (.done pC)) (aL aI 196 [eI n] fun r_4=>kB r_4 fun r14=>cond (!r14) (aA (.done pC)) (aA (.done (aT [eI n,aB .i64 0]))))))
theorem ZA(n:bV)(hn:Sm n):dk (cv n):=by
 unfold dk;cases hr:bZ n with
 |true =>
  have:=EZ hn;rw[uV hr];omega
 |false=>unfold cv;rw[hr];simp
theorem xe(s:Bs)(e:Int)(n:bV)(hn:Sm n):Ob s e n=aA (.done (qO (if e=0 then ot s n else aF))):=by
 unfold Ob ot;rw[aN (sU n hn),cR,aN (DX (cv n) _ (ZA n hn)),jA]
 by_cases he:e=0
 rotate_left
 ·rw[fP he,aY he];rfl
 rw[dA he,aP,aU he];obtain⟨t,e2⟩:=iU (cv n) (s.length:Int)
 by_cases h2:e2=0
 rotate_left
 ·have:((t,e2)==(s,(0:Int)))=false:=by simp[h2]
  rw[fP h2,this,gP];rfl
 subst h2;rw[dA rfl,aP]
 by_cases h3:t=s
 rotate_left
 ·have h4:(t==s)=false:=by simpa using h3
  have:((t,(0:Int))==(s,(0:Int)))=false:=by simp[h3]
  rw[h4,this,gP];rfl
 subst h3;rw[fj,fj,bK,aP,mT,aN (qb n hn),bI];cases bZ n<;>rfl
theorem KV(t:Bs):∀l,cW (l++[t])=cW l+(3+t.length)
 | []=>by simp[cW]
 |s::l=>by simp only[ew,cW,KV t l];omega
theorem Om{s:Bs}{n:bV}(hs:s.length<=252)(h:s.length < ff n):ot s n=none:=by
 unfold ot;cases hr:bZ n with
 |false=>rfl
 |true =>
  have h1:=uV hr
  have:iU (cv n) (s.length:Int)=([],2):=by
   unfold iU;rw[aY (by omega),aU (by omega)]
  rw[this];simp
theorem TY{s:Bs}{m:Int}(h:(s.length:Int) < m):dW s m=([],0,1):=by
 unfold dW;rw[aY (by omega)]
theorem D9{s hi:Bs}{nx m e:Int}{kids:List Int}{i:Int}{seps:List Bs}{c:UInt8}(hc:s[1]? = aA c)(hn:Sm ⟨seps,kids,hi,nx⟩)(he:e≠0):oO s m e i hi nx (bg seps) (aS kids)=aA (.done pC):=by
 have hcl:=c.toNat_lt;have wc:W .i64 (c.toNat:Int)=(c.toNat:Int):=bf (by omega);have h1:=xe s e _ hn;rw[aY he]at h1;unfold oO;rw[cG hc,wc];cases decide (i < (c.toNat:Int))with
 |true =>
  rw[aZ,dH he,aP];exact h1
 |false =>
  rw[aP];exact h1
theorem Ro{s hi:Bs}{nx:Int}{m:Nat}{kids:List Int}{i:Nat}{seps:List Bs}{c:UInt8}(hs:s.length<=252)(hc:s[1]? = aA c)(hn:Sm ⟨seps,kids,hi,nx⟩)(hk:kids.length<=300)(hsn:seps.length<=300)(hm:m=ff ⟨seps,kids,hi,nx⟩)(hf:s.length < m) :
  Go qk aD 0 (fF 138) (.head 0 (qF s (m:Int) 0 (i:Int) hi nx (bg seps) (aS kids))) (.done pC):=by
 have hcl:=c.toNat_lt;have hss:dk s:=by simp only[dk];omega
 have wc:W .i64 (c.toNat:Int)=(c.toNat:Int):=bf (by omega)
 by_cases bd:(i:Int) < (c.toNat:Int)
 ·obtain⟨x,e2,hx⟩:∃x e2,fe s 0 2=(x,e2):=⟨_,_,rfl⟩
  have hq:=Eq.refl (oO s (m:Int) 0 (i:Int) hi nx (bg seps) (aS kids))
  conv at hq =>
   rhs
   unfold oO;rw[cG hc,wc,aW bd,aZ,db rfl,aZ,aN (iz (TY (by omega)) hss),d5,aQ (by simp[d7];omega),aN (ma hx hss),bF,aQ (by simp[cy];omega)]
  refine qf _ _ _ _ _ _ _ _ hq (qf _ _ _ _ _ _ _ _ ?_ (.refl _));have e1:bg seps++[aE []]=bg (seps++[[]]):=by simp[bg]
  have e3:aS kids++[aB .i64 x]=aS (kids++[x]):=by simp[aS]
  rw[e1,e3];exact D9 hc ⟨by simp;omega,fun y hy=>by rcases cz.1 hy with hy|hy;exact hn.sep y hy;simp at hy;rw[hy];simp,by simp;omega,hn.high⟩ (by decide)
 ·refine qf _ _ _ _ _ _ _ _ ?_ (.refl _);have h1:=xe s 0 _ hn;rw[aU rfl,Om hs (by omega)]at h1;unfold oO;rw[cG hc,wc,bp bd,aP];exact h1
theorem ad4{hi:Bs}{nx:Int}(hh:hi.length<=255){s:Bs}(hs:s.length<=252){c:UInt8}(hc:s[1]? = aA c):∀(j m i:Nat) (seps:List Bs) (kids:List Int),i+j=c.toNat->m<=s.length->seps.length=i->kids.length=i+1->(∀x∈seps,x.length<=255)->m=ff ⟨seps,kids,hi,nx⟩ ->
  Go qk aD 0 (fF 138) (.head 0 (qF s (m:Int) 0 (i:Int) hi nx (bg seps) (aS kids))) (.done (qO ((fQ j (s.drop m)).bind fun y=>ot s ⟨seps++y.1.map (·.1),kids++y.1.map (·.2),hi,nx⟩))):=by
 intro j;have hcl:=c.toNat_lt;have hss:dk s:=by simp only[dk];omega
 have wc:W .i64 (c.toNat:Int)=(c.toNat:Int):=bf (by omega)
 induction j with
 |zero =>
  intro m i seps kids hij hm hsl hkl hse hsz;have hn:Sm ⟨seps,kids,hi,nx⟩:=⟨by simp only;omega,fun x hx=>by have:=hse x hx;omega,by simp only;omega,by simp only;omega⟩
  refine qf _ _ _ _ _ _ _ _ ?_ (.refl _);have h1:=xe s 0 _ hn;rw[aU rfl]at h1;unfold oO;rw[cG hc,wc,bp (by omega),aP];simp only[fQ,bk,fX,fh];exact h1
 |succ j ih =>
  intro m i seps kids hij hm hsl hkl hse hsz;have hn:Sm ⟨seps,kids,hi,nx⟩:=⟨by simp only;omega,fun x hx=>by have:=hse x hx;omega,by simp only;omega,by simp only;omega⟩
  cases hp:j4 (s.drop m)with
  |some x =>
   obtain⟨⟨t,k⟩,r'⟩:=x;obtain⟨h1,h2,h3,hle⟩:=yJ hp;obtain⟨_,htl,hk0,hk1⟩:=tN hp;have wn:W .i64 ((m:Int)+1+t.length+2)=((m+1+t.length+2:Nat):Int):=by rw[bf (by omega)];omega
   have hsz2:m+1+t.length+2=ff ⟨(seps++[t]),kids++[k],hi,nx⟩:=by rw[hsz];simp only[ff,cW,KV];omega
   refine qf _ _ _ _ _ _ _ _ (o:=.head 0 (qF s ((m+1+t.length+2:Nat):Int) 0 ((i+1:Nat):Int) hi nx (bg (seps++[t])) (aS (kids++[k])))) ?_ ?_
   ·unfold oO;rw[cG hc,wc,aW (by omega),aZ,db rfl,aZ,aN (iz h1 hss),d5,aQ (by simp[d7];omega),aN (ma h2 hss),bF,aQ (by simp[cy];omega),wn];rw[bf (n:=(i:Int)+1) (by omega)];simp[bg,aS]
   ·have:=(ih (m+1+t.length+2) (i+1) (seps++[t]) (kids++[k]) (by omega) hle (by simp;omega) (by simp;omega) (by intro x hx;rcases cz.1 hx with hx|hx;exact hse x hx;simp at hx;rw[hx];exact htl) hsz2)
    rw[h3]at this;simp only[fQ,hp,bk,FU,uB];simpa[uB,Function.comp_def]using this
  |none =>
   have hnone:((fQ (j+1) (s.drop m)).bind fun y=>ot s ⟨seps++y.1.map (·.1),kids++y.1.map (·.2),hi,nx⟩)=none:=by
    simp only[fQ,hp,FS]
   rw[hnone];obtain⟨t,to,e,he⟩:∃t to e,dW s (m:Int)=(t,to,e):=⟨_,_,_,rfl⟩
   have hb:=yI hm hp he;rcases hb with⟨hb,ht,hto⟩|⟨rfl,htl,hto,h4,h5,h6⟩
   ·subst ht hto;obtain⟨x,e2,hx⟩:∃x e2,fe s 0 2=(x,e2):=⟨_,_,rfl⟩
    have hq:=Eq.refl (oO s (m:Int) 0 (i:Int) hi nx (bg seps) (aS kids))
    conv at hq =>
     rhs
     unfold oO;rw[cG hc,wc,aW (by omega),aZ,db rfl,aZ,aN (iz he hss),d5,aQ (by simp[d7];omega),aN (ma hx hss),bF,aQ (by simp[cy];omega)]
    refine qf _ _ _ _ _ _ _ _ hq (qf _ _ _ _ _ _ _ _ ?_ (.refl _));have e1:bg seps++[aE []]=bg (seps++[[]]):=by simp[bg]
    have e3:aS kids++[aB .i64 x]=aS (kids++[x]):=by simp[aS]
    rw[e1,e3];exact D9 hc ⟨by simp;omega,fun y hy=>by rcases cz.1 hy with hy|hy;exact hn.sep y hy;simp at hy;rw[hy];simp,by simp;omega,hn.high⟩ hb
   ·have wn:W .i64 (to+2)=((m+1+t.length+2:Nat):Int):=by rw[bf (by omega)];omega
    have hsz2:m+1+t.length+2=ff ⟨(seps++[t]),kids++[0],hi,nx⟩:=by rw[hsz];simp only[ff,cW,KV];omega
    refine qf _ _ _ _ _ _ _ _ (o:=.head 0 (qF s ((m+1+t.length+2:Nat):Int) 0 ((i+1:Nat):Int) hi nx (bg (seps++[t])) (aS (kids++[0])))) ?_ (Ro hs hc ⟨by simp;omega,fun y hy=>by rcases cz.1 hy with hy|hy;exact hn.sep y hy;simp at hy;rw[hy];omega,by simp;omega,hn.high⟩ (by simp;omega) (by simp;omega) hsz2 (by omega));unfold oO;rw[cG hc,wc,aW (by omega),aZ,db rfl,aZ,aN (iz he hss),d5,aQ (by simp[d7];omega),aN (ma h6 hss),bF,aQ (by simp[cy];omega),wn];rw[bf (n:=(i:Int)+1) (by omega)];simp[bg,aS]
theorem ad2{s hi:Bs}{nx m e:Int}{kids:List Int}{c:UInt8}(hc:s[1]? = aA c)(hn:Sm ⟨[],kids,hi,nx⟩)(he:e≠0):oN s m e hi nx (aS kids)=aA (.done pC):=by
 have hcl:=c.toNat_lt;have wc:W .i64 (c.toNat:Int)=(c.toNat:Int):=bf (by omega);have h1:=xe s e _ hn;rw[aY he]at h1;unfold oN;rw[cG hc,wc];cases decide (0 < (c.toNat:Int))with
 |true =>
  rw[aZ,dH he,aP];exact h1
 |false =>
  rw[aP];exact h1
theorem ad1{s hi:Bs}{nx:Int}{m:Nat}{kids:List Int}{c:UInt8}(hs:s.length<=252)(hc:s[1]? = aA c)(hn:Sm ⟨[],kids,hi,nx⟩)(hk:kids.length<=300)(hm:m=ff ⟨[],kids,hi,nx⟩)(hf:s.length < m) :
  Go qk aD 0 (fF 138) (.head 0 (BW s (m:Int) 0 hi nx (aS kids))) (.done pC):=by
 have hcl:=c.toNat_lt;have hss:dk s:=by simp only[dk];omega
 have wc:W .i64 (c.toNat:Int)=(c.toNat:Int):=bf (by omega)
 by_cases bd:(0:Int) < (c.toNat:Int)
 ·obtain⟨x,e2,hx⟩:∃x e2,fe s 0 2=(x,e2):=⟨_,_,rfl⟩
  have hq:=Eq.refl (oN s (m:Int) 0 hi nx (aS kids))
  conv at hq =>
   rhs
   unfold oN;rw[cG hc,wc,aW bd,aZ,db rfl,aZ,aN (iz (TY (by omega)) hss),d5,aQ (by simp),aN (ma hx hss),bF,aQ (by simp[cy];omega)]
  refine v3 _ _ _ _ _ _ hq (qf _ _ _ _ _ _ _ _ ?_ (.refl _));have e1:[aE []]=bg ([[]]):=by simp[bg]
  have e3:aS kids++[aB .i64 x]=aS (kids++[x]):=by simp[aS]
  rw[e1,e3];exact D9 hc ⟨by simp,fun y hy=>by simp at hy;rw[hy];simp,by simp;omega,hn.high⟩ (by decide)
 ·refine v3 _ _ _ _ _ _ ?_ (.refl _);have h1:=xe s 0 _ hn;rw[aU rfl,Om hs (by omega)]at h1;unfold oN;rw[cG hc,wc,bp bd,aP];exact h1
theorem ad3{hi:Bs}{nx:Int}(hh:hi.length<=255){s:Bs}(hs:s.length<=252){c:UInt8}(hc:s[1]? = aA c):∀(j m:Nat) (kids:List Int),j=c.toNat->m<=s.length->kids.length=1->m=ff ⟨[],kids,hi,nx⟩ ->
  Go qk aD 0 (fF 138) (.head 0 (BW s (m:Int) 0 hi nx (aS kids))) (.done (qO ((fQ j (s.drop m)).bind fun y=>ot s ⟨y.1.map (·.1),kids++y.1.map (·.2),hi,nx⟩))):=by
 intro j;have hcl:=c.toNat_lt;have hss:dk s:=by simp only[dk];omega
 have wc:W .i64 (c.toNat:Int)=(c.toNat:Int):=bf (by omega);cases j with
 |zero =>
  intro m kids hij hm hkl hsz;have hn:Sm ⟨[],kids,hi,nx⟩:=⟨by simp only[fc];omega,fun x hx=>by simp at hx,by simp only;omega,by simp only;omega⟩
  refine v3 _ _ _ _ _ _ ?_ (.refl _);have h1:=xe s 0 _ hn;rw[aU rfl]at h1;unfold oN;rw[cG hc,wc,bp (by omega),aP];simp only[fQ,bk,fX,fh];exact h1
 |succ j =>
  intro m kids hij hm hkl hsz;have hn:Sm ⟨[],kids,hi,nx⟩:=⟨by simp only[fc];omega,fun x hx=>by simp at hx,by simp only;omega,by simp only;omega⟩
  cases hp:j4 (s.drop m)with
  |some x =>
   obtain⟨⟨t,k⟩,r'⟩:=x;obtain⟨h1,h2,h3,hle⟩:=yJ hp;obtain⟨_,htl,hk0,hk1⟩:=tN hp;have wn:W .i64 ((m:Int)+1+t.length+2)=((m+1+t.length+2:Nat):Int):=by rw[bf (by omega)];omega
   have hsz2:m+1+t.length+2=ff ⟨[t],kids++[k],hi,nx⟩:=by rw[hsz];simp only[ff,cW];omega
   refine v3 _ _ _ _ _ _ (o:=.head 0 (qF s ((m+1+t.length+2:Nat):Int) 0 ((1:Nat):Int) hi nx (bg [t]) (aS (kids++[k])))) ?_ ?_
   ·unfold oN;rw[cG hc,wc,aW (by omega),aZ,db rfl,aZ,aN (iz h1 hss),d5,aQ (by simp),aN (ma h2 hss),bF,aQ (by simp[cy];omega),wn];simp[bg,aS]
   ·have:=(ad4 hh hs hc j (m+1+t.length+2) 1 [t] (kids++[k]) (by omega) hle rfl (by simp;omega) (by simpa using htl) hsz2)
    rw[h3]at this;simp only[fQ,hp,bk,FU,uB];simpa[uB,Function.comp_def]using this
  |none =>
   have hnone:((fQ (j+1) (s.drop m)).bind fun y=>ot s ⟨y.1.map (·.1),kids++y.1.map (·.2),hi,nx⟩)=none:=by
    simp only[fQ,hp,FS]
   rw[hnone];obtain⟨t,to,e,he⟩:∃t to e,dW s (m:Int)=(t,to,e):=⟨_,_,_,rfl⟩
   have hb:=yI hm hp he;rcases hb with⟨hb,ht,hto⟩|⟨rfl,htl,hto,h4,h5,h6⟩
   ·subst ht hto;obtain⟨x,e2,hx⟩:∃x e2,fe s 0 2=(x,e2):=⟨_,_,rfl⟩
    have hq:=Eq.refl (oN s (m:Int) 0 hi nx (aS kids))
    conv at hq =>
     rhs
     unfold oN;rw[cG hc,wc,aW (by omega),aZ,db rfl,aZ,aN (iz he hss),d5,aQ (by simp),aN (ma hx hss),bF,aQ (by simp[cy];omega)]
    refine v3 _ _ _ _ _ _ hq (qf _ _ _ _ _ _ _ _ ?_ (.refl _));have e1:[aE []]=bg ([[]]):=by simp[bg]
    have e3:aS kids++[aB .i64 x]=aS (kids++[x]):=by simp[aS]
    rw[e1,e3];exact D9 hc ⟨by simp,fun y hy=>by simp at hy;rw[hy];simp,by simp;omega,hn.high⟩ hb
   ·have wn:W .i64 (to+2)=((m+1+t.length+2:Nat):Int):=by rw[bf (by omega)];omega
    have hsz2:m+1+t.length+2=ff ⟨[t],kids++[0],hi,nx⟩:=by rw[hsz];simp only[ff,cW];omega
    refine v3 _ _ _ _ _ _ (o:=.head 0 (qF s ((m+1+t.length+2:Nat):Int) 0 ((1:Nat):Int) hi nx (bg [t]) (aS (kids++[0])))) ?_ (Ro hs hc ⟨by simp,fun y hy=>by simp at hy;rw[hy];omega,by simp;omega,hn.high⟩ (by simp;omega) (by simp) hsz2 (by omega));unfold oN;rw[cG hc,wc,aW (by omega),aZ,db rfl,aZ,aN (iz he hss),d5,aQ (by simp),aN (ma h6 hss),bF,aQ (by simp[cy];omega),wn];simp[bg,aS]
theorem Uu{α β:Type}:∀(l:List (α × β)),(l.map (·.1)).zip (l.map (·.2))=l
 | []=>rfl
 |x::l=>by simp only[d8,FP,Uu l]
theorem ZS{s:Bs}(hs:s.length<=252)(hl:4 < s.length){c0 c:UInt8}(h0:s[0]? = aA c0)(hc:s[1]? = aA c){t:Bs}{k:Int}{r rest:Bs}{y:List (Bs × Int)}
  (h1:j4 (s.drop 4)=aA ((t,k),r)) (h2:fQ c.toNat r=aA (y,rest)) :
  ot s ⟨y.map (·.1),k::y.map (·.2),t,((dU ((s.drop 2).take 2):Nat):Int)⟩=if c0=78 then oq ⟨y.map (·.1),k::y.map (·.2),t,((dU ((s.drop 2).take 2):Nat):Int)⟩ rest else none:=by
 obtain⟨e1,_⟩:=tN h1;obtain⟨e2,hyl,_⟩:=QT h2
 have q0:s=c0::s.drop 1:=by
  cases s with
  |nil=>simp at h0
  |cons a s=>simp at h0;simp[h0]
 have q1:s.drop 1=c::s.drop 2:=by
  rw[qy (by omega)];rw[cj (by omega)]at hc;injection hc with hc
  rw[hc]
 have q2:s.drop 2=(s.drop 2).take 2++s.drop 4:=by
  have:=(lk 2 (s.drop 2)).symm
  rwa [uu]at this
 have hb:cN 2 (dU ((s.drop 2).take 2))=(s.drop 2).take 2:=Ud (by simp;omega)
 have hbody:s=c0::(mA ⟨y.map (·.1),k::y.map (·.2),t,((dU ((s.drop 2).take 2):Nat):Int)⟩++rest):=by
  unfold mA xq;simp only[d9,hyl,UInt8.ofNat_toNat,bi,hb,List.headD_cons,List.tail_cons,Uu]
  have e3:(s.drop 2).take 2++(bN t++(cN 2 k.toNat++eU y))++rest=s.drop 2:=by
   rw[cO,cO (bN t),cO (cN 2 k.toNat),<-e2,<-cO (bN t),<-e1,<-q2]
  have e4:s=c0::c::((s.drop 2).take 2++(bN t++(cN 2 k.toNat++eU y))++rest):=by rw[e3,<-q1,<-q0]
  refine e4.trans ?_;simp only[ew,cO]
 generalize hn:(⟨y.map (·.1),k::y.map (·.2),t,((dU ((s.drop 2).take 2):Nat):Int)⟩:bV)=n at hbody |-
 unfold ot oq;cases hr:bZ n with
 |false=>simp
 |true =>
  have hen:cv n=78::mA n:=by unfold cv;rw[aU hr]
  have hsl:s.length=1+(mA n).length+rest.length:=by
   have:=ef oZ hbody;simp at this;omega
  have hp:iU (cv n) (s.length:Int)=(78::(mA n++fR rest.length),0):=by
   unfold iU;rw[hen,aY (by omega),aY (by simp;omega),bi];have:s.length - (78::mA n).length=rest.length:=by simp;omega
   rw[this];rfl
  rw[hp,dL,dL]
  by_cases hc0:c0=78
  ·rw[aU hc0];subst hc0
   by_cases hz:rest=fR rest.length
   ·rw[<-hz,<-hbody,F4.2 hz];simp
   ·have:mz rest≠[]:=fun h=>hz (F4.1 h)
    have h3:(mz rest==[])=false:=by simpa using this
    have h4:((78::(mA n++fR rest.length),(0:Int))==(s,(0:Int)))=false:=by
     rw[beq_eq_false_iff_ne];intro h;have h:=ef Prod.fst h;simp only at h;rw[hbody]at h;injection h with _ h
     exact hz (List.append_cancel_left h).symm
    rw[h3,h4]
  ·rw[aY hc0]
   have h4:((78::(mA n++fR rest.length),(0:Int))==(s,(0:Int)))=false:=by
    rw[beq_eq_false_iff_ne];intro h;have h:=ef Prod.fst h;simp only at h;rw[hbody]at h;injection h with h _
    exact hc0 h.symm
   rw[h4];rfl
theorem MD(s:Bs)(hss:dk s):bJ aI 138 [.str s]=aA (qO (kv s)):=by
 have hsl:=hss
 by_cases h1:s.length<=4
 ·refine zQ _ ?_ (.refl _);unfold sR kv;rw[aW (by omega),aU (.inl h1)];rfl
 by_cases h2:252 < s.length
 ·refine zQ _ ?_ (.refl _);unfold sR kv;rw[bp (by omega),aP,aW (by omega),aU (.inr (.inl h2))];rfl
 have hs:s.length<=252:=by omega
 obtain⟨c0,hc0⟩:∃c,s[0]? = aA c:=⟨_,cj (by omega)⟩
 obtain⟨c,hc⟩:∃c,s[1]? = aA c:=⟨_,cj (by omega)⟩
 have hh:s.head? = aA c0:=by rw[<-hc0];exact List.head?_eq_getElem?
 have hg2:fe s 2 2=(((dU ((s.drop 2).take 2):Nat):Int),0):=by
  unfold fe;rw[aU (yr (by omega) (by omega) (by omega) (by omega))];rfl
 have hcl:=c.toNat_lt;cases hp:j4 (s.drop 4)with
 |some x =>
  obtain⟨⟨hi,k⟩,r'⟩:=x;obtain⟨g1,g2,g3,hle⟩:=yJ hp;obtain⟨_,htl,hk0,hk1⟩:=tN hp;have wn:W .i64 (((4:Nat):Int)+1+hi.length+2)=((4+1+hi.length+2:Nat):Int):=by rw[bf (by omega)];omega
  have:=ad3 (nx:=((dU ((s.drop 2).take 2):Nat):Int)) htl hs hc c.toNat (4+1+hi.length+2) [k] rfl hle rfl (by simp only[ff,cW];omega);rw[g3]at this
  have hres:((fQ c.toNat r').bind fun y=>ot s ⟨y.1.map (·.1),[k]++y.1.map (·.2),hi,((dU ((s.drop 2).take 2):Nat):Int)⟩)=kv s:=by
   unfold kv;rw[OT hc,hp,bk];simp only;cases hq:fQ c.toNat r' with
   |none=>simp
   |some y =>
    obtain⟨y,rest⟩:=y;have:=ZS hs (by omega) hc0 hc hp hq;simp only[bk,ew,eA];rw[this]
    by_cases hz:c0=78
    ·rw[aU hz,aY (by rw[hh,hz];simp;omega)]
    ·rw[aY hz,aU (.inr (.inr (by rw[hh];simpa using hz)))]
  rw[hres]at this;refine zQ _ ?_ this;unfold sR;have g1:dW s 4=(hi,((4:Nat):Int)+1+hi.length,0):=g1;rw[bp (by omega),aP,bp (by omega),aP,aN (ma hg2 hss),bF,aN (iz g1 hss),d5,aN (ma g2 hss),bF,aQ (by simp),wn];rfl
 |none =>
  have hnone:kv s=none:=by
   unfold kv;rw[hp];split<;>rfl
  rw[hnone];obtain⟨t,to,e,he⟩:∃t to e,dW s ((4:Nat):Int)=(t,to,e):=⟨_,_,_,rfl⟩
  have hb:=yI (by omega) hp he;have he:dW s 4=(t,to,e):=he;rcases hb with⟨hb,ht,hto⟩|⟨rfl,htl,hto,h4,h5,h6⟩
  ·subst ht hto;obtain⟨x,e2,hx⟩:∃x e2,fe s 0 2=(x,e2):=⟨_,_,rfl⟩
   have hq:=Eq.refl (sR s)
   conv at hq =>
    rhs
    unfold sR;rw[bp (by omega),aP,bp (by omega),aP,aN (ma hg2 hss),bF,aN (iz he hss),d5,aN (ma hx hss),bF,aQ (by simp)]
   refine zQ _ hq (v3 _ _ _ _ _ _ ?_ (.refl _));exact ad2 (kids:=[x]) hc ⟨by simp,by simp,by simp,by simp⟩ hb
  ·have wn:W .i64 (to+2)=((4+1+t.length+2:Nat):Int):=by rw[bf (by omega)];omega
   have hq:=Eq.refl (sR s)
   conv at hq =>
    rhs
    unfold sR;rw[bp (by omega),aP,bp (by omega),aP,aN (ma hg2 hss),bF,aN (iz he hss),d5,aN (ma h6 hss),bF,aQ (by simp),wn]
   refine zQ _ hq ?_;exact ad1 (kids:=[0]) hs hc ⟨by simp,by simp,by simp,by simp only;omega⟩ (by simp) (by simp only[ff,cW];omega) (by omega)
theorem Cp(l:List Bs)(h:l.length<=1000000):bJ aI 171 [.sl (bg l)]=aA (.fr 9 (bg l)):=by
 refine DZ (g:=wZ 9 1) rfl ?_;show(if cw 1 (bg l)=aC/\((bg l).all fun x=>x.cells.all jw)=aC/\(bg l).length<=16777216 then aA (V.fr 9 (bg l)) else aF)=_;rw[aU ⟨yT l,OM fun _=>rfl,by rw[d7];omega⟩]
theorem Co(l:List Int)(h:l.length<=1000000):bJ aI 173 [.sl (aS l)]=aA (.fr 3 (aS l)):=by
 refine DZ (g:=wZ 3 1) rfl ?_;show(if cw 1 (aS l)=aC/\((aS l).all fun x=>x.cells.all jw)=aC/\(aS l).length<=16777216 then aA (V.fr 3 (aS l)) else aF)=_;rw[aU ⟨mS l,OM fun _=>rfl,by rw[cy];omega⟩]
theorem wb(l:List Bs)(k:Nat):(bg l).take k=bg (l.take k):=by simp[bg]
theorem wa(l:List Bs)(k:Nat):(bg l).drop k=bg (l.drop k):=by simp[bg]
theorem yL(a b:List Bs):bg a++bg b=bg (a++b):=by simp[bg]
theorem ags(a:Bs):[aE a]=bg [a]:=rfl
theorem vi(l:List Int)(k:Nat):(aS l).take k=aS (l.take k):=by simp[aS]
theorem vh(l:List Int)(k:Nat):(aS l).drop k=aS (l.drop k):=by simp[aS]
theorem pK(a b:List Int):aS a++aS b=aS (a++b):=by simp[aS]
theorem abf(a:Int):[aB .i64 a]=aS [a]:=rfl
theorem abe(a:List Int)(b:Int):aS a++[aB .i64 b]=aS (a++[b]):=by simp[aS]
theorem agr(a:List Bs)(b:Bs):bg a++[aE b]=bg (a++[b]):=by simp[bg]
theorem Pp(l:List Int)(k:Nat)(a:Int):(aS l).set k (aB .i64 a)=aS (l.set k a):=by simp[aS,List.map_set]
abbrev vM(p:bV × Int):V:=.tup [eI p.1,.int .i64 p.2]
abbrev j5(n:bV)(key:Bs)(kid:Int)(i:Nat):bV:=⟨n.seps.take i++[key]++n.seps.drop i,n.kids.take (i+1)++[kid]++n.kids.drop (i+1),n.high,n.next⟩
def mQ(n:bV)(key:Bs)(kid:Int):bV × Int :=
 if (jB n key).2=0/\d6 kid=aC then
  if 0 < fS n.seps key/\n.seps[fS n.seps key - 1]? = aA key then (jG,8) else
  if jV (j5 n key kid (fS n.seps key)) then (j5 n key kid (fS n.seps key),0) else (jG,6)
 else (jG,1)
theorem Re{n:bV}(h:Sm n)(hl:n.seps.length<=900)(hk:n.kids.length<=900){key:Bs}(hkey:key.length<=1000){kid:Int}{i:Nat}:Sm (j5 n key kid i):=by
 refine⟨by simp;omega,?_,by simp;omega,h.high⟩;intro s hs;rcases cz.1 hs with hs|hs
 ·rcases cz.1 hs with hs|hs
  ·exact h.sep s (o4 hs)
  ·simp at hs;rw[hs];exact hkey
 ·exact h.sep s (qA hs)
theorem Oq{n:bV}{key:Bs}(h:(jB n key).2=0):jB n key=(((fS n.seps key:Nat):Int),0)/\bZ n=true:=by
 unfold jB at h |-
 split at h
 ·rename_i hc;rw[aU hc];simp only[co]at hc;exact⟨rfl,hc.1.1⟩
 ·cases h
theorem Ot{n:bV}{key:Bs}(h:(jB n key).2≠0):jB n key=(0,1):=by
 unfold jB at h |-
 split
 ·rename_i hc;rw[aU hc]at h;exact(h rfl).elim
 ·rfl
def TQ (n:bV) (key:Bs) (kid i:Int):R :=
 aL aI 171 [aG (bg n.seps)] fun r_2=>kF 9 r_2 fun r57 =>
 gd (decide (0<=i/\i.toNat<=r57.length/\r57.length+([aE key]:List V).length<=16777216)) <|
 aL aI 173 [aG (aS n.kids)] fun r_3=>kF 3 r_3 fun r59 =>
 gd (decide (0<=W .i64 (i+1)/\(W .i64 (i+1)).toNat<=r59.length/\r59.length+([aB .i64 kid]:List V).length<=16777216)) <|
 aL aI 204 [aH [aG (((r57.take i.toNat)++[aE key])++(r57.drop i.toNat)),aG (((r59.take ((W .i64 (i+1)).toNat))++[aB .i64 kid])++(r59.drop ((W .i64 (i+1)).toNat))),aE n.high,aB .i64 n.next]] fun r_4 =>
 kB r_4 fun r43=>cond (!r43) (aA (.done (aT [aH [aG [],aG [],aE [],aB .i64 0],aB .i64 6])))
  (aA (.done (aT [aH [aG (((r57.take i.toNat)++[aE key])++(r57.drop i.toNat)),aG (((r59.take ((W .i64 (i+1)).toNat))++[aB .i64 kid])++(r59.drop ((W .i64 (i+1)).toNat))),aE n.high,aB .i64 n.next],aB .i64 0])))
theorem agy(n:bV)(key:Bs)(kid:Int)(i:Nat)(h:Sm n)(hl:n.seps.length<=900)(hk:n.kids.length<=900)(hkey:key.length<=1000)(hi:i<=n.seps.length)(hik:i+1<=n.kids.length) :
  TQ n key kid (i:Int)=aA (.done (vM (if jV (j5 n key kid i) then (j5 n key kid i,0) else (jG,6)))):=by
 have w:W .i64 ((i:Int)+1)=((i+1:Nat):Int):=by rw[bf (by omega)];omega
 unfold TQ;rw[w,bi,bi,aN (Cp n.seps (by omega)),ir,aQ (by rw[d7];simp;omega),aN (Co n.kids (by omega)),ir,aQ (by rw[cy];simp;omega)];rw[ags,abf,wb,wa,yL,yL,vi,vh,pK,pK,aN (Oy (j5 n key kid i) (Re h hl hk hkey)),bI];cases jV (j5 n key kid i)<;>rfl
theorem D5(n:bV)(key:Bs)(kid:Int)(h:Sm n)(hkey:key.length<=1000):bJ aI 167 [eI n,.str key,.int .i64 kid]=aA (vM (mQ n key kid)):=by
 refine XL _ _ _ _ _ _ ?_;unfold G2 mQ;rw[aN (Ov n key h),Ct]
 by_cases hf:(jB n key).2=0
 rotate_left
 ·rw[Ot hf,fP (by decide),aY (by rintro⟨hq,_⟩;cases hq)];rfl
 obtain⟨hfa,hr⟩:=Oq hf;obtain⟨h1,_,h3,_,_,_,h7⟩:=k8 hr;have hg:=oR h3;have hle:=F3 n.seps key;rw[hfa,dA rfl,aP,aN (AB kid),bI];cases hp:d6 kid with
 |false=>rw[aY (by rintro⟨_,hq⟩;cases hq)];rfl
 |true =>
  rw[bK,aP,aU ⟨rfl,rfl⟩];generalize hi:fS n.seps key=i at hle;have ht:=agy n key kid i h (by omega) (by omega) hkey hle (by omega)
  by_cases h0:0 < i
  ·have w1:W .i64 ((i:Int) - 1)=((i - 1:Nat):Int):=by rw[bf (by omega)];omega
   have bd:i - 1 < n.seps.length:=by omega
   have hget:n.seps[i - 1]? = aA n.seps[i - 1]:=cj bd;rw[aW (show(i:Int) > 0 by omega),aZ,w1,aQ (by simp),bi,jC hget,cR]
   by_cases he:n.seps[i - 1]=key
   ·rw[he,fj,aU ⟨h0,by rw[hget,he]⟩];rfl
   ·have he2:(n.seps[i - 1]==key)=false:=by simpa using he
    rw[he2,aP,aY (by rintro⟨_,hq⟩;rw[hget]at hq;exact he (Option.some.inj hq))];exact ht
  ·rw[bp (show ¬(i:Int) > 0 by omega),aP,aY (by rintro⟨hq,_⟩;exact h0 hq)];exact ht
def TR (n:bV) (key:Bs) (kid i:Int):R :=
 gd (cw 1 (bg n.seps))<|gd (decide (0<=i))<|gd (decide (i.toNat<=(bg n.seps).length))<|gd (cw 1 ((bg n.seps).take i.toNat)) <|
 gd (decide (0+((bg n.seps).take i.toNat).length<=16777216))<|gd (decide (((bg n.seps).take i.toNat).length+([aE key]:List V).length<=16777216)) <|
 gd (cw 1 (bg n.seps))<|gd (decide (0<=i))<|gd (decide (i.toNat<=(bg n.seps).length))<|gd (cw 1 (((bg n.seps).take (bg n.seps).length).drop i.toNat)) <|
 gd (decide ((((bg n.seps).take i.toNat)++[aE key]).length+(((bg n.seps).take (bg n.seps).length).drop i.toNat).length<=16777216)) <|
 gd (cw 1 (aS n.kids))<|gd (decide (0<=W .i64 (i+1)))<|gd (decide ((W .i64 (i+1)).toNat<=(aS n.kids).length))<|gd (cw 1 ((aS n.kids).take ((W .i64 (i+1)).toNat))) <|
 gd (decide (0+((aS n.kids).take ((W .i64 (i+1)).toNat)).length<=16777216))<|gd (decide (((aS n.kids).take ((W .i64 (i+1)).toNat)).length+([aB .i64 kid]:List V).length<=16777216)) <|
 gd (cw 1 (aS n.kids))<|gd (decide (0<=W .i64 (i+1)))<|gd (decide ((W .i64 (i+1)).toNat<=(aS n.kids).length))<|gd (cw 1 (((aS n.kids).take (aS n.kids).length).drop ((W .i64 (i+1)).toNat))) <|
 gd (decide ((((aS n.kids).take ((W .i64 (i+1)).toNat))++[aB .i64 kid]).length+(((aS n.kids).take (aS n.kids).length).drop ((W .i64 (i+1)).toNat)).length<=16777216)) <|
 aL aI 201 [aH [aG ((((bg n.seps).take i.toNat)++[aE key])++(((bg n.seps).take (bg n.seps).length).drop i.toNat)),aG ((((aS n.kids).take ((W .i64 (i+1)).toNat))++[aB .i64 kid])++(((aS n.kids).take (aS n.kids).length).drop ((W .i64 (i+1)).toNat))),aE n.high,aB .i64 n.next]] fun r_2 =>
 kI .i64 r_2 fun r17=>cond (decide (W .i64 (r17 - (n.high.length:Int)) > 236)) (aA (.done (aT [aH [aG [],aG [],aE [],aB .i64 0],aB .i64 6])))
  (aA (.done (aT [aH [aG ((((bg n.seps).take i.toNat)++[aE key])++(((bg n.seps).take (bg n.seps).length).drop i.toNat)),aG ((((aS n.kids).take ((W .i64 (i+1)).toNat))++[aB .i64 kid])++(((aS n.kids).take (aS n.kids).length).drop ((W .i64 (i+1)).toNat))),aE n.high,aB .i64 n.next],aB .i64 0])))
theorem agz(n:bV)(key:Bs)(kid:Int)(i:Nat)(h:Sm n)(hl:n.seps.length<=900)(hk:n.kids.length<=900)(hkey:key.length<=1000)(hi:i<=n.seps.length)(hik:i+1<=n.kids.length) :
  TR n key kid (i:Int)=aA (.done (vM (if jV (j5 n key kid i) then (j5 n key kid i,0) else (jG,6)))):=by
 have w:W .i64 ((i:Int)+1)=((i+1:Nat):Int):=by rw[bf (by omega)];omega
 have hsm:=Re (n:=n) (key:=key) (kid:=kid) (i:=i) h hl hk hkey;have hsz:=EZ hsm;have hh:=h.high;unfold TR;rw[w,bi,bi,iM,iM];simp (disch:=first|exact yT _|exact mS _|exact aW (by first|omega|(simp only[d7,cy,eV,eC,fD,dp,fc,gS];omega))) only[aQ,agr,abe,wb,wa,yL,vi,vh,pK];rw[aN (Ty (j5 n key kid i) hsm),bF,bf (by omega)];have hsz':ff (j5 n key kid i)=7+n.high.length+cW (j5 n key kid i).seps:=rfl;unfold jV
 by_cases hf:16+7+cW (j5 n key kid i).seps<=252
 ·rw[bp (by omega),aW hf];rfl
 ·rw[aW (by omega),bp hf];rfl
theorem D6(n:bV)(key:Bs)(kid:Int)(h:Sm n)(hkey:key.length<=1000):bJ aI 149 [eI n,.str key,.int .i64 kid]=aA (vM (mQ n key kid)):=by
 refine Xq _ _ _ _ _ _ ?_;unfold GQ mQ;rw[aN (Oo n key h hkey),Ct]
 by_cases hf:(jB n key).2=0
 rotate_left
 ·rw[Ot hf,fP (by decide),aY (by rintro⟨hq,_⟩;cases hq)];rfl
 obtain⟨hfa,hr⟩:=Oq hf;obtain⟨h1,_,h3,_,_,_,h7⟩:=k8 hr;have hg:=oR h3;have hle:=F3 n.seps key;rw[hfa,dA rfl,aP,aN (IW kid),bI];cases hp:d6 kid with
 |false=>rw[aY (by rintro⟨_,hq⟩;cases hq)];rfl
 |true =>
  rw[bK,aP,aU ⟨rfl,rfl⟩];generalize hi:fS n.seps key=i at hle;have ht:=agz n key kid i h (by omega) (by omega) hkey hle (by omega)
  by_cases h0:0 < i
  ·have w1:W .i64 ((i:Int) - 1)=((i - 1:Nat):Int):=by rw[bf (by omega)];omega
   have bd:i - 1 < n.seps.length:=by omega
   have hget:n.seps[i - 1]? = aA n.seps[i - 1]:=cj bd;rw[aW (show(i:Int) > 0 by omega),aZ,w1,aQ (by simp),bi,jC hget,cR]
   by_cases he:n.seps[i - 1]=key
   ·rw[he,fj,aU ⟨h0,by rw[hget,he]⟩];rfl
   ·have he2:(n.seps[i - 1]==key)=false:=by simpa using he
    rw[he2,aP,aY (by rintro⟨_,hq⟩;rw[hget]at hq;exact he (Option.some.inj hq))];exact ht
  ·rw[bp (show ¬(i:Int) > 0 by omega),aP,aY (by rintro⟨hq,_⟩;exact h0 hq)];exact ht
abbrev sQ(n:bV)(i:Nat):bV:=⟨n.seps.take (i - 1)++n.seps.drop (i - 1+1),n.kids.take i++n.kids.drop (i+1),n.high,n.next⟩
def gD(n:bV)(i:Int):bV × Int:=if bZ n=aC/\0<=i/\i < (n.kids.length:Int)/\2<=n.kids.length then (sQ n i.toNat,0) else (jG,1)
theorem Wk(n:bV)(i:Int)(h:Sm n):bJ aI 126 [eI n,.int .i64 i]=aA (vM (gD n i)):=by
 refine Xb _ _ _ _ _ ?_;unfold GL;rw[aN (yp n h),bI,cy];cases hr:bZ n with
 |false =>
  have hd:gD n i=(jG,1):=by unfold gD;exact aY (by rw[hr];rintro⟨hq,_⟩;cases hq)
  rw[hd];rfl
 |true =>
  obtain⟨h1,_,h3,_,_,_,h7⟩:=k8 hr;have hg:=oR h3;rw[bK,aP]
  by_cases g1:i < 0
  ·have hd:gD n i=(jG,1):=by unfold gD;exact aY (by omega)
   rw[hd,aW g1];rfl
  rw[bp g1,aP]
  by_cases g2:i ≥ (n.kids.length:Int)
  ·have hd:gD n i=(jG,1):=by unfold gD;exact aY (by omega)
   rw[hd,aW g2];rfl
  rw[bp g2,aP]
  by_cases g3:n.kids.length=1
  ·have hd:gD n i=(jG,1):=by unfold gD;exact aY (by omega)
   rw[hd,db (by omega)];rfl
  rw[dH (by omega),aP];have hd:gD n i=(sQ n i.toNat,0):=by unfold gD;exact aU ⟨hr,by omega,by omega,by omega⟩
  rw[hd];obtain⟨k,rfl⟩:∃k:Nat,i=(k:Int):=⟨i.toNat,by omega⟩
  have w1:W .i64 ((k:Int) - 1)=(k:Int) - 1:=bf (by omega);have w2:W .i64 ((k:Int)+1)=((k+1:Nat):Int):=by rw[bf (by omega)];omega
  have hm:(if 0 < (k:Int) - 1 then (k:Int) - 1 else 0)=((k - 1:Nat):Int):=by split<;>omega
  have w3:W .i64 (((k - 1:Nat):Int)+1)=((k - 1+1:Nat):Int):=by rw[bf (by omega)];omega
  rw[w1,w2,hm,w3,bi,bi,bi,bi,aN (Cp n.seps (by omega)),ir,aQ (by rw[d7];simp;omega),aN (Co n.kids (by omega)),ir,aQ (by rw[cy];simp;omega)];rw[wb,wa,yL,vi,vh,pK]
theorem Wn(n:bV)(i:Int)(h:Sm n):bJ aI 152 [eI n,.int .i64 i]=aA (vM (gD n i)):=by
 refine Xw _ _ _ _ _ ?_;unfold GU;rw[aN (qb n h),bI,cy];cases hr:bZ n with
 |false =>
  have hd:gD n i=(jG,1):=by unfold gD;exact aY (by rw[hr];rintro⟨hq,_⟩;cases hq)
  rw[hd];rfl
 |true =>
  obtain⟨h1,_,h3,_,_,_,h7⟩:=k8 hr;have hg:=oR h3;rw[bK,aP]
  by_cases g1:i < 0
  ·have hd:gD n i=(jG,1):=by unfold gD;exact aY (by omega)
   rw[hd,aW g1];rfl
  rw[bp g1,aP]
  by_cases g2:i ≥ (n.kids.length:Int)
  ·have hd:gD n i=(jG,1):=by unfold gD;exact aY (by omega)
   rw[hd,aW g2];rfl
  rw[bp g2,aP]
  by_cases g3:(n.kids.length:Int) < 2
  ·have hd:gD n i=(jG,1):=by unfold gD;exact aY (by omega)
   rw[hd,aW g3];rfl
  rw[bp g3,aP];have hd:gD n i=(sQ n i.toNat,0):=by unfold gD;exact aU ⟨hr,by omega,by omega,by omega⟩
  rw[hd];obtain⟨k,rfl⟩:∃k:Nat,i=(k:Int):=⟨i.toNat,by omega⟩
  have w2:W .i64 ((k:Int)+1)=((k+1:Nat):Int):=by rw[bf (by omega)];omega
  rw[w2,bi,bi,iM,d7];have et:(aS n.kids).take n.kids.length=aS n.kids:=by rw[<-cy,iM]
  have es:(bg n.seps).take n.seps.length=bg n.seps:=by rw[<-d7,iM]
  rw[et]
  by_cases g4:(k:Int)=0
  ·have:k=0:=by omega
   rw[db g4,aZ];subst this;simp (disch:=first|exact yT _|exact mS _|exact aW (by first|omega|(simp only[d7,cy,eV,eC,fD,dp,fc,gS];omega))) only[aQ,wb,wa,yL,vi,vh,pK]
  ·have w1:W .i64 ((k:Int) - 1)=((k - 1:Nat):Int):=by rw[bf (by omega)];omega
   have w3:W .i64 (((k - 1:Nat):Int)+1)=((k - 1+1:Nat):Int):=by rw[bf (by omega)];omega
   rw[dH g4,aP,w1,w3,bi,bi];simp (disch:=first|exact yT _|exact mS _|exact aW (by first|omega|(simp only[d7,cy,eV,eC,fD,dp,fc,gS];omega))) only[aQ,wb,wa,yL,vi,vh,pK]
abbrev rI(n:bV)(to:Int):bV:=⟨n.seps.take (n.seps.length / 2),n.kids.take (n.seps.length / 2+1),n.seps.getD (n.seps.length / 2) [],to+1⟩
abbrev rJ(n:bV):bV:=⟨n.seps.drop (n.seps.length / 2+1),n.kids.drop (n.seps.length / 2+1),n.high,n.next⟩
def rK(n:bV)(to:Int):bV × bV × Bs × Int :=
 if bZ n=aC/\3<=n.kids.length/\d6 to=aC then (rI n to,rJ n,n.seps.getD (n.seps.length / 2) [],0) else (jG,jG,[],1)
abbrev QP(p:bV × bV × Bs × Int):V:=.tup [eI p.1,eI p.2.1,.str p.2.2.1,.int .i64 p.2.2.2]
theorem af9(n:bV)(to:Int)(h:Sm n):bJ aI 168 [eI n,.int .i64 to]=aA (QP (rK n to)):=by
 refine XN _ _ _ _ _ ?_;have hs:=h.seps;have hk:=h.kids;unfold G3 rK;rw[aN (yp n h),bI,cy,d7];cases hr:bZ n with
 |false=>rw[aY (by rintro⟨hq,_⟩;cases hq)];rfl
 |true =>
  obtain⟨h1,_⟩:=k8 hr;rw[bK,aP]
  by_cases g1:(n.kids.length:Int) < 3
  ·rw[aW g1,aY (by omega)];rfl
  rw[bp g1,aP,aN (AB to),bI];cases hp:d6 to with
  |false=>rw[aY (by rintro⟨_,_,hq⟩;cases hq)];rfl
  |true =>
   have hto:=rp hp;rw[bK,aP,aU ⟨rfl,by omega,rfl⟩]
   have wd:W .i64 ((n.seps.length:Int).tdiv 2)=((n.seps.length / 2:Nat):Int):=by
    rw[show((n.seps.length:Int)).tdiv 2=((n.seps.length / 2:Nat):Int) from rfl];exact bf (by omega)
   rw[wd];obtain⟨m,hm⟩:∃m,n.seps.length / 2=m:=⟨_,rfl⟩
   have hm2:m < n.seps.length:=by omega
   rw[hm];have w1:W .i64 ((m:Int)+1)=((m+1:Nat):Int):=by rw[bf (by omega)];omega
   have w2:W .i64 (to+1)=to+1:=bf (by omega);have hget:n.seps[m]? = aA n.seps[m]:=cj hm2;have hd:n.seps.getD m []=n.seps[m]:=by simp[List.getD,hget]
   have e1:rI n to=⟨n.seps.take m,n.kids.take (m+1),n.seps[m],to+1⟩:=by unfold rI;rw[hm,hd]
   have e2:rJ n=⟨n.seps.drop (m+1),n.kids.drop (m+1),n.high,n.next⟩:=by unfold rJ;rw[hm]
   rw[e1,e2];have et:(aS n.kids).take n.kids.length=aS n.kids:=by rw[<-cy,iM]
   have es:(bg n.seps).take n.seps.length=bg n.seps:=by rw[<-d7,iM]
   rw[hd,w1,w2,bi,bi,et,es,wb,wa,vi,vh];have q1:=Cp (n.seps.take m) (by simp;omega);have q2:=Cp (n.seps.drop (m+1)) (by simp;omega);have q3:=Co (n.kids.take (m+1)) (by simp;omega);have q4:=Co (n.kids.drop (m+1)) (by simp;omega);simp (disch:=first|exact yT _|exact mS _|exact aW (by first|omega|(simp only[d7,cy,eV,eC,fD,dp,fc,gS];omega))) only[aQ,jC hget,cR,aN q1,aN q2,aN q3,aN q4,ir]
theorem aga(n:bV)(to:Int)(h:Sm n):bJ aI 150 [eI n,.int .i64 to]=aA (QP (rK n to)):=by
 refine Xt _ _ _ _ _ ?_;have hs:=h.seps;have hk:=h.kids;unfold GR rK;rw[aN (qb n h),bI,cy,d7];cases hr:bZ n with
 |false=>rw[aY (by rintro⟨hq,_⟩;cases hq)];rfl
 |true =>
  obtain⟨h1,_⟩:=k8 hr;rw[bK,aP]
  by_cases g1:(n.kids.length:Int) < 3
  ·rw[aW g1,aY (by omega)];rfl
  rw[bp g1,aP,aN (IW to),bI];cases hp:d6 to with
  |false=>rw[aY (by rintro⟨_,_,hq⟩;cases hq)];rfl
  |true =>
   have hto:=rp hp;rw[bK,aP,aU ⟨rfl,by omega,rfl⟩]
   have wd:W .i64 ((n.seps.length:Int).tdiv 2)=((n.seps.length / 2:Nat):Int):=by
    rw[show((n.seps.length:Int)).tdiv 2=((n.seps.length / 2:Nat):Int) from rfl];exact bf (by omega)
   rw[wd];obtain⟨m,hm⟩:∃m,n.seps.length / 2=m:=⟨_,rfl⟩
   have hm2:m < n.seps.length:=by omega
   rw[hm];have w1:W .i64 ((m:Int)+1)=((m+1:Nat):Int):=by rw[bf (by omega)];omega
   have w2:W .i64 (to+1)=to+1:=bf (by omega);have hget:n.seps[m]? = aA n.seps[m]:=cj hm2;have hd:n.seps.getD m []=n.seps[m]:=by simp[List.getD,hget]
   have e1:rI n to=⟨n.seps.take m,n.kids.take (m+1),n.seps[m],to+1⟩:=by unfold rI;rw[hm,hd]
   have e2:rJ n=⟨n.seps.drop (m+1),n.kids.drop (m+1),n.high,n.next⟩:=by unfold rJ;rw[hm]
   rw[e1,e2];have et:(aS n.kids).take n.kids.length=aS n.kids:=by rw[<-cy,iM]
   have es:(bg n.seps).take n.seps.length=bg n.seps:=by rw[<-d7,iM]
   rw[hd,w1,w2,bi,bi,et,es,wb,wa,vi,vh];simp (disch:=first|exact yT _|exact mS _|exact aW (by first|omega|(simp only[d7,cy,eV,eC,fD,dp,fc,gS];omega))) only[aQ,jC hget,cR]
set_option maxRecDepth 100000
def eu(b0 b1 b2 b3 b4 b5 b6 b7:Bool):Nat:=b0.toNat+2 * b1.toNat+4 * b2.toNat+8 * b3.toNat+16 * b4.toNat+32 * b5.toNat+64 * b6.toNat+128 * b7.toNat
abbrev rL(n r:Nat):Bool:=(W .u8 (((BitVec.ofInt (IntKind.bits .u8) (n:Int) &&& BitVec.ofInt (IntKind.bits .u8) (r:Int)).toNat:Int))) != (0:Int)
abbrev qg(n r:Nat):Int:=W .u8 (((BitVec.ofInt (IntKind.bits .u8) (n:Int) |||BitVec.ofInt (IntKind.bits .u8) (r:Int)).toNat:Int))
theorem agO:∀b0 b1 b2 b3 b4 b5 b6 b7:Bool,
  rL (eu b0 b1 b2 b3 b4 b5 b6 b7) 1=b0/\rL (eu b0 b1 b2 b3 b4 b5 b6 b7) 2=b1/\rL (eu b0 b1 b2 b3 b4 b5 b6 b7) 4=b2/\rL (eu b0 b1 b2 b3 b4 b5 b6 b7) 8=b3 /\
  rL (eu b0 b1 b2 b3 b4 b5 b6 b7) 16=b4/\rL (eu b0 b1 b2 b3 b4 b5 b6 b7) 32=b5/\rL (eu b0 b1 b2 b3 b4 b5 b6 b7) 64=b6/\rL (eu b0 b1 b2 b3 b4 b5 b6 b7) 128=b7:=by decide +kernel
theorem afN:∀b0 b1 b2 b3 b4 b5 b6 b7:Bool,
  qg (eu b0 b1 b2 b3 b4 b5 b6 b7) 1=(eu aC b1 b2 b3 b4 b5 b6 b7:Nat)/\qg (eu b0 b1 b2 b3 b4 b5 b6 b7) 2=(eu b0 aC b2 b3 b4 b5 b6 b7:Nat)/\qg (eu b0 b1 b2 b3 b4 b5 b6 b7) 4=(eu b0 b1 aC b3 b4 b5 b6 b7:Nat)/\qg (eu b0 b1 b2 b3 b4 b5 b6 b7) 8=(eu b0 b1 b2 aC b4 b5 b6 b7:Nat) /\
  qg (eu b0 b1 b2 b3 b4 b5 b6 b7) 16=(eu b0 b1 b2 b3 aC b5 b6 b7:Nat)/\qg (eu b0 b1 b2 b3 b4 b5 b6 b7) 32=(eu b0 b1 b2 b3 b4 aC b6 b7:Nat)/\qg (eu b0 b1 b2 b3 b4 b5 b6 b7) 64=(eu b0 b1 b2 b3 b4 b5 aC b7:Nat)/\qg (eu b0 b1 b2 b3 b4 b5 b6 b7) 128=(eu b0 b1 b2 b3 b4 b5 b6 true:Nat):=by decide +kernel
def mC(f:Nat->Bool)(j:Nat):Nat:=eu (f (8 * j)) (f (8 * j+1)) (f (8 * j+2)) (f (8 * j+3)) (f (8 * j+4)) (f (8 * j+5)) (f (8 * j+6)) (f (8 * j+7))
def e9(f:Nat->Bool)(i:Nat)(b:Bool):Nat->Bool:=fun k=>if k=i then b else f k
theorem IF(i:Nat):∃j k,k < 8/\i=8 * j+k/\i / 8=j/\i % 8=k:=⟨i / 8,i % 8,Nat.mod_lt _ (by omega),by omega,rfl,rfl⟩
theorem I3{k:Nat}(h:k < 8):k=0∨k=1∨k=2∨k=3∨k=4∨k=5∨k=6∨k=7:=by omega
theorem Vs(f:Nat->Bool)(i:Nat):rL (mC f (i / 8)) (2 ^ (i % 8))=f i:=by
 obtain⟨j,k,hk,e,e1,e2⟩:=IF i;rw[e1,e2,e];have h:=agO (f (8 * j)) (f (8 * j+1)) (f (8 * j+2)) (f (8 * j+3)) (f (8 * j+4)) (f (8 * j+5)) (f (8 * j+6)) (f (8 * j+7));obtain⟨h0,h1,h2,h3,h4,h5,h6,h7⟩:=h;rcases I3 hk with rfl|rfl|rfl|rfl|rfl|rfl|rfl|rfl<;>assumption
theorem Vr(f:Nat->Bool)(i:Nat):qg (mC f (i / 8)) (2 ^ (i % 8))=(mC (e9 f i aC) (i / 8):Nat):=by
 obtain⟨j,k,hk,e,e1,e2⟩:=IF i;rw[e1,e2,e];have h:=afN (f (8 * j)) (f (8 * j+1)) (f (8 * j+2)) (f (8 * j+3)) (f (8 * j+4)) (f (8 * j+5)) (f (8 * j+6)) (f (8 * j+7));obtain⟨h0,h1,h2,h3,h4,h5,h6,h7⟩:=h
 have u:∀m,e9 f (8 * j+k) aC (8 * j+m)=if m=k then aC else f (8 * j+m):=by
  intro m;unfold e9
  by_cases e:m=k
  ·rw[aU (by omega),aU e]
  ·rw[aY (by omega),aY e]
 have u0:=u 0;rw[fL]at u0;unfold mC;rw[u0,u 1,u 2,u 3,u 4,u 5,u 6,u 7];rcases I3 hk with rfl|rfl|rfl|rfl|rfl|rfl|rfl|rfl<;>assumption
theorem Vq(f:Nat->Bool)(i j:Nat)(b:Bool)(h:j≠i / 8):mC (e9 f i b) j=mC f j:=by
 have:∀k,k < 8->e9 f i b (8 * j+k)=f (8 * j+k):=fun k hk=>by unfold e9;rw[aY (by omega)]
 unfold mC;rw[this 1 (by omega),this 2 (by omega),this 3 (by omega),this 4 (by omega),this 5 (by omega),this 6 (by omega),this 7 (by omega)];have:=this 0 (by omega);rw[fL]at this;rw[this]
def cD(n:Nat)(f:Nat->Bool):List V:=(fK ((n+7) / 8)).map fun j=>aB .u8 (mC f j:Nat)
theorem wU(n:Nat)(f:Nat->Bool):(cD n f).length=(n+7) / 8:=by simp[cD]
theorem wT{n i:Nat}(f:Nat->Bool)(h:i < n):(cD n f)[i / 8]? = aA (.int .u8 (mC f (i / 8):Nat)):=by
 unfold cD;rw[fW,rZ (by omega)];rfl
theorem L5{n i:Nat}(f:Nat->Bool)(b:Bool)(h:i < n):(cD n f).set (i / 8) (.int .u8 (mC (e9 f i b) (i / 8):Nat))=cD n (e9 f i b):=by
 apply uw;intro j;rw[FL]
 by_cases e:i / 8=j
 ·subst e;rw[aU rfl,aU (by rw[wU];omega),wT _ h]
 ·rw[aY e];unfold cD;rw[fW,fW];cases hj:(fK ((n+7) / 8))[j]? with
  |none=>rfl
  |some k =>
   have:k=j:=by
    have:=bX.1 hj;obtain⟨_,h2⟩:=this;simpa using h2.symm
   subst this;rw[du,du,Vq f i k b (Ne.symm e)]
theorem F6(i:Nat):bJ aI 193 [.int .i64 (i:Int)]=aA (.int .u8 ((2 ^ (i % 8):Nat):Int)):=by
 refine XU _ ?_;unfold G5;have hm:((i:Int)).tmod 8=((i % 8:Nat):Int):=rfl;have hk:=Nat.mod_lt i (show 0 < 8 by omega);rw[hm,bi,aQ (aW (by omega)),aQ (aW hk)];rcases I3 hk with e|e|e|e|e|e|e|e<;>rw[e]<;>rfl
theorem KY(i:Nat)(h:i < 100000):W .i64 ((i:Int).tdiv 8)=((i / 8:Nat):Int):=by
 rw[show(i:Int).tdiv 8=((i / 8:Nat):Int) from rfl,bf (by omega)]
def kV(n:Nat)(f:Nat->Bool)(i:Int):Bool:=decide (0<=i/\i < (n:Int)) && f i.toNat
theorem xx(n:Nat)(hn:n<=1024)(f:Nat->Bool)(i:Int):cA aI aX 137 [.ptr 0 0 0,.int .i64 i] (bm n (cD n f))=aA (qY (bm n (cD n f)) (kV n f i)):=by
 refine Xi _ _ _ (o:=.doneM (.bool (kV n f i)) (bm n (cD n f))) ?_ (.done (by kernel_rfl));unfold M8 kV
 by_cases h1:i ≥ 0
 case neg=>rw[bp h1,aP,bp (show ¬(0<=i/\i < (n:Int)) by omega)];rfl
 rw[aW h1,aZ]
 by_cases h2:i < (n:Int)
 case neg=>rw[bp h2,aP,bp (show ¬(0<=i/\i < (n:Int)) by omega)];rfl
 rw[aW h2,aZ,aW (show 0<=i/\i < (n:Int) by omega),dL];obtain⟨k,rfl⟩:∃k:Nat,i=(k:Int):=⟨i.toNat,by omega⟩
 rw[KY k (by omega),bi,bi,aQ (aW (by omega)),aQ (aW (by rw[wU];omega)),fY,cG (wT f (by omega)),bF,aN (F6 k),bF];have:=Vs f k;rw[<-this]
theorem agC(n:Nat)(hn:n<=1024)(f:Nat->Bool)(i:Nat)(hi:i < n)(hf:f i=aD):cA aI aX 180 [.ptr 0 0 0,.int .i64 (i:Int)] (bm n (cD n f))=aA (As (0,n,cD n (e9 f i aC))):=by
 refine XT _ _ _ (o:=.doneM (.int .i64 0) (bm n (cD n (e9 f i aC)))) ?_ (.done (by kernel_rfl));unfold Np;have his:kV n f (i:Int)=false:=by unfold kV;rw[bi,hf,gP]
 rw[aW (show(i:Int) ≥ 0 by omega),aZ,aW (show(i:Int) < (n:Int) by omega),bK,aP,cY xL (xx n hn f i),cF,his,aP,
  KY i (by omega),bi,aQ (aW (by omega)),aQ (aW (by rw[wU];omega)),fY,cG (wT f (by omega)),bF,aN (F6 i),bF,aQ (aW (by omega)),aQ (aW (by rw[wU];omega)),cG (wT f (by omega)),bF]
 have:=Vr f i;simp only[qg]at this;rw[this,L5 f aC hi]
def tO(l:List Nat):List V:=l.map fun k=>aT [.int .i64 ((k:Nat):Int)]
theorem R3(n:Nat)(hn:n<=1024):AO [.ref (.ref (.agg [.unk,.int .i64 (n:Int)]) 0) 0,.ref (.int .i64 0) 0]=aA (vW n 0)/\(vW n 0).map aT=tO (fK n):=by
 refine⟨aU (by omega),?_⟩;unfold vW tO;rw[List.map_map,bi];apply List.map_congr_left;intro k hk;have hk:k < n:=by simpa using hk
 show aT [.int .i64 ((0+(k:Int)) % (n:Int))]=_;rw[Int.zero_add,Int.emod_eq_of_lt (by omega) (by omega)]
def kC(n:Nat)(f:Nat->Bool):List Int:=((fK n).filter f).map fun k:Nat=>(k:Int)
theorem TX(n:Nat)(hn:n<=1024)(f:Nat->Bool):∀(l:List Nat) (acc:List Int),(∀k∈l,k < n)->acc.length+l.length<=2000 ->
  Go qk aC 2 (fF 90) (.head 0 (zB (tO l) n (cD n f) (aS acc))) (.doneM (.tail 5 0) (bm n (cD n f)++[aJ 135 (aK 0 0 0) aD,aM 3 [] 0,aJ 80 (bC 5 0) aD,aM 3 (aS (acc++(l.filter f).map fun k:Nat=>(k:Int))) 0]))
 | [],acc,_,_=>by
  refine Kw _ _ _ _ ?_ (.refl _);simp only[List.filter_nil,fX,fh];rfl
 |k::l,acc,h,hl=>by
  have hk:=h k (by simp);have his:kV n f (k:Int)=f k:=by unfold kV;rw[bi,aW (by omega),dL]
  have ih:=fun acc' (h':acc'.length+l.length<=2000)=>TX n hn f l acc' (fun x hx=>h x (by simp[hx])) h'
  simp only[dp]at hl;cases hf:f k with
  |true =>
   have ih:=ih (acc++[(k:Int)]) (by simp;omega);rw[cO]at ih;rw[FK hf,d8];refine Kw _ _ _ _ ?_ ih;unfold Kv;simp only[tO,d8,yn,jf,jo,bF,jp];rw[cY xL (xx n hn f k),cF,his,hf,aZ,aQ (aW (by rw[cy];simp;omega))];simp[aS]
  |false =>
   rw[FJ (by rw[hf];decide)];refine Kw _ _ _ _ ?_ (ih acc (by omega));unfold Kv;simp only[tO,d8,yn,jf,jo,bF,jp];rw[cY xL (xx n hn f k),cF,his,hf,aP]
theorem agE(n:Nat)(hn:n<=1024)(f:Nat->Bool):cA aI aX 90 [.ptr 0 0 0] (bm n (cD n f))=aA (xZ (bm n (cD n f)) (aS (kC n f))):=by
 obtain⟨r1,r2⟩:=R3 n hn;refine Zn _ _ ?_ ⟨_,_,TX n hn f (fK n) [] (fun k hk=>by simpa using hk) (by simp;omega),by kernel_rfl⟩;unfold NT;rw[r1,iT,r2];rfl
def C3(n:Nat)(f:Nat->Bool):Nat:=n - (kC n f).length
theorem KX(n:Nat)(f:Nat->Bool):(kC n f).length<=n:=by
 unfold kC;rw[d9];have:=List.length_filter_le f (fK n);simpa using this
theorem aaq(n:Nat)(hn:n<=1024)(f:Nat->Bool):cA aI aX 89 [.ptr 0 0 0] (bm n (cD n f))=aA (xY (bm n (cD n f)) (C3 n f:Nat)):=by
 refine Zm _ _ (o:=.doneM (.int .i64 (C3 n f:Nat)) (bm n (cD n f))) ?_ (.done (by kernel_rfl));unfold NS;have:=KX n f;rw[cY acT (agE n hn f),cF,cy,bf (by omega)];unfold C3;rw[show((n:Int) - ((kC n f).length:Int))=((n - (kC n f).length:Nat):Int) by omega]
def mI(n:Nat)(f:Nat->Bool):Option Nat:=(fK n).find? fun k=>!f k
theorem TV(n:Nat)(hn:n<=1024)(f:Nat->Bool)(k:Nat):∀(l:List Nat),(∀k∈l,k < n)->l.find? (fun k=>!f k)=aA k ->
  Go qk aC 2 (fF 131) (.head 0 (BV (tO l) n (cD n f))) (.doneM (.tup [.int .i64 (k:Int),.int .i64 0]) (bm n (cD n (e9 f k aC))++[aJ 135 (aK 0 0 0) aD,aJ 3 (aB .i64 (k:Int)) aD,aJ 27 (aB .i64 0) aD]))
 | [],_,h=>by cases h
 |i::l,h,hk=>by
  have hi:=h i (by simp);have his:kV n f (i:Int)=f i:=by unfold kV;rw[bi,aW (by omega),dL]
  rw[List.find?_cons]at hk;cases hf:f i with
  |false =>
   rw[hf]at hk;have e:i=k:=by simpa using hk
   rw[<-e];refine SC _ _ _ ?_ (.refl _);unfold JZ;simp only[tO,d8,yn,jf,jo,bF,jp];rw[cY xL (xx n hn f i),cF,his,hf,gb,aZ,cH acx (agC n hn f i hi hf)]
  |true =>
   rw[hf]at hk;refine SC _ _ _ ?_ (TV n hn f k l (fun x hx=>h x (by simp[hx])) hk);unfold JZ;simp only[tO,d8,yn,jf,jo,bF,jp];rw[cY xL (xx n hn f i),cF,his,hf,bK,aP]
theorem agD(n:Nat)(hn:n<=1024)(f:Nat->Bool)(k:Nat)(hk:mI n f=aA k):cA aI aX 131 [.ptr 0 0 0,.int .i64 0] (bm n (cD n f))=aA (An (k,0,n,cD n (e9 f k aC))):=by
 obtain⟨r1,r2⟩:=R3 n hn
 have hn0:0 < n:=by
  rcases BF n with h|h
  ·subst h;simp[mI]at hk
  ·exact h
 refine Xh _ _ _ ?_ ⟨_,_,TV n hn f k (fK n) (fun k hk=>by simpa using hk) hk,by kernel_rfl⟩;unfold M7;rw[aW (show(0:Int) ≥ 0 by omega),aZ,aW (show(0:Int) < (n:Int) by omega),bK,aP,r1,iT,r2]
set_option maxRecDepth 10000
abbrev Pr:=Bs × Bs
structure Lf where
 prs:List Pr
 high:Bs
 next:Int
abbrev pV(p:Pr):V:=.agg [.str p.1,.str p.2]
def bn(l:List Pr):List V:=l.map pV
abbrev eL(l:Lf):V:=.agg [.sl (bn l.prs),.str l.high,.int .i64 l.next]
theorem dv(l:List Pr):(bn l).length=l.length:=by simp[bn]
theorem fE{l:List Pr}{n:Nat}{x:Pr}{k:V->R}(h:l[n]? = aA x):bl (bn l) n k=k (pV x):=If h
structure ju(l:Lf):Prop where
 prs:l.prs.length<=1000
 pr:∀p∈l.prs,p.1.length<=1000/\p.2.length<=1000
 high:l.high.length<=1000
def bz:List Pr->Nat
 | []=>0
 |p::r=>2+p.1.length+p.2.length+bz r
theorem Fv:∀{l:List Pr},(∀p∈l,p.1.length<=1000/\p.2.length<=1000)->bz l<=2002 * l.length
 | [],_=>c7 _
 |p::r,h=>by
  have h1:=h p (by simp);have h2:=Fv (l:=r) fun x hx=>h x (by grind)
  simp only[bz,dp];omega
def ix(l:Lf):Nat:=5+l.high.length+bz l.prs
theorem KE{l:Lf}(h:ju l):ix l<=2100000:=by
 have h1:=Fv h.pr;have h2:=h.prs;have h3:=h.high;unfold ix;omega
theorem K1(p:Pr)(h1:p.1.length<=1000)(h2:p.2.length<=1000):bJ aI 165 [pV p]=aA (.int .i64 ((2+p.1.length+p.2.length:Nat):Int)):=by
 refine XJ _ _ ?_;unfold G1;rw[bf (n:=2+(p.1.length:Int)) (by omega),bf (by omega)];simp
theorem afV(l:List Pr)(hl:l.length<=1000)(hs:∀p∈l,p.1.length<=1000/\p.2.length<=1000):∀(r:List Pr) (k a:Nat),l.drop k=r->a<=2000+2002 * k ->
  Go qk aD 0 (fF 159) (.head 0 (wK (a:Int) (bn l) (l.length:Int) (k:Int))) (.done (.int .i64 ((a+bz r:Nat):Int))):=by
 intro r
 induction r with
 |nil =>
  intro k a hr ha;have h1:=fT hr;refine SH _ _ _ _ ?_ (.refl _);unfold J7;rw[bp (by omega)];rfl
 |cons x r ih =>
  intro k a hr ha;obtain⟨h1,h2,h3⟩:=ej hr;have hx:=hs x (dx h1);refine SH _ _ _ _ (o:=.head 0 (wK ((a+(2+x.1.length+x.2.length):Nat):Int) (bn l) (l.length:Int) ((k+1:Nat):Int))) ?_ ?_
  ·unfold J7;rw[aW (by omega),aZ,aQ (by simp),bi,fE h1];show(aL aI _ [pV x] _)=_;rw[aN (K1 x hx.1 hx.2),bF,bf (by omega),bf (by omega)];simp
  ·have:=ih (k+1) (a+(2+x.1.length+x.2.length)) h2 (by omega);rw[bz,show a+(2+x.1.length+x.2.length+bz r)=a+(2+x.1.length+x.2.length)+bz r from by omega];grind
theorem KF(l:Lf)(h:ju l):bJ aI 159 [eL l]=aA (.int .i64 (ix l:Int)):=by
 have hh:=h.high;refine XD _ _ _ (o:=.head 0 (wK ((5+l.high.length:Nat):Int) (bn l.prs) (l.prs.length:Int) ((0:Nat):Int))) ?_ (afV l.prs h.prs h.pr l.prs 0 _ rfl (by omega));unfold Nj;rw[dv,bf (by omega)];simp
def u9(l:Lf):Bool:=decide (21+bz l.prs<=252)
theorem HO(l:Lf)(h:ju l):bJ aI 118 [eL l]=aA (.bool (u9 l)):=by
 refine W5 _ _ _ ?_;have h1:=KE h;have h2:=h.high;unfold GI;rw[aN (KF l h),bF,bf (n:=(ix l:Int) - (l.high.length:Int)) (by omega),bf (by omega)];unfold u9;rw[lW.2 (show(ix l:Int) - (l.high.length:Int)+16<=252↔21+bz l.prs<=252 by unfold ix;omega)]
def eH(s:Bs):Bool:=decide (s.length<=32)
theorem yS(s:Bs):bJ aI 74 [.str s]=aA (.bool (eH s)):=by
 refine Y5 _ ?_;unfold Hw eH;rw[lW.2 (show(s.length:Int)<=32↔s.length<=32 by omega)]
def iW(p:Bs):List Pr->Bool
 | []=>aC
 |x::r=>cg x.1 && eH x.2 && lt p x.1 && iW x.1 r
def gm(p:Bs)(l:List Pr):Bs:=(l.map (·.1)).getLastD p
def sV(l:Lf):Bool:=decide (0<=l.next) && decide (l.next<=1024) && u9 l
def cK(l:Lf):Bool:=iW [] l.prs && gk (gm [] l.prs) l.high && sV l
theorem aew(l:Lf)(h:ju l):∀(r:List Pr) (k:Nat) (p:Bs),l.prs.drop k=r ->
  Go qk aD 0 (fF 115) (.head 0 (zf p (bn l.prs) (l.prs.length:Int) (k:Int) (bn l.prs) l.high l.next)) (.done (.bool (iW p r && gk (gm p r) l.high && sV l))):=by
 have hl:=h.prs;intro r
 induction r with
 |nil =>
  intro k p hr;have h1:=fT hr;refine AV _ _ _ _ _ _ _ ?_ (.refl _);unfold Ev;rw[bp (by omega),aP];simp only[aN (HO l h),bI,aN (lC l.high),iW,dL,gm,fX,List.getLastD_nil,gk,sV];grind
 |cons x r ih =>
  intro k p hr;obtain⟨h1,h2,h3⟩:=ej hr;have w:W .i64 ((k:Int)+1)=((k+1:Nat):Int):=by rw[bf (by omega)];omega
  have e0:Ev p (bn l.prs) (l.prs.length:Int) (k:Int) (bn l.prs) l.high l.next=cond (!cg x.1) (aA (.done (bc aD))) (cond (!eH x.2) (aA (.done (bc aD))) (cond (!lt p x.1) (aA (.done (bc aD))) (aA (.head 0 (zf x.1 (bn l.prs) (l.prs.length:Int) ((k+1:Nat):Int) (bn l.prs) l.high l.next))))):=by
   unfold Ev;rw[aW (by omega),aZ,aQ (by simp),bi,fE h1,fN,aN (lC x.1),bI,aN (yS x.2),bI,Iv x.1 p,w]
  have e1:(iW p (x::r) && gk (gm p (x::r)) l.high && sV l)=(cg x.1 && (eH x.2 && (lt p x.1 && (iW x.1 r && gk (gm x.1 r) l.high && sV l)))):=by
   unfold gm;rw[iW,d8,List.getLastD_cons];grind
  rw[e1];cases q1:cg x.1 with
  |false=>exact AV _ _ _ _ _ _ _ (e0.trans (by grind)) (.refl _)
  |true =>
   cases q2:eH x.2 with
   |false=>exact AV _ _ _ _ _ _ _ (e0.trans (by grind)) (.refl _)
   |true =>
    cases q3:lt p x.1 with
    |false=>exact AV _ _ _ _ _ _ _ (e0.trans (by grind)) (.refl _)
    |true =>
     refine AV _ _ _ _ _ _ _ (e0.trans (by rw[q1,q2,q3];rfl)) ?_;simp only[dL];exact ih (k+1) x.1 h2
theorem yo(l:Lf)(h:ju l):bJ aI 115 [eL l]=aA (.bool (cK l)):=by
 refine WX _ _ _ ?_ (aew l h l.prs 0 [] rfl);unfold MW;rw[dv];rfl
theorem tT:∀{l:List Pr} {p:Bs},iW p l=aC->∀x∈l,cg x.1=aC/\eH x.2=aC
 | [],_,_,x,hx=>by grind
 |y::l,p,h,x,hx=>by
  simp only[iW,co]at h;rcases dE.1 hx with rfl|hx
  ·grind
  ·exact tT h.2 x hx
theorem wm:∀{l:List Pr},(∀x∈l,cg x.1=aC)->3 * l.length<=bz l
 | [],_=>c7 _
 |x::l,h=>by
  have h1:=(fm (h x (by simp))).1;have h2:=wm (l:=l) fun y hy=>h y (by grind)
  simp only[bz,dp];omega
theorem ZB{l:Lf}:sV l=aC↔0<=l.next/\l.next<=1024/\bz l.prs<=231:=by
 unfold sV u9;grind
theorem nN{l:Lf}:cK l=aC↔iW [] l.prs=aC/\gk (gm [] l.prs) l.high=aC/\0<=l.next/\l.next<=1024/\bz l.prs<=231:=by
 unfold cK;rw[co,co,ZB,and_assoc]
theorem tc{p h:Bs}(e:gk p h=aC):h.length<=16:=by
 unfold gk at e;simp only[nS,co,iN]at e;rcases e with rfl|⟨e,_⟩
 ·simp
 ·exact(fm e).2
theorem tQ{l:Lf}(h:cK l=aC):ju l:=by
 obtain⟨h1,h2,_,_,h3⟩:=nN.1 h;have hm:=tT h1;have hg:=wm fun x hx=>(hm x hx).1
 have hh:=tc h2;refine⟨by omega,fun p hp=>?_,by omega⟩;have q1:=(fm (hm p hp).1).2;have q2:=(hm p hp).2;simp only[eH,iR]at q2;omega
def eZ:List Pr->Bs
 | []=>[]
 |p::r=>bN p.1++bN p.2++eZ r
theorem Sa:∀l:List Pr,(eZ l).length=bz l
 | []=>rfl
 |p::l=>by rw[eZ,bz];simp[Sa l];omega
def sH(l:Lf):Bs:=UInt8.ofNat l.prs.length::(cN 2 l.next.toNat++(bN l.high++eZ l.prs))
def bq(l:Lf):Bs:=76::sH l
theorem zV(l:Lf):(bq l).length=ix l:=by
 unfold bq sH ix;simp[eP,Sa];omega
theorem Zv(l:List Pr)(hll:l.length<=1000):∀(r:List Pr) (k:Nat) (d:Bs),l.drop k=r->(∀x∈r,x.1.length<=255/\x.2.length<=255)->d.length+bz r<=100000 ->
  Go qk aD 0 (fF 120) (.head 0 (zg (d++fR (bz r)) (d.length:Int) (bn l) (l.length:Int) (k:Int))) (.done (.str (d++eZ r))):=by
 intro r
 induction r with
 |nil =>
  intro k d hr _ _;have h1:=fT hr;refine Sy _ _ _ _ _ ?_ (.refl _);unfold JV;rw[bp (by omega)];simp[bz,eZ]
 |cons x r ih =>
  intro k d hr h hd;obtain⟨h1,h2,h3⟩:=ej hr;obtain⟨hx1,hx2⟩:=h x (by simp);have w:W .i64 ((k:Int)+1)=((k+1:Nat):Int):=by rw[bf (by omega)];omega
  have hw:bz (x::r)=x.1.length+1+(x.2.length+1+bz r):=by rw[bz];omega
  rw[hw]at hd |-
  have e1:=AH d x.1 (x.1.length+1+(x.2.length+1+bz r)) (d.length:Int) rfl hx1 (by omega);rw[show x.1.length+1+(x.2.length+1+bz r) - (x.1.length+1)=x.2.length+1+bz r by omega]at e1;have e2:=AH (d++bN x.1) x.2 (x.2.length+1+bz r) ((d.length:Int)+x.1.length+1) (by grind) hx2 (by omega);rw[show x.2.length+1+bz r - (x.2.length+1)=bz r by omega]at e2;refine Sy _ _ _ _ _ (o:=.head 0 (zg (d++bN x.1++bN x.2++fR (bz r)) ((d++bN x.1++bN x.2).length:Int) (bn l) (l.length:Int) ((k+1:Nat):Int))) ?_ ?_
  ·unfold JV
   rw[aW (by omega),aZ,aQ (by simp),bi,fE h1,fN,aN (AI e1 (by grind) (by grind)),d5,
    aN (AI e2 (by grind) (by grind)),d5,w]
   grind
  ·have:=ih (k+1) (d++bN x.1++bN x.2) h2 (fun y hy=>h y (by grind)) (by grind);rw[eZ];grind
theorem Zw(l:Lf)(h:cK l=aC):bJ aI 120 [eL l]=aA (.str (bq l)):=by
 have hsm:=tQ h;obtain⟨h1,h2,h3,h4,h5⟩:=nN.1 h;have hm:=tT h1;have hg:=wm fun x hx=>(hm x hx).1
 have hh:=tc h2;obtain⟨nn,hnn⟩:∃nn:Nat,l.next=(nn:Int):=⟨l.next.toNat,by omega⟩
 obtain⟨c,hc⟩:∃c:UInt8,c=UInt8.ofNat l.prs.length:=⟨_,rfl⟩
 have e0:iU [76] ((ix l:Nat):Int)=([76]++fR (1+(2+(l.high.length+1+bz l.prs))),0):=by
  have hz:ix l=1+(1+(2+(l.high.length+1+bz l.prs))):=by unfold ix;omega
  unfold iU;grind
 have e1:=yh [76] (1+(2+(l.high.length+1+bz l.prs))) 1 l.prs.length 1 1 rfl rfl (by omega) (by omega) (by omega) (by omega)
 have f1:cN 1 l.prs.length=[c]:=by
  rw[hc];show [UInt8.ofNat (l.prs.length % 256)]=_;grind
 rw[f1,show 1+(2+(l.high.length+1+bz l.prs)) - 1=2+(l.high.length+1+bz l.prs) by omega]at e1;have e2:=yh ([76]++[c]) (2+(l.high.length+1+bz l.prs)) 2 nn 2 2 rfl rfl (by omega) (by omega) (by omega) (by omega);rw[show 2+(l.high.length+1+bz l.prs) - 2=l.high.length+1+bz l.prs by omega]at e2;have e3:=AH ([76]++[c]++cN 2 nn) l.high (l.high.length+1+bz l.prs) 4 (by simp[eP]) (by omega) (by omega);rw[show l.high.length+1+bz l.prs - (l.high.length+1)=bz l.prs by omega]at e3;have hd:([76]++[c]++cN 2 nn++bN l.high).length=4+l.high.length+1:=by simp[eP];omega
 have hl:=Zv l.prs hsm.prs l.prs 0 ([76]++[c]++cN 2 nn++bN l.high) rfl (fun x hx=>by
  have q1:=(fm (hm x hx).1).2;have q2:=(hm x hx).2;simp only[eH,iR]at q2;omega) (by grind)
 have hfin:[76]++[c]++cN 2 nn++bN l.high++eZ l.prs=bq l:=by
  unfold bq sH;grind
 rw[hfin]at hl;have w0:W .u64 (l.prs.length:Int)=(l.prs.length:Int):=lq (by omega);have w1:W .u64 (nn:Int)=(nn:Int):=lq (by omega);have hat:(4:Int)+(l.high.length:Int)+1=(([76]++[c]++cN 2 nn++bN l.high).length:Nat):=by grind
 refine W8 _ _ _ ?_ hl;unfold MY;have s76:[UInt8.ofNat ((76:Int)).toNat]=([76]:Bs):=rfl
 rw[aN (yo l hsm),bI,h,bK,aP,aN (KF l hsm),bF,s76,aN (QV e0 (by decide)),jA,dv,w0,
  aN (yi e1 (by omega) (by grind)),jA,hnn,w1,aN (yi e2 (by omega) (by grind)),jA,
  aN (AI e3 (by grind) (by grind)),d5,hat]
 rfl
theorem mR(A t B:Bs)(h:t.length<=255):dW (A++(bN t++B)) ((A.length:Nat):Int)=(t,((A.length+1+t.length:Nat):Int),0):=by
 unfold dW;rw[aU (by grind),bi,List.drop_left];have hc:(UInt8.ofNat t.length).toNat=t.length:=by simp;omega
 grind
abbrev Rt(ps:List Pr)(high:Bs)(next:Int)(at_:Nat):V:=.tup [.agg [.sl (bn ps),.str high,.int .i64 next],.int .i64 (at_:Int),.bool aC]
theorem Ru(s:Bs)(hs:dk s)(n:Nat)(hn:n<=1000)(high:Bs)(next:Int):∀(r dn:List Pr) (A:Bs),s=A++eZ r->n=dn.length+r.length->(∀x∈r,x.1.length<=255/\x.2.length<=255) ->
  Go qk aD 0 (fF 175) (.head 1 (B0 s (n:Int) (A.length:Int) (n:Int) (dn.length:Int) high next (bn dn))) (.done (Rt (dn++r) high next s.length))
 | [],dn,A,hA,hl,_=>by
  refine SN _ _ _ _ _ _ _ _ ?_ (.refl _);unfold Kc;simp only[fc,fL]at hl;rw[bp (by omega),aP,hA];simp[eZ]
 |x::r,dn,A,hA,hl,hx=>by
  obtain⟨hx1,hx2⟩:=hx x (by simp);simp only[dp]at hl
  have e1:dW s (A.length:Nat)=(x.1,(((A++bN x.1).length:Nat):Int),0):=by
   rw[hA,eZ,cO,mR A x.1 _ hx1];grind
  have e2:dW s (((A++bN x.1).length:Nat):Int)=(x.2,(((A++bN x.1++bN x.2).length:Nat):Int),0):=by
   rw[hA,eZ,cO,<-cO A,mR (A++bN x.1) x.2 _ hx2];grind
  have w:W .u64 ((dn.length:Int)+1)=(((dn++[x]).length:Nat):Int):=by rw[lq (by omega)];simp
  have ih:=Ru s hs n hn high next r (dn++[x]) (A++bN x.1++bN x.2) (by rw[hA,eZ];simp) (by grind) (fun y hy=>hx y (by grind));rw[show dn++[x]++r=dn++x::r by simp]at ih
  refine SN _ _ _ _ _ _ _ _ (o:=.head 2 (qH s (n:Int) (A.length:Int) (n:Int) (dn.length:Int) 0 high next [] [] (bn dn))) ?_
   (afv _ _ _ _ _ _ _ _ _ _ (o:=.head 2 (qH s (n:Int) ((A++bN x.1).length:Nat) (n:Int) (dn.length:Int) 1 high next x.1 [] (bn dn))) ?_
   (afw _ _ _ _ _ _ _ _ _ _ (o:=.head 2 (qH s (n:Int) ((A++bN x.1++bN x.2).length:Nat) (n:Int) (dn.length:Int) 2 high next x.1 x.2 (bn dn))) ?_
   (afx _ _ _ _ _ _ _ _ _ _ ?_ ih)))
  ·unfold Kc;grind
  ·unfold SS;rw[aN (lL e1 hs),d5,dA rfl,aP]
  ·unfold SU;rw[aN (lL e2 hs),d5,dA rfl,aP]
  ·unfold SV;rw[aQ (aW (by simp only[dv,eV,eC,fD,dp,fc];omega)),w];simp[bn]
theorem aeg(l:Lf)(h:cK l=aC):bJ aI 175 [.str (bq l)]=aA (Rt l.prs l.high l.next (bq l).length):=by
 have hsm:=tQ h;obtain⟨h1,h2,h3,h4,h5⟩:=nN.1 h;have hm:=tT h1;have hg:=wm fun x hx=>(hm x hx).1
 have hh:=tc h2;have hlen:=zV l;have hs:dk (bq l):=by rw[dk,hlen];unfold ix;omega
 obtain⟨nn,hnn⟩:∃nn:Nat,l.next=(nn:Int):=⟨l.next.toNat,by omega⟩
 have hpr:∀x∈l.prs,x.1.length<=255/\x.2.length<=255:=fun x hx=>by
  have q1:=(fm (hm x hx).1).2;have q2:=(hm x hx).2;simp only[eH,iR]at q2;omega
 have g1:fe (bq l) 1 1=(((l.prs.length:Nat):Int),0):=by
  unfold fe;rw[aU (yr (by omega) (by omega) (by omega) (by rw[hlen];unfold ix;omega))];have:(bq l).drop 1=UInt8.ofNat l.prs.length::(cN 2 l.next.toNat++(bN l.high++eZ l.prs)):=rfl;show(((dU (((bq l).drop 1).take 1):Nat):Int),(0:Int))=_;rw[this];simp[dU];omega
 have q16:(256:Nat) ^ 2=65536:=by decide
 have g2:fe (bq l) 2 2=(l.next,0):=by
  unfold fe;rw[aU (yr (by omega) (by omega) (by omega) (by rw[hlen];unfold ix;omega))];have:(bq l).drop 2=cN 2 l.next.toNat++(bN l.high++eZ l.prs):=rfl;show(((dU (((bq l).drop 2).take 2):Nat):Int),(0:Int))=_;rw[this,BC (by rw[eP];omega),sd (by rw[eP];omega),Fj 2 l.next.toNat (by omega)];grind
 have hA:(76::UInt8.ofNat l.prs.length::cN 2 l.next.toNat:Bs).length=4:=by simp[eP]
 have g3:dW (bq l) 4=(l.high,(((76::UInt8.ofNat l.prs.length::(cN 2 l.next.toNat++bN l.high):Bs).length:Nat):Int),0):=by
  have e:bq l=(76::UInt8.ofNat l.prs.length::cN 2 l.next.toNat)++(bN l.high++eZ l.prs):=rfl;have:=mR (76::UInt8.ofNat l.prs.length::cN 2 l.next.toNat) l.high (eZ l.prs) (by omega);grind
 have hAA:bq l=(76::UInt8.ofNat l.prs.length::(cN 2 l.next.toNat++bN l.high))++eZ l.prs:=by simp[bq,sH]
 generalize hAd:(76::UInt8.ofNat l.prs.length::(cN 2 l.next.toNat++bN l.high):Bs)=A at g3 hAA;have w:W .i64 l.next=l.next:=bf (by omega);refine No _ (o:=.head 0 (FV (bq l) (l.prs.length:Int) (A.length:Int) l.high l.next)) ?_ (afr _ _ _ _ _ rfl ?_)
 ·unfold G4;rw[aN (kQ g1 hs),ki,aN (kQ g2 hs),ki,aN (lL g3 hs),d5,dA rfl,aP,aP,aP,w];rfl
 ·cases hp:l.prs with
  |nil =>
   refine SL _ _ _ _ _ _ ?_ (.refl _);unfold Kb;rw[bp (by simp),aP];rw[hp]at hAA;rw[hAA];simp[eZ,bn]
  |cons x r =>
   rw[hp]at hAA hpr;have hN:l.prs.length<=1000:=by omega
   rw[hp,dp]at hN;obtain⟨hx1,hx2⟩:=hpr x (by simp)
   have e1:dW (bq l) (A.length:Nat)=(x.1,(((A++bN x.1).length:Nat):Int),0):=by
    rw[hAA,eZ,cO,mR A x.1 _ hx1];grind
   have e2:dW (bq l) (((A++bN x.1).length:Nat):Int)=(x.2,(((A++bN x.1++bN x.2).length:Nat):Int),0):=by
    rw[hAA,eZ,cO,<-cO A,mR (A++bN x.1) x.2 _ hx2];grind
   have fin:=Ru (bq l) hs (r.length+1) hN l.high l.next r [x] (A++bN x.1++bN x.2) (by rw[hAA,eZ];simp) (by grind) (fun y hy=>hpr y (by grind));rw[dp]
   refine SL _ _ _ _ _ _ (o:=.head 2 (qG (bq l) ((r.length+1:Nat):Int) (A.length:Int) ((r.length+1:Nat):Int) 0 l.high l.next [] [])) ?_
    (afs _ _ _ _ _ _ _ _ (o:=.head 2 (qG (bq l) ((r.length+1:Nat):Int) ((A++bN x.1).length:Nat) ((r.length+1:Nat):Int) 1 l.high l.next x.1 [])) ?_
    (aft _ _ _ _ _ _ _ _ (o:=.head 2 (qG (bq l) ((r.length+1:Nat):Int) ((A++bN x.1++bN x.2).length:Nat) ((r.length+1:Nat):Int) 2 l.high l.next x.1 x.2)) ?_
    (afu _ _ _ _ _ _ _ _ ?_ fin)))
   ·unfold Kb;grind
   ·unfold SO;rw[aN (lL e1 hs),d5,dA rfl,aP]
   ·unfold SP;rw[aN (lL e2 hs),d5,dA rfl,aP]
   ·unfold SQ;rw[aQ (aW (by simp))];rfl
theorem Wg(l:Lf)(h:cK l=aC):bJ aI 129 [.str (bq l)]=aA (.tup [eL l,.int .i64 0]):=by
 have hsm:=tQ h;obtain⟨h1,h2,h3,h4,h5⟩:=nN.1 h;have hh:=tc h2;have hlen:=zV l;have hs:dk (bq l):=by rw[dk,hlen];unfold ix;omega
 refine M6 _ ?_;unfold CI;rw[bp (by rw[hlen];unfold ix;omega),aP,aN (aeg l h),MC,bK,aP];show(aL aI _ [eL l] _)=_;rw[aN (yo l hsm),bI,h,bK,aP,aQ (by simp),bi,aQ (by simp),iM,List.drop_length,aN (L4 [] (by grind)),cR];rfl
def bw(l:List Pr):List Bs:=l.map (·.1)
theorem tl{l:List Pr}{i:Nat}{x:Pr}(h:l[i]? = aA x):(bw l)[i]? = aA x.1:=by simp[bw,h]
theorem lZ(l:List Pr):(bw l).length=l.length:=by simp[bw]
theorem RJ:∀{l:List Pr} {p:Bs},iW p l=aC->(∀x∈l,lt p x.1=aC)/\ln (bw l)
 | [],_,_=>⟨fun _ h=>(by cases h),.nil⟩
 |y::l,p,h=>by
  simp only[iW,co]at h;obtain⟨h1,h2⟩:=RJ h.2;refine⟨fun x hx=>?_,iL.2 ⟨fun k hk=>?_,h2⟩⟩
  ·rcases dE.1 hx with rfl|hx
   ·grind
   ·exact lt_trans h.1.2 (h1 x hx)
  grind
theorem aex{l:Lf}(h:cK l=aC):ln (bw l.prs):=(RJ (nN.1 h).1).2
theorem VV(a b:Bs):bJ aI 158 [.str a,.str b]=aA (.int .i64 (if a==b then 0 else if lt a b then -1 else 1)):=DZ (g:=Cq) rfl rfl
theorem HK(p:Pr)(k:Bs):bJ aI 157 [pV p,.str k]=aA (.int .i64 (if p.1==k then 0 else if lt p.1 k then -1 else 1)):=by
 refine XB _ _ _ ?_;unfold GX;rw[aN (VV p.1 k),bF]
theorem Mu(a k:Bs):decide ((if a==k then (0:Int) else if lt a k then -1 else 1) < 0)=lt a k:=by
 by_cases h:a=k
 ·subst h;rw[lE];simp
 grind
theorem VT(a k:Bs):((if a==k then (0:Int) else if lt a k then -1 else 1)==0)=(a==k):=by
 grind
theorem Vl(m:List Pr)(hs:ln (bw m))(k:Bs)(hl:m.length<=1000000):∀(d i j:Nat),j - i<=d->i<=bY (bw m) k->bY (bw m) k<=j->j<=m.length ->
  Go qk aD 0 (fF 156) (.head 0 (sw (bn m) k m.length i j)) (.done (.tup [.int .i64 (bY (bw m) k),.bool (c9 (bw m) k)])):=by
 intro d
 induction d with
 |zero =>
  intro i j hd hi hj hn;have e:i=bY (bw m) k:=by omega
  refine J6 _ _ _ _ _ ?_ (.refl _);unfold EG;rw[bp (by omega),aP]
  by_cases bd:i < m.length
  ·have h1:m[i]? = aA m[i]:=cj bd;have e2:c9 (bw m) k=(m[i].1==k):=by unfold c9;rw[<-e,tl h1]
   rw[<-e,aW (by omega),aZ,aQ (by simp),bi,fE h1,fN];show(aL aI _ [pV m[i],_] _)=_;rw[aN (HK _ _),bF,e2,VT]
  ·have e2:c9 (bw m) k=false:=by unfold c9;rw[<-e,rY (by rw[lZ];omega)]
   grind
 |succ d ih =>
  intro i j hd hi hj hn
  by_cases hij:i < j
  ·have hh:=O1 (i:=i) (j:=j) (by omega);generalize hg:(i+j) / 2=h at hh;have hb:i<=h/\h < j:=by omega
   have h1:m[h]? = aA m[h]:=cj (by omega);have hlb:=Dr hs k (tl h1);have w:W .i64 ((h:Int)+1)=((h+1:Nat):Int):=by rw[bf (by omega)];omega
   cases hx:lt m[h].1 k with
   |true =>
    refine J6 _ _ _ _ _ (o:=.head 0 (sw (bn m) k m.length ((h+1:Nat):Int) j)) ?_ (ih (h+1) j (by omega) (by grind) hj hn);unfold EG;rw[aW (by omega),aZ,hh,aQ (by simp),bi,fE h1,fN];show(aL aI _ [pV m[h],_] _)=_;rw[aN (HK _ _),bF,Mu,hx,aZ,w]
   |false =>
    have hge:bY (bw m) k<=h:=by
     grind
    refine J6 _ _ _ _ _ (o:=.head 0 (sw (bn m) k m.length i h)) ?_ (ih i h (by omega) hi hge (by omega));unfold EG;rw[aW (by omega),aZ,hh,aQ (by simp),bi,fE h1,fN];show(aL aI _ [pV m[h],_] _)=_;rw[aN (HK _ _),bF,Mu,hx,aP]
  grind
theorem HM(l:Lf)(hs:ln (bw l.prs))(hl:l.prs.length<=1000)(k:Bs):bJ aI 116 [eL l,.str k]=aA (.tup [.int .i64 (bY (bw l.prs) k),.bool (c9 (bw l.prs) k)]):=by
 refine WY _ _ _ _ ?_;unfold GG
 have:bJ aI 156 [.sl (bn l.prs),.str k,.fn 157 []]=aA (.tup [.int .i64 (bY (bw l.prs) k),.bool (c9 (bw l.prs) k)]):=by
  refine XA _ _ (o:=.head 0 (sw (bn l.prs) k l.prs.length ((0:Nat):Int) l.prs.length)) ?_ (Vl l.prs hs k (by omega) _ 0 l.prs.length (c7 _) (jQ _) (by rw[<-lZ];exact vm _ k) (c7 _));unfold Ni;rw[dv];rfl
 rw[aN this,sN]
theorem jI(l:List Pr):cw 2 (bn l)=true:=K2 fun _=>rfl
theorem aab(l:List Pr):((bn l).all fun x=>x.cells.all jw)=true:=by simp[bn,gT,jw]
theorem vP(l:List Pr)(k:Nat):(bn l).take k=bn (l.take k):=by simp[bn,List.map_take]
theorem D4(l:List Pr)(k:Nat):(bn l).drop k=bn (l.drop k):=by simp[bn,List.map_drop]
theorem AF(a b:List Pr):bn a++bn b=bn (a++b):=by simp[bn]
theorem IV(l w:List Pr)(i j:Nat)(hi:i<=l.length)(hj:j<=l.length)(hl:l.length<=1000)(hw:w.length<=1000) :
  bJ aI 117 [.sl (bn l),.int .i64 (i:Int),.int .i64 (j:Int),.sl (bn w)]=aA (.fr 41 (bn (l.take i++w++l.drop j))):=by
 refine W0 _ _ _ _ ?_;unfold GH;have hwl:W .i64 (((bn l).length:Int)+((bn w).length:Int))=((l.length+w.length:Nat):Int):=by rw[dv,dv,bf (by omega)];omega
 have hmid:(dh ((i:Int)).toNat (aH [aE [],aE []])).take 0++((bn l).take ((i:Int)).toNat).take (min ((bn l).take ((i:Int)).toNat).length ((dh ((i:Int)).toNat (aH [aE [],aE []])).length))++(dh ((i:Int)).toNat (aH [aE [],aE []])).drop (0+min ((bn l).take ((i:Int)).toNat).length ((dh ((i:Int)).toNat (aH [aE [],aE []])).length))=bn (l.take i):=by
  rw[bi,vP];have h1:(bn (l.take i)).length=i:=by rw[dv,eC];omega
  grind
 have hend:((bn l).take (bn l).length).drop ((j:Int)).toNat=bn (l.drop j):=by rw[iM,bi,D4]
 simp only[hmid,hend,hwl]
 rw[aQ (by simp),aQ (aW (by omega)),aQ (aW (by grind)),aQ (jI _),aQ (by simp),aQ (aW (by rw[bi,dv];omega)),aQ (by rw[bi,vP];exact jI _),
  aQ (by simp),aQ (jI _),aQ (aW (by simp only[dv,eV,eC,fD,dp,fc];omega)),aQ (jI _),aQ (by simp),aQ (aW (by rw[bi,dv];omega)),aQ (jI _),AF,aQ (aW (by simp only[dv,eV,eC,fD,dp,fc];omega)),AF,aQ (aab _)]
set_option maxRecDepth 100000
theorem yU:∀a b:List Pr,bz (a++b)=bz a+bz b
 | [],b=>by simp[bz]
 |x::a,b=>by rw[ew,bz,bz,yU a b];omega
theorem yV(l:List Pr)(n:Nat):bz l=bz (l.take n)+bz (l.drop n):=by rw[<-yU,lk]
theorem Fp{x:Pr}(h1:cg x.1=aC)(h2:eH x.2=aC):3<=bz [x]/\bz [x]<=50:=by
 have:=fm h1;simp only[eH,iR]at h2;simp only[bz];omega
theorem Up:∀{l:List Pr},(∀x∈l,cg x.1=aC/\eH x.2=aC)->bz l<=50 * l.length
 | [],_=>c7 _
 |x::r,h=>by
  have h1:=Fp (h x (by simp)).1 (h x (by simp)).2;have h2:=Up (l:=r) fun y hy=>h y (by grind)
  simp only[bz,dp]at *
  omega
theorem IU(l:List Pr)(i j:Nat)(hi:i<=l.length)(hj:j<=l.length)(hl:l.length<=1000):bJ aI 117 [.sl (bn l),.int .i64 (i:Int),.int .i64 (j:Int),.sl []]=aA (.fr 41 (bn (l.take i++l.drop j))):=by
 have:=IV l [] i j hi hj hl (by simp)
 rwa [fh]at this
structure Uw(l:Lf):Prop where
 right:cK l=aC
 sm:ju l
 mem:∀x∈l.prs,cg x.1=aC/\eH x.2=aC
 ri:ln (bw l.prs)
 len:3 * l.prs.length<=bz l.prs
 wt:bz l.prs<=231
 high:l.high.length<=16
theorem lA{l:Lf}(h:cK l=aC):Uw l:=by
 have h1:=nN.1 h;have hm:=tT h1.1;exact⟨h,tQ h,hm,aex h,wm fun x hx=>(hm x hx).1,h1.2.2.2.2,tc h1.2.1⟩
theorem qK{m:List Bs}{k:Bs}(h:c9 m k=aC):∃h2:bY m k < m.length,m[bY m k]=k:=by
 unfold c9 at h;grind
def C6(l:List Pr)(k:Bs):Bs:=(l[bY (bw l) k]?.getD ([],[])).2
theorem aay(l:Lf)(h:cK l=aC)(k:Bs):bJ aI 76 [eL l,.str k]=aA (if c9 (bw l.prs) k then .tup [.str (C6 l.prs k),.int .i64 0] else .tup [.str [],.int .i64 7]):=by
 have g:=lA h;have g1:=g.len;have g2:=g.wt;refine Y9 _ _ _ _ ?_;unfold Hy;rw[aN (yo l g.sm),bI,h,bK,aP,aN (HM l g.ri (by omega) k),sN];cases hh:c9 (bw l.prs) k with
 |false=>rfl
 |true =>
  obtain⟨h2,_⟩:=qK hh;rw[lZ]at h2;have h3:l.prs[bY (bw l.prs) k]? = aA l.prs[bY (bw l.prs) k]:=cj h2;rw[bK,aP,aQ (by simp),bi,fE h3,fN,aU rfl,C6,h3];rfl
def dm(l:List Pr)(k v:Bs):List Pr:=l.take (bY (bw l) k)++[(k,v)]++l.drop (if c9 (bw l) k then bY (bw l) k+1 else bY (bw l) k)
abbrev kW:Lf:=⟨[],[],0⟩
def kw(l:Lf)(k v:Bs):V:=if bz (dm l.prs k v)<=231 then .tup [eL ⟨dm l.prs k v,l.high,l.next⟩,.int .i64 0] else .tup [eL kW,.int .i64 6]
theorem Ja(l:List Pr)(k v:Bs):(dm l k v).length<=l.length+1:=by
 have:=vm (bw l) k;rw[lZ]at this;unfold dm;grind
theorem ru{l:List Pr}{k v:Bs}{x:Pr}(h:x∈dm l k v):x=(k,v)∨x∈l:=by
 unfold dm at h;grind
theorem Jd(l:List Pr)(k v:Bs):bz (dm l k v)<=bz l+bz [(k,v)]:=by
 have h1:=yV l (bY (bw l) k);have h2:=yV (l.drop (bY (bw l) k)) 1;rw[uu]at h2;unfold dm;rw[yU,yU];grind
theorem Ox(l:Lf):u9 l=decide (bz l.prs<=231):=by
 unfold u9;grind
theorem Ri(l:Lf)(h:cK l=aC)(k v:Bs)(hk:cg k=aC)(hv:eH v=aC){q:R} :
  q=(aL aI 116 [eL l,.str k] fun r_3=>lu r_3 fun i is=>cond is
   (aL aI 117 [.sl (bn l.prs),.int .i64 i,.int .i64 (W .i64 (i+1)),.sl [.agg [.str k,.str v]]] fun r_4=>kF 41 r_4 fun o=>aL aI 118 [.agg [.sl o,.str l.high,.int .i64 l.next]] fun r_5=>kB r_5 fun b=>cond (!b) (aA (.done (.tup [.agg [.sl [],.str [],.int .i64 0],.int .i64 6]))) (aA (.done (.tup [.agg [.sl o,.str l.high,.int .i64 l.next],.int .i64 0]))))
   (aL aI 117 [.sl (bn l.prs),.int .i64 i,.int .i64 i,.sl [.agg [.str k,.str v]]] fun r_4=>kF 41 r_4 fun o=>aL aI 118 [.agg [.sl o,.str l.high,.int .i64 l.next]] fun r_5=>kB r_5 fun b=>cond (!b) (aA (.done (.tup [.agg [.sl [],.str [],.int .i64 0],.int .i64 6]))) (aA (.done (.tup [.agg [.sl o,.str l.high,.int .i64 l.next],.int .i64 0]))))) ->
  q=aA (.done (kw l k v)):=by
 rintro rfl;have g:=lA h;have g1:=g.len;have g2:=g.wt;have hle:=vm (bw l.prs) k;rw[lZ]at hle
 have hsm:ju ⟨dm l.prs k v,l.high,l.next⟩:=by
  refine⟨by have:=Ja l.prs k v;grind,fun x hx=>?_,by have:=g.high;grind⟩;rcases ru hx with rfl|hx
  ·have:=(fm hk).2;simp only[eH,iR]at hv;grind
  ·exact g.sm.pr x hx
 have e1:([.agg [.str k,.str v]]:List V)=bn [(k,v)]:=rfl;rw[aN (HM l g.ri (by omega) k),sN,e1];cases hh:c9 (bw l.prs) k with
 |true =>
  obtain⟨h2,_⟩:=qK hh;rw[lZ]at h2;have w:W .i64 (((bY (bw l.prs) k:Nat):Int)+1)=((bY (bw l.prs) k+1:Nat):Int):=by rw[bf (by omega)];omega
  have ep:l.prs.take (bY (bw l.prs) k)++[(k,v)]++l.prs.drop (bY (bw l.prs) k+1)=dm l.prs k v:=by unfold dm;grind
  rw[aZ,w,aN (IV l.prs [(k,v)] _ _ hle (by omega) (by omega) (by simp)),ir,ep];have:=HO ⟨dm l.prs k v,l.high,l.next⟩ hsm;rw[Ox]at this;simp only at this;rw[aN this,bI];unfold kw
  by_cases hf:bz (dm l.prs k v)<=231
  ·grind
  ·rw[bp hf,aY hf];rfl
 |false =>
  have ep:l.prs.take (bY (bw l.prs) k)++[(k,v)]++l.prs.drop (bY (bw l.prs) k)=dm l.prs k v:=by unfold dm;grind
  rw[aP,aN (IV l.prs [(k,v)] _ _ hle (by omega) (by omega) (by simp)),ir,ep];have:=HO ⟨dm l.prs k v,l.high,l.next⟩ hsm;rw[Ox]at this;simp only at this;rw[aN this,bI];unfold kw
  by_cases hf:bz (dm l.prs k v)<=231
  ·grind
  ·rw[bp hf,aY hf];rfl
theorem AG(l:Lf)(h:cK l=aC)(k v:Bs)(hk:cg k=aC)(hv:eH v=aC)(hh:l.high=[]∨lt k l.high=aC):bJ aI 77 [eL l,.str k,.str v]=aA (kw l k v):=by
 have g:=lA h;refine Zb _ _ _ _ _ ?_;unfold Hz;rw[aN (yo l g.sm),bI,h,bK,aP,aN (lC k),bI,hk,bK,aP,aN (yS v),bI,hv,bK,aP]
 by_cases e:l.high=[]
 ·rw[show(!(l.high==[]))=aD by grind,aP];exact Ri l h k v hk hv rfl
 ·have hl:Op.bytesLess k l.high=true:=hh.resolve_left e;rw[show(!(l.high==[]))=aC by grind,aZ,hl,bK,aP];exact Ri l h k v hk hv rfl
def gi(l:List Pr)(k:Bs):List Pr:=l.take (bY (bw l) k)++l.drop (bY (bw l) k+1)
theorem Gr(l:Lf)(h:cK l=aC)(k:Bs):bJ aI 80 [eL l,.str k]=aA (if c9 (bw l.prs) k then .tup [eL ⟨gi l.prs k,l.high,l.next⟩,.int .i64 0] else .tup [eL kW,.int .i64 7]):=by
 have g:=lA h;have g1:=g.len;have g2:=g.wt;refine Zg _ _ _ _ ?_;unfold HA;rw[aN (yo l g.sm),bI,h,bK,aP,aN (HM l g.ri (by omega) k),sN];cases hh:c9 (bw l.prs) k with
 |false=>rfl
 |true =>
  obtain⟨h2,_⟩:=qK hh;rw[lZ]at h2;have w:W .i64 (((bY (bw l.prs) k:Nat):Int)+1)=((bY (bw l.prs) k+1:Nat):Int):=by rw[bf (by omega)];omega
  rw[bK,aP,w,aN (IU l.prs _ _ (by omega) (by omega) (by omega)),ir];rfl
def lU(A:Nat):Nat->List Pr->Nat
 |_,[]=>0
 |_,[_]=>0
 |had,x::y::r=>if 2 * had < A then 1+lU A (had+bz [x]) (y::r) else 0
def dK(l:List Pr):Nat:=match l with | []=>0 | [_]=>0|x::y::r=>1+lU (bz l) (bz [x]) (y::r)
def qi(l:Lf)(pg:Int)(n:Nat):V:=.tup [eL ⟨l.prs.take n,(l.prs[n]?.getD ([],[])).1,pg+1⟩,eL ⟨l.prs.drop n,l.high,l.next⟩,.int .i64 0]
theorem TB(l:Lf)(hl:l.prs.length<=1000)(pg:Int)(hp:0<=pg/\pg < 1024)(n:Nat)(hn:n < l.prs.length){q:R} :
  q=(aL aI 117 [.sl (bn l.prs),.int .i64 (n:Int),.int .i64 ((bn l.prs).length:Int),.sl []] fun r_2=>kF 41 r_2 fun a=>gd (decide (0<=(n:Int)))<|bl (bn l.prs) ((n:Int)).toNat fun v=>eD v fun key _=>aL aI 117 [.sl (bn l.prs),.int .i64 0,.int .i64 (n:Int),.sl []] fun r_3=>kF 41 r_3 fun b =>
   aA (.done (.tup [.agg [.sl a,.str key,.int .i64 (W .i64 (pg+1))],.agg [.sl b,.str l.high,.int .i64 l.next],.int .i64 0]))) ->
  q=aA (.done (qi l pg n)):=by
 rintro rfl;have h1:l.prs[n]? = aA l.prs[n]:=cj hn;have o1:=IU l.prs n l.prs.length (by omega) (by omega) hl;have o2:bJ aI 117 [.sl (bn l.prs),.int .i64 0,.int .i64 (n:Int),.sl []]=aA (.fr 41 (bn (l.prs.take 0++l.prs.drop n))):=IU l.prs 0 n (by omega) (by omega) hl;rw[List.drop_length,fh]at o1;rw[se,eA]at o2;rw[dv,aN o1,ir,aQ (by simp),bi,fE h1,fN,aN o2,ir,bf (by omega)];unfold qi;grind
theorem agd(l:Lf)(hl:l.prs.length<=1000)(hs:∀p∈l.prs,p.1.length<=1000/\p.2.length<=1000)(pg:Int)(hp:0<=pg/\pg < 1024)(A:Nat):∀(r:List Pr) (n had:Nat),l.prs.drop n=r->r≠[]->0 < n->had<=2002 * n ->
  Go qk aD 0 (fF 122) (.head 0 (so pg (A:Int) (n:Int) (had:Int) (bn l.prs) l.high l.next)) (.done (qi l pg (n+lU A had r))):=by
 intro r
 induction r with
 |nil=>grind
 |cons x r ih =>
  intro n had hr _ hn hhad;obtain⟨h1,h2,h3⟩:=ej hr;have hx:=hs x (dx h1);have w1:W .i64 (((bn l.prs).length:Int) - 1)=((l.prs.length - 1:Nat):Int):=by rw[dv,bf (by omega)];omega
  have hrl:r.length+n+1=l.prs.length:=by
   grind
  have w2:W .i64 (2 * (had:Int))=((2 * had:Nat):Int):=by rw[bf (by omega)];omega
  cases hrr:r with
  |nil =>
   subst hrr;simp only[fc]at hrl;refine Ew _ _ _ _ _ _ _ ?_ (.refl _);unfold AW;rw[w1,bp (by omega),aP];exact TB l hl pg hp n (by omega) rfl
  |cons y t =>
   have hrt:r.length=t.length+1:=by grind
   unfold lU
   by_cases hA:2 * had < A
   ·rw[aU hA];have:=ih (n+1) (had+bz [x]) h2 (by grind) (by omega) (by simp only[bz];omega);rw[hrr,jP]at this;refine Ew _ _ _ _ _ _ _ (o:=.head 0 (so pg (A:Int) ((n+1:Nat):Int) ((had+bz [x]:Nat):Int) (bn l.prs) l.high l.next)) ?_ this;unfold AW;have w3:W .i64 ((n:Int)+1)=((n+1:Nat):Int):=by rw[bf (by omega)];omega
    have w4:W .i64 ((had:Int)+((2+x.1.length+x.2.length:Nat):Int))=((had+bz [x]:Nat):Int):=by simp only[bz];rw[bf (by omega)];omega
    rw[w1,aW (by omega),aZ,dH (by omega),aP,w2,aW (by omega),aZ,aQ (by simp),bi,fE h1,fN];show(aL aI _ [pV x] _)=_;rw[aN (K1 x hx.1 hx.2),bF,w3,w4]
   ·rw[aY hA];refine Ew _ _ _ _ _ _ _ ?_ (.refl _);unfold AW;rw[w1,aW (by omega),aZ,dH (by omega),aP,w2,bp (by omega),aP];exact TB l hl pg hp n (by omega) rfl
theorem agc(l:Lf)(h:cK l=aC)(h2:2<=l.prs.length)(pg:Int)(hp:0<=pg/\pg < 1024):bJ aI 122 [eL l,.int .i64 pg]=aA (qi l pg (dK l.prs)):=by
 have g:=lA h;have g1:=g.len;have g2:=g.wt;have g3:=g.high
 obtain⟨x,y,r,hx⟩:∃x y r,l.prs=x::y::r:=by
  match hl:l.prs,h2 with
  |x::y::r,_=>grind
 have hpx:=g.sm.pr x (by grind);have h0:l.prs[0]? = aA x:=by grind
 have hd:l.prs.drop 1=y::r:=by grind
 have:=agd l (by omega) g.sm.pr pg hp (bz l.prs) (y::r) 1 (bz [x]) hd (by simp) (by omega) (by simp only[bz];omega);have eh:dK l.prs=1+lU (bz l.prs) (bz [x]) (y::r):=by rw[hx];rfl
 rw[<-eh]at this;refine W9 _ _ _ _ (o:=.head 0 (so pg ((bz l.prs:Nat):Int) 0 0 (bn l.prs) l.high l.next)) ?_ (Ew _ _ _ _ _ _ _ (o:=.head 0 (so pg ((bz l.prs:Nat):Int) ((1:Nat):Int) ((bz [x]:Nat):Int) (bn l.prs) l.high l.next)) ?_ this)
 ·unfold M0
  have hsz:W .i64 (W .i64 (W .i64 ((ix l:Nat) - (4:Int)) - 1) - (l.high.length:Int))=((bz l.prs:Nat):Int):=by
   unfold ix;rw[bf (n:=(((5+l.high.length+bz l.prs:Nat):Int) - 4)) (by omega),bf (n:=(((5+l.high.length+bz l.prs:Nat):Int) - 4 - 1)) (by omega),bf (by omega)];omega
  rw[aN (yo l g.sm),bI,h,bK,aP,dv,bp (by omega),aP,bp (by omega),aP,bp (by omega),aP,aN (KF l g.sm),bF,hsz]
 ·unfold AW;have w1:W .i64 (((bn l.prs).length:Int) - 1)=((l.prs.length - 1:Nat):Int):=by rw[dv,bf (by omega)];omega
  have w4:W .i64 (0+((2+x.1.length+x.2.length:Nat):Int))=((bz [x]:Nat):Int):=by simp only[bz];rw[bf (by omega)];omega
  have h00:l.prs[((0:Int)).toNat]? = aA x:=h0;rw[w1,aW (by omega),aZ,show((0:Int)==0)=aC from rfl,aZ,aQ (by simp),fE h00,fN];show(aL aI _ [pV x] _)=_;rw[aN (K1 x hpx.1 hpx.2),bF,w4];rfl
theorem Mw(A:Nat):∀(r:List Pr) (had:Nat),(∀x∈r,bz [x]<=50)->r≠[]->had<=165->had+bz r=A->2 * had < A+100->A<=231 ->
  lU A had r < r.length/\had+bz (r.take (lU A had r))<=165/\bz (r.drop (lU A had r))<=116
 | [],_,_,h,_,_,_,_=>gU rfl h
 | [x],had,hw,_,h1,h2,_,_=>by
  have:=hw x (by simp);simp only[lU,se,rW,dp,fc];simp only[bz]at *
  omega
 |x::y::r,had,hw,_,h1,h2,h3,hA=>by
  have hx:=hw x (by simp);unfold lU
  by_cases h:2 * had < A
  ·rw[aU h];have ih:=Mw A (y::r) (had+bz [x]) (fun z hz=>hw z (by grind)) (by simp) (by omega) (by simp only[bz]at *;omega) (by omega) hA;rw[sg 1];simp only[o6,List.drop_succ_cons,dp]at *
   refine⟨by omega,?_,ih.2.2⟩;have:=ih.2.1;simp only[bz]at *
   omega
  ·rw[aY h];simp only[se,rW,dp,bz]at *
   omega
theorem O2{l:List Pr}(h2:2<=l.length)(hw:∀x∈l,bz [x]<=50)(hA:bz l<=231):0 < dK l/\dK l < l.length/\bz (l.take (dK l))<=165/\bz (l.drop (dK l))<=116:=by
 match l,h2 with
 |x::y::r,_ =>
  have hx:=hw x (by simp);have:=Mw (bz (x::y::r)) (y::r) (bz [x]) (fun z hz=>hw z (by grind)) (by simp) (by omega) (by simp only[bz];omega) (by simp only[bz]at *;omega) hA;have e:dK (x::y::r)=lU (bz (x::y::r)) (bz [x]) (y::r)+1:=sg 1 _;rw[e];simp only[o6,List.drop_succ_cons,dp]at *
  refine⟨by omega,by omega,?_,this.2.2⟩;have:=this.2.1;simp only[bz]at *
  omega
theorem QY{n:bV}(h:bZ n=aC)(k:Nat)(hk:ff n+k<=252):kv (cv n++fR k)=aA n:=by
 obtain⟨h1,h2,h3,h4,h5,h6,h7⟩:=k8 h;have hg:=oR h3;have hlen:(cv n++fR k).length=ff n+k:=by simp[uV h]
 obtain⟨nn,hnn⟩:∃nn:Nat,n.next=(nn:Int):=⟨n.next.toNat,by omega⟩
 obtain⟨k0,ks,hks⟩:∃k ks,n.kids=k::ks:=by
  cases hk:n.kids with
  |nil=>rw[hk]at h1;simp at h1
  |cons k ks=>exact⟨k,ks,rfl⟩
 have hk0:=rp (h2 k0 (by rw[hks];simp));obtain⟨kn,rfl⟩:∃kn:Nat,k0=(kn:Int):=⟨k0.toNat,by omega⟩
 have hkl:ks.length=n.seps.length:=by rw[hks]at h1;simpa using h1
 have hz:=K4 h;rw[hks,List.tail_cons]at hz
 have e0:cv n++fR k=78::UInt8.ofNat n.seps.length::(cN 2 nn++(bN n.high++cN 2 kn++(eU (n.seps.zip ks)++fR k))):=by
  unfold cv mA xq;rw[aU h,hks,hnn];simp
 have hl2:=eP 2 nn;obtain⟨b2,b3,hb⟩:∃b2 b3,cN 2 nn=[b2,b3]:=⟨_,_,rfl⟩
 have hun:dU (cN 2 nn)=nn:=Fj 2 nn (by have:(256:Nat) ^ 2=65536:=by decide
                                       omega)
 have e1:(cv n++fR k).drop 4=bN n.high++cN 2 kn++(eU (n.seps.zip ks)++fR k):=by rw[e0,hb];rfl
 have e2:((cv n++fR k).drop 2).take 2=cN 2 nn:=by rw[e0,hb];rfl
 have e3:(cv n++fR k).getD 1 0=UInt8.ofNat n.seps.length:=by rw[e0];rfl
 have e4:(UInt8.ofNat n.seps.length).toNat=(n.seps.zip ks).length:=by simp;omega
 have e5:(cv n++fR k).head? = aA 78:=by rw[e0];rfl
 have hmin:ff n=7+n.high.length+cW n.seps:=rfl;unfold kv;rw[aY (by rw[hlen,e5];simp;omega),e1,QS (by omega) (by omega),bk];simp only;rw[e3,e4,QU _ _ hz,bk,e2,hun];have e6:(n.seps.zip ks).map (·.1)=n.seps:=List.map_fst_zip (by omega);have e7:(n.seps.zip ks).map (·.2)=ks:=List.map_snd_zip (by omega);simp only[e6,e7]
 have e8:(⟨n.seps,(kn:Int)::ks,n.high,(nn:Int)⟩:bV)=n:=by
  rw[<-hks,<-hnn]
 rw[e8];unfold oq;rw[h,F4.2 (by simp)];rfl
theorem LY:∀{l:List Bs} {k:Bs} {j:Nat} {s:Bs},j < fS l k->l[j]? = aA s->lt k s=aD
 | [],k,j,s,h,_=>by simp[fS]at h
 |x::l,k,j,s,h,hs=>by
  rw[sE]at h;cases hx:lt k x with
  |true=>rw[hx]at h;simp at h
  |false =>
   rw[hx]at h;cases j with
   |zero=>simp at hs;rw[<-hs];exact hx
   |succ j=>exact LY (l:=l) (by simpa using h) (by simpa using hs)
theorem LZ:∀{l:List Bs} {k:Bs} {s:Bs},l[fS l k]? = aA s->lt k s=aC
 | [],k,s,h=>by simp at h
 |x::l,k,s,h=>by
  rw[sE]at h;cases hx:lt k x with
  |true=>rw[hx]at h;simp at h;rw[<-h];exact hx
  |false =>
   rw[hx]at h;exact LZ (l:=l) (by simpa using h)
theorem tp(s:Bs)(a:List Bs)(p:Bs):(s::a).getLastD p=a.getLastD s:=by
 cases a with
 |nil=>rfl
 |cons y a=>simp[y5]
theorem Dp:∀(a b:List Bs) (p:Bs),(a++b).getLastD p=b.getLastD (a.getLastD p)
 | [],b,p=>rfl
 |s::a,b,p=>by rw[ew,tp,tp,Dp a b s]
theorem Eg:∀(a b:List Bs) (p:Bs),eY p (a++b)=(eY p a && eY (a.getLastD p) b)
 | [],b,p=>rfl
 |s::a,b,p=>by rw[ew,eY,eY,Eg a b s,tp];cases cg s<;>cases lt p s<;>rfl
theorem abE{a:List Bs}(h:a≠[])(p:Bs):a[a.length - 1]? = aA (a.getLastD p):=by
 cases a with
 |nil=>exact(h rfl).elim
 |cons s a =>
  rw[List.getLastD_cons];simp[y5,List.getLast?_eq_getElem?];cases a with
  |nil=>rfl
  |cons y a=>simp[List.getLast_eq_getElem]
theorem yM:∀a b:List Bs,cW (a++b)=cW a+cW b
 | [],b=>by simp[cW]
 |s::a,b=>by simp only[ew,cW,yM a b];omega
theorem tR{n:bV}:bZ n=aC↔n.kids.length=n.seps.length+1/\(∀k∈n.kids,d6 k=aC)/\eY [] n.seps=aC/\gk (n.seps.getLastD []) n.high=aC/\qR n=true:=by
 unfold bZ;simp only[co,iR,eJ];constructor
 ·rintro⟨⟨⟨⟨a,b⟩,c⟩,d⟩,e⟩;exact⟨a,b,c,d,e⟩
 ·rintro⟨a,b,c,d,e⟩;exact⟨⟨⟨⟨a,b⟩,c⟩,d⟩,e⟩
theorem uW{n:bV}:qR n=aC↔0<=n.next/\n.next<=1024/\23+cW n.seps<=252:=by
 unfold qR jV;simp only[co,iR];constructor
 ·rintro⟨⟨a,b⟩,c⟩;exact⟨a,b,by omega⟩
 ·rintro⟨a,b,c⟩;exact⟨⟨a,b⟩,by omega⟩
structure Lz(n:bV)(key:Bs)(kid:Int):Prop where
 right:bZ n=aC
 isKey:cg key=aC
 high:(n.high==[] ||lt key n.high)=aC
 page:d6 kid=aC
 new:¬(0 < fS n.seps key/\n.seps[fS n.seps key - 1]? = aA key)
 fit:jV (j5 n key kid (fS n.seps key))=aC
theorem adS{n:bV}{key:Bs}{kid:Int}(h:Lz n key kid):bZ (j5 n key kid (fS n.seps key))=true:=by
 obtain⟨hr,hk,hh,hp,hn,hf⟩:=h;obtain⟨r1,r2,r3,r4,r5⟩:=tR.1 hr;obtain⟨e1,e2,e3⟩:=uW.1 r5;have hle:=F3 n.seps key;generalize hi:fS n.seps key=i at hn hf hle |-
 obtain⟨A,hA⟩:∃A,A=n.seps.take i:=⟨_,rfl⟩
 obtain⟨B,hB⟩:∃B,B=n.seps.drop i:=⟨_,rfl⟩
 have hAB:n.seps=A++B:=by rw[hA,hB,lk]
 have hAl:A.length=i:=by rw[hA,eC];omega
 rw[hAB,Eg]at r3;simp only[co]at r3
 have hlast:lt (A.getLastD []) key=true:=by
  by_cases h0:A=[]
  ·rw[h0];exact qV hk
  ·have hi0:0 < i:=by
    rcases BF i with h|h
    ·rw[h]at hAl;exact(h0 (List.length_eq_zero_iff.1 hAl)).elim
    ·exact h
   have hg:=abE h0 [];rw[hAl]at hg
   have hg2:n.seps[i - 1]? = aA (A.getLastD []):=by
    rw[hAB,eK (by omega)];exact hg
   have h1:lt key (A.getLastD [])=false:=LY (l:=n.seps) (by omega) hg2;refine nJ h1 fun e=>hn ⟨hi0,?_⟩
   rw[hg2,<-e]
 have hBr:eY key B=true:=by
  cases hB2:B with
  |nil=>rfl
  |cons s r =>
   rw[hB2]at r3;have r32:=r3.2;simp only[eY,co]at r32 |-
   have hs:n.seps[i]? = aA s:=by
    rw[hAB,eO (by omega),hAl,qC,hB2];rfl
   have:lt key s=true:=LZ (l:=n.seps) (by rw[hi];exact hs);exact⟨⟨r32.1.1,this⟩,r32.2⟩
 have hseps:(j5 n key kid i).seps=A++(key::B):=by
  show n.seps.take i++[key]++n.seps.drop i=_;rw[<-hA,<-hB,cO];rfl
 refine tR.2 ⟨?_,?_,?_,?_,?_⟩
 ·show(n.kids.take (i+1)++[kid]++n.kids.drop (i+1)).length=(n.seps.take i++[key]++n.seps.drop i).length+1;simp;omega
 ·intro k hk';rcases cz.1 hk' with hk'|hk'
  ·rcases cz.1 hk' with hk'|hk'
   ·exact r2 k (o4 hk')
   ·simp at hk';rw[hk'];exact hp
  ·exact r2 k (qA hk')
 ·rw[hseps,Eg,eY,r3.1,hk,hlast,hBr];rfl
 ·rw[hseps,Dp,tp];show gk (B.getLastD key) n.high=aC;rw[hAB,Dp]at r4;cases hB2:B with
  |nil =>
   show gk key n.high=aC;rw[hB2]at r4;unfold gk at r4 |-
   cases hz:n.high==[]with
   |true=>rfl
   |false =>
    rw[hz]at r4 hh;simp only[gq,co]at r4 hh |-
    exact⟨r4.1,hh⟩
  |cons s r=>rw[hB2,tp]at r4;rw[tp];exact r4
 ·refine uW.2 ⟨e1,e2,?_⟩;unfold jV at hf;simp only[iR]at hf;omega
theorem aeF{p:Bs}{l:List Bs}(h:eY p l=aC):eY [] l=true:=by
 cases l with
 |nil=>rfl
 |cons s r =>
  simp only[eY,co]at h |-
  exact⟨⟨h.1.1,qV h.1.1⟩,h.2⟩
theorem TD{n:bV}(hr:bZ n=aC)(h3:3<=n.kids.length):∃A mid B,n.seps=A++mid::B/\A.length=n.seps.length / 2/\n.seps.getD (n.seps.length / 2) []=mid/\n.seps.take (n.seps.length / 2)=A/\n.seps.drop (n.seps.length / 2+1)=B:=by
 obtain⟨r1,_⟩:=tR.1 hr;have hm:n.seps.length / 2 < n.seps.length:=by omega
 generalize n.seps.length / 2=m at hm;refine⟨n.seps.take m,n.seps[m],n.seps.drop (m+1),?_,by simp;omega,?_,rfl,rfl⟩
 ·rw[<-qy hm,lk]
 ·simp[List.getD,cj hm]
theorem age{n:bV}{to:Int}(hr:bZ n=aC)(h3:3<=n.kids.length)(ht:d6 to=aC):bZ (rI n to)=aC/\bZ (rJ n)=true:=by
 obtain⟨A,mid,B,e1,e2,e3,e4,e5⟩:=TD hr h3;obtain⟨r1,r2,r3,r4,r5⟩:=tR.1 hr;obtain⟨g1,g2,g3⟩:=uW.1 r5;have ht2:=rp ht;have hlen:n.seps.length=A.length+(B.length+1):=by rw[e1];simp
 have r3':=r3;rw[e1,Eg,eY]at r3';simp only[co]at r3';obtain⟨rA,⟨⟨kM,lM⟩,rB⟩⟩:=r3';have hz:cW n.seps=cW A+(3+mid.length+cW B):=by rw[e1,yM,cW]
 constructor
 ·refine tR.2 ⟨?_,?_,?_,?_,?_⟩
  ·show(n.kids.take _).length=(n.seps.take _).length+1;simp;omega
  ·exact fun k hk=>r2 k (o4 hk)
  ·show eY [] (n.seps.take _)=aC;rw[e4];exact rA
  ·show gk ((n.seps.take _).getLastD []) (n.seps.getD _ [])=aC;rw[e4,e3];unfold gk;rw[kM,lM];simp
  ·refine uW.2 ⟨by show 0<=to+1;omega,by show to+1<=1024;omega,?_⟩;show 23+cW (n.seps.take _)<=252;rw[e4];omega
 ·refine tR.2 ⟨?_,?_,?_,?_,?_⟩
  ·show(n.kids.drop _).length=(n.seps.drop _).length+1;simp;omega
  ·exact fun k hk=>r2 k (qA hk)
  ·show eY [] (n.seps.drop _)=aC;rw[e5];exact aeF rB
  ·show gk ((n.seps.drop _).getLastD []) n.high=aC;rw[e5];rw[e1,Dp,tp]at r4;cases B with
   |nil =>
    unfold gk at r4 |-
    cases hq:n.high==[]with
    |true=>rfl
    |false =>
     rw[hq]at r4;simp only[gq,co]at r4 |-
     exact⟨r4.1,qV r4.1⟩
   |cons s r=>rw[tp]at r4 |-;exact r4
  ·refine uW.2 ⟨g1,g2,?_⟩;show 23+cW (n.seps.drop _)<=252;rw[e5];omega
abbrev Es:=List (Int × Bs)
def cX(es:Es):List (V × V):=es.map fun x=>(aB .i64 x.1,aE x.2)
def cT:Es->Int->Option Bs
 | [],_=>aF
 |(a,x)::es,p=>if p=a then aA x else cT es p
def bD:Es->Int->Bs->Es
 | [],p,x=>[(p,x)]
 |(a,y)::es,p,x=>if p=a then (a,x)::es else (a,y)::bD es p x
def fO:Es->Int->Es
 | [],_=>[]
 |(a,y)::es,p=>if p=a then es else (a,y)::fO es p
theorem HE(p a:Int):fU (.int .i64 p) (.int .i64 a)=aA (decide (p=a)):=by
 by_cases h:p=a
 ·subst h;simp[fU]
 ·rw[bp h];simp[fU,h]
theorem Qf(p:Int):∀es:Es,gM (cX es) (.int .i64 p)=aA ((cT es p).map aE)
 | []=>rfl
 |(a,x)::es=>by
  show((fU (.int .i64 p) (.int .i64 a)).bind fun b=>if b then aA (aA (aE x)) else gM (cX es) (.int .i64 p))=_;rw[HE,bk,Qf p es,cT];grind
theorem IG(p:Int)(b:Bs):∀es:Es,mO (cX es) (.int .i64 p) (.str b)=aA (cX (bD es p b))
 | []=>rfl
 |(a,x)::es=>by
  show((fU (.int .i64 p) (.int .i64 a)).bind fun q=>if q then aA ((aB .i64 a,aE b)::cX es) else (mO (cX es) (.int .i64 p) (.str b)).map ((aB .i64 a,aE x)::·))=_;rw[HE,bk,IG p b es,bD]
  by_cases h:p=a
  ·rw[aW h,aU h];rfl
  ·rw[bp h,aY h];rfl
theorem Qc(p:Int):∀es:Es,nK (cX es) (.int .i64 p)=aA (cX (fO es p))
 | []=>rfl
 |(a,x)::es=>by
  show((fU (.int .i64 p) (.int .i64 a)).bind fun q=>if q then aA (cX es) else (nK (cX es) (.int .i64 p)).map ((aB .i64 a,aE x)::·))=_;rw[HE,bk,Qc p es,fO]
  by_cases h:p=a
  ·grind
  ·rw[bp h,aY h];rfl
def bB(es:Es):List Int:=es.map (·.1)
theorem C7{p:Int}:∀{es:Es},cT es p=aF↔p∉bB es
 | []=>by simp[cT,bB]
 |(a,x)::es=>by
  rw[cT]
  by_cases h:p=a
  ·rw[aU h];simp[bB,h]
  ·rw[aY h,C7];simp[bB,h]
theorem i9{p:Int}{b:Bs}:∀{es:Es},(bB es).Nodup->(p,b)∈es->cT es p=aA b
 |(a,x)::es,hn,h=>by
  have hn:=o5.1 hn;rw[cT];rcases dE.1 h with h1|h1
  ·grind
  ·have hp:p∈bB es:=List.mem_map_of_mem (f:=(·.1)) h1;rw[aY (fun e:p=a=>hn.1 (e ▸ hp))];exact i9 hn.2 h1
theorem Rf{p:Int}{b b':Bs}{B:Es}:∀{A:Es},p∉bB A->bD (A++(p,b)::B) p b'=A++(p,b')::B
 | [],_=>aU rfl
 |(a,x)::A,h=>by
  have h1:p≠a:=fun e=>h (by simp[bB,e])
  rw[ew,bD,aY h1,Rf fun q=>h (by simp only[bB,d8,dE];exact .inr q)];rfl
theorem vS{p:Int}{b:Bs}:∀{es:Es},p∉bB es->bD es p b=es++[(p,b)]
 | [],_=>rfl
 |(a,x)::es,h=>by
  have h1:p≠a:=fun e=>h (by simp[bB,e])
  rw[bD,aY h1,vS fun q=>h (by simp only[bB,d8,dE];exact .inr q)];rfl
theorem Gs{p:Int}{b:Bs}{B:Es}:∀{A:Es},p∉bB A->fO (A++(p,b)::B) p=A++B
 | [],_=>aU rfl
 |(a,x)::A,h=>by
  have h1:p≠a:=fun e=>h (by simp[bB,e])
  rw[ew,fO,aY h1,Gs fun q=>h (by simp only[bB,d8,dE];exact .inr q)];rfl
theorem Q6{es r:Es}{p:Int}{b:Bs}(hn:(bB es).Nodup)(h:es.Perm ((p,b)::r)):∃A B,es=A++(p,b)::B/\r.Perm (A++B)/\p∉bB A:=by
 obtain⟨A,B,rfl⟩:=List.append_of_mem (h.mem_iff.2 (er ..));refine⟨A,B,rfl,((h.symm.trans y7).cons_inv),?_⟩;unfold bB at hn;rw[gA]at hn;have:=(uA.1 hn).2.2;intro hp;exact this p hp p (by simp) rfl
theorem mL{es r:Es}{p:Int}{b:Bs}(hn:(bB es).Nodup)(h:es.Perm ((p,b)::r)):cT es p=aA b:=i9 hn (h.mem_iff.2 (er ..))
theorem j6{es r:Es}{p:Int}{b b':Bs}(hn:(bB es).Nodup)(h:es.Perm ((p,b)::r)):(bD es p b').Perm ((p,b')::r):=by
 obtain⟨A,B,rfl,h2,h3⟩:=Q6 hn h;rw[Rf h3];grind
theorem CC{es r:Es}{p:Int}{b:Bs}(hn:(bB es).Nodup)(h:es.Perm ((p,b)::r)):(fO es p).Perm r:=by
 obtain⟨A,B,rfl,h2,h3⟩:=Q6 hn h;rw[Gs h3];grind
theorem yj{es:Es}{p:Int}{b:Bs}(h:p∈bB es):bB (bD es p b)=bB es:=by
 induction es with
 |nil=>simp[bB]at h
 |cons x es ih =>
  obtain⟨a,x⟩:=x;rw[bD]
  by_cases e:p=a
  ·rw[aU e];rfl
  ·rw[aY e]
   have h:p∈bB es:=by
    rcases dE.1 h with h|h
    ·grind
    ·exact h
   show a::bB (bD es p b)=a::bB es;grind
def br(es:Es)(k:Nat):Bool:=decide ((k:Int)∈bB es)
theorem KZ{es es':Es}(h:∀p,p∈bB es↔p∈bB es'):br es=br es':=by
 funext k;unfold br;grind
structure cP(n:Nat)(es:Es):Prop where
 le:n<=1024
 nd:(bB es).Nodup
 rng:∀p∈bB es,0<=p/\p < (n:Int)
theorem Qq:∀{l:List Int},l.Nodup->(∀p∈l,0<=p)->(l.map Int.toNat).Nodup
 | [],_,_=>FM
 |a::l,h,h0=>by
  have h:=o5.1 h;rw[d8];refine o5.2 ⟨fun q=>?_,Qq h.2 fun p hp=>h0 p (by grind)⟩;obtain⟨b,hb,e⟩:=ib.1 q;have h1:=h0 a (by simp);grind
theorem ZR{p:Nat->Bool}{l:List Nat}(h:l.Nodup):(l.filter p).Nodup:=List.Pairwise.filter p h
theorem Ff{n:Nat}{es:Es}(h:cP n es):(kC n (br es)).length=es.length:=by
 unfold kC;rw[d9];have hn:=Qq h.nd fun p hp=>(h.rng p hp).1
 have:((fK n).filter (br es)).Perm ((bB es).map Int.toNat):=by
  rw[List.perm_ext_iff_of_nodup (ZR List.nodup_range) hn];intro k;rw[mW,ib,Bw];unfold br;rw[iR];constructor
  ·grind
  ·rintro⟨q,hq,rfl⟩;have:=h.rng q hq;grind
 rw[this.length_eq,d9,bB,d9]
theorem tu{n:Nat}{es:Es}(h:cP n es):es.length<=n:=by rw[<-Ff h];exact KX _ _
theorem HY{n:Nat}{es:Es}(h:cP n es)(hl:es.length < n):∃k,k < n/\mI n (br es)=aA k/\(k:Int)∉bB es:=by
 cases hf:mI n (br es)with
 |none =>
  unfold mI at hf;rw[List.find?_eq_none]at hf
  have hall:(fK n).filter (br es)=fK n:=Lk.2 fun k hk=>by
   grind
  have:=Ff h;unfold kC at this;grind
 |some k =>
  have h1:=List.mem_of_find?_eq_some hf;have h2:=List.find?_some hf;refine⟨k,by grind,rfl,?_⟩;simp only[br,kE,decide_eq_false_iff_not]at h2;grind
theorem iY{n:Nat}{es:Es}(h:cP n es){p:Int}{b:Bs}(hp:p∈bB es):cP n (bD es p b):=by
 refine⟨h.le,?_,?_⟩
 ·rw[yj hp];exact h.nd
 ·rw[yj hp];exact h.rng
theorem xA{es:Es}{p:Int}{b:Bs}(h:p∉bB es):bB (bD es p b)=bB es++[p]:=by
 rw[vS h];simp[bB]
theorem qh{n:Nat}{es:Es}(h:cP n es){k:Nat}(hk:k < n)(hp:(k:Int)∉bB es){b:Bs}:cP n (bD es k b):=by
 refine⟨h.le,?_,?_⟩
 ·rw[xA hp];refine uA.2 ⟨h.nd,by simp,?_⟩;grind
 ·rw[xA hp];intro p hq;rcases cz.1 hq with hq|hq
  ·exact h.rng p hq
  grind
abbrev sM(n:Nat)(es:Es):List O:=sm (n:Int) (cX es) (cD n (br es))
theorem Jp{n:Nat}{es:Es}(h:cP n es){p:Int}{b:Bs}(hg:cT es p=aA b):cA aI aX 58 [.ptr 0 0 0,.int .i64 p] (sM n es)=aA (vC (sM n es) (b,0)):=by
 have hp:p∈bB es:=Classical.byContradiction fun q=>by rw[C7.2 q]at hg;grind
 have hr:=h.rng p hp;refine YN _ _ _ _ (o:=.doneM (.tup [.str b,.int .i64 0]) (sM n es)) ?_ (.done (by kernel_rfl));unfold NI;have hm:gM (cX es) (.int .i64 p)=aA (aA (.str b)):=by rw[Qf,hg];rfl
 rw[bp (by omega),aP,bp (by omega),aP,ach hm,cR]
theorem Um{n:Nat}{es:Es}(h:cP n es){p:Int}{b b':Bs}(hg:cT es p=aA b)(hb:b'.length<=252):cA aI aX 119 [.ptr 0 0 0,.int .i64 p,.str b'] (sM n es)=aA (xI (0,n,cX (bD es p b'),cD n (br (bD es p b')))):=by
 have hp:p∈bB es:=Classical.byContradiction fun q=>by rw[C7.2 q]at hg;grind
 have ht:br (bD es p b')=br es:=KZ fun q=>by rw[yj hp]
 rw[ht];refine W7 _ _ _ _ _ (o:=.doneM (.int .i64 0) (sm n (cX (bD es p b')) (cD n (br es)))) ?_ (.done (by kernel_rfl));unfold MX;rw[cY IE (Jp h hg),cF,dA rfl,aP,bp (by omega),aP,IG,iT]
theorem Fc{n:Nat}{es:Es}(h:cP n es){k:Nat}(hk:mI n (br es)=aA k)(hq:(k:Int)∉bB es):cA aI aX 84 [.ptr 0 0 0] (sM n es)=aA (vG (k,0,n,cX (bD es k []),cD n (br (bD es k [])))):=by
 have ht:br (bD es k [])=e9 (br es) k true:=by
  funext j;unfold e9 br;rw[xA hq];grind
 rw[ht];refine Zj _ _ _ (o:=.doneM (.tup [.int .i64 (k:Int),.int .i64 0]) (sm n (cX (bD es k [])) (cD n (e9 (br es) k aC)))) ?_ (.done (by kernel_rfl));unfold NR;rw[cH aco (agD n h.le (br es) k hk),db rfl,aZ,IG,iT]
theorem OO{n:Nat}{es:Es}(h:cP n es):cA aI aX 44 [.ptr 0 0 0] (sM n es)=aA (xR (sM n es) ((n - es.length:Nat):Int)):=by
 refine YE _ _ _ (o:=.doneM (.int .i64 ((n - es.length:Nat):Int)) (sM n es)) ?_ (.done (by kernel_rfl));unfold NF;rw[cY acS (aaq n h.le (br es)),cF,C3,Ff h]
abbrev Su:=List (Int × Bs)
def bG(e:Su):Bs:=(e.getLastD (0,[])).2
abbrev aV(e:Su)(nx:Int):bV:=⟨e.dropLast.map (·.2),e.map (·.1),bG e,nx⟩
theorem ja(a:Su){b:Su}(h:b≠[]):bG (a++b)=bG b:=by
 unfold bG;rw[UA,UA,List.getLast?_append];cases hb:b.getLast? with
 |none=>simp_all
 |some x=>rfl
theorem mN(x:Int × Bs){b:Su}(h:b≠[]):bG (x::b)=bG b:=ja [x] h
theorem CG(a:Su)(x:Int × Bs)(b:Su):(a++x::b).dropLast=a++(x::b).dropLast:=Uy (by simp)
theorem Tr{e:Su}:(e.dropLast.map (·.2)).length=e.length - 1:=by simp
theorem My(k:Bs):∀(e:Su),e≠[]->∃e1 p h e2,e=e1++(p,h)::e2/\fS (e.dropLast.map (·.2)) k=e1.length/\(∀y∈e1,lt k y.2=aD)/\(e2≠[]->lt k h=aC)
 | [],h=>gU rfl h
 | [(p,h)],_=>⟨[],p,h,[],rfl,rfl,by simp,by simp⟩
 |(p,h)::y::r,_=>by
  rw[List.dropLast_cons_cons,d8,sE];cases hk:lt k h with
  |true=>exact⟨[],p,h,y::r,rfl,by simp,by simp,fun _=>hk⟩
  |false =>
   obtain⟨e1,p',h',e2,e,h1,h2,h3⟩:=My k (y::r) (by simp);grind
theorem LX(k:Bs):∀(e1:Su) (p:Int) (h:Bs) (e2:Su),(∀y∈e1,lt k y.2=aD)->(e2≠[]->lt k h=aC)->fS ((e1++(p,h)::e2).dropLast.map (·.2)) k=e1.length
 | [],p,h,[],_,_=>rfl
 | [],p,h,y::r,_,h2=>by
  rw[eA,List.dropLast_cons_cons,d8,sE,h2 (by simp)];rfl
 |x::e1,p,h,e2,h1,h2=>by
  have ih:=LX k e1 p h e2 (fun y hy=>h1 y (by grind)) h2
  have:((x::e1)++(p,h)::e2).dropLast=x::(e1++(p,h)::e2).dropLast:=by
   grind
  rw[this,d8,sE,h1 x (by simp),ih];rfl
theorem Bf{α:Type}(a b:List α){n:Nat}(h:a.length=n):(a++b).take n=a:=by grind
theorem CE{α:Type}(a b:List α){n:Nat}(h:a.length=n):(a++b).drop n=b:=by grind
theorem Dm(e1:Su)(p:Int)(h:Bs)(e2:Su)(k:Bs)(to nx:Int):j5 (aV (e1++(p,h)::e2) nx) k to e1.length=aV (e1++(p,k)::(to,h)::e2) nx:=by
 have hl1:(e1.map (·.2)).length=e1.length:=by simp
 have hm:List.map (·.1) (e1++(p,h)::e2)=(e1.map (·.1)++[p])++e2.map (·.1):=by simp
 have hl2:(e1.map (·.1)++[p]).length=e1.length+1:=by simp
 unfold j5 aV;simp only;rw[hm,Bf _ _ hl2,CE _ _ hl2,CG,CG];cases e2 with
 |nil =>
  have e5:[(p,h)].dropLast=[]:=rfl;have e6:[(p,k),(to,h)].dropLast=[(p,k)]:=rfl;have a1:bG (e1++[(p,h)])=h:=(ja e1 (by simp)).trans rfl;have a2:bG (e1++[(p,k),(to,h)])=h:=(ja e1 (by simp)).trans rfl;grind
 |cons y r =>
  have e3:((p,h)::y::r).dropLast=(p,h)::(y::r).dropLast:=rfl;have e4:((p,k)::(to,h)::y::r).dropLast=(p,k)::(to,h)::(y::r).dropLast:=rfl;have a1:bG (e1++(p,h)::y::r)=bG (y::r):=(ja e1 (by simp)).trans (mN _ (by simp));have a2:bG (e1++(p,k)::(to,h)::y::r)=bG (y::r):=(ja e1 (by simp)).trans ((mN _ (by simp)).trans (mN _ (by simp)));grind
theorem agb(ea eb:Su)(hb:eb≠[])(to nx:Int)(hm:(aV (ea++eb) nx).seps.length / 2+1=ea.length):rI (aV (ea++eb) nx) to=aV ea (to+1)/\rJ (aV (ea++eb) nx)=aV eb nx:=by
 have hsl:(aV (ea++eb) nx).seps.length=(ea++eb).length - 1:=Tr
 obtain⟨a',x,rfl⟩:∃a' x,ea=a'++[x]:=by
  rcases gg ea with h|⟨l,x,h⟩
  all_goals grind
 have hm':(aV (a'++[x]++eb) nx).seps.length / 2=a'.length:=by grind
 have hd:(a'++[x]++eb).dropLast=a'++x::eb.dropLast:=by
  grind
 have hda:(a'++[x]).dropLast=a':=by simp
 have hs:(aV (a'++[x]++eb) nx).seps=a'.map (·.2)++x.2::eb.dropLast.map (·.2):=by
  grind
 have hk:(aV (a'++[x]++eb) nx).kids=(a'.map (·.1)++[x.1])++eb.map (·.1):=by
  grind
 constructor
 ·unfold rI;rw[hm',hs,hk];refine congr (congr (congr (ef bV.mk ?_) ?_) ?_) rfl
  ·grind
  ·grind
  ·rw[ja _ (by simp)];simp[bG]
 ·unfold rJ;rw[hm',hs,hk];refine congr (congr (congr (ef bV.mk ?_) ?_) ?_) rfl
  ·rw[Bq];simp
  ·grind
  ·show bG (a'++[x]++eb)=bG eb;rw[ja _ hb]
def cS{α:Type}:List (Int × α)->Int->Int
 | [],n=>n
 |(q,_)::_,_=>q+1
def bW{α:Type}(f:α->Int->Bs):List (Int × α)->Int->Es
 | [],_=>[]
 |(p,x)::r,n=>(p,f x (cS r n))::bW f r n
def d0{α:Type}(g:α->Int->Prop):List (Int × α)->Int->Prop
 | [],_=>True
 |(p,x)::r,n=>g x (cS r n)/\d0 g r n
section
variable {α:Type}{f:α->Int->Bs}{g:α->Int->Prop}
theorem Qz:∀(a b:List (Int × α)) (n:Int),cS (a++b) n=cS a (cS b n)
 | [],_,_=>rfl
 |_::_,_,_=>rfl
theorem lx:∀(a b:List (Int × α)) (n:Int),bW f (a++b) n=bW f a (cS b n)++bW f b n
 | [],_,_=>rfl
 |(p,x)::a,b,n=>by rw[ew,bW,bW,lx a b n,Qz];rfl
theorem gV:∀(a b:List (Int × α)) (n:Int),d0 g (a++b) n↔d0 g a (cS b n)/\d0 g b n
 | [],b,n=>by simp[d0]
 |(p,x)::a,b,n=>by rw[ew,d0,d0,gV a b n,Qz,and_assoc]
theorem It:∀(a:List (Int × α)) (n:Int),bB (bW f a n)=a.map (·.1)
 | [],_=>rfl
 |(p,x)::a,n=>by
  show p::bB (bW f a n)=_;rw[It a n];rfl
end
abbrev rV:=List Pr × Bs
abbrev LL:=List (Int × rV)
abbrev IL:=List (Int × Su)
def dM(x:rV)(nx:Int):Bs:=bq ⟨x.1,x.2,nx⟩
def cd(e:Su)(nx:Int):Bs:=cv (aV e nx)
def okF(x:rV)(nx:Int):Prop:=cK ⟨x.1,x.2,nx⟩=aC
def okI(e:Su)(nx:Int):Prop:=e≠[]/\bZ (aV e nx)=aC
def df(b:LL):Su:=b.map fun x=>(x.1,x.2.2)
def cI(l:IL):Su:=l.map fun x=>(x.1,bG x.2)
def bR(l:IL):Su:=l.flatMap (·.2)
inductive Dn:Su->List IL->LL->Prop
 |leaf (b:LL):Dn (df b) [] b
 |inn (l:IL) (d:List IL) (b:LL):Dn (bR l) d b->Dn (cI l) (l::d) b
inductive kG(r:Int):List IL->Int->Bs->Su->Su->List (Int × Su × Int × Nat)->Prop
 |top:kG r [] r [] [] [] []
 |st {up:List IL} {q:Int} {e1:Su} {p:Int} {h:Bs} {e2:Su} {pre post:IL} {sts:List (Int × Su × Int × Nat)} :
  kG r up q (bG (e1++(p,h)::e2)) (cI pre) (cI post) sts ->
  kG r ((pre++(q,e1++(p,h)::e2)::post)::up) p h (bR pre++e1) (e2++bR post) ((q,e1++(p,h)::e2,cS post 0,e1.length)::sts)
theorem I6{r:Int}{up:List IL}{p:Int}{h:Bs}{a c:Su}{sts:List (Int × Su × Int × Nat)}(hp:kG r up p h a c sts):∀{d:List IL} {b:LL},Dn (a++(p,h)::c) d b->Dn [(r,[])] (up.reverse++d) b:=by
 induction hp with
 |top=>grind
 |@st up q e1 p h e2 pre post sts _ ih =>
  intro d b hd;have e:bR pre++e1++(p,h)::(e2++bR post)=bR (pre++(q,e1++(p,h)::e2)::post):=by simp[bR]
  rw[e]at hd;have:=Dn.inn _ _ _ hd;have e':cI (pre++(q,e1++(p,h)::e2)::post)=cI pre++(q,bG (e1++(p,h)::e2))::cI post:=by simp[cI]
  grind
def bd(a b:Bs):Prop:=a≠[]/\(b=[]∨lt a b=aC)
def lm(b:LL):Prop:=b.Pairwise fun y z=>bd y.2.2 z.2.2/\∀x∈z.2.1,lt x.1 y.2.2=aD
theorem O7{a b c:Bs}(h1:bd a b)(h2:bd b c):bd a c:=by
 refine⟨h1.1,?_⟩;rcases h2.2 with h|h
 ·grind
 ·rcases h1.2 with h'|h'
  ·exact gU h' h2.1
  ·exact .inr (lt_trans h' h)
theorem ab4{k a b:Bs}(h:lt k a=aC)(h2:bd a b):b=[]∨lt k b=true:=by
 rcases h2.2 with h'|h'
 ·grind
 ·exact .inr (lt_trans h h')
theorem PN{k a b:Bs}(h:lt k b=aD)(h2:lt a b=aC):lt k a=false:=by
 cases h':lt k a with
 |false=>rfl
 |true=>rw[lt_trans h' h2]at h;cases h
theorem TI:∀(l:IL),(∀x∈l,x.2≠[])->((cI l).map (·.2)).Sublist ((bR l).map (·.2))
 | [],_=>.slnil
 |(p,e)::l,h=>by
  have ih:=TI l fun x hx=>h x (by grind)
  have he:e≠[]:=h (p,e) (by simp)
  obtain⟨a',x,rfl⟩:∃a' x,e=a'++[x]:=by
   rcases gg e with h|⟨l,x,h⟩
   all_goals grind
  have e1:bR ((p,a'++[x])::l)=a'++x::bR l:=by simp[bR]
  have e2:cI ((p,a'++[x])::l)=(p,x.2)::cI l:=by
   simp[cI,bG]
  simp_all
theorem nv{m:bV}(h:bZ m=aC):(cv m).length<=252:=by
 have h1:=uV h;obtain⟨_,_,_,h4,_,_,h7⟩:=k8 h;unfold ff at h1;omega
theorem pA{l:Lf}(h:cK l=aC):(bq l).length<=252:=by
 have g:=lA h;have h1:=zV l;have h2:=g.wt;have h3:=g.high;unfold ix at h1;omega
theorem We{m:bV}(h:bZ m=aC):bJ aI 130 [.str (cv m)]=aA (.tup [eI m,.int .i64 0]):=by
 have h1:=uV h;have h2:=nv h;have:=QY h 0 (by omega);rw[show fR 0=[] from rfl,fh]at this;rw[Wj _ (by grind),this];rfl
theorem N6{m:bV}(h:bZ m=aC):(cv m)[0]? = aA 78:=by
 unfold cv;grind
theorem Wf{s:Bs}(hs:s.length<=252)(h:s[0]? = aA 78):bJ aI 129 [.str s]=aA (.tup [eL kW,.int .i64 4]):=by
 have hsm:dk s:=by grind
 have hr:bJ aI 175 [.str s]=aA (.tup [.agg [.sl [],.str [],.int .i64 0],.int .i64 0,.bool aD]):=by
  refine No _ ?_ (.refl _);unfold G4;obtain⟨x1,e1,h1⟩:∃x e,fe s 1 1=(x,e):=⟨_,_,rfl⟩
  obtain⟨x2,e2,h2⟩:∃x e,fe s 2 2=(x,e):=⟨_,_,rfl⟩
  obtain⟨t,m,e3,h3⟩:∃t m e,dW s 4=(t,m,e):=⟨_,_,_,rfl⟩
  rw[aN (kQ h1 hsm),ki,aN (kQ h2 hsm),ki,aN (lL h3 hsm),d5];cases e1 != (0:Int)with
  |true=>rfl
  |false =>
   cases e2 != (0:Int)with
   |true=>rfl
   |false =>
    cases e3 != (0:Int)with
    |true=>rfl
    |false =>
     rw[aP,aP,aP,cG h];rfl
 refine M6 _ ?_;unfold CI;rw[bp (by omega),aP,aN hr,MC];rfl
theorem IM{p:Int}{x:rV}:∀{pre post:LL} {n:Int},d0 okF (pre++(p,x)::post) n->okF x (cS post n):=fun h=>((gV _ _ _).1 h).2.1
theorem nM{p:Int}{x:Su}:∀{pre post:IL} {n:Int},d0 okI (pre++(p,x)::post) n->okI x (cS post n):=fun h=>((gV _ _ _).1 h).2.1
theorem IB{α:Type}{f:α->Int->Bs}(pre:List (Int × α))(p:Int)(x:α)(post:List (Int × α))(n:Int):(p,f x (cS post n))∈bW f (pre++(p,x)::post) n:=by
 rw[lx,bW];simp
theorem pz{s:Su}{b:LL}(h:Dn s [] b):s=df b:=by cases h;rfl
theorem oc{s:Su}{l:IL}{d:List IL}{b:LL}(h:Dn s (l::d) b):s=cI l/\Dn (bR l) d b:=by cases h;grind
theorem V9{b:LL}{a c:Su}{p:Int}{h:Bs}(e:a++(p,h)::c=df b):∃pre prs post,b=pre++(p,prs,h)::post/\a=df pre/\c=df post:=by
 unfold df at e;obtain⟨pre,b2,rfl,h1,h2⟩:=List.map_eq_append_iff.1 e.symm;obtain⟨x,post,rfl,h3,h4⟩:=List.map_eq_cons_iff.1 h2;obtain⟨q,prs,hh⟩:=x;simp only[Prod.mk.injEq]at h3;obtain⟨rfl,rfl⟩:=h3;exact⟨pre,prs,post,rfl,h1.symm,h4.symm⟩
theorem V8{l:IL}{a c:Su}{p:Int}{h:Bs}(e:a++(p,h)::c=cI l):∃pre x post,l=pre++(p,x)::post/\bG x=h/\a=cI pre/\c=cI post:=by
 unfold cI at e;obtain⟨pre,b2,rfl,h1,h2⟩:=List.map_eq_append_iff.1 e.symm;obtain⟨x,post,rfl,h3,h4⟩:=List.map_eq_cons_iff.1 h2;obtain⟨q,x⟩:=x;simp only[Prod.mk.injEq]at h3;obtain⟨rfl,rfl⟩:=h3;exact⟨pre,x,post,rfl,rfl,h1.symm,h4.symm⟩
def HP(s:Su):Prop:=s.Pairwise fun a b=>bd a.2 b.2
theorem O8{s:Su}:HP s↔(s.map (·.2)).Pairwise bd:=List.pairwise_map.symm
theorem IN{α:Type}{g:α->Int->Prop}:∀{l:List (Int × α)} {n:Int},d0 g l n->∀x∈l,∃m,g x.2 m
 |(p,y)::l,n,h,x,hx=>by
  rcases dE.1 hx with rfl|hx
  ·exact⟨_,h.1⟩
  ·exact IN h.2 x hx
theorem mP{l:IL}{n:Int}(h:d0 okI l n):∀x∈l,x.2≠[]:=fun x hx=>let ⟨_,h⟩:=IN h x hx;h.1
theorem Dd{l:IL}(hn:∀x∈l,x.2≠[])(h:HP (bR l)):HP (cI l):=O8.2 (List.Pairwise.sublist (TI l hn) (O8.1 h))
theorem Gv:∀{d:List IL} {s:Su} {b:LL},Dn s d b->(∀l∈d,∀x∈l,x.2≠[])->HP (df b)->HP s
 | [],s,b,hd,_,h=>by rw[pz hd];exact h
 |l::d,s,b,hd,hn,h=>by
  obtain⟨e,hd⟩:=oc hd;rw[e];exact Dd (hn l (by simp)) (Gv hd (fun l' hl=>hn l' (by grind)) h)
theorem IT{b:LL}(h:lm b):HP (df b):=by
 unfold HP df;rw[List.pairwise_map];exact h.imp fun h=>h.1
theorem abz{k:Bs}{pre:IL}(hn:∀x∈pre,x.2≠[])(hP:HP (bR pre))(h0:∀y∈cI pre,y.2≠[])(hk:∀y∈cI pre,lt k y.2=aD):∀y∈bR pre,lt k y.2=false:=by
 intro y hy;obtain⟨z,hz,hy⟩:=jN.1 hy;have hzs:(z.1,bG z.2)∈cI pre:=ib.2 ⟨z,hz,rfl⟩;have h1:=h0 _ hzs;have h2:=hk _ hzs;have hP:HP z.2:=(List.pairwise_flatMap.1 hP).1 z hz
 obtain⟨a',x,e⟩:∃a' x,z.2=a'++[x]:=by
  rcases gg z.2 with h|⟨l,x,h⟩
  all_goals grind
 rw[e]at hy hP h1 h2;have ex:bG (a'++[x])=x.2:=ja a' (by simp);simp only[ex]at h1 h2;rcases cz.1 hy with hy|hy
 ·have:=(fJ.1 hP).2.2 y hy x (by simp);exact PN h2 (this.2.resolve_left h1)
 grind
theorem aaP{a c:Su}{x:Int × Bs}(h:HP (a++x::c)):∀y∈a,y.2≠[]:=fun y hy=>((fJ.1 h).2.2 y hy x (by simp)).1
abbrev tM(r:Int)(n:Nat)(es:Es):List O:=tm r (n:Int) (cX es) (cD n (br es))
theorem aef{r:Int}{n:Nat}{es:Es}(h:cP n es){p:Int}{l:Lf}(hg:cT es p=aA (bq l))(hr:cK l=aC):cA aI aX 82 [.ptr 0 0 0,.int .i64 p] (tM r n es)=aA (jh (tM r n es) (bn l.prs,l.high,l.next)):=by
 refine NQ _ _ _ _ _ (o:=.doneM (.ifc 120 (eL l)) (tM r n es++[aM 41 [] 0,aJ 120 (eL l) aD])) ?_ (.done (by kernel_rfl));unfold HB;rw[cY IE (Jp h hg),cF,dA rfl,aP,aN (Wg _ hr),n8,db rfl,aZ]
theorem aee{r:Int}{n:Nat}{es:Es}(h:cP n es){p:Int}{m:bV}(hg:cT es p=aA (cv m))(hr:bZ m=aC):cA aI aX 82 [.ptr 0 0 0,.int .i64 p] (tM r n es)=aA (ji (tM r n es) (bg m.seps,aS m.kids,m.high,m.next)):=by
 refine NQ _ _ _ _ _ (o:=.doneM (.ifc 150 (eI m)) (tM r n es++[aM 41 [] 0,aJ 120 (eL kW) aD,aM 9 [] 0,aM 3 [] 0,aJ 150 (eI m) aD])) ?_ (.done (by kernel_rfl));unfold HB;rw[cY IE (Jp h hg),cF,dA rfl,aP,aN (Wf (nv hr) (N6 hr)),n8,dH (by decide),aP,aN (We hr),w6,db rfl,aZ]
section
variable {r:Int}{n:Nat}{es:Es}{p:Int}
theorem yl(h:cP n es){l:Lf}(hg:cT es p=aA (bq l))(hr:cK l=aC){k:List V × List UInt8 × Int->R}{k2:List V × List V × List UInt8 × Int->R}{k3:Unit->R} :
  jW aI aX (jh (tM r n es)) (ji (tM r n es)) (l8 (tM r n es)) 82 [.ptr 0 0 0,.int .i64 p] (tM r n es) k k2 k3=k (bn l.prs,l.high,l.next):=aaS (acO _) (aef h hg hr)
theorem vT(h:cP n es){m:bV}(hg:cT es p=aA (cv m))(hr:bZ m=aC){k:List V × List UInt8 × Int->R}{k2:List V × List V × List UInt8 × Int->R}{k3:Unit->R} :
  jW aI aX (jh (tM r n es)) (ji (tM r n es)) (l8 (tM r n es)) 82 [.ptr 0 0 0,.int .i64 p] (tM r n es) k k2 k3=k2 (bg m.seps,aS m.kids,m.high,m.next):=aaT (acP _) (acQ _) (aee h hg hr)
theorem un(h:cP n es){b:Bs}{l:Lf}(hg:cT es p=aA b)(hr:cK l=aC):cA aI aX 78 [.ptr 0 0 0,.int .i64 p,.ifc 120 (eL l)] (tM r n es)=aA (iu (r,n,cX (bD es p (bq l)),cD n (br (bD es p (bq l))))):=by
 refine Zd _ _ _ _ _ _ _ _ (o:=.doneM (.tup []) (tM r n (bD es p (bq l))++[aM 41 [] 0,aJ 120 (eL l) aD])) ?_ (.done (by kernel_rfl));unfold NN;rw[aN (Zw _ hr),cR,cH Qk (Um h hg (pA hr))]
theorem ul(h:cP n es){b:Bs}{m:bV}(hg:cT es p=aA b)(hr:bZ m=aC):cA aI aX 78 [.ptr 0 0 0,.int .i64 p,.ifc 150 (eI m)] (tM r n es)=aA (iu (r,n,cX (bD es p (cv m)),cD n (br (bD es p (cv m))))):=by
 refine Ze _ _ _ _ _ _ _ _ _ (o:=.doneM (.tup []) (tM r n (bD es p (cv m))++[aM 9 [] 0,aM 3 [] 0,aJ 150 (eI m) aD])) ?_ (.done (by kernel_rfl));unfold NO;rw[aN (Zz _ (gF hr)),cR,cH Qk (Um h hg (nv hr))]
end
abbrev bh:=Int × Su × Int × Nat
def mf(x:bh):V:=.agg [.int .i64 x.1,.sl (bg (aV x.2.1 x.2.2.1).seps),.sl (aS (aV x.2.1 x.2.2.1).kids),.str (bG x.2.1),.int .i64 x.2.2.1,.int .i64 (x.2.2.2:Int)]
def gz(l:List bh):List V:=l.map mf
theorem t8(l:List bh):(gz l).length=l.length:=by simp[gz]
theorem Ow{m:bV}{k:Bs}(h:bZ m=aC)(hk:cg k=aC)(hh:m.high=[]∨lt k m.high=aC):jB m k=(((fS m.seps k:Nat):Int),0):=by
 unfold jB
 all_goals grind
inductive jy(es:Es)(k:Bs):Int->List bh->Int->Lf->Prop
 |leaf {p:Int} {l:Lf} (hg:cT es p=aA (bq l)) (hr:cK l=aC):jy es k p [] p l
 |inn {p:Int} {e:Su} {nx:Int} {i:Nat} {p':Int} {sts:List bh} {pl:Int} {l:Lf} (hg:cT es p=aA (cv (aV e nx))) (hr:bZ (aV e nx)=aC) (hf:jB (aV e nx) k=((i:Int),0)) (hi:(aV e nx).kids[i]? = aA p') :
  jy es k p' sts pl l->jy es k p ((p,e,nx,i)::sts) pl l
theorem Ui{r:Int}{n:Nat}{es:Es}(hS:cP n es){k:Bs}(hk:cg k=aC) :
  ∀(d:List IL) (b:LL) (up:List IL) (p:Int) (h:Bs) (a c:Su) (sts:List bh),kG r up p h a c sts->Dn (a++(p,h)::c) d b->(∀y∈a,lt k y.2=aD)->(h=[]∨lt k h=aC) ->
  (∀l∈d,d0 okI l 0)->d0 okF b 0->(∀l∈d,∀x∈bW cd l 0,x∈es)->(∀x∈bW dM b 0,x∈es)->HP (df b) ->
  ∃p' h' ws pre prs post,kG r (d.reverse++up) p' h' (df pre) (df post) (ws.reverse++sts)/\b=pre++(p',prs,h')::post/\(∀y∈df pre,lt k y.2=aD)/\(h'=[]∨lt k h'=aC)/\ws.length=d.length /\
   jy es k p ws p' ⟨prs,h',cS post 0⟩
 | [],b,up,p,h,a,c,sts,hp,hd,ha,hh,_,hF,_,hE,_=>by
  obtain⟨pre,prs,post,rfl,rfl,rfl⟩:=V9 (pz hd);have hr:cK ⟨prs,h,cS post 0⟩=true:=IM hF;have hg:cT es p=aA (bq ⟨prs,h,cS post 0⟩):=i9 hS.nd (hE _ (IB (f:=dM) pre p (prs,h) post 0));exact⟨p,h,[],pre,prs,post,hp,rfl,ha,hh,rfl,.leaf hg hr⟩
 |l::d,b,up,p,h,a,c,sts,hp,hd,ha,hh,hI,hF,hEI,hE,hP=>by
  have hPs:=Gv hd (fun l hl=>mP (hI l hl)) hP;obtain⟨e,hdk⟩:=oc hd;clear hd;obtain⟨pre,x,post,rfl,rfl,rfl,rfl⟩:=V8 e;obtain⟨hne,hr⟩:okI x (cS post 0):=nM (hI _ (er ..));have hg:cT es p=aA (cv (aV x (cS post 0))):=i9 hS.nd (hEI _ (er ..) _ (IB (f:=cd) pre p x post 0));obtain⟨e1,p',h',e2,rfl,h1,h2,h3⟩:=My k x hne;have hfind:=Ow hr hk hh;have hfi:jB (aV (e1++(p',h')::e2) (cS post 0)) k=(((e1.length:Nat):Int),0):=hfind.trans (by rw[h1]);have hkid:((e1++(p',h')::e2).map (·.1))[e1.length]? = aA p':=by simp
  have hk2:bR (pre++(p,e1++(p',h')::e2)::post)=bR pre++e1++(p',h')::(e2++bR post):=by simp[bR]
  rw[hk2]at hdk
  have hpre:∀y∈bR pre++e1,lt k y.2=false:=by
   intro y hy;rcases cz.1 hy with hy|hy
   ·have hPk:=Gv hdk (fun l hl=>mP (hI l (by grind))) hP;rw[cO]at hPk;exact abz (fun x hx=>mP (hI _ (er ..)) x (by grind)) (fJ.1 hPk).1 (aaP hPs) ha y hy
   grind
  have hh':h'=[]∨lt k h'=true:=by
   by_cases h2e:e2=[]
   ·subst h2e;have:bG (e1++[(p',h')])=h':=(ja e1 (by simp)).trans rfl;grind
   grind
  obtain⟨p2,h2',ws,pre',prs,post',q1,q2,q3,q4,q5,q6⟩:=Ui hS hk d b _ p' h' _ _ _ (.st hp) hdk hpre hh' (fun l hl=>hI l (by grind)) hF (fun l hl=>hEI l (by grind)) hE hP;refine⟨p2,h2',(p,e1++(p',h')::e2,cS post 0,e1.length)::ws,pre',prs,post',?_,q2,q3,q4,by grind,.inn hg hr hfi hkid q6⟩;grind
theorem ag3{r:Int}{n:Nat}{es:Es}(hS:cP n es){k:Bs}{p:Int}{ws:List bh}{pl:Int}{l:Lf}(h:jy es k p ws pl l):∀acc:List bh,acc.length+ws.length<=10000 ->
  Go qk aC 5 (fF 75) (.head 0 (B9 k p r n (cX es) (cD n (br es)) (gz acc))) (.doneM (.tup [.own 5,.agg [.sl (bn l.prs),.str l.high,.int .i64 l.next],.int .i64 pl]) (tM r n es++[aM 176 (gz (acc++ws)) 0,aJ 120 (.agg [.sl (bn l.prs),.str l.high,.int .i64 l.next]) aD])):=by
 induction h with
 |@leaf p l hg hr =>
  intro acc _;rw[fh];refine Tc _ _ _ _ _ _ _ ?_ (.refl _);unfold Kr;rw[yl hS hg hr,cF]
 |@inn p e nx i p' sts pl l hg hr hf hi _ ih =>
  intro acc ha;have ih:=ih (acc++[(p,e,nx,i)]) (by grind);rw[cO]at ih;refine Tc _ _ _ _ _ _ _ ?_ ih;unfold Kr;rw[vT hS hg hr,cF];show(aL aI _ [eI (aV e nx),_] _)=_;rw[aN (Ov _ k (gF hr)),Ct,hf,dA rfl,aP,aQ (aW (by rw[t8];grind)),aQ (by simp),bi]
  have hi2:bl (aS (aV e nx).kids) i=fun k=>k (aB .i64 p'):=by
   funext kk;exact iq hi
  rw[hi2];simp only[bF];simp[gz,mf]
theorem wj{r:Int}{n:Nat}{es:Es}(hS:cP n es){k:Bs}{ws:List bh}{pl:Int}{l:Lf}(h:jy es k r ws pl l)(hw:ws.length<=10000) :
  cA aI aX 75 [.ptr 0 0 0,.str k] (tM r n es)=aA (vD (tM r n es) (gz ws,bn l.prs,l.high,l.next,pl)) :=
 Y8 _ _ _ _ _ rfl ⟨_,_,ag3 hS h [] (by grind),by kernel_rfl⟩
def dY(ups:List IL):Es:=ups.flatMap fun l=>bW cd l 0
structure WT(n:Nat)(r:Int)(es:Es)(ups:List IL)(b:LL):Prop where
 shf:cP n es
 rep:es.Perm (dY ups++bW dM b 0)
 dn:Dn [(r,[])] ups b
 okI:∀l∈ups,d0 okI l 0
 okF:d0 okF b 0
 ord:lm b
theorem MM:∀{d:List IL} {s:Su} {b:LL},Dn s d b->(∀l∈d,d0 okI l 0)->s≠[]->∀l∈d,l≠[]
 | [],_,_,_,_,_=>by simp
 |l::d,s,b,hd,hI,hs=>by
  obtain⟨e,hdk⟩:=oc hd;have hl:l≠[]:=by rintro rfl;exact hs e
  intro l' hl';rcases dE.1 hl' with rfl|hl'
  ·grind
  ·refine MM hdk (fun x hx=>hI x (by grind)) ?_ l' hl';obtain⟨x,t,rfl⟩:=uv hl;have:=mP (hI _ (er ..)) x (by simp);intro h0;rw[bR,nZ,ww]at h0;grind
theorem CS{α:Type}{f:α->Int->Bs}:∀(l:List (Int × α)) (n:Int),(bW f l n).length=l.length
 | [],_=>rfl
 |(p,x)::l,n=>by rw[bW,dp,CS l n];rfl
theorem N8:∀{ups:List IL},(∀l∈ups,l≠[])->ups.length<=(dY ups).length
 | [],_=>c7 _
 |l::ups,h=>by
  have:=N8 (ups:=ups) fun x hx=>h x (by grind)
  have h1:0 < l.length:=uy.2 (h l (by simp));rw[dY,nZ,eV,CS,dp];have e:(dY ups).length=(List.flatMap (fun l=>bW cd l 0) ups).length:=rfl;omega
theorem uh{n:Nat}{r:Int}{es:Es}{ups:List IL}{b:LL}(h:WT n r es ups b):ups.length<=1024:=by
 have h1:=N8 (MM h.dn h.okI (by simp));have h2:=h.rep.length_eq;have h3:=tu h.shf;have h4:=h.shf.le;grind
theorem Uj{n:Nat}{r:Int}{es:Es}{ups:List IL}{b:LL}(h:WT n r es ups b){k:Bs}(hk:cg k=aC) :
  ∃p h' ws pre prs post,kG r ups.reverse p h' (df pre) (df post) ws.reverse/\b=pre++(p,prs,h')::post/\(∀y∈df pre,lt k y.2=aD)/\(h'=[]∨lt k h'=aC)/\ws.length=ups.length/\jy es k r ws p ⟨prs,h',cS post 0⟩:=by
 obtain⟨p,h',ws,pre,prs,post,q1,q2,q3,q4,q5,q6⟩:=Ui (r:=r) h.shf hk ups b [] r [] [] [] [] .top h.dn (by simp) (.inl rfl) h.okI h.okF
  (fun l hl x hx=>h.rep.mem_iff.2 (Bv _ (jN.2 ⟨l,hl,hx⟩))) (fun x hx=>h.rep.mem_iff.2 (uz _ hx)) (IT h.ord)
 grind
theorem TK:∀{l:List Bs},(∀s∈l,cg s=aC)->cW l<=19 * l.length
 | [],_=>c7 _
 |s::l,h=>by
  have h1:=fm (h s (by simp));have h2:=TK (l:=l) fun x hx=>h x (by grind)
  simp only[cW,dp];omega
structure qx(e1:Su)(p:Int)(h:Bs)(e2:Su)(nx:Int)(k:Bs)(to:Int):Prop where
 right:bZ (aV (e1++(p,h)::e2) nx)=aC
 key:cg k=aC
 pg:d6 to=aC
 lo:∀y∈e1,bd y.2 k
 hi:h=[]∨lt k h=aC
 hp:HP (e1++(p,h)::e2)
theorem Ia{a k:Bs}(hk:cg k=aC)(h:bd a k):lt k a=false:=by
 rcases h.2 with h'|h'
 ·subst h';cases hk
 ·exact nI h'
theorem Pj{e1:Su}{p:Int}{h:Bs}{e2:Su}{nx:Int}{k:Bs}{to:Int}(f:qx e1 p h e2 nx k to):fS (aV (e1++(p,h)::e2) nx).seps k=e1.length:=by
 refine LX k e1 p h e2 (fun y hy=>Ia f.key (f.lo y hy)) fun hne=>?_
 obtain⟨y,r,rfl⟩:=uv hne;have:HP ((p,h)::y::r):=(fJ.1 f.hp).2.1;have:=(iL.1 this).1 y (by simp);exact f.hi.resolve_left this.1
theorem Ih{e1:Su}{p:Int}{h:Bs}{e2:Su}{nx:Int}{k:Bs}{to:Int}(f:qx e1 p h e2 nx k to):bG (e1++(p,h)::e2)=[]∨lt k (bG (e1++(p,h)::e2))=true:=by
 rw[ja _ (by simp)];cases e2 with
 |nil=>exact f.hi
 |cons y r =>
  rw[mN _ (by simp)];have h1:HP ((p,h)::y::r):=(fJ.1 f.hp).2.1;obtain⟨x,hx⟩:∃x,(y::r).getLast? = aA x:=⟨_,List.getLast?_eq_some_getLast (by simp)⟩
  have hm:=List.mem_of_getLast? hx;have e:bG (y::r)=x.2:=by unfold bG;grind
  have:=(iL.1 h1).1 x hm;rw[e];exact ab4 (f.hi.resolve_left this.1) this
theorem Ac{e1:Su}{p:Int}{h:Bs}{e2:Su}{nx:Int}{k:Bs}{to:Int}(f:qx e1 p h e2 nx k to) :
  mQ (aV (e1++(p,h)::e2) nx) k to=if 23+cW (aV (e1++(p,k)::(to,h)::e2) nx).seps<=252 then (aV (e1++(p,k)::(to,h)::e2) nx,0) else (jG,6):=by
 have ha:=Pj f;have hf:=Ow f.right f.key (Ih f);unfold mQ;rw[hf,ha,aU ⟨rfl,f.pg⟩,Dm,aY]
 ·unfold jV;grind
 ·rintro⟨h0,h1⟩;have hlt1:e1.length - 1 < e1.length:=by omega
  have:(aV (e1++(p,h)::e2) nx).seps[e1.length - 1]? = aA e1[e1.length - 1].2:=by
   grind
  rw[this]at h1;have hm:e1[e1.length - 1]∈e1:=Bu hlt1;have:=f.lo _ hm;rw[Option.some.inj h1]at this;rcases this.2 with h'|h'
  ·exact this.1 h'
  ·rw[lE]at h';grind
theorem Dj{e1:Su}{p:Int}{h:Bs}{e2:Su}{nx:Int}{k:Bs}{to:Int}(f:qx e1 p h e2 nx k to)(hz:23+cW (aV (e1++(p,k)::(to,h)::e2) nx).seps<=252):bZ (aV (e1++(p,k)::(to,h)::e2) nx)=true:=by
 have ha:=Pj f
 have hf:Lz (aV (e1++(p,h)::e2) nx) k to:=by
  refine⟨f.right,f.key,?_,f.pg,?_,?_⟩
  ·rcases Ih f with h|h
   all_goals grind
  ·have:=Ac f;rw[aU hz]at this;intro hc;unfold mQ at this;grind
  ·rw[ha,Dm];unfold jV;grind
 have:=adS hf
 rwa [ha,Dm]at this
theorem pM{s:Bs}(h:cg s=aC):s≠[]:=by rintro rfl;cases h
theorem Dk(e1:Su)(p:Int)(h:Bs)(e2:Su)(k:Bs)(to nx:Int):cW (aV (e1++(p,k)::(to,h)::e2) nx).seps=cW (aV (e1++(p,h)::e2) nx).seps+(3+k.length):=by
 have:=Dm e1 p h e2 k to nx;rw[<-this];show cW ((aV (e1++(p,h)::e2) nx).seps.take e1.length++[k]++(aV (e1++(p,h)::e2) nx).seps.drop e1.length)=_
 have h2:cW (aV (e1++(p,h)::e2) nx).seps=cW ((aV (e1++(p,h)::e2) nx).seps.take e1.length)+cW ((aV (e1++(p,h)::e2) nx).seps.drop e1.length):=by
  rw[<-yM,lk]
 rw[yM,yM,h2];simp only[cW];omega
theorem Db{e:Su}(h:e≠[]):∃x∈e,bG e=x.2:=by
 obtain⟨a',x,rfl⟩:∃a' x,e=a'++[x]:=by
  rcases gg e with h'|⟨l,x,h'⟩
  ·exact gU h' h
  ·exact⟨l,x,by simpa using h'⟩
 exact⟨x,by simp,ja a' (by simp)⟩
theorem H9(e1:Su)(p:Int)(h:Bs)(c:Su)(k:Bs)(to:Int):bG (e1++(p,k)::(to,h)::c)=bG (e1++(p,h)::c):=by
 cases c with
 |nil =>
  have a1:bG (e1++[(p,h)])=h:=(ja e1 (by simp)).trans rfl;have a2:bG (e1++[(p,k),(to,h)])=h:=(ja e1 (by simp)).trans rfl;exact a2.trans a1.symm
 |cons z c =>
  have a1:bG (e1++(p,h)::z::c)=bG (z::c):=(ja e1 (by simp)).trans (mN _ (by simp));have a2:bG (e1++(p,k)::(to,h)::z::c)=bG (z::c):=(ja e1 (by simp)).trans ((mN _ (by simp)).trans (mN _ (by simp)));exact a2.trans a1.symm
structure UJ(e:Su)(nx:Int)(k:Bs)(to q:Int)(e' fa fb:Su):Prop where
 cut:e'=fa++fb
 na:fa≠[]
 nb:fb≠[]
 ra:bZ (aV fa (q+1))=aC
 rb:bZ (aV fb nx)=aC
 mid:cg (bG fa)=aC
 six:6<=fa.length/\6<=fb.length
 big:(∀y∈e,y.2.length<=5)->k.length<=5->15<=fa.length
 run:∃ea eb,bZ (aV ea (q+1))=aC/\bZ (aV eb nx)=aC/\rK (aV e nx) q=(aV ea (q+1),aV eb nx,bG fa,0) /\
  ((lt k (bG fa)=aC/\mQ (aV ea (q+1)) k to=(aV fa (q+1),0)/\eb=fb)∨(lt k (bG fa)=aD/\ea=fa/\mQ (aV eb nx) k to=(aV fb nx,0)))
theorem TL:∀{l:List Bs},(∀s∈l,s.length<=5)->cW l<=8 * l.length
 | [],_=>c7 _
 |s::l,h=>by
  have h1:=h s (by simp);have h2:=TL (l:=l) fun x hx=>h x (by simp[hx])
  simp only[cW,dp];omega
theorem aa4{e1:Su}{p:Int}{h:Bs}{e2:Su}{nx:Int}{k:Bs}{to q:Int}(f:qx e1 p h e2 nx k to)(hz:¬23+cW (aV (e1++(p,k)::(to,h)::e2) nx).seps<=252)(hq:d6 q=aC) :
  ∃fa fb,UJ (e1++(p,h)::e2) nx k to q (e1++(p,k)::(to,h)::e2) fa fb:=by
 rw[Dk]at hz;have hkl:=(fm f.key).2;obtain⟨r1,r2,r3,r4,r5,r6,r7⟩:=k8 f.right;have h19:=TK r3;have hsl:(aV (e1++(p,h)::e2) nx).seps.length=(e1++(p,h)::e2).length - 1:=Tr;have h3:3<=(aV (e1++(p,h)::e2) nx).kids.length:=by omega
 obtain⟨A,mid,B,s1,s2,s3,s4,s5⟩:=TD f.right h3;have hss:=age (to:=q) f.right h3 hq
 have hspl:rK (aV (e1++(p,h)::e2) nx) q=(rI (aV (e1++(p,h)::e2) nx) q,rJ (aV (e1++(p,h)::e2) nx),mid,0):=by
  unfold rK;rw[aU ⟨f.right,h3,hq⟩,s3]
 have hsz:cW (aV (e1++(p,h)::e2) nx).seps=cW A+(3+mid.length)+cW B:=by
  rw[s1,yM];simp only[cW];omega
 have hAl:A.length+B.length+1=(aV (e1++(p,h)::e2) nx).seps.length:=by rw[s1];simp;omega
 have hA4:=oR (l:=A) fun x hx=>r3 x (by rw[s1];simp[hx])
 have hB4:=oR (l:=B) fun x hx=>r3 x (by rw[s1];simp[hx])
 have hmk:cg mid=true:=r3 mid (by rw[s1];simp);have hml:=(fm hmk).1
 have hbig:(∀y∈e1++(p,h)::e2,y.2.length<=5)->k.length<=5->15<=(aV (e1++(p,h)::e2) nx).seps.length / 2+1:=by
  intro hy hk5
  have h8:cW (aV (e1++(p,h)::e2) nx).seps<=8 * (aV (e1++(p,h)::e2) nx).seps.length:=TL fun s hs=>by
   obtain⟨y,hy1,rfl⟩:=ib.1 hs;exact hy y ((List.dropLast_sublist _).subset hy1)
  omega
 generalize hm:(aV (e1++(p,h)::e2) nx).seps.length / 2+1=m at *
 obtain⟨ea,hea⟩:∃ea,ea=(e1++(p,h)::e2).take m:=⟨_,rfl⟩
 obtain⟨eb,heb⟩:∃eb,eb=(e1++(p,h)::e2).drop m:=⟨_,rfl⟩
 have hab:e1++(p,h)::e2=ea++eb:=by rw[hea,heb,lk]
 have hel:ea.length=m:=by rw[hea,eC];omega
 have hbl:eb.length+m=(e1++(p,h)::e2).length:=by rw[heb,fD];omega
 have hna:ea≠[]:=by rintro rfl;simp at hel;omega
 have hsixA:6<=ea.length:=by omega
 have hsixB:6<=eb.length:=by omega
 have hnb:eb≠[]:=by rintro rfl;simp only[fc,fY]at hbl;omega
 have hsp:=agb ea eb hnb q nx (by rw[<-hab,hm,hel]);rw[<-hab]at hsp
 have hmid:bG ea=mid:=by
  have:=ef bV.high hsp.1;exact this.symm.trans s3
 have hsa:(aV ea (q+1)).seps=A:=by
  have:=ef bV.seps hsp.1;exact this.symm.trans s4
 have hsb:(aV eb nx).seps=B:=by
  have:=ef bV.seps hsp.2;rw[<-s5,<-hm];exact this.symm
 have hra:bZ (aV ea (q+1))=true:=by rw[<-hsp.1];exact hss.1
 have hrb:bZ (aV eb nx)=true:=by rw[<-hsp.2];exact hss.2
 rw[hsp.1,hsp.2,<-hmid]at hspl;rw[<-hmid]at hmk hml;have hHP:=f.hp;rw[hab]at hHP;have hHa:HP ea:=(fJ.1 hHP).1;have hHb:HP eb:=(fJ.1 hHP).2.1;rcases List.append_eq_append_iff.1 hab with⟨c,hc1,hc2⟩|⟨c,hc1,hc2⟩
 ·-- ea=e1++c
  cases c with
  |nil =>
   rw[fh]at hc1;subst hc1;rw[eA]at hc2;subst hc2;have f2:qx [] p h e2 nx k to:=⟨hrb,f.key,f.pg,by simp,f.hi,hHb⟩
   have hp2:=Ac f2;have hz2:23+cW (aV ([]++(p,k)::(to,h)::e2) nx).seps<=252:=by rw[Dk,eA,hsb];omega
   rw[aU hz2]at hp2;obtain⟨x,hx,e⟩:=Db hna;refine⟨ea,(p,k)::(to,h)::e2,rfl,hna,by simp,hra,Dj f2 hz2,hmk,⟨hsixA,by simp at hsixB |-;omega⟩,fun h1 h2=>hel ▸ hbig h1 h2,ea,(p,h)::e2,hra,hrb,hspl,.inr ⟨?_,rfl,hp2⟩⟩;rw[e];exact Ia f.key (f.lo x hx)
  |cons y c =>
   rw[ew]at hc2;obtain⟨rfl,hc3⟩:=List.cons.inj hc2;clear hc2;subst hc1;subst hc3;have f2:qx e1 p h c (q+1) k to:=⟨hra,f.key,f.pg,f.lo,f.hi,hHa⟩
   have hp2:=Ac f2;have hz2:23+cW (aV (e1++(p,k)::(to,h)::c) (q+1)).seps<=252:=by rw[Dk,hsa];omega
   rw[aU hz2]at hp2;have hhi:=H9 e1 p h c k to;refine⟨e1++(p,k)::(to,h)::c,eb,by simp,by simp,hnb,Dj f2 hz2,hrb,by rw[hhi];exact hmk,⟨by simp at hsixA |-;omega,hsixB⟩,fun h1 h2=>by have h3:=hbig h1 h2;rw[<-hel]at h3;simp at h3 |-;omega,e1++(p,h)::c,eb,hra,hrb,by rw[hhi];exact hspl,.inl ⟨?_,hp2,rfl⟩⟩;rw[hhi];exact(Ih f2).resolve_left (pM hmk)
 ·-- e1=ea++c
  subst hc1;subst hc2;have f2:qx c p h e2 nx k to:=⟨hrb,f.key,f.pg,fun y hy=>f.lo y (by simp[hy]),f.hi,hHb⟩
  have hp2:=Ac f2;have hz2:23+cW (aV (c++(p,k)::(to,h)::e2) nx).seps<=252:=by rw[Dk,hsb];omega
  rw[aU hz2]at hp2;obtain⟨x,hx,e⟩:=Db hna;refine⟨ea,c++(p,k)::(to,h)::e2,by simp,hna,by simp,hra,Dj f2 hz2,hmk,⟨hsixA,by simp at hsixB |-;omega⟩,fun h1 h2=>hel ▸ hbig h1 h2,ea,c++(p,h)::e2,hra,hrb,hspl,.inr ⟨?_,rfl,hp2⟩⟩;rw[e];exact Ia f.key (f.lo x (by simp[hx]))
end Go.Proofs.YtlphgcjepphhcaaGreat
