/-
  Texts that the last one stands on.
-/
import Derived.Test.YtlphgcjepphhcaaGreatR5
set_option linter.all false
noncomputable section
open Go.IntKind renaming i64->aB,u8->bK,u64->b9,bits->bJ
open Option renaming some->aA,map_some->dy,none->aF,bind_some->bu,map_eq_bind->GA,bind_assoc->Gx,bind_none->Gy
open Go.Lite.V renaming int->aC,str->aG,tup->aV,bool->aW,one->fL,sl->aH,flat1->js,agg->aI,ptr->aL,tail->bl,cells->gV
open List renaming cons_append->gI,nil_append->il,map_cons->fJ,replicate->cA,getElem?_eq_getElem->cI,take_length->jI,drop_eq_getElem_cons->sd,drop_eq_nil_iff->Gn,pairwise_cons->i7,mem_of_getElem?->dH,length_cons->d8,zip_cons_cons->Gu,all_cons->B4,mem_cons->dC,all_eq_true->e9,append_nil->fR,drop_zero->wK,take_append_drop->lj,append_assoc->c8,drop_drop->uC,map_nil->lU,mem_append->cG,length_nil->jo,length_map->gm,length->se,mem_of_mem_take->uF,mem_of_mem_drop->uE,length_append->gJ,length_take->jW,length_drop->lh,length_set->sg,range->eQ,ext_getElem?->uD,getElem?_set->Gq,getElem?_map->gy,take_append_of_le_length->MK,take_of_length_le->zq,getElem?_eq_none->wM,take_zero->Gt,take_succ_cons->Cf,nodup_cons->nP,mem_cons_self->dl,perm_middle->zp,map_append->li,nodup_append->uG,nodup_nil->Gs,perm_ext_iff_of_nodup->Wl,mem_filter->si,mem_map->fi,filter_eq_self->My,getLastD_eq_getLast?->MD,dropLast_append_of_ne_nil->Wg,eq_nil_or_concat->fS,drop_append->B5,pairwise_map->MG,mem_flatMap->jp,pairwise_append->fT,exists_cons_of_ne_nil->mW,flatMap_cons->lc,append_eq_nil_iff->wJ,length_pos_iff->lT,mem_append_left->sh,mem_append_right->mX,getLast?_eq_some_getLast->Wj,getElem_mem->Ca,reverse_cons->Cd,length_reverse->zm,map_eq_nil_iff->ME,dropLast_concat->Mx,dropLast_cons_of_ne_nil->Wh,concat_eq_append->i5,getElem?_of_mem->zk,getElem?_take->kx,getElem?_drop->i6,getElem?_eq_some_iff->cE,pairwise_iff_getElem->Cc,eq_nil_of_length_eq_zero->wL,reverse_reverse->Ce,filter_append->oX,any_eq_false->zj
open Bool renaming false->aE,true->aD,not_true->cN,true_and->fP,and_eq_true->cT,not_false->lQ,or_eq_true->oT,and_false->nO,false_or->rV
open Nat renaming le_refl->cZ,pow_le_pow_right->MQ,zero_le->kz,add_zero->gn,zero_add->eW,mod_eq_of_lt->Gw,eq_zero_or_pos->Gv,add_assoc->ky,add_comm->so
open Int renaming natCast_add->B0,cast_ofNat_Int->zi,fdiv_eq_ediv_of_nonneg->Wf
open Go.Lite.O renaming box->aM,row->aN
namespace Go.Proofs.YtlphgcjepphhcaaGreat
open Go Go.Lite
set_option linter.unusedSimpArgs false
set_option linter.unusedVariables false
def v6(s:Bs)(n:Int)(t:Bs):Bs × Int × Int :=
 if 0<=n/\n<=(s.length:Int) then
  if 255 < t.length then ([],0,2) else
  if (s.length:Int) - n < (t.length:Int)+1 then ([],0,3) else (rl s n.toNat (UInt8.ofNat t.length::t),n+t.length+1,0)
 else ([],0,1)
def afA s n t (hs:dS s) (ht:dS t) :
  bP aJ 162 [.str s,.int aB n,.str t]=aA (.tup [.str (v6 s n t).1,.int aB (v6 s n t).2.1,.int aB (v6 s n t).2.2]):=by
 refine Zv _ _ _ ?_;unfold HI v6;rw[aQ (JP s n),bL];unfold A9
 by_cases h:0<=n/\n<=(s.length)
 ·rw[bc h,bc h];obtain⟨m,rfl⟩:∃m:Nat,n=(m):=⟨n.toNat,by omega⟩
  rw[bq];have w1:W _ _=s.length - m:=bd (by omega);have w2:W _ _=(t.length)+1:=bd (by omega);rw[w1,w2,ef rfl,be]
  by_cases h2:255 < t.length
  ·grind
  rw[bh h2,bF (show ¬(t.length:Int) > 255 by omega),be]
  by_cases h3:s.length - m < (t.length:Int)+1
  ·grind
  rw[bh h3,bF h3,be];have w3:W bK ((t.length))=((t.length)):=by rw[nW];omega
  have w4:W aB _=m+(t.length):=bd (by omega);have w5:W _ _=(m)+(t.length)+1:=bd (by omega)
  have e1:iv ([aC bK (t.length)]++fj t)=aA ((t.length:Int)::t.map λb=>b.toNat):=by
   simp[gI,il,iv,EI,dy]
  have e2:(((t.length:Int)::t.map λb=>(b.toNat)).map λx=>UInt8.ofNat x.toNat)=UInt8.ofNat t.length::t:=by
   rw[fJ,EJ,bq]
  rw[w3,w4,w5,aS (ai7 t),aS (by simp[GY];omega),aQ (Ss s m _ (by grind) _ _ e1 e2),de]
 grind
def iX(s:Bs)(n:Int):Bs × Int:=if n < 0∨65536 < n then ([],1) else if n < (s.length:Int) then ([],2) else (s++cA (n.toNat - s.length) 0,0)
def aeN k:iv (cA k (aC bK 0))=aA (cA k 0):=by
 have:=aeM (cA k 0);simp_all
def ae9 s n (hs:dS s):bP aJ 160 [.str s,.int aB n]=aA (.tup [.str (iX s n).1,.int aB (iX s n).2]):=by
 refine Zt _ _ ?_;unfold HG iX
 by_cases h1:n < 0
 ·grind
 by_cases h2:n > 65536
 ·grind
 rw[bF h2,bh (by omega)]
 by_cases h3:s.length > n
 ·grind
 rw[bF h3,bh h3];obtain⟨k,rfl⟩:∃k:Nat,n=(s.length+k:Nat):=⟨(n - s.length).toNat,by omega⟩
 have w:W aB (((s.length+k:Nat)) - (s.length))=(k):=by rw[bd (by omega)];omega
 rw[w,bq,bq,aS (by simp),aS (by simp),aS (by grind),aeN,mS,List.map_replicate,show s.length+k - s.length=k by omega];rw[aS (by grind)];rfl
def nf(s:Bs):Bs:=(s.reverse.dropWhile λb=>b==0).reverse
def W4 s:nf (s++[0])=nf s:=by simp[nf]
def WZ s {c:UInt8} (h:c≠0):nf (s++[c])=s++[c]:=by simp[nf,h]
def W0 s (hs:dS s):∀n,n<=s.length->Go qk aE 0 (fF 176) (.head 0 (zM s n)) (.done (.str (nf (s.take n)))):=by
 intro n
 induction n with
 |zero =>
  intro _;refine K6 _ _ ?_ (.refl _);unfold Fy;rfl
 |succ n ih =>
  intro hn;have bf:=by omega
  have hc:=cI bf;have e1:s.take (n+1)=s.take n++[s[n]]:=by simp_all
  have w:W aB (((n+1:Nat)) - 1)=n:=by rw[bd (by omega)];omega
  by_cases hz:s[n]=0
  ·refine K6 _ _ (o:=.head 0 (zM s (n))) ?_ ?_
   ·unfold Fy;rw[aZ (by omega),w,bq,cM hc,hz];rfl
   ·rw[e1,hz,W4];grind
  ·refine K6 _ _ ?_ (.refl _);unfold Fy
   have hz2:¬((s[n].toNat:Int)=0):=by
    intro e;exact hz (UInt8.toNat_inj.1 (by grind))
   rw[aZ (by omega),bn,w,aS (by simp),bq,cM hc,ew hz2,be,aS (by grind),bq,aS (by grind),e1,WZ _ hz]
def Np s (hs:dS s):bP aJ 176 [.str s]=aA (.str (nf s)):=by
 have:=W0 s hs _ (cZ _);rw[jI]at this;exact ZH _ rfl this
def adw:∀(k n:Nat),n < 18446744073709551616->k < 4294967296->bP aJ 222 [.int b9 n,.int aB (k)]=aA (.str (cW k n)):=by
 intro k
 induction k with
 |zero =>
  intro n _ _;refine OU _ _ ?_;unfold Dz;rfl
 |succ k ih =>
  intro n hn hk;refine OU _ _ ?_;unfold Dz
  have w1:W b9 (((n:Int)).tdiv 256)=(n / 256:Nat):=by
   rw[show((n:Int)).tdiv _=n / 256 from rfl];exact lr (by omega)
  have w2:W aB (((k+1:Nat)) - 1)=(k):=by rw[bd (by omega)];omega
  have w3:W bK (((n:Int)).tmod 256)=(n % 256):=by
   rw[show((n:Int)).tmod _=((n % 256:Nat)) from rfl,nW];omega
  rw[ew (by omega),w1,w2,aQ (ih _ (by omega) (by omega)),de,w3,aS (by simp[eK];omega)];rfl
def No s n size (hs:dS s):bP aJ 230 [.str s,.int aB n,.int aB size]=aA (.int aB (kp s n size)):=by
 refine aag _ _ _ ?_;unfold H2 kp
 by_cases h1:size < 1
 ·grind
 by_cases h2:size > 8
 ·grind
 by_cases h3:n < 0
 ·grind
 by_cases h4:n > (s.length)
 ·grind
 rw[bF h4,bd (by omega)];grind
def abZ s (n k:Nat) (hk:k<=8) (hl:n+k<=s.length) (hs:dS s):∀j,j<=k ->
  Go qk aE 0 (fF 221) (.head 0 (zP s n (dY ((s.drop (n+j)).take (k - j))) ((j) - 1))) (.done (.tup [.int b9 ((dY ((s.drop n).take k))),.int aB 0])):=by
 intro j
 induction j with
 |zero =>
  intro _;refine Uw _ _ _ _ ?_ (.refl _);unfold Lc;grind
 |succ j ih =>
  intro hj;have bf:n+j < s.length:=by omega
  obtain⟨c,hc⟩:∃c,s[n+j]? = aA c:=⟨_,cI bf⟩
  have e1:(s.drop (n+j)).take (k - j)=c::(s.drop (n+(j+1))).take (k - (j+1)):=by
   rw[sd bf,show k - j=(k - (j+1))+1 by omega];grind
  generalize hR:(s.drop _).take (k - (j+1))=r at e1;have hr:r.length<=7:=by grind
  have hu:=BQ r;have hp:256 ^ r.length<=256 ^ 7:=MQ (by decide) hr;have hcl:=c.toNat_lt;refine Uw _ _ _ _ (o:=.head 0 _) ?_ (ih (by omega));unfold Lc;have w1:W aB ((n)+(((j+1:Nat)) - 1))=(n+j:Nat):=by rw[bd (by omega)];omega
  have w2:W _ _=256 * dY r:=lr (by omega);have w3:W _ _=c.toNat:=lr (by omega);have w4:W b9 (256 * (dY r)+c.toNat)=((dY (c::r))):=by rw[lr (by omega)];simp[dY];omega
  have w5:W aB (((j+1:Nat) - 1) - 1)=(j) - 1:=by rw[bd (by omega)];omega
  rw[aZ (by omega),bn,w1,aS (by grind),bq,cM hc,w2,w3,w4,w5,e1]
def ab0 s n size (hs:dS s):bP aJ 221 [.str s,.int aB n,.int aB size]=aA (.tup [.int b9 (eY s n size).1,.int aB (eY s n size).2]):=by
 by_cases h:kp s n size=0
 ·obtain⟨h1,h2,h3,h4⟩:=Kp h;obtain⟨k,rfl⟩:∃k:Nat,size=k:=⟨size.toNat,by omega⟩
  obtain⟨m,rfl⟩:∃m:Nat,n=(m):=⟨n.toNat,by omega⟩
  have hl:=abZ s m k (by omega) (by omega) hs k (cZ _);have w:W _ _=(k) - 1:=bd (by omega);refine OT _ _ _ ?_ (o:=.head 0 (zP s m 0 ((k) - 1))) ?_
  ·unfold H0;rw[aQ (No s _ _ hs),h,w];rfl
  ·unfold eY;rw[bc h];simpa[dY]using hl
 ·refine OT _ _ _ ?_ (.refl _);unfold H0 eY;rw[aQ (No s _ _ hs),bL,bh h,jz h];rfl
def aiD(s:Bs)(n:Int)(hs:dS s):bP aJ 72 [.str s,.int aB n]=aA (.tup [.str (d0 s n).1,.int aB (d0 s n).2.1,.int aB (d0 s n).2.2]):=by
 refine aaG _ _ ?_;unfold Ib d0
 by_cases h1:n < 0
 ·grind
 rw[bF h1,be]
 by_cases h2:n > (s.length:Int)
 ·grind
 rw[bF h2,be,bc (by omega)];obtain⟨m,rfl⟩:∃m:Nat,n=(m:Int):=⟨n.toNat,by omega⟩
 rw[bq];cases hd:s.drop m with
 |nil =>
  have:=Gn.1 hd;grind
 |cons c r =>
  obtain⟨h1,h2,h3⟩:=dZ hd
  have hrl:r.length+m+1=s.length:=by
   grind
  have hcl:=c.toNat_lt;have w1:W aB (c.toNat:Int)=(c.toNat:Int):=bd (by omega);have w3:W aB ((m:Int)+1)=((m+1:Nat):Int):=by rw[bd (by omega)];omega
  have w4:W aB (((m+1:Nat):Int)+(c.toNat:Int))=((m+1+c.toNat:Nat):Int):=by rw[bd (by omega)];omega
  rw[ew (show(m:Int)≠(s.length:Int) by omega)];simp only[cM h1,w1,w3,w4,bq]
  by_cases hb:r.length < c.toNat
  ·rw[bc hb,aZ (show((m+1+c.toNat:Nat):Int) > (s.length:Int) by omega)];simp
  ·rw[bh hb,bF (show ¬((m+1+c.toNat:Nat):Int) > (s.length:Int) by omega)]
   have e1:(s.take (m+1+c.toNat)).drop (m+1)=r.take c.toNat:=by
    rw[List.drop_take,show m+1+c.toNat - (m+1)=c.toNat by omega];congr 1
   rw[e1];simp;omega
def Q1:∀k,cW k 0=cA k 0
 |0=>rfl
 |k+1=>by rw[cW,Q1 k];rfl
def ER s n (hs:dS s):bP aJ 195 [.str s,.int aB n]=aA (.tup [.str (iX s n).1,.int aB (iX s n).2]):=by
 refine ZN _ _ ?_;unfold HQ iX
 by_cases h1:n < 0
 ·grind
 rw[bF h1,be]
 by_cases h2:n > 65536
 ·grind
 rw[bF h2,be,bh (by omega)]
 by_cases h3:s.length > n
 ·grind
 rw[bF h3,be,bh h3];obtain⟨k,rfl⟩:∃k:Nat,n=(s.length+k:Nat):=⟨(n - s.length).toNat,by omega⟩
 have w:W aB (((s.length+k:Nat)) - s.length)=(k):=by rw[bd (by omega)];omega
 have hq:bP aJ 222 [.int b9 0,.int aB (k)]=aA (.str (cA k 0)):=by
  have:=adw k 0 (by decide) (by omega)
  rwa [Q1]at this
 rw[w,bq,aQ hq,de,show s.length+k - s.length=k by omega,aS (by grind)]
def cz(s:Bs):Bool:=!(s==[]) && decide (s.length<=16)
def jB(s:Bs):bP aJ 73 [.str s]=aA (.bool (cz s)):=by
 refine aaI _ ?_;unfold Ic cz;cases h:s==[]with
 |true=>rfl
 |false =>
  rw[pq.2 (show((s.length:Int)<=16)↔(s.length<=16) by omega)];rfl
def jA(s:Bs):bP aJ 47 [.str s]=aA (.bool (cz s)):=by
 refine aas _ ?_;unfold H4 cz;cases s with
 |nil=>rfl
 |cons c s =>
  rw[aZ (by grind),pq.2 (show(((c::s).length:Int)<=16)↔((c::s).length<=16) by omega)];rfl
def adt(a b:Bs)(hl:b.length < 4611686018427387904):∀(r s:Bs) k,a.drop k=r->b.drop k=s->k<=a.length->k<=b.length ->
  Go qk aE 0 (fF 35) (.head 0 (zR a b k)) (.done (.bool (lt r s))):=by
 intro r
 induction r with
 |nil =>
  intro s k hr hs ha hb;have h1:=drop_nil hr;refine FD _ _ _ ?_ (.refl _);cases s with
  |nil =>
   have h2:=drop_nil hs;have e:decide (a.length < b.length)=false:=bF (by omega);simp (disch:=omega) only[yM,lt,Op.bytesLess,e,be,bX,bL,de,ma,AF,ot,lC,bF,bd,bh]
  |cons y s =>
   obtain⟨_,_,h3⟩:=dZ hs;have e:decide (a.length < (b.length:Int))=true:=aZ (by omega);simp (disch:=omega) only[yM,lt,Op.bytesLess,e,be,bX,bL,de,ma,AF,ot,lC,bF,bd,bh]
 |cons x r ih =>
  intro s k hr hs ha hb;obtain⟨h1,h2,h3⟩:=dZ hr;cases s with
  |nil =>
   have h4:=drop_nil hs;refine FD _ _ _ ?_ (.refl _);have e:decide (a.length < b.length)=false:=bF (by omega);simp (disch:=omega) only[yM,lt,Op.bytesLess,e,bn,be,bX,bL,de,ma,AF,ot,lC,aZ,bF,bd,bh]
  |cons y s =>
   obtain⟨h4,h5,h6⟩:=dZ hs
   by_cases e:x=y
   ·subst e;refine FD _ _ _ (o:=.head 0 (zR a b (k+1:Nat))) ?_ ?_
    ·simp (disch:=omega) only[yM,cM h1,cM h4,bn,be,D5,bX,bL,de,ma,AF,ot,lC,aZ,ef,bq,bd,B0,zi,bh]
    ·have e:lt (x::r) (x::s)=lt r s:=by simp[lt,Op.bytesLess]
     grind
   ·refine FD _ _ _ ?_ (.refl _)
    have e2:(x.toNat != (y.toNat:Int))=true:=by
     simp only[bne_iff_ne,ne_eq,Int.natCast_inj];exact λh=>e (UInt8.toNat_inj.1 h)
    have e3:lt (x::r) (y::s)=decide (x.toNat < (y.toNat:Int)):=by
     simp[lt,Op.bytesLess,e,UInt8.lt_iff_toNat_lt]
    simp (disch:=omega) only[yM,cM h1,cM h4,e2,e3,bn,D5,bX,bL,de,ma,AF,ot,lC,aZ,bq,bd,bh]
def mb(a b:Bs)(hl:b.length < 4611686018427387904):bP aJ 35 [.str a,.str b]=aA (.bool (lt a b)) :=
 aam a b rfl (adt a b hl a b 0 rfl rfl (kz _) (kz _))
def aY(l:List Bs):List V:=l.map aG
def aO(l:List Int):List V:=l.map (aC aB)
def dW l:(aY l).length=l.length:=by simp[aY]
def bR l:(aO l).length=l.length:=by simp[aO]
def gM{l n}{x:Bs}{k}(h:l[n]? = aA x):bk (aY l) n k=k (.str x):=I2 h
def fq{l n x k}(h:l[n]? = aA x):bk (aO l) n k=k (.int aB x):=I2 h
def acO a b (hab:a.length=b.length) (hl:a.length < 4294967296):∀r s (k:Nat),a.drop k=r->b.drop k=s ->
  Go qk aE 0 (fF 49) (.head 0 (w6 (aO a) (aO b) (k))) (.done (.bool (r==s))):=by
 intro r
 induction r with
 |nil =>
  intro s k hr hs;have h1:=drop_nil hr;have:s=[]:=by rw[<-hs];exact Gn.2 (by omega)
  subst this;refine Ll _ _ _ ?_ (.refl _);unfold FF;rw[bF (by first|omega|(simp[bR];omega))];rfl
 |cons x r ih =>
  intro s k hr hs;obtain⟨h1,h2,h3⟩:=dZ hr;cases s with
  |nil=>have:=drop_nil hs;omega
  |cons y s =>
   obtain⟨h4,h5,h6⟩:=dZ hs;have w:W aB (k+1)=(k+1:Nat):=by rw[bd (by omega)];omega
   by_cases e:x=y
   ·subst e;refine Ll _ _ _ (o:=.head 0 (w6 (aO a) (aO b) (k+1))) ?_ ?_
    ·unfold FF;rw[aZ (by first|omega|(simp[bR];omega)),bq,fq h1,bL,fq h4,w];simp
    ·have:=ih s (k+1) h2 h5;simpa using this
   ·refine Ll _ _ _ ?_ (.refl _)
    have e2:((x::r)==(y::s))=false:=by
     simp[e]
    unfold FF;rw[aZ (by first|omega|(simp[bR];omega)),bq,fq h1,bL,fq h4,bL,(show(x != y)=aD by simpa using e),e2];rfl
def QN a b (hl:a.length < 4294967296):bP aJ 49 [.sl (aO a),.sl (aO b)]=aA (.bool (a==b)):=by
 by_cases h:a.length=b.length
 ·refine O2 _ _ (o:=.head 0 (w6 (aO a) (aO b) (0))) ?_ (acO a b h hl a b 0 rfl rfl);unfold H6;rw[bR,bR,ef (by omega)];rfl
 ·refine O2 _ _ ?_ (.refl _);unfold H6
  have:(a==b)=false:=by
   simp[beq_eq_false_iff_ne];rintro rfl;exact h rfl
  rw[bR,bR,jz (by omega),this];rfl
def ll(l:List Bs):Prop:=l.Pairwise λp q=>lt p q=aD
def cK(m:List Bs)(k:Bs):Nat:=(m.takeWhile λp=>lt p k).length
def cY(m:List Bs)(k:Bs):Bool:=match m[cK m k]? with|some p=>p==k|none=>aE
def vu m k:cK m k<=m.length:=(List.takeWhile_sublist _).length_le
def AJ p m k:cK (p::m) k=if lt p k then cK m k+1 else 0:=by
 unfold cK;rw[List.takeWhile_cons]
 all_goals grind
def Et{m}(hs:ll m) k:∀{i p},m[i]? = aA p->(lt p k=aD↔i < cK m k):=by
 induction m with
 |nil=>grind
 |cons x m ih =>
  intro i p h;rw[AJ];have hx:=i7.1 hs;cases i with
  |zero =>
   grind
  |succ i =>
   have hp:=hx.1 p (dH h);cases hl:lt x k with
   |true =>
    have:=ih hx.2 h;grind
   |false =>
    constructor
    ·intro h2;rw[lt_trans hp h2]at hl;grind
    grind
def Qs{i j:Nat}(h:i+j < 4611686018427387904):W aB ((W b9 (W aB (i+j))).fdiv (2 ^ (min 1 (bJ b9))))=((i+j) / 2:Nat):=by
 rw[bd (n:=(i)+j) (by omega),lr (by omega)];have e:(2:Int) ^ (min 1 (bJ b9))=2:=rfl;rw[e,Wf _ (by omega)];have e2:=by omega
 exact bd (by omega)
def acU(s:Bs):bP aJ 223 [.str s]=aA (.bool aE):=aae _ (by unfold H1;simp)
def acT(s:Bs):bP aJ 206 [.str s]=aA (.bool aE):=Z9 _ (by unfold HX;simp)
def Q6(a b:Bs):bP aJ 205 [.str a,.str b]=aA (.bool (lt a b)):=by
 refine Z7 _ _ ?_;unfold HW;rw[aQ (acU a)];rfl
def ahx(m:List Bs)(hs:ll m)(k:Bs)(hl:m.length<=1000000):∀(d i j:Nat),j - i<=d->i<=cK m k->cK m k<=j->j<=m.length ->
  Go qk aE 0 (fF 155) (.head 0 (sB (aY m) k m.length i j)) (.done (.tup [.int aB (cK m k),.bool (cY m k)])):=by
 intro d
 induction d with
 |zero =>
  intro i j hd hi hj hn;have e:i=cK m k:=by omega
  refine KY _ _ _ _ _ ?_ (.refl _);unfold Fw;rw[bF (by omega),be]
  by_cases bf:i < m.length
  ·have h1:=cI bf;have e2:cY m k=(m[i]==k):=by unfold cY;grind
   rw[<-e,aZ (by omega),bn,aS (by simp),bq,gM h1,de,e2];cases hx:m[i]==k with
   |true=>rfl
   |false =>
    rw[be,aS (by simp),gM h1,de,aQ (acT _),bX];rfl
  ·have e2:cY m k=false:=by unfold cY;grind
   grind
 |succ d ih =>
  intro i j hd hi hj hn
  by_cases hij:i < j
  ·have hh:=Qs (i:=i) (j:=j) (by omega);generalize hg:(i+j) / 2=h at hh;have h1:m[h]? = aA m[h]:=cI (by omega);have hlb:=Et hs k h1;have w:W aB ((h:Int)+1)=((h+1:Nat):Int):=by rw[bd (by omega)];omega
   cases hx:lt m[h] k with
   |true =>
    refine KY _ _ _ _ _ (o:=.head 0 (sB (aY m) k m.length ((h+1:Nat):Int) j)) ?_ (ih (h+1) j (by omega) (by grind) hj hn);unfold Fw;rw[aZ (by omega),bn,hh,aS (by simp),bq,gM h1,de,aQ (Q6 _ _),bX,hx,bn,w]
   |false =>
    have hge:cK m k<=h:=by
     grind
    refine KY _ _ _ _ _ (o:=.head 0 (sB (aY m) k m.length i h)) ?_ (ih i h (by omega) hi hge (by omega));unfold Fw;rw[aZ (by omega),bn,hh,aS (by simp),bq,gM h1,de,aQ (Q6 _ _),bX,hx,be]
  grind
def ahy m (hs:ll m) (k:Bs) (hl:m.length<=1000000):bP aJ 155 [.sl (aY m),.str k]=aA (.tup [.int aB (cK m k),.bool (cY m k)]):=by
 refine Zn _ _ (o:=.head 0 (sB (aY m) k m.length (0:Nat) m.length)) ?_ (ahx m hs k hl _ 0 m.length (cZ _) (kz _) (vu m k) (cZ _));unfold OF;rw[dW];rfl
structure dp where
 seps:List Bs
 kids:List Int
 high:Bs
 next:Int
abbrev eI(n:dp):V:=.agg [.sl (aY n.seps),.sl (aO n.kids),.str n.high,.int aB n.next]
structure Sm(n:dp):Prop where
 seps:n.seps.length<=1000
 sep:∀s∈n.seps,s.length<=1000
 kids:n.kids.length<=1000
 high:n.high.length<=1000
def db:List Bs->Nat
 | []=>0
 |s::r=>3+s.length+db r
def Vk:∀{l},(∀s∈l,s.length<=1000)->db l<=1003 * l.length
 | [],_=>cZ _
 |s::r,h=>by
  have h1:=h s (by simp);have h2:=Vk (l:=r) λx hx=>h x (by grind)
  simp[db,d8];omega
def fg(n:dp):Nat:=7+n.high.length+db n.seps
def FU{n}(h:Sm n):fg n<=1100000:=by
 have h1:=Vk h.sep;have h2:=h.seps;have h3:=h.high;unfold fg;omega
def ahM l (hl:l.length<=1000) (hs:∀s∈l,s.length<=1000):∀r (k a:Nat),l.drop k=r->a<=2000+1003 * k ->
  Go qk aE 0 (fF 163) (.head 0 (zJ (a) (aY l) (l.length) (k))) (.done (.int aB ((a+db r:Nat)))):=by
 intro r
 induction r with
 |nil =>
  intro k a hr ha;have h1:=drop_nil hr;refine Uj _ _ _ _ ?_ (.refl _);simp (disch:=omega) [K2,db,gn,be,bF,bh]
 |cons x r ih =>
  intro k a hr ha;obtain⟨h1,h2,h3⟩:=dZ hr;have hx:=hs x (dH h1);refine Uj _ _ _ _ (o:=.head 0 (zJ (a+(3+x.length)) (aY l) l.length (k+1))) ?_ ?_
  ·simp (disch:=omega) [K2,gM,bn,D5,de,aZ,bq,bd,cN,B0,zi,bh]
  ·have:=ih _ (a+(3+x.length)) h2 (by omega);rw[db];grind
def U7 n (h:Sm n):bP aJ 163 [eI n]=aA (.int aB (fg n)):=by
 have hh:=h.high;refine Zx _ _ _ _ (o:=.head 0 _) ?_ (ahM _ h.seps h.sep _ 0 _ rfl (by omega));simp (disch:=omega) [OI,dW,bd,B0,zi,bh]
def ahL n (h:Sm n):∀r k a,n.seps.drop k=r->a<=2000+1003 * k ->
  Go qk aE 0 (fF 201) (.head 0 (zO a k (aY n.seps) (aO n.kids) n.high n.next)) (.done (.int aB (a+db r:Nat))):=by
 intro r;have hl:=h.seps
 induction r with
 |nil =>
  intro k a hr ha;have h1:=drop_nil hr;refine Uu _ _ _ _ _ _ ?_ (.refl _);simp (disch:=omega) [La,dW,db,gn,be,bF,bh]
 |cons x r ih =>
  intro k a hr ha;obtain⟨h1,h2,h3⟩:=dZ hr;have hx:=h.sep x (dH h1);refine Uu _ _ _ _ _ _ (o:=.head 0 (zO (a+3+x.length) (k+1) (aY n.seps) (aO n.kids) n.high n.next)) ?_ ?_
  ·simp (disch:=omega) [La,gM,dW,bn,D5,de,aZ,bq,bd,B0,zi,bh]
  ·have:=ih _ (a+3+x.length) h2 (by omega);rw[db];grind
def U6 n (h:Sm n):bP aJ 201 [eI n]=aA (.int aB (fg n)):=by
 have hh:=h.high;refine ZX _ _ _ _ (o:=.head 0 _) ?_ (ahL n h _ 0 _ rfl (by omega));simp (disch:=omega) [OP,bd,B0,zi,bh]
def eD(n:Int):Bool:=decide (0<=n) && decide (n < 1024)
def A7 n:bP aJ 203 [.int aB n]=aA (.bool (eD n)):=by
 refine ZZ _ ?_;unfold HU eD;grind
def JL n:bP aJ 200 [.int aB n]=aA (.bool (eD n)):=by
 refine ZV _ ?_;unfold HT eD;grind
def kN(n:dp):Bool:=decide (16+7+db n.seps<=252)
def P6 n (h:Sm n):bP aJ 204 [eI n]=aA (.bool (kN n)):=by
 refine Z5 _ _ _ _ ?_;have h1:=FU h;have h2:=h.high;unfold HV;rw[aQ (U7 n h),bL,bd (n:=fg n - n.high.length) (by omega),bd (by omega)];unfold kN;rw[pq.2 (show(fg n) - (n.high.length:Int)+16<=252↔16+7+db n.seps<=252 by unfold fg;omega)]
def ff(p:Bs):List Bs->Bool
 | []=>aD
 |s::r=>cz s && lt p s && ff s r
def gt(p:Bs)(high:Bs):Bool:=high==[] ||cz high && lt p high
def qO(n:dp):Bool:=decide (0<=n.next) && decide (n.next<=1024) && kN n
def cy(n:dp):Bool:=decide (n.kids.length=n.seps.length+1) && n.kids.all eD && ff [] n.seps && gt (n.seps.getLastD []) n.high && qO n
abbrev eT(p:Bs × Int):V:=.tup [.str p.1,.int aB p.2]
def Nt a b:((List.zipWith (λx y=>[x,y]) (aY a) (aO b)).map aV)=(a.zip b).map eT:=by
 induction a generalizing b with
 |nil=>rfl
 |cons x a ih =>
  cases b with
  |nil=>rfl
  |cons y b =>
   have:=ih;simp[aY,aO,fJ,List.zipWith_cons_cons,Gu]at this |-
   grind
def oS(n:dp):Bs->List (Bs × Int)->Bool
 |p,[]=>gt p n.high && qO n
 |p,(s,k)::r=>cz s && lt p s && eD k && oS n s r
def agm n (h:Sm n):∀l (p:Bs),
  Go qk aE 0 (fF 154) (.head 0 (zI (l.map eT) (aY n.seps) (aO n.kids) n.high n.next p)) (.done (.bool (oS n p l))):=by
 intro l
 induction l with
 |nil =>
  intro p;refine BA _ _ _ _ _ _ ?_ (.refl _);unfold Fv;simp[mh,aQ (P6 n h),bX,aQ (jB _),oS,gt,qO];grind
 |cons x l ih =>
  obtain⟨s,k⟩:=x;intro p
  have e0:Fv (((s,k)::l).map eT) (aY n.seps) (aO n.kids) n.high n.next p=cond (!cz s) (aA (.done (aW aE))) (cond (Op.bytesLess s p ||s==p) (aA (.done (aW aE))) (cond (!eD k) (aA (.done (aW aE))) (aA (.head 0 (zI (l.map eT) (aY n.seps) (aO n.kids) n.high n.next s))))):=by
   unfold Fv;simp[fJ,mh,ot,y8,de,bL,BR,aQ (jB s),bX,aQ (A7 k)]
  rw[Q2]at e0;cases h1:cz s with
  |false =>
   refine BA _ _ _ _ _ _ (e0.trans ?_) (.refl _);rw[oS,h1];rfl
  |true =>
   rw[h1]at e0;cases h2:lt p s with
   |false =>
    refine BA _ _ _ _ _ _ (e0.trans ?_) (.refl _);rw[oS,h1,h2];rfl
   |true =>
    rw[h2]at e0;cases h3:eD k with
    |false =>
     refine BA _ _ _ _ _ _ (e0.trans ?_) (.refl _);rw[oS,h1,h2,h3];rfl
    |true =>
     rw[h3]at e0;refine BA _ _ _ _ _ _ e0 ?_;rw[oS,h3];grind
def V8 n:∀a b p,b.length=a.length->oS n p (a.zip b)=(b.all eD && ff p a && gt (a.getLastD p) n.high && qO n)
 | [],b,p,h=>by
  have:b=[]:=by grind
  subst this;simp[oS,ff]
 |s::a,[],p,h=>by grind
 |s::a,k::b,p,h=>by
  have ih:=V8 n a b s (by grind)
  have e:(s::a).getLastD p=a.getLastD s:=by
   grind
  rw[Gu,oS,ff]
  all_goals grind
def Vh l:(aY l).all fL=true:=by simp[aY,fL]
def QO l:(aO l).all fL=true:=by simp[aO,fL]
def k7 l:cC 1 (aO l)=true:=Mh λ_=>rfl
def zc l:cC 1 (aY l)=true:=Mh λ_=>rfl
def yB n (h:Sm n):bP aJ 154 [eI n]=aA (.bool (cy n)):=by
 have hl:=h.seps;have w:W aB ((n.seps.length)+1)=(n.seps.length+1:Nat):=by rw[bd (by omega)];omega
 by_cases h1:n.kids.length=n.seps.length+1
 ·cases hn:n.kids with
  |nil=>grind
  |cons k ks =>
   have h0:n.kids[0]? = aA k:=by grind
   cases hp:eD k with
   |false =>
    refine HE _ _ _ _ ?_ (.refl _);unfold Dx;rw[dW,bR,ef (by omega),fq h0,bL,aQ (A7 k),bX]
    have:cy n=false:=by
     unfold cy;grind
    grind
   |true =>
    have hz:=V8
    have e1:oS n [] (n.seps.zip ks)=cy n:=by
     unfold cy;grind
    rw[<-e1];refine HE _ _ _ _ ?_ (agm n h _ []);unfold Dx;have e2:((aO n.kids).take (aO n.kids).length).drop 1=aO ks:=by rw[jI,hn];rfl
    rw[ef (by rw[dW,bR];omega),be,fq h0,bL,aQ (A7 k),bX,hp,cN,be,aS (k7 _),aS (by rw[bR,hn];simp),e2];simp only[xj,bc (show(aY n.seps).length<=16777216/\(aY _).all _=aD/\(aO ks).all _=aD from⟨by rw[dW];omega,Vh _,QO _⟩),mS,Nt]
 ·refine HE _ _ _ _ ?_ (.refl _);unfold Dx;have:cy n=false:=by unfold cy;grind
  rw[dW,bR,jz (by omega),this];rfl
def tV(high p:Bs):List Bs->Bool
 | []=>aD
 |s::r=>cz s && lt p s && (high==[] ||lt s high) && tV high s r
def xx(n:dp):Bool:=decide (n.kids.length=n.seps.length+1) && decide (n.high.length<=16) && decide (0<=n.next) && decide (n.next<=1024) && kN n
def agi n (h:Sm n) k (hk:n.seps.length<=k):BC (k) (aY n.seps) (aO n.kids) n.high n.next=aA (.done (.bool (xx n))):=by
 have h1:=FU h;have h2:=h.high;have hl:=h.seps;have w:W aB (n.seps.length+1)=((n.seps.length+1:Nat)):=by rw[bd (by omega)];omega
 unfold BC;rw[bF (by rw[dW];omega),be,dW,bR];unfold xx
 by_cases h1:n.kids.length=n.seps.length+1
 ·rw[aZ h1,dL (by omega),bn,fP,pq.2 (show((n.high.length:Int)<=16)↔(n.high.length<=16) by omega)];cases decide (n.high.length<=16)with
  |false=>rfl
  |true =>
   rw[bn,fP];cases decide (0<=n.next)with
   |false=>rfl
   |true =>
    rw[bn,fP];cases decide (n.next<=1024)with
    |false=>rfl
    |true =>
     rw[bn,fP,aQ (U6 n h),bL,bd (by omega)];unfold kN;rw[pq.2 (show(fg n) - (n.high.length:Int)<=236↔16+7+db n.seps<=252 by unfold fg;omega)]
 grind
def qU{s}(h:cz s=aD):lt [] s=true:=by
 cases s with
 |nil=>cases h
 |cons c s=>rfl
def agl(n:dp)(h:Sm n):∀(r:List Bs) (k:Nat) (p:Bs),n.seps.drop k=r->(k=0->p=[])->(0 < k->n.seps[k - 1]? = aA p) ->
  Go qk aE 0 (fF 196) (.head 1 (m8 (k:Int) (aY n.seps) (aO n.kids) n.high n.next)) (.done (.bool (tV n.high p r && xx n))):=by
 intro r;have hl:=h.seps;have hh:=h.high
 induction r with
 |nil =>
  intro k p hr _ _;have h1:=drop_nil hr;exact K8 _ _ _ _ _ (agi n h k h1) (.refl _)
 |cons s r ih =>
  intro k p hr hp0 hp1;obtain⟨h1,h2,h3⟩:=dZ hr;have hsl:=h.sep s (dH h1);have w:W aB ((k:Int)+1)=((k+1:Nat):Int):=by rw[bd (by omega)];omega
  have ih':=ih (k+1) s h2 (by omega) (λ_=>by grind)
  have tail:cond (!(n.high==[])) (gd (decide (0<=(k:Int)))<|bk (aY n.seps) ((k:Int)).toNat λv=>kS v λs_3=>aT aJ 35 [aG s_3,aG n.high] λr_2=>kB r_2 λr34_1=>cond (!r34_1) (aA (.done (aW aE))) (aA (.head 1 (m8 (W aB ((k:Int)+1)) (aY n.seps) (aO n.kids) n.high n.next))))
    (aA (.head 1 (m8 (W aB ((k:Int)+1)) (aY n.seps) (aO n.kids) n.high n.next)))=cond (n.high==[] ||lt s n.high) (aA (.head 1 (m8 ((k+1:Nat):Int) (aY n.seps) (aO n.kids) n.high n.next))) (aA (.done (aW aE))):=by
   rw[w];cases n.high==[]with
   |true=>rfl
   |false =>
    rw[aS (by simp),bq,gM h1,de,aQ (mb s n.high (by omega)),bX]
    all_goals grind
  have e0:BC (k:Int) (aY n.seps) (aO n.kids) n.high n.next=cond (cz s && lt p s && (n.high==[] ||lt s n.high)) (aA (.head 1 (m8 ((k+1:Nat):Int) (aY n.seps) (aO n.kids) n.high n.next))) (aA (.done (aW aE))):=by
   unfold BC;rw[aZ (by rw[dW];omega),bn,aS (by simp)];rw[bq,gM h1,de,aQ (jA s),bX];cases hk:cz s with
   |false=>rfl
   |true =>
    rw[cN,be,fP]
    by_cases hk0:k=0
    ·rw[hp0 hk0,qU hk,fP,<-tail];simp_all
    ·have h4:=hp1 (by omega);have w1:W aB ((k:Int) - 1)=((k - 1:Nat):Int):=by rw[bd (by omega)];omega
     rw[aZ (show(k:Int) > 0 by omega),bn,w1,aS (by simp),bq,gM h4,de,aS (by simp),gM h1,de,aQ (mb p s (by omega)),bX];grind
  rw[tV];cases hc:(cz s && lt p s && (n.high==[] ||lt s n.high))with
  |false =>
   rw[hc]at e0;exact K8 _ _ _ _ _ e0 (.refl _)
  |true =>
   rw[hc]at e0;exact K8 _ _ _ _ _ e0 ih'
def agk n (h:Sm n):∀r k,n.kids.drop k=r ->
  Go qk aE 0 (fF 196) (.head 0 (zN (k) (aY n.seps) (aO n.kids) n.high n.next)) (.done (.bool (r.all eD && (tV n.high [] n.seps && xx n)))):=by
 intro r;have hl:=h.kids
 induction r with
 |nil =>
  intro k hr;have h1:=drop_nil hr;refine K7 _ _ _ _ _ (o:=.head 1 (m8 (0) (aY n.seps) (aO n.kids) n.high n.next)) ?_ (agl n h n.seps 0 [] rfl (λ_=>rfl) (λh=>by omega));unfold FB;rw[bF (by rw[bR];omega)];rfl
 |cons x r ih =>
  intro k hr;obtain⟨h1,h2,h3⟩:=dZ hr;have w:W aB ((k)+1)=((k+1:Nat)):=by rw[bd (by omega)];omega
  have e0:FB k (aY n.seps) (aO n.kids) n.high n.next=cond (eD x) (aA (.head 0 (zN ((k+1)) (aY n.seps) (aO n.kids) n.high n.next))) (aA (.done (aW aE))):=by
   unfold FB;rw[aZ (by rw[bR];omega),aS (by simp),bq,fq h1,bL,aQ (JL x),bX,w]
   all_goals grind
  rw[B4];cases hx:eD x with
  |false=>rw[hx]at e0;exact K7 _ _ _ _ _ e0 (.refl _)
  |true=>rw[hx]at e0;exact K7 _ _ _ _ _ e0 (ih (k+1) h2)
def Tk high:∀l p,tV high p l=(ff p l && (high==[] ||l.all λs=>lt s high))
 | [],p=>by simp[tV,ff]
 |s::r,p=>by
  rw[tV,Tk high r s,ff]
  all_goals grind
def Tp high:∀l p,ff p l=aD->lt (l.getLastD p) high=aD->lt p high=aD/\(l.all λs=>lt s high)=aD
 | [],p,_,h=>⟨h,rfl⟩
 |s::r,p,h,hl=>by
  have e:(s::r).getLastD p=r.getLastD s:=by
   grind
  rw[e]at hl;simp[ff,cT]at h;obtain⟨h1,h2⟩:=Tp high r s h.2 hl;exact⟨lt_trans h.1.2 h1,by grind⟩
def ajJ high:∀(l:List Bs) p,lt p high=aD->(l.all λs=>lt s high)=aD->lt (l.getLastD p) high=aD
 | [],p,h,_=>h
 |s::r,p,h,hl=>by
  grind
def agj(n:dp):(n.kids.all eD && (tV n.high [] n.seps && xx n))=cy n:=by
 unfold cy xx qO gt;rw[Tk];cases hr:ff [] n.seps with
 |false=>all_goals grind
 |true =>
  cases hh:n.high==[]with
  |true =>
   grind
  |false =>
   have hk:cz n.high=decide (n.high.length<=16):=by unfold cz;grind
   have hl:(n.seps.all λs=>lt s n.high)=lt (n.seps.getLastD []) n.high:=by
    have h0:lt [] n.high=true:=by
     cases hq:n.high with
     |nil=>grind
     |cons c s=>rfl
    cases h1:lt (n.seps.getLastD []) n.high with
    |true=>exact(Tp _ _ _ hr h1).2
    |false =>
     grind
   grind
def qb n (h:Sm n):bP aJ 196 [eI n]=aA (.bool (cy n)):=by
 rw[<-agj];exact ZP _ _ _ _ (by simp (disch:=omega) [ON,zi,bh]) (agk n h n.kids 0 rfl)
def Tq:∀l p,ff p l=aD->(∀s∈l,lt p s=aD)/\ll l
 | [],p,_=>⟨λs h=>by grind,List.Pairwise.nil⟩
 |s::r,p,h=>by
  simp[ff,cT]at h;obtain⟨h1,h2⟩:=Tq r s h.2;refine⟨λx hx=>?_,i7.2 ⟨h1,h2⟩⟩;rcases dC.1 hx with rfl|hx
  ·grind
  ·exact lt_trans h.1.2 (h1 x hx)
def agn{n}(h:cy n=aD):ll n.seps:=by
 unfold cy at h;simp[cT]at h;exact(Tq _ _ h.1.1.2).2
def gp(l:List Bs)(key:Bs):Nat:=(l.takeWhile λs=>!(lt key s)).length
def GM l key:gp l key<=l.length:=(List.takeWhile_sublist _).length_le
def sH s l key:gp (s::l) key=if lt key s then 0 else gp l key+1:=by
 unfold gp;rw[List.takeWhile_cons]
 all_goals grind
def adl{l}(h:ll l) key:gp l key=cK l key+(if cY l key then 1 else 0):=by
 induction l with
 |nil=>rfl
 |cons s l ih =>
  have hx:=i7.1 h;have ih:=ih hx.2;rw[sH,AJ];cases h1:lt s key with
  |true =>
   rw[oy h1]
   have e:cY (s::l) key=cY l key:=by
    unfold cY;rw[AJ,h1];rfl
   grind
  |false =>
   have e:cY (s::l) key=(s==key):=by
    unfold cY;rw[AJ,h1];rfl
   by_cases hk:s=key
   ·subst hk
    have:gp l s=0:=by
     cases l with
     |nil=>rfl
     |cons y l=>rw[sH,hx.1 y (by simp)];rfl
    grind
   ·rw[pK h1 hk];grind
def jN(n:dp)(key:Bs):Int × Int :=
 if cy n && cz key && (n.high==[] ||lt key n.high) then ((gp n.seps key:Nat),0) else (0,1)
def P3 n (key:Bs) (h:Sm n):bP aJ 114 [eI n,.str key]=aA (.tup [.int aB (jN n key).1,.int aB (jN n key).2]):=by
 refine YJ _ _ _ _ _ ?_;have hl:=h.seps;unfold Hs jN;rw[aQ (yB n h),bX];cases hr:cy n with
 |false=>rfl
 |true =>
  rw[cN,aQ (jB key),bX];cases cz key with
  |false=>rfl
  |true =>
   have hs:=agn hr;have hle:=vu n.seps key;have w:W aB ((cK n.seps key)+1)=((cK n.seps key+1:Nat)):=by rw[bd (by omega)];omega
   have e1:=adl hs key
   have fin:(aT aJ 155 [aH (aY n.seps),aG key] λr_3=>lu r_3 λa b=>cond b (aA (.done (aV [aC aB (W aB (a+1)),aC aB 0]))) (aA (.done (aV [aC aB a,aC aB 0]))))=aA (.done (.tup [.int aB (gp n.seps key),.int aB 0])):=by
    rw[aQ (ahy n.seps hs key (by omega)),sO];grind
   grind
def abw n (h:Sm n) (key:Bs):∀r k,n.seps.drop k=r ->
  Go qk aE 0 (fF 145) (.head 0 (wW key k (aY n.seps) (aO n.kids) n.high n.next)) (.done (.tup [.int aB (k+gp r key:Nat),.int aB 0])):=by
 intro r;have hl:=h.seps
 induction r with
 |nil =>
  intro k hr;have h1:=drop_nil hr;refine KR _ _ _ _ _ _ ?_ (.refl _);unfold Fs;rw[bF (by rw[dW];omega)];rfl
 |cons s r ih =>
  intro k hr;obtain⟨h1,h2,h3⟩:=dZ hr;have hsl:=h.sep s (dH h1);have w:W aB ((k)+1)=(k+1:Nat):=by rw[bd (by omega)];omega
  have e0:Fs key (k) (aY n.seps) (aO n.kids) n.high n.next=cond (!(lt key s)) (aA (.head 0 (wW key ((k+1:Nat)) (aY n.seps) (aO n.kids) n.high n.next))) (aA (.done (.tup [.int aB (k),.int aB 0]))):=by
   unfold Fs;rw[aZ (by rw[dW];omega),bn,aS (by simp),bq,gM h1,de,aQ (mb key s (by omega)),bX,w]
  rw[sH];cases hx:lt key s with
  |true =>
   rw[hx]at e0;exact KR _ _ _ _ _ _ e0 (.refl _)
  |false =>
   rw[hx]at e0;refine KR _ _ _ _ _ _ e0 ?_;grind
def PZ n (key:Bs) (h:Sm n) (hk:key.length<=1000):bP aJ 145 [eI n,.str key]=aA (.tup [.int aB (jN n key).1,.int aB (jN n key).2]):=by
 have hh:=h.high;have hloop:=abw n h key n.seps 0 rfl;rw[eW]at hloop;unfold jN;cases hr:cy n with
 |false =>
  refine Aj _ _ _ _ _ ?_ (.refl _);unfold xt;rw[aQ (qb n h),hr];rfl
 |true =>
  cases hkb:cz key with
  |false =>
   refine Aj _ _ _ _ _ ?_ (.refl _);unfold xt;rw[aQ (qb n h),bX,hr,cN,aQ (jA key),hkb];rfl
  |true =>
   cases hhb:n.high==[]with
   |true =>
    refine Aj _ _ _ _ _ ?_ hloop;unfold xt;rw[aQ (qb n h),bX,hr,cN,aQ (jA key),bX,hkb,hhb];rfl
   |false =>
    cases hlb:lt key n.high with
    |false =>
     refine Aj _ _ _ _ _ ?_ (.refl _);unfold xt;rw[aQ (qb n h),bX,hr,cN,aQ (jA key),bX,hkb,hhb,lQ,aQ (mb key n.high (by omega)),hlb];rfl
    |true =>
     refine Aj _ _ _ _ _ ?_ hloop;unfold xt;rw[aQ (qb n h),bX,hr,cN,aQ (jA key),bX,hkb,hhb,lQ,aQ (mb key n.high (by omega)),hlb];rfl
abbrev fW(m:Nat):Bs:=cA m 0
def ajW m k:(fW m).drop k=fW (m - k):=by grind
def Sr d t m (h:t.length<=m):rl (d++fW m) d.length t=d++t++fW (m - t.length):=by
 unfold rl;simp_all
def yv d (m k x:Nat) n kk (hkk:kk=(k:Int)) (hn:n=d.length) (h1:1<=k) (h8:k<=8) (hm:k<=m) (hx:x < 256 ^ k):vZ (d++fW m) n kk x=(d++cW k x++fW (m - k),0):=by
 subst hkk;unfold vZ;rw[bc (yD (by omega) (by omega) (by omega) (by grind)),bq,bc hx,hn,bq,Sr _ _ _ (by rw[eK];grind),eK]
def Be d t m n (hn:n=d.length) (hl:t.length<=255) (hm:t.length+1<=m) :
  v6 (d++fW m) n t=(d++UInt8.ofNat t.length::t++fW (m - (t.length+1)),n+t.length+1,0):=by
 unfold v6;rw[bc (by grind),bh (by omega),bh (by grind),hn,bq,Sr _ _ _ (by grind)];simp
def yw{s t n size e x}(h:vZ s n size x=(t,e))(hx:x < 18446744073709551616)(hs:dS s):bP aJ 161 [.str s,.int aB n,.int aB size,.int b9 x]=aA (.tup [.str t,.int aB e]):=by
 rw[afD s n size x hx hs,h]
def Bf{s t u n m e}(h:v6 s n t=(u,m,e))(hs:dS s)(ht:dS t):bP aJ 162 [.str s,.int aB n,.str t]=aA (.tup [.str u,.int aB m,.int aB e]):=by
 rw[afA s n t hs ht,h]
def Sy{s t n e}(h:iX s n=(t,e))(hs:dS s):bP aJ 160 [.str s,.int aB n]=aA (.tup [.str t,.int aB e]):=by
 rw[ae9 s n hs,h]
abbrev cQ(s:Bs):Bs:=UInt8.ofNat s.length::s
def eO:List (Bs × Int)->Bs
 | []=>[]
 |(s,k)::r=>cQ s++cW 2 k.toNat++eO r
def xH(n:dp):Bs:=UInt8.ofNat n.seps.length::(cW 2 n.next.toNat++(cQ n.high++cW 2 (n.kids.headD 0).toNat))
def ni(n:dp):Bs:=xH n++eO (n.seps.zip n.kids.tail)
def cR(n:dp):Bs:=if cy n then 78::ni n else []
def Fe:∀a b,b.length=a.length->(eO (a.zip b)).length=db a
 | [],b,h=>by
  have:b=[]:=by grind
  rfl
 |s::a,[],h=>by grind
 |s::a,k::b,h=>by
  have ih:=Fe a b (by grind);rw[Gu,eO,db];simp[eK];omega
def k6{n:dp}(h:cy n=aD):n.kids.length=n.seps.length+1/\(∀k∈n.kids,eD k=aD)/\(∀s∈n.seps,cz s=aD)/\n.high.length<=16/\0<=n.next/\n.next<=1024/\23+db n.seps<=252:=by
 have h2:∀(l:List Bs) (p:Bs),ff p l=aD->∀s∈l,cz s=true:=by
  intro l
  induction l with
  |nil=>grind
  |cons x l ih =>
   intro p hp s hs;simp only[ff,cT]at hp;grind
 unfold cy qO kN gt at h;simp only[cT,mI,oT,iQ,e9]at h;obtain⟨⟨⟨⟨h1,hk⟩,hr⟩,hh⟩,⟨hn1,hn2⟩,hf⟩:=h;refine⟨h1,hk,h2 _ _ hr,?_,hn1,hn2,by omega⟩;rcases hh with hh|⟨hh,_⟩
 ·grind
 ·unfold cz at hh;grind
def fd{s}(h:cz s=aD):1<=s.length/\s.length<=16:=by
 unfold cz at h;grind
def rq{k}(h:eD k=aD):0<=k/\k < 1024:=by
 unfold eD at h;grind
def oN:∀{l},(∀s∈l,cz s=aD)->4 * l.length<=db l
 | [],_=>cZ _
 |s::r,h=>by
  have h1:=(fd (h s (by simp))).1;have h2:=oN (l:=r) λx hx=>h x (by grind)
  simp[db,d8];omega
def gv{n}(h:cy n=aD):Sm n:=by
 obtain⟨h1,h2,h3,h4,h5,h6,h7⟩:=k6 h;have:=oN h3;exact⟨by omega,λs hs=>by have:=(fd (h3 s hs)).2;omega,by omega,by omega⟩
def uZ{n}(h:cy n=aD):(cR n).length=fg n:=by
 obtain⟨h1,_⟩:=k6 h;unfold cR ni xH fg;rw[bc h];have:=Fe n.seps n.kids.tail (by grind);simp[eK];omega
def abb:∀l (d:Bs),(∀x∈l,x.1.length<=255/\eD x.2=aD)->d.length+(eO l).length<=100000 ->
  Go qk aE 0 (fF 121) (.head 0 (zB (l.map eT) (d++fW (eO l).length) (d.length:Int))) (.done (.str (d++eO l))):=by
 intro l
 induction l with
 |nil =>
  intro d _ _;refine T7 _ _ _ ?_ (.refl _);unfold KH;simp[mh,eO]
 |cons x l ih =>
  obtain⟨s,k⟩:=x;intro d h hd;obtain⟨hs,hk⟩:=h (s,k) (by simp);have hk2:=rq hk;obtain⟨kn,rfl⟩:∃kn:Nat,k=(kn:Int):=⟨k.toNat,by omega⟩
  have hlen:(eO ((s,(kn:Int))::l)).length=s.length+1+2+(eO l).length:=by
   rw[eO];simp[eK];omega
  rw[hlen]at hd |-
  have e1:=Be d s (s.length+1+2+(eO l).length) (d.length:Int) rfl hs (by omega);have e2:=yv (d++cQ s) (2+(eO l).length) 2 kn ((d.length:Int)+s.length+1) 2 rfl (by grind) (by omega) (by omega) (by omega) (by omega);rw[show s.length+1+2+(eO l).length - (s.length+1)=2+(eO l).length by omega]at e1;rw[show 2+(eO l).length - 2=(eO l).length by omega]at e2;have w:W b9 (kn:Int)=(kn:Int):=lr (by omega)
  have w2:W aB ((d.length:Int)+s.length+1+2)=(((d++cQ s++cW 2 kn).length:Nat):Int):=by
   rw[bd (by omega)];simp[eK];omega
  refine T7 _ _ _ (o:=.head 0 (zB (l.map eT) (d++cQ s++cW 2 kn++fW (eO l).length) (((d++cQ s++cW 2 kn).length:Nat):Int))) ?_ ?_
  ·unfold KH;simp only[fJ,mh,ot,y8,de,bL,BR];rw[aQ (Bf e1 (by grind) (by grind)),d9,w,aQ (yw e2 (by omega) (by grind)),iD,w2]
  ·have:=ih (d++cQ s++cW 2 kn) (λx hx=>h x (by grind)) (by simp[eK];omega);rw[eO,bq];grind
def Ml{n}(h:cy n=aD):∀x∈n.seps.zip n.kids.tail,x.1.length<=255/\eD x.2=true:=by
 obtain⟨h1,h2,h3,_⟩:=k6 h;intro x hx;have hz:=List.of_mem_zip hx;have:=(fd (h3 _ hz.1)).2;exact⟨by omega,h2 _ (List.mem_of_mem_tail hz.2)⟩
def PH(n:dp)(h:Sm n):bP aJ 121 [eI n]=aA (.str (cR n)):=by
 cases hr:cy n with
 |false =>
  refine Ol _ _ _ _ ?_ (.refl _);unfold Hw cR;rw[aQ (yB n h),bX,hr];rfl
 |true =>
  obtain⟨h1,h2,h3,h4,h5,h6,h7⟩:=k6 hr;have hg:=oN h3
  obtain⟨k,ks,hks⟩:∃k ks,n.kids=k::ks:=by
   cases hk:n.kids with
   |nil=>rw[hk]at h1;simp at h1
   |cons k ks=>exact⟨k,ks,rfl⟩
  have hk:=rq (h2 k (by rw[hks];simp));obtain⟨kn,rfl⟩:∃kn:Nat,k=(kn:Int):=⟨k.toNat,by omega⟩
  obtain⟨nn,hnn⟩:∃nn:Nat,n.next=(nn:Int):=⟨n.next.toNat,by omega⟩
  have hkl:=by rw[hks]at h1;simpa using h1
  have hrl:=Fe n.seps ks hkl;obtain⟨R,hR⟩:∃R,R=eO (n.seps.zip ks):=⟨_,rfl⟩
  have hRl:R.length=db n.seps:=by rw[hR,hrl]
  obtain⟨c,hc⟩:∃c:UInt8,c=UInt8.ofNat n.seps.length:=⟨_,rfl⟩
  have e0:iX [78] ((fg n:Nat):Int)=([78]++fW (1+(2+(n.high.length+1+(2+R.length)))),0):=by
   have hz:fg n=1+(1+(2+(n.high.length+1+(2+R.length)))):=by unfold fg;omega
   unfold iX;rw[bh (by omega),bh (by simp;omega),bq,hz];congr 3;simp
  have e1:=yv [78] (1+(2+(n.high.length+1+(2+R.length)))) 1 n.seps.length 1 1 rfl rfl (by omega) (by omega) (by omega) (by omega)
  have f1:cW 1 n.seps.length=[c]:=by
   rw[hc];show [UInt8.ofNat (n.seps.length % 256)]=_;rw[Gw (by omega)]
  rw[f1,show 1+(2+(n.high.length+1+(2+R.length))) - 1=2+(n.high.length+1+(2+R.length)) by omega]at e1;have e2:=yv ([78]++[c]) (2+(n.high.length+1+(2+R.length))) 2 nn 2 2 rfl rfl (by omega) (by omega) (by omega) (by omega);rw[show 2+(n.high.length+1+(2+R.length)) - 2=n.high.length+1+(2+R.length) by omega]at e2;have e3:=Be ([78]++[c]++cW 2 nn) n.high (n.high.length+1+(2+R.length)) 4 (by simp[eK]) (by omega) (by omega);rw[show n.high.length+1+(2+R.length) - (n.high.length+1)=2+R.length by omega]at e3;have e4:=yv ([78]++[c]++cW 2 nn++cQ n.high) (2+R.length) 2 kn (4+n.high.length+1) 2 rfl (by simp[eK];omega) (by omega) (by omega) (by omega) (by omega);rw[show 2+R.length - 2=R.length by omega]at e4;have hd:([78]++[c]++cW 2 nn++cQ n.high++cW 2 kn).length=4+n.high.length+1+2:=by simp[eK];omega
  have hm:=by
   have:=Ml hr;rw[hks]at this;exact this
  have hl:=abb (n.seps.zip ks) ([78]++[c]++cW 2 nn++cQ n.high++cW 2 kn) hm (by rw[hd,<-hR];omega)
  have hfin:[78]++[c]++cW 2 nn++cQ n.high++cW 2 kn++eO (n.seps.zip ks)=cR n:=by
   unfold cR ni xH;rw[bc hr,hks,hnn,hc];simp
  rw[hfin,<-hR]at hl;have w0:W b9 (n.seps.length:Int)=(n.seps.length:Int):=lr (by omega);have w1:W b9 (nn:Int)=(nn:Int):=lr (by omega);have w2:W b9 (kn:Int)=(kn:Int):=lr (by omega);have w3:W aB (4+(n.high.length:Int)+1+2)=((([78]++[c]++cW 2 nn++cQ n.high++cW 2 kn).length:Nat):Int):=by rw[bd (by omega),hd];omega
  have g0:n.kids[0]? = aA (kn:Int):=by rw[hks];rfl
  refine Ol _ _ _ _ ?_ hl;unfold Hw;have s78:[UInt8.ofNat ((78:Int)).toNat]=([78]:Bs):=rfl;rw[aQ (yB n h),bX,hr,cN,be,aQ (U7 n h),bL,s78,aQ (Sy e0 (by decide)),iD,dW,w0];rw[aQ (yw e1 (by omega) (by simp[dS];omega))];rw[iD,hnn,w1,aQ (yw e2 (by omega) (by simp[dS];omega))];rw[iD,aQ (Bf e3 (by simp[dS,eK];omega) (by simp only[dS];omega)),d9,fq g0,bL,w2,aQ (yw e4 (by omega) (by simp[dS,eK];omega))];rw[iD,aS (k7 _),aS (by rw[bR,hks];simp)];have e5:((aO n.kids).take (aO n.kids).length).drop 1=aO ks:=by rw[jI,hks];rfl
  rw[e5,w3];simp only[xj,bc (show(aY n.seps).length<=16777216/\(aY n.seps).all fL=aD/\(aO ks).all fL=aD from⟨by rw[dW];omega,Vh _,QO _⟩),mS,Nt]
def Me(n:Nat)(h:n < 65536):bP aJ 198 [.int aB n]=aA (.str (cW 2 n)):=by
 refine ZR _ ?_;unfold HR
 have w1:W bK ((n:Int).tmod 256)=n % 256:=by
  rw[show(n:Int).tmod 256=(n % 256:Nat) from rfl,nW];omega
 have w2:W bK (W aB ((n:Int).tdiv 256))=(n / 256 % 256:Nat):=by
  rw[show(n:Int).tdiv 256=(n / 256:Nat) from rfl,bd (by omega),nW]
 rw[w1,w2,bq];rfl
def VB(s:Bs)(h:s.length<=255):bP aJ 199 [.str s]=aA (.str (cQ s)):=by
 refine ZT _ ?_;unfold HS;have w1:W bK s.length=s.length:=by rw[nW];omega
 rw[w1,aS (by simp;omega)];rfl
def aba(n:dp)(h:cy n=aD):∀r (k:Nat) (d:Bs),(n.seps.zip n.kids.tail).drop k=r->d.length+(eO r).length<=100000 ->
  Go qk aE 0 (fF 148) (.head 0 (zH d (k:Int) (aY n.seps) (aO n.kids) n.high n.next)) (.done (.str (d++eO r))):=by
 intro r;obtain⟨h1,_⟩:=k6 h;have hsm:=gv h;have hls:=hsm.seps;have hzl:(n.seps.zip n.kids.tail).length=n.seps.length:=by simp;omega
 induction r with
 |nil =>
  intro k d hr _;have hk:=drop_nil hr;refine Uf _ _ _ _ _ _ ?_ (.refl _);unfold KV;rw[bF (by rw[dW];omega),be,eO,fR]
 |cons x r ih =>
  obtain⟨s,kk⟩:=x;intro k d hr hd;obtain⟨g1,g2,g3⟩:=dZ hr;obtain⟨hs,hk⟩:=Ml h (s,kk) (dH g1);have hk2:=rq hk;obtain⟨kn,rfl⟩:∃kn:Nat,kk=(kn:Int):=⟨kk.toNat,by omega⟩
  obtain⟨q1,q2⟩:=List.getElem?_zip_eq_some.1 g1;have q3:n.kids[k+1]? = aA (kn:Int):=by rw[<-q2,List.getElem?_tail]
  have hlen:(eO ((s,(kn:Int))::r)).length=s.length+1+2+(eO r).length:=by
   rw[eO];simp[eK];omega
  have w:W aB ((k:Int)+1)=((k+1:Nat):Int):=by rw[bd (by omega)];omega
  refine Uf _ _ _ _ _ _ (o:=.head 0 (zH (d++(cQ s++cW 2 kn)) ((k+1:Nat):Int) (aY n.seps) (aO n.kids) n.high n.next)) ?_ ?_
  ·unfold KV;rw[aZ (by rw[dW];omega),bn,aS (by simp),bq,gM q1,de,aQ (VB s hs),de,w,aS (by simp;omega),bq,fq q3,bL,aQ (Me kn (by omega)),de,aS (by simp[eK];omega),aS (by simp[eK];omega)]
  ·have:=ih (k+1) (d++(cQ s++cW 2 kn)) g2 (by simp[eK];omega);rw[eO];simpa using this
def sV n (h:Sm n):bP aJ 148 [eI n]=aA (.str (cR n)):=by
 cases hr:cy n with
 |false =>
  refine OC _ _ _ _ ?_ (.refl _);unfold HA cR;rw[aQ (qb n h),hr];rfl
 |true =>
  obtain⟨h1,h2,h3,h4,h5,h6,h7⟩:=k6 hr;have hg:=oN h3
  obtain⟨k,ks,hks⟩:∃k ks,n.kids=k::ks:=by
   cases hk:n.kids with
   |nil=>rw[hk]at h1;simp at h1
   |cons k ks=>exact⟨k,ks,rfl⟩
  have hk:=rq (h2 k (by rw[hks];simp));obtain⟨kn,rfl⟩:∃kn:Nat,k=kn:=⟨k.toNat,by omega⟩
  obtain⟨nn,hnn⟩:∃nn:Nat,n.next=nn:=⟨n.next.toNat,by omega⟩
  have g0:n.kids[0]? = aA (kn:Int):=by rw[hks];rfl
  have hkl:n.kids.tail.length=n.seps.length:=by simp;omega
  have hrl:=Fe n.seps n.kids.tail hkl;have hl:=aba n hr _ 0 ([78]++[UInt8.ofNat n.seps.length]++cW 2 nn++cQ n.high++cW 2 kn) rfl (by simp[eK];omega);rw[wK]at hl
  have hfin:[78]++[UInt8.ofNat n.seps.length]++cW 2 nn++cQ n.high++cW 2 kn++eO (n.seps.zip n.kids.tail)=cR n:=by
   unfold cR ni xH;rw[bc hr,hks,hnn];simp
  rw[hfin]at hl;refine OC _ _ _ _ ?_ hl;have w1:W bK (n.seps.length)=n.seps.length:=by rw[nW];omega
  unfold HA;rw[aQ (qb n h),bX,hr,cN,dW,w1,aS (by simp),hnn,aQ (Me nn (by omega)),de,aS (by simp[eK]),aQ (VB n.high (by omega)),de,aS (by simp[eK];omega),fq g0,bL,aQ (Me kn (by omega)),de,aS (by simp[eK];omega)];rfl
def lN{s t n m e}(h:d0 s n=(t,m,e))(hs:dS s):bP aJ 71 [.str s,.int aB n]=aA (.tup [.str t,.int aB m,.int aB e]):=by
 rw[aiE s n hs,h]
def iz{s t n m e}(h:d0 s n=(t,m,e))(hs:dS s):bP aJ 72 [.str s,.int aB n]=aA (.tup [.str t,.int aB m,.int aB e]):=by
 rw[aiD s n hs,h]
def kR{s n size x e}(h:eY s n size=(x,e))(hs:dS s):bP aJ 214 [.str s,.int aB n,.int aB size]=aA (.tup [.int b9 x,.int aB e]):=by
 rw[ab4 s n size hs,h]
def Qi s n:0<=(eY s n 2).1/\(eY s n 2).1 < 65536:=by
 unfold eY;split
 ·have h1:=BQ ((s.drop n.toNat).take (2:Int).toNat);have h2:((s.drop n.toNat).take (2:Int).toNat).length<=2:=by grind
  have h3:256 ^ ((s.drop n.toNat).take (2:Int).toNat).length<=256 ^ 2:=MQ (by decide) h2;grind
 ·simp
def me{s n x e}(h:eY s n 2=(x,e))(hs:dS s):bP aJ 194 [.str s,.int aB n]=aA (.int aB x):=by
 refine ZL _ _ ?_;have h2:=Qi s n;rw[h]at h2;unfold HO;rw[aQ (ab0 s n 2 hs),h,j5,bd (by omega)]
def jS(r:Bs):Option ((Bs × Int) × Bs) :=
 match r with
 | []=>aF
 |c::r=>if r.length < c.toNat+2 then aF else aA ((r.take c.toNat,((dY ((r.drop c.toNat).take 2):Nat):Int)),r.drop (c.toNat+2))
def fV:Nat->Bs->Option (List (Bs × Int) × Bs)
 |0,r=>aA ([],r)
 |j+1,r=>(jS r).bind λx=>(fV j x.2).map λy=>(x.1::y.1,y.2)
def VO{l}(h:l.length=2):cW 2 (dY l)=l:=by
 have:=Q0 l;grind
def tP{r r' t k}(h:jS r=aA ((t,k),r')):r=cQ t++cW 2 k.toNat++r'/\t.length<=255/\0<=k/\k < 65536:=by
 unfold jS at h;cases r with
 |nil=>cases h
 |cons c r =>
  simp only at h;split at h
  ·cases h
  obtain⟨⟨rfl,rfl⟩,rfl⟩:=h;have hc:=c.toNat_lt;have h2:((r.drop c.toNat).take 2).length=2:=by grind
  have hu:=BQ ((r.drop c.toNat).take 2);rw[h2]at hu;have ht:(r.take c.toNat).length=c.toNat:=by grind
  rw[bq,VO h2];unfold cQ;rw[ht,UInt8.ofNat_toNat];have e1:=lj c.toNat r;have e2:=lj 2 (r.drop c.toNat);grind
def Sv{t r' k}(ht:t.length<=255)(hk:k < 65536):jS (cQ t++cW 2 k++r')=aA ((t,(k:Int)),r'):=by
 have e:(UInt8.ofNat t.length).toNat=t.length:=by simp;omega
 have hl2:=eK 2 k;unfold jS;simp only[gI,c8,e];rw[bh (by grind)];have e1:(t++(cW 2 k++r')).take t.length=t:=by simp
 have e2:(t++(cW 2 k++r')).drop t.length=cW 2 k++r':=by simp
 have e3:(cW 2 k++r').take 2=cW 2 k:=by
  grind
 have e4:(t++(cW 2 k++r')).drop (t.length+2)=r':=by
  grind
 rw[e1,e2,e3,e4,F8 2 k (by grind)]
def Sw:∀{j r r' l},fV j r=aA (l,r')->r=eO l++r'/\l.length=j/\∀x∈l,x.1.length<=255
 |0,r,r',l,h=>by
  obtain⟨rfl,rfl⟩:=h;exact⟨rfl,rfl,by simp⟩
 |j+1,r,r',l,h=>by
  simp only[fV,obi,omi]at h;obtain⟨⟨⟨t,k⟩,r1⟩,h1,⟨l2,r2⟩,h2,rfl,rfl⟩:=h;obtain⟨e1,h3,h4,h5⟩:=tP h1;obtain⟨e2,h6,h7⟩:=Sw h2;refine⟨?_,by grind,?_⟩
  ·rw[e1,eO,c8,c8,c8,<-e2]
  grind
def Sx:∀l r',(∀x∈l,x.1.length<=255/\eD x.2=aD)->fV l.length (eO l++r')=aA (l,r')
 | [],r',_=>rfl
 |(t,k)::l,r',h=>by
  obtain⟨h1,h2⟩:=h (t,k) (by simp);have h3:=rq h2;obtain⟨kn,rfl⟩:∃kn:Nat,k=(kn):=⟨k.toNat,by omega⟩
  have ih:=Sx l r' λx hx=>h x (by grind)
  rw[d8,fV,eO,bq,c8 (cQ t++cW 2 kn),Sv h1 (by omega),bu,ih];rfl
def yX{s:Bs}{m:Nat}{t:Bs}{k:Int}{r':Bs}(h:jS (s.drop m)=aA ((t,k),r')) :
  d0 s (m:Int)=(t,(m:Int)+1+t.length,0)/\eY s ((m:Int)+1+t.length) 2=(k,0)/\s.drop (m+1+t.length+2)=r'/\m+1+t.length+2<=s.length:=by
 unfold jS at h;cases hd:s.drop m with
 |nil=>grind
 |cons c r =>
  rw[hd]at h;simp only at h;split at h
  ·cases h
  rename_i hl;simp only[Option.some.injEq,Prod.mk.injEq]at h;obtain⟨⟨rfl,rfl⟩,rfl⟩:=h;obtain⟨h1,h2,h3⟩:=dZ hd
  have hrl:r.length+m+1=s.length:=by
   grind
  have ht:(r.take c.toNat).length=c.toNat:=by grind
  have hdr:s.drop (m+1+c.toNat)=r.drop c.toNat:=by rw[<-uC,h2]
  rw[ht];refine⟨?_,?_,?_,by omega⟩
  ·unfold d0;grind
  ·unfold eY;rw[bc (yD (by omega) (by omega) (by omega) (by omega))];grind
  ·rw[<-h2,uC];congr 1
def yW{s:Bs}{m:Nat}(hm:m<=s.length)(h:jS (s.drop m)=aF):∀{t:Bs} {to e:Int},d0 s (m:Int)=(t,to,e)->(e≠0/\t=[]/\to=0)∨(e=0/\t.length<=255/\to=(m:Int)+1+t.length/\(s.length:Int) < to+2/\to<=(s.length:Int)/\(eY s to 2)=(0,3)):=by
 intro t to e he;unfold jS at h;unfold d0 at he;rw[bc (by omega),bq]at he;cases hd:s.drop m with
 |nil=>grind
 |cons c r =>
  rw[hd]at h he;obtain⟨h1,h2,h3⟩:=dZ hd
  have hrl:r.length+m+1=s.length:=by
   grind
  have hcl:=c.toNat_lt;simp only at h he;split at he
  ·grind
  rename_i hx;simp only[Prod.mk.injEq]at he;obtain⟨rfl,rfl,rfl⟩:=he;split at h
  ·rename_i hy;have ht:(r.take c.toNat).length=c.toNat:=by grind
   refine .inr ⟨rfl,by omega,by rw[ht],by omega,by omega,?_⟩
   have:kp s ((m:Int)+1+(c.toNat:Int)) 2=3:=by
    unfold kp;grind
   unfold eY;grind
  grind
def oc(n:dp)(rest:Bs):Option dp:=if cy n && nf rest==[] then aA n else aF
def ki(s:Bs):Option dp :=
 if s.length<=4∨252 < s.length∨s.head?≠aA 78 then aF else
 (jS (s.drop 4)).bind λx=>(fV (s.getD 1 0).toNat x.2).bind λy =>
  oc ⟨y.1.map (·.1),x.1.2::y.1.map (·.2),x.1.1,((dY ((s.drop 2).take 2):Nat):Int)⟩ y.2
abbrev jD:dp:=⟨[],[],[],0⟩
def qL:Option dp->V
 |some n=>.tup [eI n,.int aB 0]
 |none=>.tup [eI jD,.int aB 4]
def Hl{α:Type}{p}:∀{l:List α},l.dropWhile p=[]↔∀x∈l,p x=aD
 | []=>by simp
 |x::l=>by
  rw[List.dropWhile_cons];cases h:p x with
  |true=>simp[dv];rw[Hl];grind
  |false=>grind
def GN{r}:nf r=[]↔r=fW r.length:=by
 unfold nf;rw[List.reverse_eq_nil_iff];constructor
 ·intro h
  have h2:∀x∈r,x=0:=by
   intro x hx;have:=Hl.1 h x (List.mem_reverse.2 hx);grind
  exact List.eq_replicate_iff.2 ⟨rfl,h2⟩
 ·rw[Hl];grind
abbrev py:V:=.tup [.agg [.sl [],.sl [],.str [],.int aB 0],.int aB 4]
def PI (s:Bs) (m:Int) (n:dp):R :=
 aT aJ 154 [eI n] λr_3=>kB r_3 λr13=>cond (!r13) (aA (.done py))
  (gd (decide (0<=m))<|gd (decide (m.toNat<=s.length))<|aT aJ 176 [aG ((s.take s.length).drop m.toNat)] λr_4=>kS r_4 λr37=>cond (!(r37==[])) (aA (.done py)) (aA (.done (aV [eI n,aC aB 0]))))
def PK s (hs:dS s) m (hm:m<=s.length) n (hn:Sm n):PI s (m) n=aA (.done (qL (oc n (s.drop m)))):=by
 unfold PI oc;rw[aQ (yB n hn),bX];cases cy n with
 |false=>rfl
 |true =>
  rw[cN,aS (by simp),bq,aS (by grind),jI,aQ (Np (s.drop m) (by grind)),de];cases nf (s.drop m)==[]<;>rfl
theorem Dl{s:Bs}{i m nx}{hi:Bs}{a b}:t6 s i s m aE hi nx a b=aA (.done (qL aF)):=rfl
def X8(hi:Bs) nx (hh:hi.length<=255) {s:Bs} (hs:s.length<=252) {c} (hc:s[1]? = aA c):∀j m i seps (kids:List Int),i+j=c.toNat->m<=s.length->seps.length=i->kids.length=i+1->(∀x∈seps,x.length<=255) ->
  Go qk aE 0 (fF 130) (.head 0 (o5 s i s m aD hi nx (aY seps) (aO kids))) (.done (qL ((fV j (s.drop m)).bind λy=>oc ⟨seps++y.1.map (·.1),kids++y.1.map (·.2),hi,nx⟩ y.2))):=by
 intro j;have hcl:=c.toNat_lt;have hss:dS s:=by grind
 have wc:W aB (c.toNat)=(c.toNat):=bd (by omega)
 induction j with
 |zero =>
  intro m i seps kids hij hm hsl hkl hse;have hn:Sm ⟨seps,kids,hi,nx⟩:=⟨by grind,λx hx=>by grind,by grind,by grind⟩
  refine t7 _ _ _ _ _ _ _ _ _ ?_ (.refl _);unfold t6;rw[cM hc,bF (by omega),be];have:=PK s hss m hm _ hn;simp only[fV,bu,lU,fR];exact this
 |succ j ih =>
  intro m i seps kids hij hm hsl hkl hse;cases hp:jS (s.drop m)with
  |some x =>
   obtain⟨⟨t,k⟩,r'⟩:=x;obtain⟨h1,h2,h3,hle⟩:=yX hp;obtain⟨_,htl,hk0,hk1⟩:=tP hp;have wk:W aB k=k:=bd (by omega);have wn:W aB ((m)+1+t.length+2)=((m+1+t.length+2:Nat)):=by rw[bd (by omega)];omega
   refine t7 _ _ _ _ _ _ _ _ _ (o:=.head 0 (o5 s ((i+1)) s (m+1+t.length+2) aD hi nx (aY (seps++[t])) (aO (kids++[k])))) ?_ ?_
   ·unfold t6;rw[cM hc,aZ (by omega),aQ (lN h1 hss),d9,aS (by simp[dW];omega),bc (by omega),aQ (kR h2 hss),j5,aS (by simp[bR];omega),wn,wk];rw[bd (n:=(i)+1) (by omega)];simp[aY,aO]
   ·have:=(ih (m+1+t.length+2) (i+1) (seps++[t]) (kids++[k]) (by omega) hle (by simp;omega) (by simp;omega) (by intro x hx;rcases cG.1 hx with hx|hx;exact hse x hx;simp at hx;rw[hx];exact htl))
    rw[h3]at this;simp[fV,hp,GA];simpa[Gx]using this
  |none =>
   have hnone:((fV (j+1) (s.drop m)).bind λy=>oc ⟨seps++y.1.map (·.1),kids++y.1.map (·.2),hi,nx⟩ y.2)=none:=by
    simp[fV,hp,Gy]
   rw[hnone];obtain⟨t,to,e,he⟩:∃t to e,d0 s m=(t,to,e):=⟨_,_,_,rfl⟩
   have hb:=yW hm hp he;rcases hb with⟨hb,_,_⟩|⟨rfl,_,hto,h4,h5,h6⟩
   ·obtain⟨x,e2,hx⟩:∃x e2,eY s (if (m) < to then to else m) 2=(x,e2):=⟨_,_,rfl⟩
    have hq:=Eq.refl (t6 s (i) s m aD hi nx (aY seps) (aO kids))
    conv at hq =>
     rhs
     unfold t6;rw[cM hc,aZ (by omega),aQ (lN he hss),d9,aS (by simp[dW];omega),aQ (kR hx hss),j5,ew hb,be,aS (by simp[bR];omega)]
    exact t7 _ _ _ _ _ _ _ _ _ hq (t7 _ _ _ _ _ _ _ _ _ Dl (.refl _))
   ·have hif:(if m < to then to else m)=to:=bc (by omega);have hq:=Eq.refl (t6 s (i) s (m) aD hi nx (aY seps) (aO kids))
    conv at hq =>
     rhs
     unfold t6;rw[cM hc,aZ (by omega),aQ (lN he hss),d9,aS (by simp[dW];omega),hif,aQ (kR h6 hss),j5,dL rfl,aS (by simp[bR];omega)]
    exact t7 _ _ _ _ _ _ _ _ _ hq (t7 _ _ _ _ _ _ _ _ _ Dl (.refl _))
def X7(hi:Bs) nx (hh:hi.length<=255) {s:Bs} (hs:s.length<=252) {c} (hc:s[1]? = aA c):∀j m kids,j=c.toNat->m<=s.length->kids.length=1 ->
  Go qk aE 0 (fF 130) (.head 0 (zE s s (m) aD hi nx (aO kids))) (.done (qL ((fV j (s.drop m)).bind λy=>oc ⟨y.1.map (·.1),kids++y.1.map (·.2),hi,nx⟩ y.2))):=by
 intro j;have hcl:=c.toNat_lt;have hss:dS s:=by omega
 have wc:W aB (c.toNat)=(c.toNat):=bd (by omega);cases j with
 |zero =>
  intro m kids hij hm hkl;have hn:Sm ⟨[],kids,hi,nx⟩:=⟨by simp only[jo];omega,λx hx=>by simp at hx,by simp;omega,by simp;omega⟩
  refine yI _ _ _ _ _ _ _ ?_ (.refl _);unfold wi;rw[cM hc,bF (by omega),be];have:=PK s hss m hm _ hn;simp only[fV,bu,lU,fR];exact this
 |succ j =>
  intro m kids hij hm hkl;cases hp:jS (s.drop m)with
  |some x =>
   obtain⟨⟨t,k⟩,r'⟩:=x;obtain⟨h1,h2,h3,hle⟩:=yX hp;obtain⟨_,htl,hk0,hk1⟩:=tP hp;have wk:W aB k=k:=bd (by omega);have wn:W aB (m+1+t.length+2)=(m+1+t.length+2:Nat):=by rw[bd (by omega)];omega
   refine yI _ _ _ _ _ _ _ (o:=.head 0 (o5 s 1 s (m+1+t.length+2) aD hi nx (aY [t]) (aO (kids++[k])))) ?_ ?_
   ·unfold wi;rw[cM hc,aZ (by omega),aQ (lN h1 hss),d9,aS (by simp),bc (by omega),aQ (kR h2 hss),j5,aS (by simp[bR];omega),wn,wk];simp[aY,aO]
   ·have:=(X8 hi nx hh hs hc j (m+1+t.length+2) 1 [t] (kids++[k]) (by omega) hle rfl (by simp;omega) (by simpa using htl))
    rw[h3]at this;simp[fV,hp,GA];simpa[Gx]using this
  |none =>
   have hnone:((fV (j+1) (s.drop m)).bind λy=>oc ⟨y.1.map (·.1),kids++y.1.map (·.2),hi,nx⟩ y.2)=none:=by
    simp[fV,hp,Gy]
   rw[hnone];obtain⟨t,to,e,he⟩:∃t to e,d0 s (m)=(t,to,e):=⟨_,_,_,rfl⟩
   have hb:=yW hm hp he;rcases hb with⟨hb,_,_⟩|⟨rfl,_,hto,h4,h5,h6⟩
   ·obtain⟨x,e2,hx⟩:∃x e2,eY s (if m < to then to else m) 2=(x,e2):=⟨_,_,rfl⟩
    have hq:=Eq.refl (wi s s (m) aD hi nx (aO kids))
    conv at hq =>
     rhs
     unfold wi;rw[cM hc,aZ (by omega),aQ (lN he hss),d9,aS (by simp),aQ (kR hx hss),j5,ew hb,be,aS (by simp[bR];omega)]
    exact yI _ _ _ _ _ _ _ hq (t7 _ _ _ _ _ _ _ _ _ Dl (.refl _))
   ·have hif:(if (m) < to then to else m)=to:=bc (by omega);have hq:=Eq.refl (wi s s (m) aD hi nx (aO kids))
    conv at hq =>
     rhs
     unfold wi;rw[cM hc,aZ (by omega),aQ (lN he hss),d9,aS (by simp),hif,aQ (kR h6 hss),j5,dL rfl,aS (by simp[bR];omega)]
    exact yI _ _ _ _ _ _ _ hq (t7 _ _ _ _ _ _ _ _ _ Dl (.refl _))
def Qj{s:Bs}{c}(h:s[1]? = aA c):s.getD 1 0=c:=by
 simp[h]
def X9(s:Bs)(hss:dS s):bP aJ 130 [.str s]=aA (qL (ki s)):=by
 by_cases h1:s.length<=4
 ·refine xr _ ?_ (.refl _);unfold qN ki;rw[aZ (by omega),bc (.inl h1)];rfl
 by_cases h2:252 < s.length
 ·refine xr _ ?_ (.refl _);unfold qN ki;rw[bF (by omega),aZ (by omega),bc (.inr (.inl h2))];rfl
 have hs:s.length<=252:=by omega
 obtain⟨c0,hc0⟩:∃c,s[0]? = aA c:=⟨_,cI (by omega)⟩
 obtain⟨c,hc⟩:∃c,s[1]? = aA c:=⟨_,cI (by omega)⟩
 have hh:s.head? = aA c0:=by rw[<-hc0];exact List.head?_eq_getElem?
 by_cases h3:c0=78
 rotate_left
 ·refine xr _ ?_ (.refl _)
  have h4:((c0.toNat:Int))≠78:=by
   intro e;have h78:(78:UInt8).toNat=78:=rfl;exact h3 (UInt8.toNat_inj.1 (by omega))
  unfold qN ki;rw[bF (by omega),bF (by omega),cM hc0,jz h4,bc (.inr (.inr (by rw[hh];simpa using h3)))];rfl
 subst h3
 have hg2:eY s 2 2=(((dY ((s.drop 2).take 2):Nat):Int),0):=by
  unfold eY;rw[bc (yD (by omega) (by omega) (by omega) (by omega))];rfl
 have hn2:=Qi s 2;rw[hg2]at hn2;have wn2:W aB ((dY ((s.drop 2).take 2):Nat):Int)=((dY ((s.drop 2).take 2):Nat):Int):=bd (by omega)
 have hparse:ki s=(jS (s.drop 4)).bind λx=>(fV c.toNat x.2).bind λy=>oc ⟨y.1.map (·.1),x.1.2::y.1.map (·.2),x.1.1,((dY ((s.drop 2).take 2):Nat):Int)⟩ y.2:=by
  unfold ki;rw[bh (by rw[hh];simp;omega),Qj hc]
 rw[hparse];cases hp:jS (s.drop 4)with
 |some x =>
  obtain⟨⟨hi,k⟩,r'⟩:=x;obtain⟨g1,g2,g3,hle⟩:=yX hp;obtain⟨_,htl,hk0,hk1⟩:=tP hp;have wk:W aB k=k:=bd (by omega);have wn:W aB (((4:Nat):Int)+1+hi.length+2)=((4+1+hi.length+2:Nat):Int):=by rw[bd (by omega)];omega
  have:=X7 hi ((dY ((s.drop 2).take 2):Nat):Int) htl hs hc c.toNat (4+1+hi.length+2) [k] rfl hle rfl;rw[g3]at this;refine xr _ ?_ this;unfold qN;have g1:d0 s 4=(hi,((4:Nat):Int)+1+hi.length,0):=g1;rw[bF (by omega),bF (by omega),cM hc0,aQ (kR hg2 hss),j5,aQ (lN g1 hss),d9,dL rfl,bc (by omega),aQ (kR g2 hss),j5,wn,wk,wn2];rfl
 |none =>
  obtain⟨t,to,e,he⟩:∃t to e,d0 s ((4:Nat):Int)=(t,to,e):=⟨_,_,_,rfl⟩
  have hb:=yW (by omega) hp he;have he:d0 s 4=(t,to,e):=he;rcases hb with⟨hb,_,_⟩|⟨rfl,_,hto,h4,h5,h6⟩
  ·obtain⟨x,e2,hx⟩:∃x e2,eY s (if (4:Int) < to then to else 4) 2=(x,e2):=⟨_,_,rfl⟩
   have hq:=Eq.refl (qN s)
   conv at hq =>
    rhs
    unfold qN;rw[bF (by omega),bF (by omega),cM hc0,aQ (kR hg2 hss),j5,aQ (lN he hss),d9,dL rfl,aQ (kR hx hss),j5,ew hb,aS (by simp)]
   exact xr _ hq (yI _ _ _ _ _ _ _ rfl (.refl _))
  ·have hif:(if (4:Int) < to then to else 4)=to:=bc (by omega);have hq:=Eq.refl (qN s)
   conv at hq =>
    rhs
    unfold qN;rw[bF (by omega),bF (by omega),cM hc0,aQ (kR hg2 hss),j5,aQ (lN he hss),d9,dL rfl,hif,aQ (kR h6 hss),j5,ew (by decide)]
   exact xr _ hq (yI _ _ _ _ _ _ _ rfl (.refl _))
def od(s:Bs)(n:dp):Option dp:=if cy n && iX (cR n) (s.length:Int)==(s,0) then aA n else aF
def PL (s:Bs) (e:Int) (n:dp):R :=
 aT aJ 148 [eI n] λr_2=>kS r_2 λr19=>aT aJ 195 [aG r19,aC aB (s.length:Int)] λr_3=>iC r_3 λr33_0 r33_1 =>
  cond (e != (0:Int)) (aA (.done py)) (cond (r33_1 != (0:Int)) (aA (.done py)) (cond (!(r33_0==s)) (aA (.done py)) (aT aJ 196 [eI n] λr_4=>kB r_4 λr14=>cond (!r14) (aA (.done py)) (aA (.done (aV [eI n,aC aB 0]))))))
def abd n (hn:Sm n):dS (cR n):=by
 unfold dS;cases hr:cy n with
 |true =>
  have:=FU hn;rw[uZ hr];omega
 |false=>unfold cR;rw[hr];simp
def xw s e n (hn:Sm n):PL s e n=aA (.done (qL (if e=0 then od s n else aF))):=by
 unfold PL od;rw[aQ (sV n hn),de,aQ (ER (cR n) _ (abd n hn)),iD]
 by_cases he:e=0
 rotate_left
 ·rw[jz he,bh he];rfl
 rw[ef he,bc he];obtain⟨t,e2⟩:=iX (cR n) (s.length)
 by_cases h2:e2=0
 rotate_left
 ·have:((t,e2)==(s,(0)))=false:=by simp[h2]
  rw[jz h2,this,nO];rfl
 subst h2
 by_cases h3:t=s
 rotate_left
 ·have h4:(t==s)=false:=by simpa using h3
  have:((t,(0))==(s,(0:Int)))=false:=by simp[h3]
  rw[h4,this,nO];rfl
 subst h3;rw[gg,gg,aQ (qb n hn)];cases cy n<;>rfl
def L8 t:∀l,db (l++[t])=db l+(3+t.length)
 | []=>by simp[db]
 |s::l=>by simp[gI,db,L8 t l];omega
def PX{s n}(hs:s.length<=252)(h:s.length < fg n):od s n=none:=by
 unfold od;cases hr:cy n with
 |false=>rfl
 |true =>
  have h1:=uZ hr
  have:iX (cR n) s.length=([],2):=by
   unfold iX;rw[bh (by omega),bc (by omega)]
  rw[this];simp
def VA{s m}(h:s.length < m):d0 s m=([],0,1):=by
 unfold d0;rw[bh (by omega)]
def E4{s hi:Bs}{nx m e kids i seps c}(hc:s[1]? = aA c)(hn:Sm ⟨seps,kids,hi,nx⟩)(he:e≠0):oK s m e i hi nx (aY seps) (aO kids)=aA (.done py):=by
 have hcl:=c.toNat_lt;have wc:W aB c.toNat=c.toNat:=bd (by omega);have h1:=xw s e _ hn;rw[bh he]at h1;unfold oK;rw[cM hc,wc];cases decide (i < c.toNat)with
 |true =>
  rw[ew he];exact h1
 |false =>
  exact h1
def S2{s hi:Bs}{nx m kids}{i:Nat}{seps c}(hs:s.length<=252)(hc:s[1]? = aA c)(hn:Sm ⟨seps,kids,hi,nx⟩)(hk:kids.length<=300)(hsn:seps.length<=300)(hm:m=fg ⟨seps,kids,hi,nx⟩)(hf:s.length < m) :
  Go qk aE 0 (fF 138) (.head 0 (qB s (m) 0 i hi nx (aY seps) (aO kids))) (.done py):=by
 have hcl:=c.toNat_lt;have hss:dS s:=by omega
 have wc:W aB (c.toNat)=c.toNat:=bd (by omega)
 by_cases bf:i < (c.toNat:Int)
 ·obtain⟨x,e2,hx⟩:∃x e2,eY s 0 2=(x,e2):=⟨_,_,rfl⟩
  have hq:=Eq.refl (oK s (m) 0 (i) hi nx (aY seps) (aO kids))
  conv at hq =>
   rhs
   unfold oK;rw[cM hc,wc,aZ bf,aQ (iz (VA (by omega)) hss),d9,aS (by simp[dW];omega),aQ (me hx hss),bL,aS (by simp[bR];omega)]
  refine qe _ _ _ _ _ _ _ _ hq (qe _ _ _ _ _ _ _ _ ?_ (.refl _));have e1:aY seps++[aG []]=aY (seps++[[]]):=by simp[aY]
  have e3:aO kids++[aC aB x]=aO (kids++[x]):=by simp[aO]
  rw[e1,e3];exact E4 hc ⟨by simp;omega,λy hy=>by rcases cG.1 hy with hy|hy;exact hn.sep y hy;simp at hy;rw[hy];simp,by simp;omega,hn.high⟩ (by decide)
 ·refine qe _ _ _ _ _ _ _ _ ?_ (.refl _);have h1:=xw s 0 _ hn;rw[PX hs (by omega)]at h1;unfold oK;rw[cM hc,wc,bF bf];exact h1
def afP{hi:Bs}{nx:Int}(hh:hi.length<=255){s:Bs}(hs:s.length<=252){c:UInt8}(hc:s[1]? = aA c):∀(j m i:Nat) (seps:List Bs) (kids:List Int),i+j=c.toNat->m<=s.length->seps.length=i->kids.length=i+1->(∀x∈seps,x.length<=255)->m=fg ⟨seps,kids,hi,nx⟩ ->
  Go qk aE 0 (fF 138) (.head 0 (qB s (m:Int) 0 (i:Int) hi nx (aY seps) (aO kids))) (.done (qL ((fV j (s.drop m)).bind λy=>od s ⟨seps++y.1.map (·.1),kids++y.1.map (·.2),hi,nx⟩))):=by
 intro j;have hcl:=c.toNat_lt;have hss:dS s:=by simp only[dS];omega
 have wc:W aB (c.toNat:Int)=(c.toNat:Int):=bd (by omega)
 induction j with
 |zero =>
  intro m i seps kids hij hm hsl hkl hse hsz;have hn:Sm ⟨seps,kids,hi,nx⟩:=⟨by simp only;omega,λx hx=>by have:=hse x hx;omega,by simp only;omega,by simp only;omega⟩
  refine qe _ _ _ _ _ _ _ _ ?_ (.refl _);have h1:=xw s 0 _ hn;unfold oK;rw[cM hc,wc,bF (by omega),be];simp only[fV,bu,lU,fR];exact h1
 |succ j ih =>
  intro m i seps kids hij hm hsl hkl hse hsz;have hn:Sm ⟨seps,kids,hi,nx⟩:=⟨by simp only;omega,λx hx=>by have:=hse x hx;omega,by simp only;omega,by simp only;omega⟩
  cases hp:jS (s.drop m)with
  |some x =>
   obtain⟨⟨t,k⟩,r'⟩:=x;obtain⟨h1,h2,h3,hle⟩:=yX hp;obtain⟨_,htl,hk0,hk1⟩:=tP hp;have wn:W aB ((m:Int)+1+t.length+2)=((m+1+t.length+2:Nat):Int):=by rw[bd (by omega)];omega
   have hsz2:m+1+t.length+2=fg ⟨(seps++[t]),kids++[k],hi,nx⟩:=by rw[hsz];simp only[fg,db,L8];omega
   refine qe _ _ _ _ _ _ _ _ (o:=.head 0 (qB s ((m+1+t.length+2:Nat):Int) 0 ((i+1:Nat):Int) hi nx (aY (seps++[t])) (aO (kids++[k])))) ?_ ?_
   ·unfold oK;rw[cM hc,wc,aZ (by omega),bn,dL rfl,bn,aQ (iz h1 hss),d9,aS (by simp[dW];omega),aQ (me h2 hss),bL,aS (by simp[bR];omega),wn];rw[bd (n:=(i:Int)+1) (by omega)];simp[aY,aO]
   ·have:=(ih (m+1+t.length+2) (i+1) (seps++[t]) (kids++[k]) (by omega) hle (by simp;omega) (by simp;omega) (by intro x hx;rcases cG.1 hx with hx|hx;exact hse x hx;simp at hx;rw[hx];exact htl) hsz2)
    rw[h3]at this;simp only[fV,hp,bu,GA,Gx];simpa using this
  |none =>
   have hnone:((fV (j+1) (s.drop m)).bind λy=>od s ⟨seps++y.1.map (·.1),kids++y.1.map (·.2),hi,nx⟩)=none:=by
    simp only[fV,hp,Gy]
   rw[hnone];obtain⟨t,to,e,he⟩:∃t to e,d0 s (m:Int)=(t,to,e):=⟨_,_,_,rfl⟩
   have hb:=yW hm hp he;rcases hb with⟨hb,ht,hto⟩|⟨rfl,htl,hto,h4,h5,h6⟩
   ·subst ht hto;obtain⟨x,e2,hx⟩:∃x e2,eY s 0 2=(x,e2):=⟨_,_,rfl⟩
    have hq:=Eq.refl (oK s (m:Int) 0 (i:Int) hi nx (aY seps) (aO kids))
    conv at hq =>
     rhs
     unfold oK;rw[cM hc,wc,aZ (by omega),bn,dL rfl,bn,aQ (iz he hss),d9,aS (by simp[dW];omega),aQ (me hx hss),bL,aS (by simp[bR];omega)]
    refine qe _ _ _ _ _ _ _ _ hq (qe _ _ _ _ _ _ _ _ ?_ (.refl _));have e1:aY seps++[aG []]=aY (seps++[[]]):=by simp[aY]
    have e3:aO kids++[aC aB x]=aO (kids++[x]):=by simp[aO]
    rw[e1,e3];exact E4 hc ⟨by simp;omega,λy hy=>by rcases cG.1 hy with hy|hy;exact hn.sep y hy;simp at hy;rw[hy];simp,by simp;omega,hn.high⟩ hb
   ·have wn:W aB (to+2)=((m+1+t.length+2:Nat):Int):=by rw[bd (by omega)];omega
    have hsz2:m+1+t.length+2=fg ⟨(seps++[t]),kids++[0],hi,nx⟩:=by rw[hsz];simp only[fg,db,L8];omega
    refine qe _ _ _ _ _ _ _ _ (o:=.head 0 (qB s ((m+1+t.length+2:Nat):Int) 0 ((i+1:Nat):Int) hi nx (aY (seps++[t])) (aO (kids++[0])))) ?_ (S2 hs hc ⟨by simp;omega,λy hy=>by rcases cG.1 hy with hy|hy;exact hn.sep y hy;simp at hy;rw[hy];omega,by simp;omega,hn.high⟩ (by simp;omega) (by simp;omega) hsz2 (by omega));unfold oK;rw[cM hc,wc,aZ (by omega),bn,dL rfl,bn,aQ (iz he hss),d9,aS (by simp[dW];omega),aQ (me h6 hss),bL,aS (by simp[bR];omega),wn];rw[bd (n:=(i:Int)+1) (by omega)];simp[aY,aO]
def afN{s hi:Bs}{nx m e kids c}(hc:s[1]? = aA c)(hn:Sm ⟨[],kids,hi,nx⟩)(he:e≠0):oJ s m e hi nx (aO kids)=aA (.done py):=by
 have hcl:=c.toNat_lt;have wc:W aB c.toNat=c.toNat:=bd (by omega);have h1:=xw s e _ hn;rw[bh he]at h1;unfold oJ;rw[cM hc,wc];cases decide (0 < (c.toNat:Int))with
 |true =>
  rw[ew he];exact h1
 |false =>
  exact h1
def afM{s hi:Bs}{nx m kids c}(hs:s.length<=252)(hc:s[1]? = aA c)(hn:Sm ⟨[],kids,hi,nx⟩)(hk:kids.length<=300)(hm:m=fg ⟨[],kids,hi,nx⟩)(hf:s.length < m) :
  Go qk aE 0 (fF 138) (.head 0 (Cy s (m) 0 hi nx (aO kids))) (.done py):=by
 have hcl:=c.toNat_lt;have hss:dS s:=by omega
 have wc:W aB c.toNat=c.toNat:=bd (by omega)
 by_cases bf:0 < (c.toNat:Int)
 ·obtain⟨x,e2,hx⟩:∃x e2,eY s 0 2=(x,e2):=⟨_,_,rfl⟩
  have hq:=Eq.refl (oJ s (m) 0 hi nx (aO kids))
  conv at hq =>
   rhs
   unfold oJ;rw[cM hc,wc,aZ bf,aQ (iz (VA (by omega)) hss),d9,aS (by simp),aQ (me hx hss),bL,aS (by simp[bR];omega)]
  refine wj _ _ _ _ _ _ hq (qe _ _ _ _ _ _ _ _ ?_ (.refl _));have e1:[aG []]=aY ([[]]):=by simp[aY]
  have e3:aO kids++[aC aB x]=aO (kids++[x]):=by simp[aO]
  rw[e1,e3];exact E4 hc ⟨by simp,λy hy=>by simp at hy;rw[hy];simp,by simp;omega,hn.high⟩ (by decide)
 ·refine wj _ _ _ _ _ _ ?_ (.refl _);have h1:=xw s 0 _ hn;rw[PX hs (by omega)]at h1;unfold oJ;rw[cM hc,wc,bF bf];exact h1
def afO{hi:Bs}{nx:Int}(hh:hi.length<=255){s:Bs}(hs:s.length<=252){c:UInt8}(hc:s[1]? = aA c):∀(j m:Nat) (kids:List Int),j=c.toNat->m<=s.length->kids.length=1->m=fg ⟨[],kids,hi,nx⟩ ->
  Go qk aE 0 (fF 138) (.head 0 (Cy s (m:Int) 0 hi nx (aO kids))) (.done (qL ((fV j (s.drop m)).bind λy=>od s ⟨y.1.map (·.1),kids++y.1.map (·.2),hi,nx⟩))):=by
 intro j;have hcl:=c.toNat_lt;have hss:dS s:=by omega
 have wc:W aB (c.toNat:Int)=(c.toNat:Int):=bd (by omega);cases j with
 |zero =>
  intro m kids hij hm hkl hsz;have hn:Sm ⟨[],kids,hi,nx⟩:=⟨by simp only[jo];omega,λx hx=>by simp at hx,by simp only;omega,by simp only;omega⟩
  refine wj _ _ _ _ _ _ ?_ (.refl _);have h1:=xw s 0 _ hn;unfold oJ;rw[cM hc,wc,bF (by omega),be];simp only[fV,bu,lU,fR];exact h1
 |succ j =>
  intro m kids hij hm hkl hsz;have hn:Sm ⟨[],kids,hi,nx⟩:=⟨by simp only[jo];omega,λx hx=>by simp at hx,by simp only;omega,by simp only;omega⟩
  cases hp:jS (s.drop m)with
  |some x =>
   obtain⟨⟨t,k⟩,r'⟩:=x;obtain⟨h1,h2,h3,hle⟩:=yX hp;obtain⟨_,htl,hk0,hk1⟩:=tP hp;have wn:W aB ((m:Int)+1+t.length+2)=((m+1+t.length+2:Nat):Int):=by rw[bd (by omega)];omega
   have hsz2:m+1+t.length+2=fg ⟨[t],kids++[k],hi,nx⟩:=by rw[hsz];simp only[fg,db];omega
   refine wj _ _ _ _ _ _ (o:=.head 0 (qB s ((m+1+t.length+2:Nat):Int) 0 ((1:Nat):Int) hi nx (aY [t]) (aO (kids++[k])))) ?_ ?_
   ·unfold oJ;rw[cM hc,wc,aZ (by omega),bn,dL rfl,bn,aQ (iz h1 hss),d9,aS (by simp),aQ (me h2 hss),bL,aS (by simp[bR];omega),wn];simp[aY,aO]
   ·have:=(afP hh hs hc j (m+1+t.length+2) 1 [t] (kids++[k]) (by omega) hle rfl (by simp;omega) (by simpa using htl) hsz2)
    rw[h3]at this;simp only[fV,hp,GA];simpa[Gx]using this
  |none =>
   have hnone:((fV (j+1) (s.drop m)).bind λy=>od s ⟨y.1.map (·.1),kids++y.1.map (·.2),hi,nx⟩)=none:=by
    simp only[fV,hp,Gy]
   rw[hnone];obtain⟨t,to,e,he⟩:∃t to e,d0 s (m:Int)=(t,to,e):=⟨_,_,_,rfl⟩
   have hb:=yW hm hp he;rcases hb with⟨hb,ht,hto⟩|⟨rfl,htl,hto,h4,h5,h6⟩
   ·subst ht hto;obtain⟨x,e2,hx⟩:∃x e2,eY s 0 2=(x,e2):=⟨_,_,rfl⟩
    have hq:=Eq.refl (oJ s (m:Int) 0 hi nx (aO kids))
    conv at hq =>
     rhs
     unfold oJ;rw[cM hc,wc,aZ (by omega),bn,dL rfl,bn,aQ (iz he hss),d9,aS (by simp),aQ (me hx hss),bL,aS (by simp[bR];omega)]
    refine wj _ _ _ _ _ _ hq (qe _ _ _ _ _ _ _ _ ?_ (.refl _));have e1:[aG []]=aY ([[]]):=by simp[aY]
    have e3:aO kids++[aC aB x]=aO (kids++[x]):=by simp[aO]
    rw[e1,e3];exact E4 hc ⟨by simp,λy hy=>by simp at hy;rw[hy];simp,by simp;omega,hn.high⟩ hb
   ·have wn:W aB (to+2)=((m+1+t.length+2:Nat):Int):=by rw[bd (by omega)];omega
    have hsz2:m+1+t.length+2=fg ⟨[t],kids++[0],hi,nx⟩:=by rw[hsz];simp only[fg,db];omega
    refine wj _ _ _ _ _ _ (o:=.head 0 (qB s ((m+1+t.length+2:Nat):Int) 0 ((1:Nat):Int) hi nx (aY [t]) (aO (kids++[0])))) ?_ (S2 hs hc ⟨by simp,λy hy=>by simp at hy;rw[hy];omega,by simp;omega,hn.high⟩ (by simp;omega) (by simp) hsz2 (by omega));unfold oJ;rw[cM hc,wc,aZ (by omega),bn,dL rfl,bn,aQ (iz he hss),d9,aS (by simp),aQ (me h6 hss),bL,aS (by simp[bR];omega),wn];simp[aY,aO]
def V9{α β:Type}:∀(l:List (α × β)),(l.map (·.1)).zip (l.map (·.2))=l
 | []=>rfl
 |x::l=>by simp[fJ,Gu,V9 l]
def abv{s:Bs}(hs:s.length<=252)(hl:4 < s.length){c0 c}(h0:s[0]? = aA c0)(hc:s[1]? = aA c){t:Bs}{k:Int}{r rest:Bs}{y}
  (h1:jS (s.drop 4)=aA ((t,k),r)) (h2:fV c.toNat r=aA (y,rest)) :
  od s ⟨y.map (·.1),k::y.map (·.2),t,dY ((s.drop 2).take 2)⟩=if c0=78 then oc ⟨y.map (·.1),k::y.map (·.2),t,dY ((s.drop 2).take 2)⟩ rest else none:=by
 obtain⟨e1,_⟩:=tP h1;obtain⟨e2,hyl,_⟩:=Sw h2
 have q0:s=c0::s.drop 1:=by
  cases s with
  |nil=>simp at h0
  |cons a s=>simp at h0;simp[h0]
 have q1:s.drop 1=c::s.drop 2:=by
  rw[sd (by omega)];rw[cI (by omega)]at hc;injection hc with hc
  rw[hc]
 have q2:=by
  have:=(lj 2 (s.drop 2)).symm
  rwa [uC]at this
 have hb:cW 2 (dY ((s.drop 2).take 2))=(s.drop 2).take 2:=VO (by simp;omega)
 have hbody:s=c0::(ni ⟨y.map (·.1),k::y.map (·.2),t,dY ((s.drop 2).take 2)⟩++rest):=by
  unfold ni xH;simp only[gm,hyl,UInt8.ofNat_toNat,bq,hb,List.headD_cons,List.tail_cons,V9]
  have e3:(s.drop 2).take 2++(cQ t++(cW 2 k.toNat++eO y))++rest=s.drop 2:=by
   rw[c8,c8 (cQ t),c8 (cW 2 k.toNat),<-e2,<-c8 (cQ t),<-e1,<-q2]
  have e4:s=c0::c::((s.drop 2).take 2++(cQ t++(cW 2 k.toNat++eO y))++rest):=by rw[e3,<-q1,<-q0]
  refine e4.trans ?_;simp only[gI,c8]
 generalize hn:(⟨y.map (·.1),k::y.map (·.2),t,dY ((s.drop 2).take 2)⟩:dp)=n at hbody |-
 unfold od oc;cases hr:cy n with
 |false=>simp
 |true =>
  have hen:cR n=78::ni n:=by unfold cR;rw[bc hr]
  have hsl:=by
   have:=di se hbody;simp at this;omega
  have hp:iX (cR n) s.length=(78::(ni n++fW rest.length),0):=by
   unfold iX;rw[hen,bh (by omega),bh (by simp;omega),bq];have:s.length - (78::ni n).length=rest.length:=by simp;omega
   rw[this];rfl
  rw[hp,fP,fP]
  by_cases hc0:c0=78
  ·rw[bc hc0];subst hc0
   by_cases hz:rest=fW rest.length
   ·rw[<-hz,<-hbody,GN.2 hz];simp
   ·have:=λh=>hz (GN.1 h)
    have h3:(nf rest==[])=false:=by simpa using this
    have h4:((78::(ni n++fW rest.length),0)==(s,(0:Int)))=false:=by
     rw[beq_eq_false_iff_ne];intro h;have h:=di Prod.fst h;rw[hbody]at h;injection h with _ h
     exact hz (List.append_cancel_left h).symm
    rw[h3,h4]
  ·rw[bh hc0]
   have h4:((78::(ni n++fW rest.length),0)==(s,(0:Int)))=false:=by
    rw[beq_eq_false_iff_ne];intro h;have h:=di Prod.fst h;rw[hbody]at h;injection h with h _
    exact hc0 h.symm
   rw[h4];rfl
def NV(s:Bs)(hss:dS s):bP aJ 138 [.str s]=aA (qL (ki s)):=by
 by_cases h1:s.length<=4
 ·refine Ai _ ?_ (.refl _);unfold sS ki;rw[aZ (by omega),bc (.inl h1)];rfl
 by_cases h2:252 < s.length
 ·refine Ai _ ?_ (.refl _);unfold sS ki;rw[bF (by omega),aZ (by omega),bc (.inr (.inl h2))];rfl
 have hs:s.length<=252:=by omega
 obtain⟨c0,hc0⟩:∃c,s[0]? = aA c:=⟨_,cI (by omega)⟩
 obtain⟨c,hc⟩:∃c,s[1]? = aA c:=⟨_,cI (by omega)⟩
 have hh:s.head? = aA c0:=by rw[<-hc0];exact List.head?_eq_getElem?
 have hg2:eY s 2 2=(((dY ((s.drop 2).take 2):Nat):Int),0):=by
  unfold eY;rw[bc (yD (by omega) (by omega) (by omega) (by omega))];rfl
 cases hp:jS (s.drop 4)with
 |some x =>
  obtain⟨⟨hi,k⟩,r'⟩:=x;obtain⟨g1,g2,g3,hle⟩:=yX hp;obtain⟨_,htl,hk0,hk1⟩:=tP hp;have wn:W aB (((4:Nat):Int)+1+hi.length+2)=((4+1+hi.length+2:Nat):Int):=by rw[bd (by omega)];omega
  have:=afO (nx:=((dY ((s.drop 2).take 2):Nat):Int)) htl hs hc c.toNat (4+1+hi.length+2) [k] rfl hle rfl (by simp only[fg,db];omega);rw[g3]at this
  have hres:((fV c.toNat r').bind λy=>od s ⟨y.1.map (·.1),[k]++y.1.map (·.2),hi,((dY ((s.drop 2).take 2):Nat):Int)⟩)=ki s:=by
   unfold ki;rw[Qj hc,hp,bu];cases hq:fV c.toNat r' with
   |none=>simp
   |some y =>
    have:=abv hs (by omega) hc0 hc hp hq;simp only[bu,gI,il];rw[this]
    by_cases hz:c0=78
    ·rw[bc hz,bh (by rw[hh,hz];simp;omega)]
    ·rw[bh hz,bc (.inr (.inr (by rw[hh];simpa using hz)))]
  rw[hres]at this;refine Ai _ ?_ this;unfold sS;have g1:d0 s 4=(hi,((4:Nat):Int)+1+hi.length,0):=g1;rw[bF (by omega),bF (by omega),aQ (me hg2 hss),bL,aQ (iz g1 hss),d9,aQ (me g2 hss),bL,wn];rfl
 |none =>
  have hnone:ki s=none:=by
   unfold ki;rw[hp];split<;>rfl
  rw[hnone];obtain⟨t,to,e,he⟩:∃t to e,d0 s ((4:Nat):Int)=(t,to,e):=⟨_,_,_,rfl⟩
  have hb:=yW (by omega) hp he;have he:d0 s 4=(t,to,e):=he;rcases hb with⟨hb,ht,hto⟩|⟨rfl,htl,hto,h4,h5,h6⟩
  ·subst ht hto;obtain⟨x,e2,hx⟩:∃x e2,eY s 0 2=(x,e2):=⟨_,_,rfl⟩
   have hq:=Eq.refl (sS s)
   conv at hq =>
    rhs
    unfold sS;rw[bF (by omega),bF (by omega),aQ (me hg2 hss),bL,aQ (iz he hss),d9,aQ (me hx hss),bL]
   refine Ai _ hq (wj _ _ _ _ _ _ ?_ (.refl _));exact afN (kids:=[x]) hc ⟨by simp,by simp,by simp,by simp⟩ hb
  ·have wn:W aB (to+2)=((4+1+t.length+2:Nat):Int):=by rw[bd (by omega)];omega
   have hq:=Eq.refl (sS s)
   conv at hq =>
    rhs
    unfold sS;rw[bF (by omega),bF (by omega),aQ (me hg2 hss),bL,aQ (iz he hss),d9,aQ (me h6 hss),bL,wn]
   refine Ai _ hq ?_;exact afM (kids:=[0]) hs hc ⟨by simp,by simp,by simp,by simp only;omega⟩ (by simp) (by simp only[fg,db];omega) (by omega)
def C9 l (h:l.length<=1000000):bP aJ 171 [.sl (aY l)]=aA (.fr 9 (aY l)):=by
 refine ET (g:=pj 9 1) rfl ?_;show(if cC 1 (aY l)=aD/\((aY l).all λx=>x.cells.all js)=aD/\(aY l).length<=16777216 then aA (V.fr 9 (aY l)) else aF)=_;rw[bc ⟨zc l,Qa λ_=>rfl,by rw[dW];omega⟩]
def C8 l (h:l.length<=1000000):bP aJ 173 [.sl (aO l)]=aA (.fr 3 (aO l)):=by
 refine ET (g:=pj 3 1) rfl ?_;show(if cC 1 (aO l)=aD/\((aO l).all λx=>x.cells.all js)=aD/\(aO l).length<=16777216 then aA (V.fr 3 (aO l)) else aF)=_;rw[bc ⟨k7 l,Qa λ_=>rfl,by rw[bR];omega⟩]
def wA l k:(aY l).take k=aY (l.take k):=by simp[aY]
def wz l k:(aY l).drop k=aY (l.drop k):=by simp[aY]
def yZ a b:aY a++aY b=aY (a++b):=by simp[aY]
theorem aip(a:Bs):[aG a]=aY [a]:=rfl
def vo l k:(aO l).take k=aO (l.take k):=by simp[aO]
def vn l k:(aO l).drop k=aO (l.drop k):=by simp[aO]
def oq a b:aO a++aO b=aO (a++b):=by simp[aO]
theorem acQ a:[aC aB a]=aO [a]:=rfl
def acP a b:aO a++[aC aB b]=aO (a++[b]):=by simp[aO]
def aio a (b:Bs):aY a++[aG b]=aY (a++[b]):=by simp[aY]
def Em l k a:(aO l).set k (aC aB a)=aO (l.set k a):=by simp[aO]
abbrev vW(p:dp × Int):V:=.tup [eI p.1,.int aB p.2]
abbrev jT(n:dp)(key:Bs)(kid:Int)(i:Nat):dp:=⟨n.seps.take i++[key]++n.seps.drop i,n.kids.take (i+1)++[kid]++n.kids.drop (i+1),n.high,n.next⟩
def mT(n:dp)(key:Bs)(kid:Int):dp × Int :=
 if (jN n key).2=0/\eD kid=aD then
  if 0 < gp n.seps key/\n.seps[gp n.seps key - 1]? = aA key then (jD,8) else
  if kN (jT n key kid (gp n.seps key)) then (jT n key kid (gp n.seps key),0) else (jD,6)
 else (jD,1)
def SS{n}(h:Sm n)(hl:n.seps.length<=900)(hk:n.kids.length<=900){key}(hkey:key.length<=1000){kid i}:Sm (jT n key kid i):=by
 refine⟨by grind,?_,by grind,h.high⟩;intro s hs;rcases cG.1 hs with hs|hs
 ·rcases cG.1 hs with hs|hs
  ·exact h.sep s (uF hs)
  grind
 ·exact h.sep s (uE hs)
def P0{n key}(h:(jN n key).2=0):jN n key=((gp n.seps key:Int),0)/\cy n=true:=by
 unfold jN at h |-
 grind
def P1{n key}(h:(jN n key).2≠0):jN n key=(0,1):=by
 unfold jN at h |-
 grind
def Vo (n:dp) (key:Bs) (kid i:Int):R :=
 aT aJ 171 [aH (aY n.seps)] λr_2=>kF 9 r_2 λr57 =>
 gd (decide (0<=i/\i.toNat<=r57.length/\r57.length+([aG key]:List V).length<=16777216)) <|
 aT aJ 173 [aH (aO n.kids)] λr_3=>kF 3 r_3 λr59 =>
 gd (decide (0<=W aB (i+1)/\(W aB (i+1)).toNat<=r59.length/\r59.length+([aC aB kid]:List V).length<=16777216)) <|
 aT aJ 204 [aI [aH (((r57.take i.toNat)++[aG key])++(r57.drop i.toNat)),aH (((r59.take ((W aB (i+1)).toNat))++[aC aB kid])++(r59.drop ((W aB (i+1)).toNat))),aG n.high,aC aB n.next]] λr_4 =>
 kB r_4 λr43=>cond (!r43) (aA (.done (aV [aI [aH [],aH [],aG [],aC aB 0],aC aB 6])))
  (aA (.done (aV [aI [aH (((r57.take i.toNat)++[aG key])++(r57.drop i.toNat)),aH (((r59.take ((W aB (i+1)).toNat))++[aC aB kid])++(r59.drop ((W aB (i+1)).toNat))),aG n.high,aC aB n.next],aC aB 0])))
def aiv n key kid i (h:Sm n) (hl:n.seps.length<=900) (hk:n.kids.length<=900) (hkey:key.length<=1000) (hi:i<=n.seps.length) (hik:i+1<=n.kids.length) :
  Vo n key kid (i)=aA (.done (vW (if kN (jT n key kid i) then (jT n key kid i,0) else (jD,6)))):=by
 have w:W aB ((i)+1)=(i+1:Nat):=by rw[bd (by omega)];omega
 unfold Vo;rw[w,bq,bq,aQ (C9 n.seps (by omega)),lC,aS (by rw[dW];grind),aQ (C8 n.kids (by omega)),lC,aS (by rw[bR];grind)];rw[aip,acQ,wA,wz,yZ,yZ,vo,vn,oq,oq,aQ (P6 (jT n key kid i) (SS h hl hk hkey))];cases kN (jT n key kid i)<;>rfl
def EW(n:dp)(key:Bs)(kid:Int)(h:Sm n)(hkey:key.length<=1000):bP aJ 167 [eI n,.str key,.int aB kid]=aA (vW (mT n key kid)):=by
 refine ZA _ _ _ _ _ _ ?_;unfold HK mT;rw[aQ (P3 n key h),De]
 by_cases hf:(jN n key).2=0
 rotate_left
 ·rw[P1 hf,bh (by grind)];rfl
 obtain⟨hfa,hr⟩:=P0 hf;obtain⟨h1,_,h3,_,_,_,h7⟩:=k6 hr;have hg:=oN h3;have hle:=GM n.seps key;rw[hfa,ef rfl,aQ (A7 kid),bX];cases hp:eD kid with
 |false=>rfl
 |true =>
  rw[bc ⟨rfl,rfl⟩];generalize hi:gp n.seps key=i at hle;have ht:=aiv n key kid i h (by omega) (by omega) hkey hle (by omega)
  by_cases h0:0 < i
  ·have w1:W aB ((i:Int) - 1)=((i - 1:Nat):Int):=by rw[bd (by omega)];omega
   have bf:i - 1 < n.seps.length:=by omega
   have hget:=cI bf;rw[aZ (show(i:Int) > 0 by omega),w1,bq,gM hget,de]
   by_cases he:n.seps[i - 1]=key
   ·rw[he,gg,bc ⟨h0,by grind⟩];rfl
   ·have he2:(n.seps[i - 1]==key)=false:=by grind
    rw[he2,bh (by grind)];exact ht
  ·rw[bF (show ¬(i:Int) > 0 by omega),bh (by grind)];exact ht
def Vp (n:dp) (key:Bs) (kid i:Int):R :=
 gd (cC 1 (aY n.seps))<|gd (decide (0<=i))<|gd (decide (i.toNat<=(aY n.seps).length))<|gd (cC 1 ((aY n.seps).take i.toNat)) <|
 gd (decide (0+((aY n.seps).take i.toNat).length<=16777216))<|gd (decide (((aY n.seps).take i.toNat).length+([aG key]:List V).length<=16777216)) <|
 gd (cC 1 (aY n.seps))<|gd (decide (0<=i))<|gd (decide (i.toNat<=(aY n.seps).length))<|gd (cC 1 (((aY n.seps).take (aY n.seps).length).drop i.toNat)) <|
 gd (decide ((((aY n.seps).take i.toNat)++[aG key]).length+(((aY n.seps).take (aY n.seps).length).drop i.toNat).length<=16777216)) <|
 gd (cC 1 (aO n.kids))<|gd (decide (0<=W aB (i+1)))<|gd (decide ((W aB (i+1)).toNat<=(aO n.kids).length))<|gd (cC 1 ((aO n.kids).take ((W aB (i+1)).toNat))) <|
 gd (decide (0+((aO n.kids).take ((W aB (i+1)).toNat)).length<=16777216))<|gd (decide (((aO n.kids).take ((W aB (i+1)).toNat)).length+([aC aB kid]:List V).length<=16777216)) <|
 gd (cC 1 (aO n.kids))<|gd (decide (0<=W aB (i+1)))<|gd (decide ((W aB (i+1)).toNat<=(aO n.kids).length))<|gd (cC 1 (((aO n.kids).take (aO n.kids).length).drop ((W aB (i+1)).toNat))) <|
 gd (decide ((((aO n.kids).take ((W aB (i+1)).toNat))++[aC aB kid]).length+(((aO n.kids).take (aO n.kids).length).drop ((W aB (i+1)).toNat)).length<=16777216)) <|
 aT aJ 201 [aI [aH ((((aY n.seps).take i.toNat)++[aG key])++(((aY n.seps).take (aY n.seps).length).drop i.toNat)),aH ((((aO n.kids).take ((W aB (i+1)).toNat))++[aC aB kid])++(((aO n.kids).take (aO n.kids).length).drop ((W aB (i+1)).toNat))),aG n.high,aC aB n.next]] λr_2 =>
 kI aB r_2 λr17=>cond (decide (W aB (r17 - (n.high.length:Int)) > 236)) (aA (.done (aV [aI [aH [],aH [],aG [],aC aB 0],aC aB 6])))
  (aA (.done (aV [aI [aH ((((aY n.seps).take i.toNat)++[aG key])++(((aY n.seps).take (aY n.seps).length).drop i.toNat)),aH ((((aO n.kids).take ((W aB (i+1)).toNat))++[aC aB kid])++(((aO n.kids).take (aO n.kids).length).drop ((W aB (i+1)).toNat))),aG n.high,aC aB n.next],aC aB 0])))
def aiw(n:dp)(key:Bs)(kid:Int)(i:Nat)(h:Sm n)(hl:n.seps.length<=900)(hk:n.kids.length<=900)(hkey:key.length<=1000)(hi:i<=n.seps.length)(hik:i+1<=n.kids.length) :
  Vp n key kid (i:Int)=aA (.done (vW (if kN (jT n key kid i) then (jT n key kid i,0) else (jD,6)))):=by
 have w:W aB ((i:Int)+1)=((i+1:Nat):Int):=by rw[bd (by omega)];omega
 have hsm:=SS (n:=n) (key:=key) (kid:=kid) (i:=i) h hl hk hkey;have hsz:=FU hsm;have hh:=h.high;unfold Vp;rw[w,bq,bq,jI,jI];simp (disch:=first|exact zc _|exact k7 _|exact aZ (by first|omega|(simp only[dW,bR,gJ,jW,lh,d8,jo];omega))) only[aS,aio,acP,wA,wz,yZ,vo,vn,oq];rw[aQ (U6 (jT n key kid i) hsm),bL,bd (by omega)];have hsz':fg (jT n key kid i)=7+n.high.length+db (jT n key kid i).seps:=rfl;unfold kN
 by_cases hf:16+7+db (jT n key kid i).seps<=252
 ·rw[bF (by omega),aZ hf];rfl
 ·rw[aZ (by omega),bF hf];rfl
def EY n (key:Bs) kid (h:Sm n) (hkey:key.length<=1000):bP aJ 149 [eI n,.str key,.int aB kid]=aA (vW (mT n key kid)):=by
 refine Ze _ _ _ _ _ _ ?_;unfold HB mT;rw[aQ (PZ n key h hkey),De]
 by_cases hf:(jN n key).2=0
 rotate_left
 ·rw[P1 hf,bh (by rintro⟨hq,_⟩;cases hq)];rfl
 obtain⟨hfa,hr⟩:=P0 hf;obtain⟨h1,_,h3,_,_,_,h7⟩:=k6 hr;have hg:=oN h3;have hle:=GM n.seps key;rw[hfa,ef rfl,aQ (JL kid),bX];cases hp:eD kid with
 |false=>rfl
 |true =>
  rw[bc ⟨rfl,rfl⟩];generalize hi:gp n.seps key=i at hle;have ht:=aiw n key kid i h (by omega) (by omega) hkey hle (by omega)
  by_cases h0:0 < i
  ·have w1:W aB (i - 1)=((i - 1:Nat)):=by rw[bd (by omega)];omega
   have bf:i - 1 < n.seps.length:=by omega
   have hget:=cI bf;rw[aZ (show(i:Int) > 0 by omega),w1,bq,gM hget,de]
   by_cases he:n.seps[i - 1]=key
   ·rw[he,gg,bc ⟨h0,by rw[hget,he]⟩];rfl
   ·have he2:(n.seps[i - 1]==key)=false:=by simpa using he
    rw[he2,bh (by rintro⟨_,hq⟩;rw[hget]at hq;exact he (Option.some.inj hq))];exact ht
  ·rw[bF (show ¬(i:Int) > 0 by omega),bh (by rintro⟨hq,_⟩;exact h0 hq)];exact ht
abbrev uW(n:dp)(i:Nat):dp:=⟨n.seps.take (i - 1)++n.seps.drop (i - 1+1),n.kids.take i++n.kids.drop (i+1),n.high,n.next⟩
def iT(n:dp)(i:Int):dp × Int:=if cy n=aD/\0<=i/\i < (n.kids.length:Int)/\2<=n.kids.length then (uW n i.toNat,0) else (jD,1)
def Ya(n:dp)(i:Int)(h:Sm n):bP aJ 126 [eI n,.int aB i]=aA (vW (iT n i)):=by
 refine YW _ _ _ _ _ ?_;unfold Hz;rw[aQ (yB n h),bX,bR];cases hr:cy n with
 |false =>
  have hd:iT n i=(jD,1):=by exact bh (by rw[hr];rintro⟨hq,_⟩;cases hq)
  rw[hd];rfl
 |true =>
  obtain⟨h1,_,h3,_,_,_,h7⟩:=k6 hr;have hg:=oN h3;rw[cN,be]
  by_cases g1:i < 0
  ·have hd:iT n i=(jD,1):=by exact bh (by omega)
   rw[hd,aZ g1];rfl
  rw[bF g1,be]
  by_cases g2:i ≥ (n.kids.length:Int)
  ·have hd:iT n i=(jD,1):=by exact bh (by omega)
   rw[hd,aZ g2];rfl
  rw[bF g2,be]
  by_cases g3:n.kids.length=1
  ·have hd:iT n i=(jD,1):=by exact bh (by omega)
   rw[hd,dL (by omega)];rfl
  rw[ew (by omega),be];have hd:iT n i=(uW n i.toNat,0):=by exact bc ⟨hr,by omega,by omega,by omega⟩
  rw[hd];obtain⟨k,rfl⟩:∃k:Nat,i=(k:Int):=⟨i.toNat,by omega⟩
  have w1:W aB ((k:Int) - 1)=(k:Int) - 1:=bd (by omega);have w2:W aB ((k:Int)+1)=((k+1:Nat):Int):=by rw[bd (by omega)];omega
  have hm:(if 0 < (k:Int) - 1 then (k:Int) - 1 else 0)=((k - 1:Nat):Int):=by split<;>omega
  have w3:W aB (((k - 1:Nat):Int)+1)=((k - 1+1:Nat):Int):=by rw[bd (by omega)];omega
  rw[w1,w2,hm,w3,bq,bq,bq,bq,aQ (C9 n.seps (by omega)),lC,aS (by rw[dW];simp;omega),aQ (C8 n.kids (by omega)),lC,aS (by rw[bR];simp;omega)];rw[wA,wz,yZ,vo,vn,oq]
def Ye(n:dp)(i:Int)(h:Sm n):bP aJ 152 [eI n,.int aB i]=aA (vW (iT n i)):=by
 refine Zk _ _ _ _ _ ?_;unfold HD;rw[aQ (qb n h),bX,bR];cases hr:cy n with
 |false =>
  have hd:iT n i=(jD,1):=by unfold iT;exact bh (by rw[hr];rintro⟨hq,_⟩;cases hq)
  rw[hd];rfl
 |true =>
  obtain⟨h1,_,h3,_,_,_,h7⟩:=k6 hr;have hg:=oN h3;rw[cN,be]
  by_cases g1:i < 0
  ·have hd:iT n i=(jD,1):=by unfold iT;exact bh (by omega)
   rw[hd,aZ g1];rfl
  rw[bF g1,be]
  by_cases g2:i ≥ (n.kids.length:Int)
  ·have hd:iT n i=(jD,1):=by unfold iT;exact bh (by omega)
   rw[hd,aZ g2];rfl
  rw[bF g2,be]
  by_cases g3:(n.kids.length:Int) < 2
  ·have hd:iT n i=(jD,1):=by unfold iT;exact bh (by omega)
   rw[hd,aZ g3];rfl
  rw[bF g3,be];have hd:iT n i=(uW n i.toNat,0):=by unfold iT;exact bc ⟨hr,by omega,by omega,by omega⟩
  rw[hd];obtain⟨k,rfl⟩:∃k:Nat,i=(k:Int):=⟨i.toNat,by omega⟩
  have w2:W aB ((k:Int)+1)=((k+1:Nat):Int):=by rw[bd (by omega)];omega
  rw[w2,bq,bq,jI,dW];have et:(aO n.kids).take n.kids.length=aO n.kids:=by rw[<-bR,jI]
  rw[et]
  by_cases g4:(k:Int)=0
  ·have:k=0:=by omega
   rw[dL g4,bn];subst this;simp (disch:=first|exact zc _|exact k7 _|exact aZ (by first|omega|(simp only[dW,bR,jW,lh,d8,jo,sg];omega))) only[aS,wA,wz,yZ,vo,vn,oq]
  ·have w1:W aB ((k:Int) - 1)=((k - 1:Nat):Int):=by rw[bd (by omega)];omega
   have w3:W aB (((k - 1:Nat):Int)+1)=((k - 1+1:Nat):Int):=by rw[bd (by omega)];omega
   rw[ew g4,be,w1,w3,bq,bq];simp (disch:=first|exact zc _|exact k7 _|exact aZ (by first|omega|(simp only[dW,bR,jW,lh,d8,jo,sg];omega))) only[aS,wA,wz,yZ,vo,vn,oq]
abbrev rJ(n:dp)(to:Int):dp:=⟨n.seps.take (n.seps.length / 2),n.kids.take (n.seps.length / 2+1),n.seps.getD (n.seps.length / 2) [],to+1⟩
abbrev rK(n:dp):dp:=⟨n.seps.drop (n.seps.length / 2+1),n.kids.drop (n.seps.length / 2+1),n.high,n.next⟩
def rL(n:dp)(to:Int):dp × dp × Bs × Int :=
 if cy n=aD/\3<=n.kids.length/\eD to=aD then (rJ n to,rK n,n.seps.getD (n.seps.length / 2) [],0) else (jD,jD,[],1)
abbrev Sq(p:dp × dp × Bs × Int):V:=.tup [eI p.1,eI p.2.1,.str p.2.2.1,.int aB p.2.2.2]
def ah5(n:dp)(to:Int)(h:Sm n):bP aJ 168 [eI n,.int aB to]=aA (Sq (rL n to)):=by
 refine ZC _ _ _ _ _ ?_;have hk:=h.kids;unfold HL rL;rw[aQ (yB n h),bX,bR,dW];cases hr:cy n with
 |false=>rfl
 |true =>
  obtain⟨h1,_⟩:=k6 hr;rw[cN,be]
  by_cases g1:(n.kids.length:Int) < 3
  ·rw[aZ g1,bh (by omega)];rfl
  rw[bF g1,be,aQ (A7 to),bX];cases hp:eD to with
  |false=>rw[bh (by rintro⟨_,_,hq⟩;cases hq)];rfl
  |true =>
   have hto:=rq hp;rw[cN,be,bc ⟨rfl,by omega,rfl⟩]
   have wd:W aB ((n.seps.length:Int).tdiv 2)=((n.seps.length / 2:Nat):Int):=by
    rw[show((n.seps.length:Int)).tdiv 2=((n.seps.length / 2:Nat):Int) from rfl];exact bd (by omega)
   rw[wd];obtain⟨m,hm⟩:∃m,n.seps.length / 2=m:=⟨_,rfl⟩
   have hm2:m < n.seps.length:=by omega
   rw[hm];have w1:W aB ((m:Int)+1)=((m+1:Nat):Int):=by rw[bd (by omega)];omega
   have w2:W aB (to+1)=to+1:=bd (by omega);have hget:=cI hm2;have hd:n.seps.getD m []=n.seps[m]:=by simp[List.getD,hget]
   have e1:rJ n to=⟨n.seps.take m,n.kids.take (m+1),n.seps[m],to+1⟩:=by unfold rJ;rw[hm,hd]
   have e2:rK n=⟨n.seps.drop (m+1),n.kids.drop (m+1),n.high,n.next⟩:=by unfold rK;rw[hm]
   rw[e1,e2];have et:(aO n.kids).take n.kids.length=aO n.kids:=by rw[<-bR,jI]
   have es:(aY n.seps).take n.seps.length=aY n.seps:=by rw[<-dW,jI]
   rw[hd,w1,w2,bq,bq,et,es,wA,wz,vo,vn];have q1:=C9 (n.seps.take m) (by simp;omega);have q2:=C9 (n.seps.drop (m+1)) (by simp;omega);have q3:=C8 (n.kids.take (m+1)) (by simp;omega);have q4:=C8 (n.kids.drop (m+1)) (by simp;omega);simp (disch:=first|exact zc _|exact k7 _|exact aZ (by first|omega|(omega))) only[aS,gM hget,de,aQ q1,aQ q2,aQ q3,aQ q4,lC]
def ah6(n:dp)(to:Int)(h:Sm n):bP aJ 150 [eI n,.int aB to]=aA (Sq (rL n to)):=by
 refine Zh _ _ _ _ _ ?_;have hk:=h.kids;unfold HC rL;rw[aQ (qb n h),bX,bR,dW];cases hr:cy n with
 |false=>rfl
 |true =>
  obtain⟨h1,_⟩:=k6 hr;rw[cN,be]
  by_cases g1:(n.kids.length:Int) < 3
  ·rw[aZ g1,bh (by omega)];rfl
  rw[bF g1,be,aQ (JL to),bX];cases hp:eD to with
  |false=>rw[bh (by rintro⟨_,_,hq⟩;cases hq)];rfl
  |true =>
   have hto:=rq hp;rw[cN,be,bc ⟨rfl,by omega,rfl⟩]
   have wd:W aB ((n.seps.length:Int).tdiv 2)=((n.seps.length / 2:Nat):Int):=by
    rw[show((n.seps.length:Int)).tdiv 2=((n.seps.length / 2:Nat):Int) from rfl];exact bd (by omega)
   rw[wd];obtain⟨m,hm⟩:∃m,n.seps.length / 2=m:=⟨_,rfl⟩
   have hm2:m < n.seps.length:=by omega
   rw[hm];have w1:W aB ((m:Int)+1)=((m+1:Nat):Int):=by rw[bd (by omega)];omega
   have w2:W aB (to+1)=to+1:=bd (by omega);have hget:=cI hm2;have hd:n.seps.getD m []=n.seps[m]:=by simp[List.getD,hget]
   have e1:rJ n to=⟨n.seps.take m,n.kids.take (m+1),n.seps[m],to+1⟩:=by unfold rJ;rw[hm,hd]
   have e2:rK n=⟨n.seps.drop (m+1),n.kids.drop (m+1),n.high,n.next⟩:=by unfold rK;rw[hm]
   rw[e1,e2];have et:(aO n.kids).take n.kids.length=aO n.kids:=by rw[<-bR,jI]
   have es:(aY n.seps).take n.seps.length=aY n.seps:=by rw[<-dW,jI]
   rw[hd,w1,w2,bq,bq,et,es,wA,wz,vo,vn];simp (disch:=first|exact zc _|exact k7 _|exact aZ (by first|omega|(simp only[dW,bR,jW,lh,sg];omega))) only[aS,gM hget,de]
set_option maxRecDepth 100000
def eo(b0 b1 b2 b3 b4 b5 b6 b7:Bool):Nat:=b0.toNat+2 * b1.toNat+4 * b2.toNat+8 * b3.toNat+16 * b4.toNat+32 * b5.toNat+64 * b6.toNat+128 * b7.toNat
abbrev rN(n r:Nat):Bool:=(W bK (((BitVec.ofInt (bJ bK) (n:Int) &&& BitVec.ofInt (bJ bK) (r:Int)).toNat:Int))) != (0:Int)
abbrev qf(n r:Nat):Int:=W bK (((BitVec.ofInt (bJ bK) (n:Int) |||BitVec.ofInt (bJ bK) (r:Int)).toNat:Int))
def aiP:∀b0 b1 b2 b3 b4 b5 b6 b7:Bool,
  rN (eo b0 b1 b2 b3 b4 b5 b6 b7) 1=b0/\rN (eo b0 b1 b2 b3 b4 b5 b6 b7) 2=b1/\rN (eo b0 b1 b2 b3 b4 b5 b6 b7) 4=b2/\rN (eo b0 b1 b2 b3 b4 b5 b6 b7) 8=b3 /\
  rN (eo b0 b1 b2 b3 b4 b5 b6 b7) 16=b4/\rN (eo b0 b1 b2 b3 b4 b5 b6 b7) 32=b5/\rN (eo b0 b1 b2 b3 b4 b5 b6 b7) 64=b6/\rN (eo b0 b1 b2 b3 b4 b5 b6 b7) 128=b7:=by decide +kernel
def ahB:∀b0 b1 b2 b3 b4 b5 b6 b7:Bool,
  qf (eo b0 b1 b2 b3 b4 b5 b6 b7) 1=(eo aD b1 b2 b3 b4 b5 b6 b7:Nat)/\qf (eo b0 b1 b2 b3 b4 b5 b6 b7) 2=(eo b0 aD b2 b3 b4 b5 b6 b7:Nat)/\qf (eo b0 b1 b2 b3 b4 b5 b6 b7) 4=(eo b0 b1 aD b3 b4 b5 b6 b7:Nat)/\qf (eo b0 b1 b2 b3 b4 b5 b6 b7) 8=(eo b0 b1 b2 aD b4 b5 b6 b7:Nat) /\
  qf (eo b0 b1 b2 b3 b4 b5 b6 b7) 16=(eo b0 b1 b2 b3 aD b5 b6 b7:Nat)/\qf (eo b0 b1 b2 b3 b4 b5 b6 b7) 32=(eo b0 b1 b2 b3 b4 aD b6 b7:Nat)/\qf (eo b0 b1 b2 b3 b4 b5 b6 b7) 64=(eo b0 b1 b2 b3 b4 b5 aD b7:Nat)/\qf (eo b0 b1 b2 b3 b4 b5 b6 b7) 128=(eo b0 b1 b2 b3 b4 b5 b6 true:Nat):=by decide +kernel
def mF(f:Nat->Bool)(j:Nat):Nat:=eo (f (8 * j)) (f (8 * j+1)) (f (8 * j+2)) (f (8 * j+3)) (f (8 * j+4)) (f (8 * j+5)) (f (8 * j+6)) (f (8 * j+7))
def eA(f:Nat->Bool)(i:Nat)(b:Bool):Nat->Bool:=λk=>if k=i then b else f k
def Jy i:∃j k,k < 8/\i=8 * j+k/\i / 8=j/\i % 8=k:=⟨i / 8,i % 8,Nat.mod_lt _ (by omega),by omega,rfl,rfl⟩
def JR{k}(h:k < 8):k=0∨k=1∨k=2∨k=3∨k=4∨k=5∨k=6∨k=7:=by omega
def Xm f i:rN (mF f (i / 8)) (2 ^ (i % 8))=f i:=by
 obtain⟨j,k,hk,e,e1,e2⟩:=Jy i;rw[e1,e2,e];have h:=aiP (f (8 * j)) (f (8 * j+1)) (f (8 * j+2)) (f (8 * j+3)) (f (8 * j+4)) (f (8 * j+5)) (f (8 * j+6)) (f (8 * j+7));obtain⟨h0,h1,h2,h3,h4,h5,h6,h7⟩:=h;rcases JR hk with rfl|rfl|rfl|rfl|rfl|rfl|rfl|rfl<;>assumption
def Xl f i:qf (mF f (i / 8)) (2 ^ (i % 8))=mF (eA f i aD) (i / 8):=by
 obtain⟨j,k,hk,e,e1,e2⟩:=Jy i;rw[e1,e2,e];have h:=ahB (f (8 * j)) (f (8 * j+1)) (f (8 * j+2)) (f (8 * j+3)) (f (8 * j+4)) (f (8 * j+5)) (f (8 * j+6)) (f (8 * j+7));obtain⟨h0,h1,h2,h3,h4,h5,h6,h7⟩:=h
 have u:∀m,eA f (8 * j+k) aD (8 * j+m)=if m=k then aD else f (8 * j+m):=by
  unfold eA;grind
 have u0:=u 0;rw[gn]at u0;unfold mF;rw[u0,u 1,u 2,u 3,u 4,u 5,u 6,u 7];rcases JR hk with rfl|rfl|rfl|rfl|rfl|rfl|rfl|rfl<;>assumption
def Xk f i j b (h:j≠i / 8):mF (eA f i b) j=mF f j:=by
 have:∀k,k < 8->eA f i b (8 * j+k)=f (8 * j+k):=λk hk=>by unfold eA;grind
 unfold mF;have:=this 0 (by omega);grind
def bI(n:Nat)(f:Nat->Bool):List V:=(eQ ((n+7) / 8)).map λj=>aC bK (mF f j:Nat)
def xg n f:(bI n f).length=(n+7) / 8:=by simp[bI]
def xf{n i} f (h:i < n):(bI n f)[i / 8]? = aA (.int bK (mF f (i / 8))):=by
 unfold bI;grind
def Nq{n i} f b (h:i < n):(bI n f).set (i / 8) (.int bK (mF (eA f i b) (i / 8)))=bI n (eA f i b):=by
 apply uD;intro j;rw[Gq]
 by_cases e:i / 8=j
 ·subst e;rw[bc rfl,bc (by rw[xg];omega),xf _ h]
 ·rw[bh e];unfold bI;rw[gy,gy];cases hj:(eQ ((n+7) / 8))[j]? with
  |none=>rfl
  |some k =>
   have:k=j:=by
    grind
   subst this;rw[dy,dy,Xk f i k b (Ne.symm e)]
def GR(i:Nat):bP aJ 193 [.int aB i]=aA (.int bK (2 ^ (i % 8):Nat)):=by
 refine ZJ _ ?_;unfold HN;have hm:(i:Int).tmod 8=(i % 8:Nat):=rfl;have hk:=Nat.mod_lt i (show 0 < 8 by omega);rw[hm,bq,aS (aZ hk)];rcases JR hk with e|e|e|e|e|e|e|e<;>rw[e]<;>rfl
def Mc(i:Nat)(h:i < 100000):W aB ((i:Int).tdiv 8)=(i / 8:Nat):=by
 rw[show(i:Int).tdiv 8=(i / 8:Nat) from rfl,bd (by omega)]
def kW(n:Nat)(f:Nat->Bool)(i:Int):Bool:=decide (0<=i/\i < (n:Int)) && f i.toNat
def xM(n:Nat)(hn:n<=1024) f i:bW aJ aU 137 [.ptr 0 0 0,.int aB i] (bm n (bI n f))=aA (qZ (bm n (bI n f)) (kW n f i)):=by
 refine Y6 _ _ _ (o:=.doneM (.bool (kW n f i)) (bm n (bI n f))) ?_ (.done (by kernel_rfl));unfold Ox kW
 by_cases h1:i ≥ 0
 case neg=>grind
 by_cases h2:i < n
 case neg=>grind
 obtain⟨k,rfl⟩:∃k:Nat,i=k:=⟨i.toNat,by omega⟩
 rw[Mc k (by omega),bq,aS (aZ (by omega)),aS (aZ (by rw[xg];omega)),eW,cM (xf f (by omega)),bL,aQ (GR k),bL];have:=Xm f k;grind
def aiA n (hn:n<=1024) f (i:Nat) (hi:i < n) (hf:f i=aE):bW aJ aU 180 [.ptr 0 0 0,.int aB (i)] (bm n (bI n f))=aA (AR (0,n,bI n (eA f i aD))):=by
 refine ZI _ _ _ (o:=.doneM (.int aB 0) (bm n (bI n (eA f i aD)))) ?_ (.done (by kernel_rfl));unfold OM;have his:kW n f (i)=false:=by unfold kW;grind
 rw[aZ (show(i:Int) ≥ 0 by omega),bn,aZ (show(i) < (n:Int) by omega),cN,be,co ya (xM n hn f i),bN,his,be,
  Mc i (by omega),bq,aS (aZ (by omega)),aS (aZ (by rw[xg];omega)),eW,cM (xf f (by omega)),bL,aQ (GR i),bL,aS (aZ (by omega)),aS (aZ (by rw[xg];omega)),cM (xf f (by omega)),bL]
 have:=Xl f i;simp only[qf]at this;rw[this,Nq f aD hi]
def tQ(l:List Nat):List V:=l.map λk=>aV [.int aB ((k:Nat):Int)]
def Kq(n:Nat)(hn:n<=1024):yE [.ref (.ref (.agg [.unk,.int aB n]) 0) 0,.ref (.int aB 0) 0]=aA (we n 0)/\(we n 0).map aV=tQ (eQ n):=by
 refine⟨bc (by omega),?_⟩;unfold we tQ;rw[List.map_map];apply List.map_congr_left;intro k hk;have hk:k < n:=by grind
 show aV [.int aB ((0+k) % n)]=_;rw[Int.zero_add,Int.emod_eq_of_lt (by omega) (by omega)]
def fO(n:Nat)(f:Nat->Bool):List Int:=((eQ n).filter f).map λk:Nat=>(k:Int)
def Vx n (hn:n<=1024) f:∀(l:List Nat) acc,(∀k∈l,k < n)->acc.length+l.length<=2000 ->
  Go qk aD 2 (fF 90) (.head 0 (zX (tQ l) n (bI n f) (aO acc))) (.doneM (.tail 5 0) (bm n (bI n f)++[aM 135 (aL 0 0 0) aE,aN 3 [] 0,aM 80 (bl 5 0) aE,aN 3 (aO (acc++(l.filter f).map λk:Nat=>(k:Int))) 0]))
 | [],acc,_,_=>by
  refine LF _ _ _ _ ?_ (.refl _);simp only[List.filter_nil,lU,fR];rfl
 |k::l,acc,h,hl=>by
  have his:kW n f k=f k:=by unfold kW;simp_all
  have ih:=λacc' h'=>Vx n hn f l acc' (λx hx=>h x (by grind)) h'
  simp only[d8]at hl;cases hf:f k with
  |true =>
   have ih:=ih (acc++[(k:Int)]) (by grind);rw[c8]at ih;rw[List.filter_cons_of_pos hf];refine LF _ _ _ _ ?_ ih;unfold LD;simp only[tQ,fJ,E8,ot,y8,bL];rw[co ya (xM n hn f k),bN,his,hf,aS (aZ (by rw[bR];grind))];simp[aO]
  |false =>
   rw[List.filter_cons_of_neg (by grind)];refine LF _ _ _ _ ?_ (ih acc (by omega));unfold LD;simp only[tQ,fJ,E8,ot,y8,bL,BR];rw[co ya (xM n hn f k),bN,his,hf,be]
def Vy(n:Nat)(hn:n<=1024) f:bW aJ aU 90 [.ptr 0 0 0] (bm n (bI n f))=aA (vN (bm n (bI n f)) (aO (fO n f))):=by
 obtain⟨r1,r2⟩:=Kq n hn;refine aa2 _ _ ?_ ⟨_,_,Vx n hn f (eQ n) [] λk hk=>by grind (by grind),by kernel_rfl⟩;unfold Pk;rw[r1,mS,r2];rfl
def DZ(n:Nat)(f:Nat->Bool):Nat:=n - (fO n f).length
def Mb n f:(fO n f).length<=n:=by
 unfold fO;grind
def abR(n:Nat)(hn:n<=1024) f:bW aJ aU 89 [.ptr 0 0 0] (bm n (bI n f))=aA (yj (bm n (bI n f)) (DZ n f)):=by
 refine aa1 _ _ (o:=.doneM (.int aB (DZ n f)) (bm n (bI n f))) ?_ (.done (by kernel_rfl));unfold Pj;have:=Mb n f;rw[co RU (Vy n hn f),bN,bR,bd (by omega)];unfold DZ;grind
def kK(n:Nat)(f:Nat->Bool):Option Nat:=(eQ n).find? λk=>!f k
def Ma n (hn:n<=1024) f k:∀(l:List Nat),(∀k∈l,k < n)->l.find? (λk=>!f k)=aA k ->
  Go qk aD 2 (fF 131) (.head 0 (Cw (tQ l) n (bI n f))) (.doneM (.tup [.int aB k,.int aB 0]) (bm n (bI n (eA f k aD))++[aM 135 (aL 0 0 0) aE,aM 3 (aC aB k) aE,aM 27 (aC aB 0) aE]))
 | [],_,h=>by cases h
 |i::l,h,hk=>by
  have hi:=h i (by simp);have his:kW n f i=f i:=by unfold kW;grind
  rw[List.find?_cons]at hk;cases hf:f i with
  |false =>
   have e:i=k:=by grind
   rw[<-e];refine Ub _ _ _ ?_ (.refl _);unfold KO;simp only[tQ,fJ,E8,ot,y8,bL,BR];rw[co ya (xM n hn f i),bN,his,hf,lQ,bn,cL aeh (aiA n hn f i hi hf)]
  |true =>
   rw[hf]at hk;refine Ub _ _ _ ?_ (Ma n hn f k l (λx hx=>h x (by grind)) hk);unfold KO;simp only[tQ,fJ,E8,ot,y8,bL,BR];rw[co ya (xM n hn f i),bN,his,hf,cN,be]
def aiB n (hn:n<=1024) f k (hk:kK n f=aA k):bW aJ aU 131 [.ptr 0 0 0,.int aB 0] (bm n (bI n f))=aA (vF (k,0,n,bI n (eA f k aD))):=by
 obtain⟨r1,r2⟩:=Kq n hn
 have hn0:0 < n:=by
  rcases Gv n with h|h
  ·subst h;simp[kK]at hk
  grind
 refine Y3 _ _ _ ?_ ⟨_,_,Ma n hn f k (eQ n) λk hk=>by grind hk,by kernel_rfl⟩;unfold Ou;simp_all
set_option maxRecDepth 10000
abbrev Pr:=Bs × Bs
structure Lf where
 prs:List Pr
 high:Bs
 next:Int
abbrev pV(p:Pr):V:=.agg [.str p.1,.str p.2]
def bw(l:List Pr):List V:=l.map pV
abbrev eL(l:Lf):V:=.agg [.sl (bw l.prs),.str l.high,.int aB l.next]
def dq l:(bw l).length=l.length:=by simp[bw]
def fG{l n x k}(h:l[n]? = aA x):bk (bw l) n k=k (pV x):=I2 h
structure jr(l:Lf):Prop where
 prs:l.prs.length<=1000
 pr:∀p∈l.prs,p.1.length<=1000/\p.2.length<=1000
 high:l.high.length<=1000
def bE:List Pr->Nat
 | []=>0
 |p::r=>2+p.1.length+p.2.length+bE r
def Mj:∀{l},(∀p∈l,p.1.length<=1000/\p.2.length<=1000)->bE l<=2002 * l.length
 | [],_=>cZ _
 |p::r,h=>by
  have h1:=h p (by simp);have h2:=Mj (l:=r) λx hx=>h x (by grind)
  simp[bE,d8];omega
def iJ(l:Lf):Nat:=5+l.high.length+bE l.prs
def LO{l}(h:jr l):iJ l<=2100000:=by
 have h1:=Mj h.pr;have h2:=h.prs;have h3:=h.high;unfold iJ;omega
def Mg p (h1:p.1.length<=1000) (h2:p.2.length<=1000):bP aJ 165 [pV p]=aA (.int aB (2+p.1.length+p.2.length:Nat)):=by
 refine Zy _ _ ?_;unfold HJ;rw[bd (n:=2+p.1.length) (by omega),bd (by omega)];simp
def ahK l (hl:l.length<=1000) (hs:∀p∈l,p.1.length<=1000/\p.2.length<=1000):∀r (k a:Nat),l.drop k=r->a<=2000+2002 * k ->
  Go qk aE 0 (fF 159) (.head 0 (wY (a) (bw l) l.length k)) (.done (.int aB ((a+bE r:Nat)))):=by
 intro r
 induction r with
 |nil =>
  intro k a hr ha;have h1:=drop_nil hr;refine Uh _ _ _ _ ?_ (.refl _);unfold K0;rw[bF (by omega)];rfl
 |cons x r ih =>
  intro k a hr ha;obtain⟨h1,h2,h3⟩:=dZ hr;have hx:=hs x (dH h1);refine Uh _ _ _ _ (o:=.head 0 (wY (a+(2+x.1.length+x.2.length)) (bw l) l.length (k+1))) ?_ ?_
  ·unfold K0;rw[aZ (by omega),bq,fG h1];show(aT aJ _ [pV x] _)=_;rw[aQ (Mg x hx.1 hx.2),bL,bd (by omega),bd (by omega)];simp
  ·have:=ih (k+1) (a+(2+x.1.length+x.2.length)) h2 (by omega);rw[bE];grind
def LP l (h:jr l):bP aJ 159 [eL l]=aA (.int aB (iJ l)):=by
 have hh:=h.high;refine Zr _ _ _ (o:=.head 0 (wY (5+l.high.length:Nat) (bw l.prs) l.prs.length 0)) ?_ (ahK l.prs h.prs h.pr l.prs 0 _ rfl (by omega));unfold OH;rw[dq,bd (by omega)];simp
def vh(l:Lf):Bool:=decide (21+bE l.prs<=252)
def Iw l (h:jr l):bP aJ 118 [eL l]=aA (.bool (vh l)):=by
 refine YQ _ _ _ ?_;have h1:=LO h;have h2:=h.high;unfold Hv;rw[aQ (LP l h),bL,bd (n:=iJ l - l.high.length) (by omega),bd (by omega)];unfold vh;rw[pq.2 (show iJ l - (l.high.length:Int)+16<=252↔21+bE l.prs<=252 by unfold iJ;omega)]
def eu(s:Bs):Bool:=decide (s.length<=32)
def zb(s:Bs):bP aJ 74 [.str s]=aA (.bool (eu s)):=by
 refine aaK _ ?_;unfold Ie eu;rw[pq.2 (show(s.length:Int)<=32↔s.length<=32 by omega)]
def iY(p:Bs):List Pr->Bool
 | []=>aD
 |x::r=>cz x.1 && eu x.2 && lt p x.1 && iY x.1 r
def j9(p:Bs)(l:List Pr):Bs:=(l.map (·.1)).getLastD p
def sW(l:Lf):Bool:=decide (0<=l.next) && decide (l.next<=1024) && vh l
def cX(l:Lf):Bool:=iY [] l.prs && gt (j9 [] l.prs) l.high && sW l
def agf l (h:jr l):∀r k (p:Bs),l.prs.drop k=r ->
  Go qk aE 0 (fF 115) (.head 0 (zz p (bw l.prs) l.prs.length k (bw l.prs) l.high l.next)) (.done (.bool (iY p r && gt (j9 p r) l.high && sW l))):=by
 have hl:=h.prs;intro r
 induction r with
 |nil =>
  intro k p hr;have h1:=drop_nil hr;refine Bv _ _ _ _ _ _ _ ?_ (.refl _);unfold Fl;simp only[aQ (Iw l h),bX,aQ (jB l.high),iY,j9,gt,sW];grind
 |cons x r ih =>
  intro k p hr;obtain⟨h1,h2,h3⟩:=dZ hr;have w:W aB (k+1)=(k+1:Nat):=by rw[bd (by omega)];omega
  have e0:Fl p (bw l.prs) l.prs.length k (bw l.prs) l.high l.next=cond (!cz x.1) (aA (.done (aW aE))) (cond (!eu x.2) (aA (.done (aW aE))) (cond (!lt p x.1) (aA (.done (aW aE))) (aA (.head 0 (zz x.1 (bw l.prs) l.prs.length (k+1:Nat) (bw l.prs) l.high l.next))))):=by
   unfold Fl;rw[aZ (by omega),bn,aS (by simp),bq,fG h1,fZ,aQ (jB x.1),bX,aQ (zb x.2),bX,Q2 x.1 p,w]
  have e1:(iY p (x::r) && gt (j9 p (x::r)) l.high && sW l)=(cz x.1 && (eu x.2 && (lt p x.1 && (iY x.1 r && gt (j9 x.1 r) l.high && sW l)))):=by
   unfold j9;rw[iY,fJ];grind
  rw[e1];cases q1:cz x.1 with
  |false=>exact Bv _ _ _ _ _ _ _ (e0.trans (by grind)) (.refl _)
  |true =>
   cases q2:eu x.2 with
   |false=>exact Bv _ _ _ _ _ _ _ (e0.trans (by grind)) (.refl _)
   |true =>
    cases q3:lt p x.1 with
    |false=>exact Bv _ _ _ _ _ _ _ (e0.trans (by grind)) (.refl _)
    |true =>
     refine Bv _ _ _ _ _ _ _ (e0.trans (by rw[q1,q2,q3];rfl)) ?_;exact ih (k+1) x.1 h2
def yA l (h:jr l):bP aJ 115 [eL l]=aA (.bool (cX l)):=by
 refine YL _ _ _ ?_ (agf l h l.prs 0 [] rfl);unfold Og;rw[dq];rfl
def tW:∀{l p},iY p l=aD->∀x∈l,cz x.1=aD/\eu x.2=aD
 | [],_,_,x,hx=>by grind
 |y::l,p,h,x,hx=>by
  simp[iY,cT]at h;rcases dC.1 hx with rfl|hx
  ·grind
  ·exact tW h.2 x hx
def wF:∀{l},(∀x∈l,cz x.1=aD)->3 * l.length<=bE l
 | [],_=>cZ _
 |x::l,h=>by
  have h1:=(fd (h x (by simp))).1;have h2:=wF (l:=l) λy hy=>h y (by grind)
  simp[bE,d8];omega
def abe{l}:sW l=aD↔0<=l.next/\l.next<=1024/\bE l.prs<=231:=by
 unfold sW vh;grind
def nL{l}:cX l=aD↔iY [] l.prs=aD/\gt (j9 [] l.prs) l.high=aD/\0<=l.next/\l.next<=1024/\bE l.prs<=231:=by
 unfold cX;rw[cT,cT,abe,and_assoc]
def tc{p h}(e:gt p h=aD):h.length<=16:=by
 unfold gt at e;simp[oT,cT,iQ]at e;rcases e with rfl|⟨e,_⟩
 ·simp
 ·exact(fd e).2
def tT{l}(h:cX l=aD):jr l:=by
 obtain⟨h1,h2,_,_,h3⟩:=nL.1 h;have hm:=tW h1;have hg:=wF λx hx=>(hm x hx).1
 have hh:=tc h2;refine⟨by omega,λp hp=>?_,by omega⟩;have q1:=(fd (hm p hp).1).2;have q2:=(hm p hp).2;simp[eu,mI]at q2;omega
def eV:List Pr->Bs
 | []=>[]
 |p::r=>cQ p.1++cQ p.2++eV r
def TH:∀l:List Pr,(eV l).length=bE l
 | []=>rfl
 |p::l=>by rw[eV,bE];simp[TH l];omega
def sJ(l:Lf):Bs:=UInt8.ofNat l.prs.length::(cW 2 l.next.toNat++(cQ l.high++eV l.prs))
def bA(l:Lf):Bs:=76::sJ l
def Ao l:(bA l).length=iJ l:=by
 unfold bA sJ iJ;simp[eK,TH];omega
def aa9(l:List Pr)(hll:l.length<=1000):∀(r:List Pr) (k:Nat) (d:Bs),l.drop k=r->(∀x∈r,x.1.length<=255/\x.2.length<=255)->d.length+bE r<=100000 ->
  Go qk aE 0 (fF 120) (.head 0 (zA (d++fW (bE r)) (d.length:Int) (bw l) (l.length:Int) (k:Int))) (.done (.str (d++eV r))):=by
 intro r
 induction r with
 |nil =>
  intro k d hr _ _;have h1:=drop_nil hr;refine T6 _ _ _ _ _ ?_ (.refl _);unfold KG;rw[bF (by omega)];simp[bE,eV]
 |cons x r ih =>
  intro k d hr h hd;obtain⟨h1,h2,h3⟩:=dZ hr;obtain⟨hx1,hx2⟩:=h x (by simp);have w:W aB ((k:Int)+1)=((k+1:Nat):Int):=by rw[bd (by omega)];omega
  have hw:bE (x::r)=x.1.length+1+(x.2.length+1+bE r):=by rw[bE];omega
  rw[hw]at hd |-
  have e1:=Be d x.1 (x.1.length+1+(x.2.length+1+bE r)) (d.length:Int) rfl hx1 (by omega);rw[show x.1.length+1+(x.2.length+1+bE r) - (x.1.length+1)=x.2.length+1+bE r by omega]at e1;have e2:=Be (d++cQ x.1) x.2 (x.2.length+1+bE r) ((d.length:Int)+x.1.length+1) (by grind) hx2 (by omega);refine T6 _ _ _ _ _ (o:=.head 0 (zA (d++cQ x.1++cQ x.2++fW (bE r)) ((d++cQ x.1++cQ x.2).length:Int) (bw l) (l.length:Int) ((k+1:Nat):Int))) ?_ ?_
  ·unfold KG
   rw[aZ (by omega),bn,aS (by simp),bq,fG h1,fZ,aQ (Bf e1 (by grind) (by grind)),d9,
    aQ (Bf e2 (by grind) (by grind)),d9,w]
   grind
  ·have:=ih (k+1) (d++cQ x.1++cQ x.2) h2 (λy hy=>h y (by grind)) (by grind);rw[eV];grind
def PF(l:Lf)(h:cX l=aD):bP aJ 120 [eL l]=aA (.str (bA l)):=by
 have hsm:=tT h;obtain⟨h1,h2,h3,h4,h5⟩:=nL.1 h;have hm:=tW h1;have hg:=wF λx hx=>(hm x hx).1
 have hh:=tc h2;obtain⟨nn,hnn⟩:∃nn:Nat,l.next=(nn:Int):=⟨l.next.toNat,by omega⟩
 obtain⟨c,hc⟩:∃c:UInt8,c=UInt8.ofNat l.prs.length:=⟨_,rfl⟩
 have e0:iX [76] ((iJ l:Nat):Int)=([76]++fW (1+(2+(l.high.length+1+bE l.prs))),0):=by
  have hz:iJ l=1+(1+(2+(l.high.length+1+bE l.prs))):=by unfold iJ;omega
  unfold iX;grind
 have e1:=yv [76] (1+(2+(l.high.length+1+bE l.prs))) 1 l.prs.length 1 1 rfl rfl (by omega) (by omega) (by omega) (by omega)
 have f1:cW 1 l.prs.length=[c]:=by
  rw[hc];show [UInt8.ofNat (l.prs.length % 256)]=_;grind
 rw[f1,show 1+(2+(l.high.length+1+bE l.prs)) - 1=2+(l.high.length+1+bE l.prs) by omega]at e1;have e2:=yv ([76]++[c]) (2+(l.high.length+1+bE l.prs)) 2 nn 2 2 rfl rfl (by omega) (by omega) (by omega) (by omega);rw[show 2+(l.high.length+1+bE l.prs) - 2=l.high.length+1+bE l.prs by omega]at e2;have e3:=Be ([76]++[c]++cW 2 nn) l.high (l.high.length+1+bE l.prs) 4 (by simp[eK]) (by omega) (by omega);rw[show l.high.length+1+bE l.prs - (l.high.length+1)=bE l.prs by omega]at e3;have hd:([76]++[c]++cW 2 nn++cQ l.high).length=4+l.high.length+1:=by simp[eK];omega
 have hl:=aa9 l.prs hsm.prs l.prs 0 ([76]++[c]++cW 2 nn++cQ l.high) rfl (λx hx=>by
  have q1:=(fd (hm x hx).1).2;have q2:=(hm x hx).2;simp only[eu,mI]at q2;omega) (by grind)
 have hfin:[76]++[c]++cW 2 nn++cQ l.high++eV l.prs=bA l:=by
  unfold bA sJ;grind
 rw[hfin]at hl;have w0:W b9 (l.prs.length:Int)=(l.prs.length:Int):=lr (by omega);have w1:W b9 (nn:Int)=(nn:Int):=lr (by omega);have hat:(4:Int)+(l.high.length:Int)+1=(([76]++[c]++cW 2 nn++cQ l.high).length:Nat):=by grind
 refine YT _ _ _ ?_ hl;unfold Oj;have s76:[UInt8.ofNat ((76:Int)).toNat]=([76]:Bs):=rfl
 rw[aQ (yA l hsm),bX,h,cN,be,aQ (LP l hsm),bL,s76,aQ (Sy e0 (by decide)),iD,dq,w0,
  aQ (yw e1 (by omega) (by grind)),iD,hnn,w1,aQ (yw e2 (by omega) (by grind)),iD,
  aQ (Bf e3 (by grind) (by grind)),d9,hat]
 rfl
def qj A t B (h:t.length<=255):d0 (A++(cQ t++B)) ((A.length))=(t,((A.length+1+t.length:Nat):Int),0):=by
 unfold d0;rw[bq];have hc:(UInt8.ofNat t.length).toNat=t.length:=by simp;omega
 grind
abbrev S6(ps:List Pr)(high:Bs)(next:Int)(at_:Nat):V:=.tup [.agg [.sl (bw ps),.str high,.int aB next],.int aB (at_:Int),.bool aD]
def S7(s:Bs)(hs:dS s)(n:Nat)(hn:n<=1000)(high:Bs)(next:Int):∀r dn (A:Bs),s=A++eV r->n=dn.length+r.length->(∀x∈r,x.1.length<=255/\x.2.length<=255) ->
  Go qk aE 0 (fF 175) (.head 1 (CE s (n:Int) (A.length:Int) (n:Int) (dn.length:Int) high next (bw dn))) (.done (S6 (dn++r) high next s.length))
 | [],dn,A,hA,hl,_=>by
  refine Um _ _ _ _ _ _ _ _ ?_ (.refl _);unfold K5;simp only[jo]at hl;rw[bF (by omega),hA];simp[eV]
 |x::r,dn,A,hA,hl,hx=>by
  obtain⟨hx1,hx2⟩:=hx x (by simp)
  have e1:d0 s (A.length:Nat)=(x.1,(((A++cQ x.1).length:Nat):Int),0):=by
   rw[hA,eV,c8,qj A x.1 _ hx1];grind
  have e2:d0 s (((A++cQ x.1).length:Nat):Int)=(x.2,(((A++cQ x.1++cQ x.2).length:Nat):Int),0):=by
   rw[hA,eV,c8,<-c8 A,qj (A++cQ x.1) x.2 _ hx2];grind
  have w:W b9 ((dn.length:Int)+1)=(((dn++[x]).length:Nat):Int):=by rw[lr (by omega)];simp
  have ih:=S7 s hs n hn high next r (dn++[x]) (A++cQ x.1++cQ x.2) (by rw[hA,eV];simp) (by grind) (λy hy=>hx y (by grind));rw[show dn++[x]++r=dn++x::r by simp]at ih
  refine Um _ _ _ _ _ _ _ _ (o:=.head 2 (qD s (n:Int) (A.length:Int) (n:Int) (dn.length:Int) 0 high next [] [] (bw dn))) ?_
   (ahf _ _ _ _ _ _ _ _ _ _ (o:=.head 2 (qD s (n:Int) ((A++cQ x.1).length:Nat) (n:Int) (dn.length:Int) 1 high next x.1 [] (bw dn))) ?_
   (ahg _ _ _ _ _ _ _ _ _ _ (o:=.head 2 (qD s (n:Int) ((A++cQ x.1++cQ x.2).length:Nat) (n:Int) (dn.length:Int) 2 high next x.1 x.2 (bw dn))) ?_
   (ahh _ _ _ _ _ _ _ _ _ _ ?_ ih)))
  ·unfold K5;grind
  ·unfold Uq;rw[aQ (lN e1 hs),d9,ef rfl,be]
  ·unfold Ur;rw[aQ (lN e2 hs),d9,ef rfl,be]
  ·unfold Us;rw[aS (aZ (by simp only[dq,d8,jo];omega)),w];simp[bw]
def af1(l:Lf)(h:cX l=aD):bP aJ 175 [.str (bA l)]=aA (S6 l.prs l.high l.next (bA l).length):=by
 have hsm:=tT h;obtain⟨h1,h2,h3,h4,h5⟩:=nL.1 h;have hm:=tW h1;have hg:=wF λx hx=>(hm x hx).1
 have hh:=tc h2;have hlen:=Ao l;have hs:dS (bA l):=by rw[dS,hlen];unfold iJ;omega
 have hpr:∀x∈l.prs,x.1.length<=255/\x.2.length<=255:=λx hx=>by
  have q1:=(fd (hm x hx).1).2;have q2:=(hm x hx).2;simp only[eu,mI]at q2;omega
 have g1:eY (bA l) 1 1=(((l.prs.length:Nat):Int),0):=by
  unfold eY;rw[bc (yD (by omega) (by omega) (by omega) (by rw[hlen];unfold iJ;omega))];have:(bA l).drop 1=UInt8.ofNat l.prs.length::(cW 2 l.next.toNat++(cQ l.high++eV l.prs)):=rfl;show(((dY (((bA l).drop 1).take 1):Nat):Int),(0:Int))=_;rw[this];simp[dY];omega
 have g2:eY (bA l) 2 2=(l.next,0):=by
  unfold eY;rw[bc (yD (by omega) (by omega) (by omega) (by rw[hlen];unfold iJ;omega))];have:(bA l).drop 2=cW 2 l.next.toNat++(cQ l.high++eV l.prs):=rfl;show(((dY (((bA l).drop 2).take 2):Nat):Int),(0:Int))=_;rw[this,MK (by rw[eK];omega),zq (by rw[eK];omega),F8 2 l.next.toNat (by omega)];grind
 have hA:(76::UInt8.ofNat l.prs.length::cW 2 l.next.toNat:Bs).length=4:=by simp[eK]
 have g3:d0 (bA l) 4=(l.high,(((76::UInt8.ofNat l.prs.length::(cW 2 l.next.toNat++cQ l.high):Bs).length:Nat):Int),0):=by
  have e:bA l=(76::UInt8.ofNat l.prs.length::cW 2 l.next.toNat)++(cQ l.high++eV l.prs):=rfl;have:=qj (76::UInt8.ofNat l.prs.length::cW 2 l.next.toNat) l.high (eV l.prs) (by omega);grind
 have hAA:bA l=(76::UInt8.ofNat l.prs.length::(cW 2 l.next.toNat++cQ l.high))++eV l.prs:=by simp[bA,sJ]
 generalize hAd:(76::UInt8.ofNat l.prs.length::(cW 2 l.next.toNat++cQ l.high):Bs)=A at g3 hAA;have w:W aB l.next=l.next:=bd (by omega);refine OL _ (o:=.head 0 (GB (bA l) (l.prs.length:Int) (A.length:Int) l.high l.next)) ?_ (ahb _ _ _ _ _ rfl ?_)
 ·unfold HM;rw[aQ (kR g1 hs),j5,aQ (kR g2 hs),j5,aQ (lN g3 hs),d9,ef rfl,be,be,be,w];rfl
 ·cases hp:l.prs with
  |nil =>
   refine Ul _ _ _ _ _ _ ?_ (.refl _);unfold K4;rw[hp]at hAA;rw[hAA];simp[eV,bw]
  |cons x r =>
   rw[hp]at hAA hpr;have hN:l.prs.length<=1000:=by omega
   rw[hp,d8]at hN;obtain⟨hx1,hx2⟩:=hpr x (by simp)
   have e1:d0 (bA l) (A.length:Nat)=(x.1,(((A++cQ x.1).length:Nat):Int),0):=by
    rw[hAA,eV,c8,qj A x.1 _ hx1];grind
   have e2:d0 (bA l) (((A++cQ x.1).length:Nat):Int)=(x.2,(((A++cQ x.1++cQ x.2).length:Nat):Int),0):=by
    rw[hAA,eV,c8,<-c8 A,qj (A++cQ x.1) x.2 _ hx2];grind
   have fin:=S7 (bA l) hs (r.length+1) hN l.high l.next r [x] (A++cQ x.1++cQ x.2) (by rw[hAA,eV];simp) (by grind) (λy hy=>hpr y (by grind));rw[d8]
   refine Ul _ _ _ _ _ _ (o:=.head 2 (qC (bA l) ((r.length+1:Nat):Int) (A.length:Int) ((r.length+1:Nat):Int) 0 l.high l.next [] [])) ?_
    (ahc _ _ _ _ _ _ _ _ (o:=.head 2 (qC (bA l) ((r.length+1:Nat):Int) ((A++cQ x.1).length:Nat) ((r.length+1:Nat):Int) 1 l.high l.next x.1 [])) ?_
    (ahd _ _ _ _ _ _ _ _ (o:=.head 2 (qC (bA l) ((r.length+1:Nat):Int) ((A++cQ x.1++cQ x.2).length:Nat) ((r.length+1:Nat):Int) 2 l.high l.next x.1 x.2)) ?_
    (ahe _ _ _ _ _ _ _ _ ?_ fin)))
   ·unfold K4;grind
   ·unfold Un;rw[aQ (lN e1 hs),d9,ef rfl,be]
   ·unfold Uo;rw[aQ (lN e2 hs),d9,ef rfl,be]
   ·unfold Up;rfl
def X6 l (h:cX l=aD):bP aJ 129 [.str (bA l)]=aA (.tup [eL l,.int aB 0]):=by
 have hsm:=tT h;obtain⟨h1,h2,h3,h4,h5⟩:=nL.1 h;have hh:=tc h2;have hlen:=Ao l;refine Ot _ ?_;unfold Dv;rw[bF (by rw[hlen];unfold iJ;omega),aQ (af1 l h),X3,be];rw[aQ (yA l hsm),h,cN,aS (by simp),bq,aS (by simp),jI,List.drop_length,aQ (Np [] (by grind))];rfl
def bD(l:List Pr):List Bs:=l.map (·.1)
def tp{l}{i:Nat}{x}(h:l[i]? = aA x):(bD l)[i]? = aA x.1:=by simp[bD,h]
def mO l:(bD l).length=l.length:=by simp[bD]
def Tn:∀{l p},iY p l=aD->(∀x∈l,lt p x.1=aD)/\ll (bD l)
 | [],_,_=>⟨λ_ h=>(by cases h),.nil⟩
 |y::l,p,h=>by
  simp[iY,cT]at h;obtain⟨h1,h2⟩:=Tn h.2;refine⟨λx hx=>?_,i7.2 ⟨λk hk=>?_,h2⟩⟩
  ·rcases dC.1 hx with rfl|hx
   ·grind
   ·exact lt_trans h.1.2 (h1 x hx)
  grind
def agh{l}(h:cX l=aD):ll (bD l.prs):=(Tn (nL.1 h).1).2
def XM(a b:Bs):bP aJ 158 [.str a,.str b]=aA (.int aB (if a==b then 0 else if lt a b then -1 else 1)):=ET (g:=Da) rfl rfl
def Is p (k:Bs):bP aJ 157 [pV p,.str k]=aA (.int aB (if p.1==k then 0 else if lt p.1 k then -1 else 1)):=by
 refine Zp _ _ _ ?_;unfold HF;rw[aQ (XM p.1 k),bL]
def NO a k:decide ((if a==k then 0 else if lt a k then -1 else 1) < 0)=lt a k:=by
 by_cases h:a=k
 ·subst h;rw[lF];simp
 grind
def XK a k:((if a==k then 0 else if lt a k then -1 else 1)==0)=(a==k):=by
 grind
def Xf(m:List Pr)(hs:ll (bD m))(k:Bs)(hl:m.length<=1000000):∀(d i j:Nat),j - i<=d->i<=cK (bD m) k->cK (bD m) k<=j->j<=m.length ->
  Go qk aE 0 (fF 156) (.head 0 (sC (bw m) k m.length i j)) (.done (.tup [.int aB (cK (bD m) k),.bool (cY (bD m) k)])):=by
 intro d
 induction d with
 |zero =>
  intro i j hd hi hj hn;have e:i=cK (bD m) k:=by omega
  refine KZ _ _ _ _ _ ?_ (.refl _);unfold Fx;rw[bF (by omega),be]
  by_cases bf:i < m.length
  ·have h1:m[i]? = aA m[i]:=cI bf;have e2:cY (bD m) k=(m[i].1==k):=by unfold cY;rw[<-e,tp h1]
   rw[<-e,aZ (by omega),bn,aS (by simp),bq,fG h1,fZ];rw[aQ (Is _ _),bL,e2,XK]
  ·have e2:cY (bD m) k=false:=by unfold cY;rw[<-e,wM (by rw[mO];omega)]
   grind
 |succ d ih =>
  intro i j hd hi hj hn
  by_cases hij:i < j
  ·have hh:=Qs (i:=i) (j:=j) (by omega);generalize hg:(i+j) / 2=h at hh;have h1:m[h]? = aA m[h]:=cI (by omega);have hlb:=Et hs k (tp h1);have w:W aB ((h:Int)+1)=((h+1:Nat):Int):=by rw[bd (by omega)];omega
   cases hx:lt m[h].1 k with
   |true =>
    refine KZ _ _ _ _ _ (o:=.head 0 (sC (bw m) k m.length ((h+1:Nat):Int) j)) ?_ (ih (h+1) j (by omega) (by grind) hj hn);unfold Fx;rw[aZ (by omega),bn,hh,aS (by simp),bq,fG h1,fZ];rw[aQ (Is _ _),bL,NO,hx,bn,w]
   |false =>
    have hge:cK (bD m) k<=h:=by
     grind
    refine KZ _ _ _ _ _ (o:=.head 0 (sC (bw m) k m.length i h)) ?_ (ih i h (by omega) hi hge (by omega));unfold Fx;rw[aZ (by omega),bn,hh,aS (by simp),bq,fG h1,fZ];rw[aQ (Is _ _),bL,NO,hx,be]
  grind
def Iu l (hs:ll (bD l.prs)) (hl:l.prs.length<=1000) (k:Bs):bP aJ 116 [eL l,.str k]=aA (.tup [.int aB (cK (bD l.prs) k),.bool (cY (bD l.prs) k)]):=by
 refine YM _ _ _ _ ?_;unfold Ht
 have:bP aJ 156 [.sl (bw l.prs),.str k,.fn 157 []]=aA (.tup [.int aB (cK (bD l.prs) k),.bool (cY (bD l.prs) k)]):=by
  refine Zo _ _ (o:=.head 0 (sC (bw l.prs) k l.prs.length (0:Nat) l.prs.length)) ?_ (Xf l.prs hs k (by omega) _ 0 l.prs.length (cZ _) (kz _) (by rw[<-mO];exact vu _ k) (cZ _));unfold OG;rw[dq];rfl
 rw[aQ this,sO]
def jG l:cC 2 (bw l)=true:=Mh λ_=>rfl
def abA l:((bw l).all λx=>x.cells.all js)=true:=by simp[bw,gV,js]
def yu l k:(bw l).take k=bw (l.take k):=by simp[bw]
def EV l k:(bw l).drop k=bw (l.drop k):=by simp[bw]
def Bc a b:bw a++bw b=bw (a++b):=by simp[bw]
def JJ(l w:List Pr)(i j:Nat)(hi:i<=l.length)(hj:j<=l.length)(hl:l.length<=1000)(hw:w.length<=1000) :
  bP aJ 117 [.sl (bw l),.int aB (i:Int),.int aB (j:Int),.sl (bw w)]=aA (.fr 41 (bw (l.take i++w++l.drop j))):=by
 refine YO _ _ _ _ ?_;unfold Hu;have hwl:W aB (((bw l).length:Int)+((bw w).length:Int))=((l.length+w.length:Nat):Int):=by rw[dq,dq,bd (by omega)];omega
 have hmid:(cA ((i:Int)).toNat (aI [aG [],aG []])).take 0++((bw l).take ((i:Int)).toNat).take (min ((bw l).take ((i:Int)).toNat).length ((cA ((i:Int)).toNat (aI [aG [],aG []])).length))++(cA ((i:Int)).toNat (aI [aG [],aG []])).drop (0+min ((bw l).take ((i:Int)).toNat).length ((cA ((i:Int)).toNat (aI [aG [],aG []])).length))=bw (l.take i):=by
  rw[bq,yu];have h1:(bw (l.take i)).length=i:=by rw[dq,jW];omega
  grind
 have hend:((bw l).take (bw l).length).drop ((j:Int)).toNat=bw (l.drop j):=by rw[jI,bq,EV]
 simp only[hmid,hend,hwl]
 rw[aS (by simp),aS (aZ (by omega)),aS (aZ (by grind)),aS (jG _),aS (by simp),aS (aZ (by rw[bq,dq];omega)),aS (by rw[bq,yu];exact jG _),
  aS (by simp),aS (jG _),aS (aZ (by simp only[dq,jW,jo];omega)),aS (jG _),aS (by simp),aS (aZ (by rw[bq,dq];omega)),aS (jG _),Bc,aS (aZ (by simp only[dq,gJ,jW,lh,jo];omega)),Bc,aS (abA _)]
set_option maxRecDepth 100000
def wE:∀a b:List Pr,bE (a++b)=bE a+bE b
 | [],b=>by simp[bE]
 |x::a,b=>by rw[gI,bE,bE,wE a b];omega
def zd l n:bE l=bE (l.take n)+bE (l.drop n):=by rw[<-wE,lj]
def Gb{x}(h1:cz x.1=aD)(h2:eu x.2=aD):3<=bE [x]/\bE [x]<=50:=by
 have:=fd h1;simp[eu,mI]at h2;simp[bE];omega
def V4:∀{l},(∀x∈l,cz x.1=aD/\eu x.2=aD)->bE l<=50 * l.length
 | [],_=>cZ _
 |x::r,h=>by
  have h1:=Gb (h x (by simp)).1 (h x (by simp)).2;have h2:=V4 (l:=r) λy hy=>h y (by grind)
  simp[bE,d8]at *
  omega
def JI l (i j:Nat) (hi:i<=l.length) (hj:j<=l.length) (hl:l.length<=1000):bP aJ 117 [.sl (bw l),.int aB i,.int aB j,.sl []]=aA (.fr 41 (bw (l.take i++l.drop j))):=by
 have:=JJ l [] i j hi hj hl (by simp)
 rwa [fR]at this
structure We(l:Lf):Prop where
 right:cX l=aD
 sm:jr l
 mem:∀x∈l.prs,cz x.1=aD/\eu x.2=aD
 ri:ll (bD l.prs)
 len:3 * l.prs.length<=bE l.prs
 wt:bE l.prs<=231
 high:l.high.length<=16
def lA{l}(h:cX l=aD):We l:=by
 have h1:=nL.1 h;have hm:=tW h1.1;exact⟨h,tT h,hm,agh h,wF λx hx=>(hm x hx).1,h1.2.2.2.2,tc h1.2.1⟩
def pb{m k}(h:cY m k=aD):∃h2:cK m k < m.length,m[cK m k]=k:=by
 unfold cY at h;grind
def xE(l:List Pr)(k:Bs):Bs:=(l[cK (bD l) k]?.getD ([],[])).2
def IK l (h:cX l=aD) (k:Bs):bP aJ 76 [eL l,.str k]=aA (if cY (bD l.prs) k then .tup [.str (xE l.prs k),.int aB 0] else .tup [.str [],.int aB 7]):=by
 have g:=lA h;have g1:=g.len;have g2:=g.wt;refine aaN _ _ _ _ ?_;unfold If;rw[aQ (yA l g.sm),bX,h,cN,aQ (Iu l g.ri (by omega) k),sO];cases hh:cY (bD l.prs) k with
 |false=>rfl
 |true =>
  obtain⟨h2,_⟩:=pb hh;rw[mO]at h2;have h3:=cI h2;rw[bq,fG h3,xE,h3];rfl
def du(l:List Pr)(k v:Bs):List Pr:=l.take (cK (bD l) k)++[(k,v)]++l.drop (if cY (bD l) k then cK (bD l) k+1 else cK (bD l) k)
abbrev kX:Lf:=⟨[],[],0⟩
def kj(l:Lf)(k v:Bs):V:=if bE (du l.prs k v)<=231 then .tup [eL ⟨du l.prs k v,l.high,l.next⟩,.int aB 0] else .tup [eL kX,.int aB 6]
def EX l k v:(du l k v).length<=l.length+1:=by
 have:=vu (bD l) k;unfold du;grind
def ru{l k v x}(h:x∈du l k v):x=(k,v)∨x∈l:=by
 unfold du at h;grind
def J2 l k v:bE (du l k v)<=bE l+bE [(k,v)]:=by
 have h1:=zd l (cK (bD l) k);have h2:=zd (l.drop (cK (bD l) k)) 1;rw[uC]at h2;unfold du;rw[wE,wE];grind
def P5 l:vh l=decide (bE l.prs<=231):=by
 unfold vh;grind
def SX l (h:cX l=aD) k v (hk:cz k=aD) (hv:eu v=aD) {q:R} :
  q=(aT aJ 116 [eL l,.str k] λr_3=>lu r_3 λi is=>cond is
   (aT aJ 117 [.sl (bw l.prs),.int aB i,.int aB (W aB (i+1)),.sl [.agg [.str k,.str v]]] λr_4=>kF 41 r_4 λo=>aT aJ 118 [.agg [.sl o,.str l.high,.int aB l.next]] λr_5=>kB r_5 λb=>cond (!b) (aA (.done (.tup [.agg [.sl [],.str [],.int aB 0],.int aB 6]))) (aA (.done (.tup [.agg [.sl o,.str l.high,.int aB l.next],.int aB 0]))))
   (aT aJ 117 [.sl (bw l.prs),.int aB i,.int aB i,.sl [.agg [.str k,.str v]]] λr_4=>kF 41 r_4 λo=>aT aJ 118 [.agg [.sl o,.str l.high,.int aB l.next]] λr_5=>kB r_5 λb=>cond (!b) (aA (.done (.tup [.agg [.sl [],.str [],.int aB 0],.int aB 6]))) (aA (.done (.tup [.agg [.sl o,.str l.high,.int aB l.next],.int aB 0]))))) ->
  q=aA (.done (kj l k v)):=by
 rintro rfl;have g:=lA h;have g1:=g.len;have g2:=g.wt;have hle:=vu (bD l.prs) k;rw[mO]at hle
 have hsm:jr ⟨du l.prs k v,l.high,l.next⟩:=by
  refine⟨by have:=EX l.prs k v;grind,λx hx=>?_,by have:=g.high;grind⟩;rcases ru hx with rfl|hx
  ·have:=(fd hk).2;simp only[eu]at hv;grind
  ·exact g.sm.pr x hx
 have e1:([.agg [.str k,.str v]])=bw [(k,v)]:=rfl;rw[aQ (Iu l g.ri (by omega) k),sO,e1];cases hh:cY (bD l.prs) k with
 |true =>
  obtain⟨h2,_⟩:=pb hh;rw[mO]at h2;have w:W aB (((cK (bD l.prs) k))+1)=((cK (bD l.prs) k+1:Nat)):=by rw[bd (by omega)];omega
  have ep:l.prs.take (cK (bD l.prs) k)++[(k,v)]++l.prs.drop (cK (bD l.prs) k+1)=du l.prs k v:=by unfold du;grind
  rw[w,aQ (JJ l.prs [(k,v)] _ _ hle (by omega) (by omega) (by simp)),lC,ep];have:=Iw ⟨du l.prs k v,l.high,l.next⟩ hsm;rw[P5]at this;rw[aQ this,bX];unfold kj
  by_cases hf:bE (du l.prs k v)<=231
  ·grind
  ·rw[bF hf,bh hf];rfl
 |false =>
  have ep:l.prs.take (cK (bD l.prs) k)++[(k,v)]++l.prs.drop (cK (bD l.prs) k)=du l.prs k v:=by unfold du;grind
  rw[aQ (JJ l.prs [(k,v)] _ _ hle (by omega) (by omega) (by simp)),lC,ep];have:=Iw ⟨du l.prs k v,l.high,l.next⟩ hsm;rw[P5]at this;rw[aQ this,bX];unfold kj
  by_cases hf:bE (du l.prs k v)<=231
  ·grind
  ·rw[bF hf,bh hf];rfl
def Bd l (h:cX l=aD) k v (hk:cz k=aD) (hv:eu v=aD) (hh:l.high=[]∨lt k l.high=aD):bP aJ 77 [eL l,.str k,.str v]=aA (kj l k v):=by
 have g:=lA h;refine aaP _ _ _ _ _ ?_;unfold Ig;rw[aQ (yA l g.sm),bX,h,cN,aQ (jB k),bX,hk,aQ (zb v),hv,be]
 by_cases e:l.high=[]
 ·rw[show(!l.high==[])=aE by grind];exact SX l h k v hk hv rfl
 ·have hl:Op.bytesLess k l.high=true:=hh.resolve_left e;rw[show(!l.high==[])=aD by grind,hl,cN];exact SX l h k v hk hv rfl
def gC(l:List Pr)(k:Bs):List Pr:=l.take (cK (bD l) k)++l.drop (cK (bD l) k+1)
def Hc l (h:cX l=aD) (k:Bs):bP aJ 80 [eL l,.str k]=aA (if cY (bD l.prs) k then .tup [eL ⟨gC l.prs k,l.high,l.next⟩,.int aB 0] else .tup [eL kX,.int aB 7]):=by
 have g:=lA h;have g1:=g.len;have g2:=g.wt;refine aaU _ _ _ _ ?_;unfold Ih;rw[aQ (yA l g.sm),bX,h,cN,aQ (Iu l g.ri (by omega) k),sO];cases hh:cY (bD l.prs) k with
 |false=>rfl
 |true =>
  obtain⟨h2,_⟩:=pb hh;rw[mO]at h2;have w:W aB (cK (bD l.prs) k+1)=(cK (bD l.prs) k+1:Nat):=by rw[bd (by omega)];omega
  rw[w,aQ (JI l.prs _ _ (by omega) (by omega) (by omega))];rfl
def lY(A:Nat):Nat->List Pr->Nat
 |_,[]=>0
 |_,[_]=>0
 |had,x::y::r=>if 2 * had < A then 1+lY A (had+bE [x]) (y::r) else 0
def d7(l:List Pr):Nat:=match l with | []=>0 | [_]=>0|x::y::r=>1+lY (bE l) (bE [x]) (y::r)
def qh(l:Lf)(pg:Int)(n:Nat):V:=.tup [eL ⟨l.prs.take n,(l.prs[n]?.getD ([],[])).1,pg+1⟩,eL ⟨l.prs.drop n,l.high,l.next⟩,.int aB 0]
def Va l (hl:l.prs.length<=1000) pg (hp:0<=pg/\pg < 1024) (n:Nat) (hn:n < l.prs.length) {q} :
  q=(aT aJ 117 [.sl (bw l.prs),.int aB (n),.int aB (bw l.prs).length,.sl []] λr_2=>kF 41 r_2 λa=>gd (decide (0<=(n:Int)))<|bk (bw l.prs) ((n:Int)).toNat λv=>eJ v λkey _=>aT aJ 117 [.sl (bw l.prs),.int aB 0,.int aB n,.sl []] λr_3=>kF 41 r_3 λb =>
   aA (.done (.tup [.agg [.sl a,.str key,.int aB (W aB (pg+1))],.agg [.sl b,.str l.high,.int aB l.next],.int aB 0]))) ->
  q=aA (.done (qh l pg n)):=by
 have h1:=cI hn;have o1:=JI l.prs n l.prs.length (by omega) (by omega) hl;have o2:bP aJ 117 [.sl (bw l.prs),.int aB 0,.int aB (n),.sl []]=aA (.fr 41 (bw (l.prs.take 0++l.prs.drop n))):=JI l.prs 0 n (by omega) (by omega) hl;rw[dq,aQ o1,lC,aS (by simp),bq,fG h1,fZ,aQ o2,lC,bd (by omega)];unfold qh;grind
def ah9(l:Lf)(hl:l.prs.length<=1000)(hs:∀p∈l.prs,p.1.length<=1000/\p.2.length<=1000)(pg:Int)(hp:0<=pg/\pg < 1024)(A:Nat):∀(r:List Pr) (n had:Nat),l.prs.drop n=r->r≠[]->0 < n->had<=2002 * n ->
  Go qk aE 0 (fF 122) (.head 0 (sA pg (A:Int) (n:Int) (had:Int) (bw l.prs) l.high l.next)) (.done (qh l pg (n+lY A had r))):=by
 intro r
 induction r with
 |nil=>grind
 |cons x r ih =>
  intro n had hr _ hn hhad;obtain⟨h1,h2,h3⟩:=dZ hr;have hx:=hs x (dH h1);have w1:W aB (((bw l.prs).length:Int) - 1)=((l.prs.length - 1:Nat):Int):=by rw[dq,bd (by omega)];omega
  have hrl:r.length+n+1=l.prs.length:=by
   grind
  have w2:W aB (2 * (had:Int))=((2 * had:Nat):Int):=by rw[bd (by omega)];omega
  cases hrr:r with
  |nil =>
   subst hrr;simp only[jo]at hrl;refine Fo _ _ _ _ _ _ _ ?_ (.refl _);unfold Bw;rw[w1,bF (by omega),be];exact Va l hl pg hp n (by omega) rfl
  |cons y t =>
   have hrt:r.length=t.length+1:=by grind
   unfold lY
   by_cases hA:2 * had < A
   ·rw[bc hA];have:=ih (n+1) (had+bE [x]) h2 (by grind) (by omega) (by simp only[bE];omega);rw[hrr,ky]at this;refine Fo _ _ _ _ _ _ _ (o:=.head 0 (sA pg (A:Int) ((n+1:Nat):Int) ((had+bE [x]:Nat):Int) (bw l.prs) l.high l.next)) ?_ this;unfold Bw;have w3:W aB ((n:Int)+1)=((n+1:Nat):Int):=by rw[bd (by omega)];omega
    have w4:W aB ((had:Int)+((2+x.1.length+x.2.length:Nat):Int))=((had+bE [x]:Nat):Int):=by simp only[bE];rw[bd (by omega)];omega
    rw[w1,aZ (by omega),bn,ew (by omega),be,w2,aZ (by omega),bn,bq,fG h1,fZ];show(aT aJ _ [pV x] _)=_;rw[aQ (Mg x hx.1 hx.2),bL,w3,w4]
   ·rw[bh hA];refine Fo _ _ _ _ _ _ _ ?_ (.refl _);unfold Bw;rw[w1,aZ (by omega),bn,ew (by omega),be,w2,bF (by omega),be];exact Va l hl pg hp n (by omega) rfl
def ah8(l:Lf)(h:cX l=aD)(h2:2<=l.prs.length)(pg:Int)(hp:0<=pg/\pg < 1024):bP aJ 122 [eL l,.int aB pg]=aA (qh l pg (d7 l.prs)):=by
 have g:=lA h;have g1:=g.len;have g2:=g.wt;have g3:=g.high
 obtain⟨x,y,r,hx⟩:∃x y r,l.prs=x::y::r:=by
  match hl:l.prs,h2 with
  |x::y::r,_=>grind
 have hpx:=g.sm.pr x (by grind);have h0:l.prs[0]? = aA x:=by grind
 have hd:l.prs.drop 1=y::r:=by grind
 have:=ah9 l (by omega) g.sm.pr pg hp (bE l.prs) (y::r) 1 (bE [x]) hd (by simp) (by omega) (by simp only[bE];omega);have eh:d7 l.prs=1+lY (bE l.prs) (bE [x]) (y::r):=by rw[hx];rfl
 rw[<-eh]at this;refine YU _ _ _ _ (o:=.head 0 (sA pg ((bE l.prs:Nat):Int) 0 0 (bw l.prs) l.high l.next)) ?_ (Fo _ _ _ _ _ _ _ (o:=.head 0 (sA pg ((bE l.prs:Nat):Int) ((1:Nat):Int) ((bE [x]:Nat):Int) (bw l.prs) l.high l.next)) ?_ this)
 ·unfold Om
  have hsz:W aB (W aB (W aB ((iJ l:Nat) - (4:Int)) - 1) - (l.high.length:Int))=((bE l.prs:Nat):Int):=by
   unfold iJ;rw[bd (n:=(((5+l.high.length+bE l.prs:Nat):Int) - 4)) (by omega),bd (n:=(((5+l.high.length+bE l.prs:Nat):Int) - 4 - 1)) (by omega),bd (by omega)];omega
  rw[aQ (yA l g.sm),bX,h,cN,be,dq,bF (by omega),be,bF (by omega),be,bF (by omega),be,aQ (LP l g.sm),bL,hsz]
 ·unfold Bw;have w1:W aB (((bw l.prs).length:Int) - 1)=((l.prs.length - 1:Nat):Int):=by rw[dq,bd (by omega)];omega
  have w4:W aB (0+((2+x.1.length+x.2.length:Nat):Int))=((bE [x]:Nat):Int):=by simp only[bE];rw[bd (by omega)];omega
  have h00:l.prs[((0:Int)).toNat]? = aA x:=h0;rw[w1,aZ (by omega),fG h00,fZ];rw[aQ (Mg x hpx.1 hpx.2),bL,w4];rfl
def NQ(A:Nat):∀(r:List Pr) (had:Nat),(∀x∈r,bE [x]<=50)->r≠[]->had<=165->had+bE r=A->2 * had < A+100->A<=231 ->
  lY A had r < r.length/\had+bE (r.take (lY A had r))<=165/\bE (r.drop (lY A had r))<=116
 | [],_,_,h,_,_,_,_=>fY rfl h
 | [x],had,hw,_,h1,h2,_,_=>by
  have:=hw x (by simp);simp only[lY,Gt,wK,d8,jo];simp only[bE]at *
  omega
 |x::y::r,had,hw,_,h1,h2,h3,hA=>by
  have hx:=hw x (by simp);unfold lY
  by_cases h:2 * had < A
  ·rw[bc h];have ih:=NQ A (y::r) (had+bE [x]) (λz hz=>hw z (by grind)) (by simp) (by omega) (by simp only[bE]at *;omega) (by omega) hA;rw[so 1];simp only[Cf,List.drop_succ_cons,d8]at *
   refine⟨by omega,?_,ih.2.2⟩;have:=ih.2.1;simp only[bE]at *
   omega
  ·rw[bh h];simp only[Gt,wK,d8,bE]at *
   omega
def Qt{l}(h2:2<=l.length)(hw:∀x∈l,bE [x]<=50)(hA:bE l<=231):0 < d7 l/\d7 l < l.length/\bE (l.take (d7 l))<=165/\bE (l.drop (d7 l))<=116:=by
 match l,h2 with
 |x::y::r,_ =>
  have hx:=hw x (by simp);have:=NQ (bE (x::y::r)) (y::r) (bE [x]) (λz hz=>hw z (by grind)) (by simp) (by omega) (by simp only[bE];omega) (by simp[bE]at *;omega) hA;have e:d7 (x::y::r)=lY (bE (x::y::r)) (bE [x]) (y::r)+1:=so 1 _;rw[e];simp only[Cf,d8]at *
  refine⟨by omega,by omega,?_,this.2.2⟩;simp[bE]at *
  omega
def SB{n:dp}(h:cy n=aD)(k:Nat)(hk:fg n+k<=252):ki (cR n++fW k)=aA n:=by
 obtain⟨h1,h2,h3,h4,h5,h6,h7⟩:=k6 h;have hg:=oN h3;have hlen:(cR n++fW k).length=fg n+k:=by simp[uZ h]
 obtain⟨nn,hnn⟩:∃nn:Nat,n.next=(nn:Int):=⟨n.next.toNat,by omega⟩
 obtain⟨k0,ks,hks⟩:∃k ks,n.kids=k::ks:=by
  cases hk:n.kids with
  |nil=>grind
  |cons k ks=>grind
 have hk0:=rq (h2 k0 (by grind));obtain⟨kn,rfl⟩:∃kn:Nat,k0=(kn:Int):=⟨k0.toNat,by omega⟩
 have hkl:ks.length=n.seps.length:=by grind
 have hz:=Ml h;rw[hks,List.tail_cons]at hz
 have e0:cR n++fW k=78::UInt8.ofNat n.seps.length::(cW 2 nn++(cQ n.high++cW 2 kn++(eO (n.seps.zip ks)++fW k))):=by
  unfold cR ni xH;grind
 have hl2:=eK 2 nn;have hun:dY (cW 2 nn)=nn:=F8 2 nn (by grind);have e1:(cR n++fW k).drop 4=cQ n.high++cW 2 kn++(eO (n.seps.zip ks)++fW k):=by grind
 have e2:((cR n++fW k).drop 2).take 2=cW 2 nn:=by grind
 have e3:(cR n++fW k).getD 1 0=UInt8.ofNat n.seps.length:=by grind
 have e4:(UInt8.ofNat n.seps.length).toNat=(n.seps.zip ks).length:=by simp;omega
 have e5:(cR n++fW k).head? = aA 78:=by grind
 unfold ki;rw[bh (by grind),e1,Sv (by omega) (by omega),bu];simp only;rw[e3,e4,Sx _ _ hz,bu,e2,hun];have e6:(n.seps.zip ks).map (·.1)=n.seps:=List.map_fst_zip (by omega);have e7:(n.seps.zip ks).map (·.2)=ks:=List.map_snd_zip (by omega);simp only[e6,e7]
 have e8:(⟨n.seps,(kn:Int)::ks,n.high,(nn:Int)⟩:dp)=n:=by
  rw[<-hks,<-hnn]
 rw[e8];unfold oc;rw[h,GN.2 (by simp)];rfl
def Nj:∀{l k j s},j < gp l k->l[j]? = aA s->lt k s=aE
 | [],k,j,s,h,_=>by grind
 |x::l,k,j,s,h,hs=>by
  rw[sH]at h;cases hx:lt k x with
  |true=>grind
  |false =>
   rw[hx]at h;cases j with
   |zero=>grind
   |succ j=>exact Nj (l:=l) (by simpa using h) (by grind)
def Nk:∀{l k s},l[gp l k]? = aA s->lt k s=aD
 | [],k,s,h=>by grind
 |x::l,k,s,h=>by
  rw[sH]at h;cases hx:lt k x with
  |true=>grind
  |false =>
   exact Nk (l:=l) (by grind)
def adg s a (p:Bs):(s::a).getLastD p=a.getLastD s:=by
 grind
def QV:∀(a b:List Bs) p,(a++b).getLastD p=b.getLastD (a.getLastD p)
 | [],b,p=>rfl
 |s::a,b,p=>by grind
def Fa:∀a b p,ff p (a++b)=(ff p a && ff (a.getLastD p) b)
 | [],b,p=>rfl
 |s::a,b,p=>by rw[gI,ff,ff,Fa a b s];all_goals grind
def adh{a}(h:a≠[])(p:Bs):a[a.length - 1]? = aA (a.getLastD p):=by
 cases a with
 |nil=>grind
 |cons s a =>
  grind
def y4:∀a b:List Bs,db (a++b)=db a+db b
 | [],b=>by simp[db]
 |s::a,b=>by simp[gI,db,y4 a b];omega
def tU{n}:cy n=aD↔n.kids.length=n.seps.length+1/\(∀k∈n.kids,eD k=aD)/\ff [] n.seps=aD/\gt (n.seps.getLastD []) n.high=aD/\qO n=true:=by
 unfold cy;grind
def u4{n}:qO n=aD↔0<=n.next/\n.next<=1024/\23+db n.seps<=252:=by
 unfold qO kN;grind
structure MU(n:dp)(key:Bs)(kid:Int):Prop where
 right:cy n=aD
 isKey:cz key=aD
 high:(n.high==[] ||lt key n.high)=aD
 page:eD kid=aD
 new:¬(0 < gp n.seps key/\n.seps[gp n.seps key - 1]? = aA key)
 fit:kN (jT n key kid (gp n.seps key))=aD
def afE{n:dp}{key:Bs}{kid:Int}(h:MU n key kid):cy (jT n key kid (gp n.seps key))=true:=by
 obtain⟨hr,hk,hh,hp,hn,hf⟩:=h;obtain⟨r1,r2,r3,r4,r5⟩:=tU.1 hr;obtain⟨e1,e2,e3⟩:=u4.1 r5;have hle:=GM n.seps key;generalize hi:gp n.seps key=i at hn hf hle |-
 obtain⟨A,hA⟩:∃A,A=n.seps.take i:=⟨_,rfl⟩
 obtain⟨B,hB⟩:∃B,B=n.seps.drop i:=⟨_,rfl⟩
 have hAB:n.seps=A++B:=by simp_all
 have hAl:A.length=i:=by grind
 rw[hAB,Fa]at r3;simp only[cT]at r3
 have hlast:lt (A.getLastD []) key=true:=by
  by_cases h0:A=[]
  ·rw[h0];exact qU hk
  ·have hi0:0 < i:=by
    grind
   have hg:=adh h0 [];rw[hAl]at hg
   have hg2:n.seps[i - 1]? = aA (A.getLastD []):=by
    grind
   have h1:lt key (A.getLastD [])=false:=Nj (l:=n.seps) (by omega) hg2;refine pK h1 λe=>hn ⟨hi0,?_⟩
   grind
 have hBr:ff key B=true:=by
  cases hB2:B with
  |nil=>rfl
  |cons s r =>
   rw[hB2]at r3;have r32:=r3.2;simp only[ff,cT]at r32 |-
   have:lt key s=true:=Nk (l:=n.seps) (by grind);grind
 have hseps:(jT n key kid i).seps=A++(key::B):=by
  grind
 refine tU.2 ⟨?_,?_,?_,?_,?_⟩
 ·grind
 ·grind
 ·rw[hseps,Fa,ff,r3.1,hk,hlast,hBr];rfl
 ·rw[hseps,QV,adg];rw[hAB,QV]at r4;cases hB2:B with
  |nil =>
   show gt key n.high=aD;rw[hB2]at r4;unfold gt at r4 |-
   grind
  |cons s r=>grind
 ·refine u4.2 ⟨e1,e2,?_⟩;unfold kN at hf;grind
def agp{p l}(h:ff p l=aD):ff [] l=true:=by
 cases l with
 |nil=>rfl
 |cons s r =>
  simp[ff,cT]at h |-
  exact⟨⟨h.1.1,qU h.1.1⟩,h.2⟩
def Vd{n}(hr:cy n=aD)(h3:3<=n.kids.length):∃A mid B,n.seps=A++mid::B/\A.length=n.seps.length / 2/\n.seps.getD (n.seps.length / 2) []=mid/\n.seps.take (n.seps.length / 2)=A/\n.seps.drop (n.seps.length / 2+1)=B:=by
 obtain⟨r1,_⟩:=tU.1 hr;have hm:n.seps.length / 2 < n.seps.length:=by omega
 generalize n.seps.length / 2=m at hm;refine⟨n.seps.take m,n.seps[m],n.seps.drop (m+1),?_,by grind,?_,rfl,rfl⟩
 all_goals simp_all
def aia{n:dp}{to:Int}(hr:cy n=aD)(h3:3<=n.kids.length)(ht:eD to=aD):cy (rJ n to)=aD/\cy (rK n)=true:=by
 obtain⟨A,mid,B,e1,e2,e3,e4,e5⟩:=Vd hr h3;obtain⟨r1,r2,r3,r4,r5⟩:=tU.1 hr;obtain⟨g1,g2,g3⟩:=u4.1 r5;have ht2:=rq ht;have r3':=r3;rw[e1,Fa,ff]at r3';simp only[cT]at r3';obtain⟨rA,⟨⟨kM,lM⟩,rB⟩⟩:=r3';have hz:db n.seps=db A+(3+mid.length+db B):=by rw[e1,y4,db]
 constructor
 ·refine tU.2 ⟨?_,?_,?_,?_,?_⟩
  ·grind
  ·grind
  ·grind
  ·show gt ((n.seps.take _).getLastD []) (n.seps.getD _ [])=aD;rw[e4,e3];unfold gt;grind
  ·refine u4.2 ⟨by grind,by grind,?_⟩;grind
 ·refine tU.2 ⟨?_,?_,?_,?_,?_⟩
  ·grind
  ·grind
  ·show ff [] (n.seps.drop _)=aD;rw[e5];exact agp rB
  ·show gt ((n.seps.drop _).getLastD []) n.high=aD;rw[e5];cases B with
   |nil =>
    unfold gt at r4 |-
    cases hq:n.high==[]with
    |true=>rfl
    |false =>
     rw[hq]at r4;simp only[rV,cT]at r4 |-
     exact⟨r4.1,qU r4.1⟩
   |cons s r=>grind
  ·refine u4.2 ⟨g1,g2,?_⟩;grind
abbrev Es:=List (Int × Bs)
def bZ(es:Es):List (V × V):=es.map λx=>(aC aB x.1,aG x.2)
def c7:Es->Int->Option Bs
 | [],_=>aF
 |(a,x)::es,p=>if p=a then aA x else c7 es p
def bQ:Es->Int->Bs->Es
 | [],p,x=>[(p,x)]
 |(a,y)::es,p,x=>if p=a then (a,x)::es else (a,y)::bQ es p x
def fo:Es->Int->Es
 | [],_=>[]
 |(a,y)::es,p=>if p=a then es else (a,y)::fo es p
def Aq p a:fE (.int aB p) (.int aB a)=aA (decide (p=a)):=by
 by_cases h:p=a
 ·subst h;simp[fE]
 ·simp[fE,h]
def Jq p:∀es:Es,gj (bZ es) (.int aB p)=aA ((c7 es p).map aG)
 | []=>rfl
 |(a,x)::es=>by
  show((fE (.int aB p) (.int aB a)).bind λb=>if b then aA (aA (aG x)) else gj (bZ es) (.int aB p))=_;rw[Aq,Jq p es,c7];grind
def Jz p (b:Bs):∀es:Es,kg (bZ es) (.int aB p) (.str b)=aA (bZ (bQ es p b))
 | []=>rfl
 |(a,x)::es=>by
  show((fE (.int aB p) (.int aB a)).bind λq=>if q then aA ((aC aB a,aG b)::bZ es) else (kg (bZ es) (.int aB p) (.str b)).map ((aC aB a,aG x)::·))=_;rw[Aq,Jz p b es,bQ]
  by_cases h:p=a
  ·rw[aZ h,bc h];rfl
  ·rw[bF h,bh h];rfl
def Ry p:∀es:Es,nI (bZ es) (.int aB p)=aA (bZ (fo es p))
 | []=>rfl
 |(a,x)::es=>by
  show((fE (.int aB p) (.int aB a)).bind λq=>if q then aA (bZ es) else (nI (bZ es) (.int aB p)).map ((aC aB a,aG x)::·))=_;rw[Aq,Ry p es,fo]
  by_cases h:p=a
  ·grind
  ·rw[bF h,bh h];rfl
def bo(es:Es):List Int:=es.map (·.1)
def vk{p}:∀{es},c7 es p=aF↔p∉bo es
 | []=>by simp[c7,bo]
 |(a,x)::es=>by
  rw[c7]
  by_cases h:p=a
  ·simp[bo,h]
  ·rw[bh h,vk];simp[bo,h]
def gY{p b}:∀{es},(bo es).Nodup->(p,b)∈es->c7 es p=aA b
 |(a,x)::es,hn,h=>by
  have hn:=nP.1 hn;rw[c7];rcases dC.1 h with h1|h1
  ·grind
  ·have hp:=List.mem_map_of_mem (f:=(·.1)) h1;rw[bh λe:p=a=>hn.1 (e ▸ hp)];exact gY hn.2 h1
def SV{p b b'}{B:Es}:∀{A},p∉bo A->bQ (A++(p,b)::B) p b'=A++(p,b')::B
 | [],_=>bc rfl
 |(a,x)::A,h=>by
  have h1:p≠a:=λe=>h (by simp[bo,e])
  rw[gI,bQ,bh h1,SV λq=>h (by simp only[bo,fJ,dC];exact .inr q)];rfl
def v7{p b}:∀{es},p∉bo es->bQ es p b=es++[(p,b)]
 | [],_=>rfl
 |(a,x)::es,h=>by
  have h1:p≠a:=λe=>h (by simp[bo,e])
  rw[bQ,bh h1,v7 λq=>h (by simp only[bo,fJ,dC];exact .inr q)];rfl
def Hd{p b}{B:Es}:∀{A},p∉bo A->fo (A++(p,b)::B) p=A++B
 | [],_=>bc rfl
 |(a,x)::A,h=>by
  have h1:p≠a:=λe=>h (by simp[bo,e])
  rw[gI,fo,bh h1,Hd λq=>h (by simp only[bo,fJ,dC];exact .inr q)];rfl
def SI{es r:Es}{p b}(hn:(bo es).Nodup)(h:es.Perm ((p,b)::r)):∃A B,es=A++(p,b)::B/\r.Perm (A++B)/\p∉bo A:=by
 obtain⟨A,B,rfl⟩:=List.append_of_mem (h.mem_iff.2 dl ..);refine⟨A,B,rfl,(h.symm.trans zp).cons_inv,?_⟩;unfold bo at hn;rw[li]at hn;have:=(uG.1 hn).2.2;intro hp;exact this p hp p (by simp) rfl
def nD{es r:Es}{p b}(hn:(bo es).Nodup)(h:es.Perm ((p,b)::r)):c7 es p=aA b:=gY hn (h.mem_iff.2 dl ..)
def jU{es r:Es}{p b b'}(hn:(bo es).Nodup)(h:es.Perm ((p,b)::r)):(bQ es p b').Perm ((p,b')::r):=by
 obtain⟨A,B,rfl,h2,h3⟩:=SI hn h;rw[SV h3];grind
def Do{es r:Es}{p b}(hn:(bo es).Nodup)(h:es.Perm ((p,b)::r)):(fo es p).Perm r:=by
 obtain⟨A,B,rfl,h2,h3⟩:=SI hn h;rw[Hd h3];grind
def oG{es p b}(h:p∈bo es):bo (bQ es p b)=bo es:=by
 induction es with
 |nil=>simp[bo]at h
 |cons x es ih =>
  obtain⟨a,x⟩:=x;rw[bQ]
  by_cases e:p=a
  ·rw[bc e];rfl
  ·rw[bh e]
   have h:p∈bo es:=by
    rcases dC.1 h with h|h
    ·grind
    ·exact h
   show a::bo (bQ es p b)=a::bo es;grind
def bi(es:Es)(k:Nat):Bool:=decide ((k:Int)∈bo es)
def Md{es es'}(h:∀p,p∈bo es↔p∈bo es'):bi es=bi es':=by
 unfold bi;grind
structure cH(n:Nat)(es:Es):Prop where
 le:n<=1024
 nd:(bo es).Nodup
 rng:∀p∈bo es,0<=p/\p < (n:Int)
def RY:∀{l:List Int},l.Nodup->(∀p∈l,0<=p)->(l.map Int.toNat).Nodup
 | [],_,_=>Gs
 |a::l,h,h0=>by
  have h:=nP.1 h;refine nP.2 ⟨λq=>?_,RY h.2 λp hp=>h0 p (by grind)⟩;have h1:=h0 a (by simp);grind
def abu{p}{l:List Nat}(h:l.Nodup):(l.filter p).Nodup:=List.Pairwise.filter p h
def uq{n es}(h:cH n es):(fO n (bi es)).length=es.length:=by
 unfold fO;rw[gm];have hn:=RY h.nd λp hp=>(h.rng p hp).1
 have:((eQ n).filter (bi es)).Perm ((bo es).map Int.toNat):=by
  rw[Wl (abu List.nodup_range) hn];intro k;rw[si,fi];unfold bi;constructor
  ·grind
  ·rintro⟨q,hq,rfl⟩;have:=h.rng q hq;grind
 rw[this.length_eq,gm,bo,gm]
def vy{n es}(h:cH n es):es.length<=n:=by rw[<-uq h];exact Mb _ _
def II{n es}(h:cH n es)(hl:es.length < n):∃k,k < n/\kK n (bi es)=aA k/\(k:Int)∉bo es:=by
 cases hf:kK n (bi es)with
 |none =>
  unfold kK at hf
  have hall:(eQ n).filter (bi es)=eQ n:=My.2 λk hk=>by
   grind
  have:=uq h;unfold fO at this;grind
 |some k =>
  have h1:=List.mem_of_find?_eq_some hf;have h2:=List.find?_some hf;simp[bi,decide_eq_false_iff_not]at h2;grind
def i4{n es}(h:cH n es){p b}(hp:p∈bo es):cH n (bQ es p b):=by
 refine⟨h.le,?_,?_⟩
 ·rw[oG hp];exact h.nd
 ·rw[oG hp];exact h.rng
def qW{es p b}(h:p∉bo es):bo (bQ es p b)=bo es++[p]:=by
 rw[v7 h];simp[bo]
def qg{n es}(h:cH n es){k}(hk:k < n)(hp:(k:Int)∉bo es){b}:cH n (bQ es k b):=by
 refine⟨h.le,?_,?_⟩
 ·rw[qW hp];refine uG.2 ⟨h.nd,by simp,?_⟩;grind
 ·rw[qW hp];intro p hq;rcases cG.1 hq with hq|hq
  ·exact h.rng p hq
  grind
abbrev sM(n:Nat)(es:Es):List O:=sm (n:Int) (bZ es) (bI n (bi es))
def yy{n es}(h:cH n es){p b}(hg:c7 es p=aA b):bW aJ aU 58 [.ptr 0 0 0,.int aB p] (sM n es)=aA (pN (sM n es) (b,0)):=by
 have hp:=Classical.byContradiction λq=>by rw[vk.2 q]at hg;grind
 have hr:=h.rng p hp;refine O6 _ _ _ _ (o:=.doneM (.tup [.str b,.int aB 0]) (sM n es)) ?_ (.done (by kernel_rfl));unfold H8;have hm:gj (bZ es) (.int aB p)=aA (aA (.str b)):=by rw[Jq,hg];rfl
 rw[bF (by omega),be,bF (by omega),be,ad7 hm,de]
def VZ{n es}(h:cH n es){p}{b b':Bs}(hg:c7 es p=aA b)(hb:b'.length<=252):bW aJ aU 119 [.ptr 0 0 0,.int aB p,.str b'] (sM n es)=aA (xX (0,n,bZ (bQ es p b'),bI n (bi (bQ es p b')))):=by
 have hp:=Classical.byContradiction λq=>by rw[vk.2 q]at hg;grind
 have ht:bi (bQ es p b')=bi es:=Md λq=>by rw[oG hp]
 rw[ht];refine YS _ _ _ _ _ (o:=.doneM (.int aB 0) (sm n (bZ (bQ es p b')) (bI n (bi es)))) ?_ (.done (by kernel_rfl));unfold Oh;rw[co tI (yy h hg),bN,ef rfl,be,bF (by omega),be,Jz,mS]
def F4{n es}(h:cH n es){k}(hk:kK n (bi es)=aA k)(hq:(k:Int)∉bo es):bW aJ aU 84 [.ptr 0 0 0] (sM n es)=aA (pO (k,0,n,bZ (bQ es k []),bI n (bi (bQ es k [])))):=by
 have ht:bi (bQ es k [])=eA (bi es) k true:=by
  unfold eA bi;rw[qW hq];grind
 rw[ht];refine aaX _ _ _ (o:=.doneM (.tup [.int aB k,.int aB 0]) (sm n (bZ (bQ es k [])) (bI n (eA (bi es) k aD)))) ?_ (.done (by kernel_rfl));unfold Pg;rw[cL RJ (aiB n h.le (bi es) k hk),dL rfl,bn,Jz,mS]
def IG{n es}(h:cH n es):bW aJ aU 44 [.ptr 0 0 0] (sM n es)=aA (vI (sM n es) (n - es.length:Nat)):=by
 refine aap _ _ _ (o:=.doneM (.int aB (n - es.length:Nat)) (sM n es)) ?_ (.done (by kernel_rfl));unfold OZ;rw[co aez (abR n h.le (bi es)),bN,DZ,uq h]
abbrev Su:=List (Int × Bs)
def bp(e:Su):Bs:=(e.getLastD (0,[])).2
abbrev aX(e:Su)(nx:Int):dp:=⟨e.dropLast.map (·.2),e.map (·.1),bp e,nx⟩
def iE a {b:Su} (h:b≠[]):bp (a++b)=bp b:=by
 unfold bp;rw[MD,MD,List.getLast?_append];cases hb:b.getLast? with
 |none=>simp_all
 |some x=>rfl
def mN x {b:Su} (h:b≠[]):bp (x::b)=bp b:=iE [x] h
def N9(a:Su) x (b:Su):(a++x::b).dropLast=a++(x::b).dropLast:=Wg (by simp)
def FO{e:Su}:(e.dropLast.map (·.2)).length=e.length - 1:=by simp
def NR(k:Bs):∀(e:Su),e≠[]->∃e1 p h e2,e=e1++(p,h)::e2/\gp (e.dropLast.map (·.2)) k=e1.length/\(∀y∈e1,lt k y.2=aE)/\(e2≠[]->lt k h=aD)
 | [],h=>fY rfl h
 | [(p,h)],_=>⟨[],p,h,[],rfl,rfl,by simp,by simp⟩
 |(p,h)::y::r,_=>by
  rw[List.dropLast_cons_cons,fJ,sH];cases hk:lt k h with
  |true=>exact⟨[],p,h,y::r,rfl,by simp,by simp,λ_=>hk⟩
  |false =>
   obtain⟨e1,p',h',e2,e,h1,h2,h3⟩:=NR k (y::r) (by simp);grind
def Ni k:∀(e1:Su) p h (e2:Su),(∀y∈e1,lt k y.2=aE)->(e2≠[]->lt k h=aD)->gp ((e1++(p,h)::e2).dropLast.map (·.2)) k=e1.length
 | [],p,h,[],_,_=>rfl
 | [],p,h,y::r,_,h2=>by
  rw[il,List.dropLast_cons_cons,fJ,sH,h2 (by simp)];rfl
 |x::e1,p,h,e2,h1,h2=>by
  have ih:=Ni k e1 p h e2 (λy hy=>h1 y (by grind)) h2
  have:(x::e1++(p,h)::e2).dropLast=x::(e1++(p,h)::e2).dropLast:=by
   grind
  rw[this,fJ,sH,h1 x (by simp),ih];rfl
def qi{α:Type}(a b:List α){n}(h:a.length=n):(a++b).take n=a:=by grind
def sR{α:Type}(a b:List α){n}(h:a.length=n):(a++b).drop n=b:=by grind
def El(e1:Su)(p:Int)(h:Bs)(e2:Su)(k:Bs)(to nx:Int):jT (aX (e1++(p,h)::e2) nx) k to e1.length=aX (e1++(p,k)::(to,h)::e2) nx:=by
 have hl1:(e1.map (·.2)).length=e1.length:=by simp
 have hm:List.map (·.1) (e1++(p,h)::e2)=(e1.map (·.1)++[p])++e2.map (·.1):=by simp
 have hl2:(e1.map (·.1)++[p]).length=e1.length+1:=by simp
 unfold jT aX;simp only;rw[hm,qi _ _ hl2,sR _ _ hl2,N9,N9];cases e2 with
 |nil =>
  have e5:[(p,h)].dropLast=[]:=rfl;have e6:[(p,k),(to,h)].dropLast=[(p,k)]:=rfl;have a1:bp (e1++[(p,h)])=h:=(iE e1 (by simp)).trans rfl;have a2:bp (e1++[(p,k),(to,h)])=h:=(iE e1 (by simp)).trans rfl;grind
 |cons y r =>
  have e3:((p,h)::y::r).dropLast=(p,h)::(y::r).dropLast:=rfl;have e4:((p,k)::(to,h)::y::r).dropLast=(p,k)::(to,h)::(y::r).dropLast:=rfl;have a1:bp (e1++(p,h)::y::r)=bp (y::r):=(iE e1 (by simp)).trans (mN _ (by simp));have a2:bp (e1++(p,k)::(to,h)::y::r)=bp (y::r):=(iE e1 (by simp)).trans ((mN _ (by simp)).trans (mN _ (by simp)));grind
def ah7(ea eb:Su)(hb:eb≠[])(to nx:Int)(hm:(aX (ea++eb) nx).seps.length / 2+1=ea.length):rJ (aX (ea++eb) nx) to=aX ea (to+1)/\rK (aX (ea++eb) nx)=aX eb nx:=by
 have hsl:(aX (ea++eb) nx).seps.length=(ea++eb).length - 1:=FO
 obtain⟨a',x,rfl⟩:∃a' x,ea=a'++[x]:=by
  rcases fS ea with h|⟨l,x,h⟩
  all_goals grind
 have hm':(aX (a'++[x]++eb) nx).seps.length / 2=a'.length:=by grind
 have hd:(a'++[x]++eb).dropLast=a'++x::eb.dropLast:=by
  grind
 have hda:(a'++[x]).dropLast=a':=by simp
 have hs:(aX (a'++[x]++eb) nx).seps=a'.map (·.2)++x.2::eb.dropLast.map (·.2):=by
  grind
 have hk:(aX (a'++[x]++eb) nx).kids=(a'.map (·.1)++[x.1])++eb.map (·.1):=by
  grind
 constructor
 ·unfold rJ;rw[hm',hs,hk];refine congr (congr (congr (di dp.mk ?_) ?_) ?_) rfl
  ·grind
  ·grind
  ·rw[iE _ (by simp)];simp[bp]
 ·unfold rK;rw[hm',hs,hk];refine congr (congr (congr (di dp.mk ?_) ?_) ?_) rfl
  ·rw[B5];simp
  ·grind
  ·show bp (a'++[x]++eb)=bp eb;rw[iE _ hb]
def bS{α:Type}:List (Int × α)->Int->Int
 | [],n=>n
 |(q,_)::_,_=>q+1
def cx{α:Type}(f:α->Int->Bs):List (Int × α)->Int->Es
 | [],_=>[]
 |(p,x)::r,n=>(p,f x (bS r n))::cx f r n
def dG{α:Type}(g:α->Int->Prop):List (Int × α)->Int->Prop
 | [],_=>True
 |(p,x)::r,n=>g x (bS r n)/\dG g r n
section
variable {α:Type}{f:α->Int->Bs}{g:α->Int->Prop}
def R8:∀(a b:List (Int × α)) n,bS (a++b) n=bS a (bS b n)
 | [],_,_=>rfl
 |_::_,_,_=>rfl
def lx:∀a b n,cx f (a++b) n=cx f a (bS b n)++cx f b n
 | [],_,_=>rfl
 |(p,x)::a,b,n=>by rw[gI,cx,lx a b n,R8];rfl
def ia:∀a b n,dG g (a++b) n↔dG g a (bS b n)/\dG g b n
 | [],b,n=>by simp[dG]
 |(p,x)::a,b,n=>by rw[gI,dG,dG,ia a b n,R8,and_assoc]
def AG:∀a n,bo (cx f a n)=a.map (·.1)
 | [],_=>rfl
 |(p,x)::a,n=>by
  show p::bo (cx f a n)=_;rw[AG a n];rfl
end
abbrev Gm:=List Pr × Bs
abbrev LL:=List (Int × Gm)
abbrev IL:=List (Int × Su)
def dF(x:Gm)(nx:Int):Bs:=bA ⟨x.1,x.2,nx⟩
def cw(e:Su)(nx:Int):Bs:=cR (aX e nx)
def okF(x:Gm)(nx:Int):Prop:=cX ⟨x.1,x.2,nx⟩=aD
def okI(e:Su)(nx:Int):Prop:=e≠[]/\cy (aX e nx)=aD
def dh(b:LL):Su:=b.map λx=>(x.1,x.2.2)
def cP(l:IL):Su:=l.map λx=>(x.1,bp x.2)
def bM(l:IL):Su:=l.flatMap (·.2)
inductive Dn:Su->List IL->LL->Prop
 |leaf (b:LL):Dn (dh b) [] b
 |inn (l:IL) (d:List IL) (b:LL):Dn (bM l) d b->Dn (cP l) (l::d) b
inductive kC(r:Int):List IL->Int->Bs->Su->Su->List (Int × Su × Int × Nat)->Prop
 |top:kC r [] r [] [] [] []
 |st {up:List IL} {q:Int} {e1:Su} {p:Int} {h:Bs} {e2:Su} {pre post:IL} {sts:List (Int × Su × Int × Nat)} :
  kC r up q (bp (e1++(p,h)::e2)) (cP pre) (cP post) sts ->
  kC r ((pre++(q,e1++(p,h)::e2)::post)::up) p h (bM pre++e1) (e2++bM post) ((q,e1++(p,h)::e2,bS post 0,e1.length)::sts)
def JW{r up p h a c sts}(hp:kC r up p h a c sts):∀{d b},Dn (a++(p,h)::c) d b->Dn [(r,[])] (up.reverse++d) b:=by
 induction hp with
 |top=>grind
 |@st up q e1 p h e2 pre post sts _ ih =>
  intro d b hd;have e:bM pre++e1++(p,h)::(e2++bM post)=bM (pre++(q,e1++(p,h)::e2)::post):=by simp[bM]
  rw[e]at hd;have:=Dn.inn _ _ _ hd;have e':cP (pre++(q,e1++(p,h)::e2)::post)=cP pre++(q,bp (e1++(p,h)::e2))::cP post:=by simp[cP]
  grind
def bf(a b:Bs):Prop:=a≠[]/\(b=[]∨lt a b=aD)
def lk(b:LL):Prop:=b.Pairwise λy z=>bf y.2.2 z.2.2/\∀x∈z.2.1,lt x.1 y.2.2=aE
def Qx{a b c}(h1:bf a b)(h2:bf b c):bf a c:=by
 refine⟨h1.1,?_⟩;rcases h2.2 with h|h
 ·grind
 ·rcases h1.2 with h'|h'
  ·exact fY h' h2.1
  ·exact .inr (lt_trans h' h)
def adO{k a b}(h:lt k a=aD)(h2:bf a b):b=[]∨lt k b=true:=by
 rcases h2.2 with h'|h'
 ·grind
 ·exact .inr (lt_trans h h')
def Q3{k a b}(h:lt k b=aE)(h2:lt a b=aD):lt k a=false:=by
 cases h':lt k a with
 |false=>rfl
 |true=>rw[lt_trans h' h2]at h;cases h
def Vj:∀(l:IL),(∀x∈l,x.2≠[])->((cP l).map (·.2)).Sublist ((bM l).map (·.2))
 | [],_=>.slnil
 |(p,e)::l,h=>by
  have ih:=Vj l λx hx=>h x (by grind)
  have he:e≠[]:=h (p,e) (by simp)
  obtain⟨a',x,rfl⟩:∃a' x,e=a'++[x]:=by
   rcases fS e with h|⟨l,x,h⟩
   all_goals grind
  have e1:bM ((p,a'++[x])::l)=a'++x::bM l:=by simp[bM]
  have e2:cP ((p,a'++[x])::l)=(p,x.2)::cP l:=by
   simp[cP,bp]
  simp_all
def ny{m}(h:cy m=aD):(cR m).length<=252:=by
 have h1:=uZ h;obtain⟨_,_,_,h4,_,_,h7⟩:=k6 h;unfold fg at h1;omega
def pw{l}(h:cX l=aD):(bA l).length<=252:=by
 have g:=lA h;have h1:=Ao l;have h2:=g.wt;have h3:=g.high;unfold iJ at h1;omega
def X4{m}(h:cy m=aD):bP aJ 130 [.str (cR m)]=aA (.tup [eI m,.int aB 0]):=by
 have h1:=uZ h;have h2:=ny h;have:=SB h 0 (by omega);rw[show fW 0=[] from rfl,fR]at this;rw[X9 _ (by grind),this];rfl
def PD{m}(h:cy m=aD):(cR m)[0]? = aA 78:=by
 unfold cR;grind
def X5{s:Bs}(hs:s.length<=252)(h:s[0]? = aA 78):bP aJ 129 [.str s]=aA (.tup [eL kX,.int aB 4]):=by
 have hsm:dS s:=by grind
 have hr:bP aJ 175 [.str s]=aA (.tup [.agg [.sl [],.str [],.int aB 0],.int aB 0,.bool aE]):=by
  refine OL _ ?_ (.refl _);unfold HM;obtain⟨x1,e1,h1⟩:∃x e,eY s 1 1=(x,e):=⟨_,_,rfl⟩
  obtain⟨x2,e2,h2⟩:∃x e,eY s 2 2=(x,e):=⟨_,_,rfl⟩
  obtain⟨t,m,e3,h3⟩:∃t m e,d0 s 4=(t,m,e):=⟨_,_,_,rfl⟩
  rw[aQ (kR h1 hsm),j5,aQ (kR h2 hsm),j5,aQ (lN h3 hsm),d9];cases e1 != 0 with
  |true=>rfl
  |false =>
   cases e2 != 0 with
   |true=>rfl
   |false =>
    cases e3 != 0 with
    |true=>rfl
    |false =>
     rw[cM h];rfl
 refine Ot _ ?_;unfold Dv;rw[bF (by omega),aQ hr];rfl
def EK{p x}:∀{pre post:LL} {n},dG okF (pre++(p,x)::post) n->okF x (bS post n):=λh=>((ia _ _ _).1 h).2.1
def nK{p x}:∀{pre post:IL} {n},dG okI (pre++(p,x)::post) n->okI x (bS post n):=λh=>((ia _ _ _).1 h).2.1
def Jp{α f} pre p x (post:List (Int × α)) n:(p,f x (bS post n))∈cx f (pre++(p,x)::post) n:=by
 rw[lx,cx];simp
def jM{s b}(h:Dn s [] b):s=dh b:=by cases h;rfl
def gX{s l d b}(h:Dn s (l::d) b):s=cP l/\Dn (bM l) d b:=by cases h;grind
def XZ{b}{a c:Su}{p h}(e:a++(p,h)::c=dh b):∃pre prs post,b=pre++(p,prs,h)::post/\a=dh pre/\c=dh post:=by
 obtain⟨pre,b2,rfl,h1,h2⟩:=List.map_eq_append_iff.1 e.symm;obtain⟨x,post,rfl,h3,h4⟩:=List.map_eq_cons_iff.1 h2;obtain⟨q,prs,hh⟩:=x;obtain⟨rfl,rfl⟩:=h3;exact⟨pre,prs,post,rfl,h1.symm,h4.symm⟩
def XY{l}{a c:Su}{p h}(e:a++(p,h)::c=cP l):∃pre x post,l=pre++(p,x)::post/\bp x=h/\a=cP pre/\c=cP post:=by
 obtain⟨pre,b2,rfl,h1,h2⟩:=List.map_eq_append_iff.1 e.symm;obtain⟨x,post,rfl,h3,h4⟩:=List.map_eq_cons_iff.1 h2;obtain⟨q,x⟩:=x;obtain⟨rfl,rfl⟩:=h3;exact⟨pre,x,post,rfl,rfl,h1.symm,h4.symm⟩
def HP(s:Su):Prop:=s.Pairwise λa b=>bf a.2 b.2
def Qy{s}:HP s↔(s.map (·.2)).Pairwise bf:=List.pairwise_map.symm
def JE{α g}:∀{l:List (Int × α)} {n},dG g l n->∀x∈l,∃m,g x.2 m
 |(p,y)::l,n,h,x,hx=>by
  rcases dC.1 hx with rfl|hx
  ·exact⟨_,h.1⟩
  ·exact JE h.2 x hx
def jE{l:IL}{n}(h:dG okI l n):∀x∈l,x.2≠[]:=λx hx=>let ⟨_,h⟩:=JE h x hx;h.1
def Eb{l:IL}(hn:∀x∈l,x.2≠[])(h:HP (bM l)):HP (cP l):=Qy.2 (List.Pairwise.sublist (Vj l hn) (Qy.1 h))
def Dq:∀{d s b},Dn s d b->(∀l∈d,∀x∈l,x.2≠[])->HP (dh b)->HP s
 | [],s,b,hd,_,h=>by rw[jM hd];exact h
 |l::d,s,b,hd,hn,h=>by
  obtain⟨e,hd⟩:=gX hd;rw[e];exact Eb (hn l (by simp)) (Dq hd (λl' hl=>hn l' (by grind)) h)
def EO{b}(h:lk b):HP (dh b):=by
 unfold HP dh;rw[MG];exact h.imp λh=>h.1
def adb{k}{pre:IL}(hn:∀x∈pre,x.2≠[])(hP:HP (bM pre))(h0:∀y∈cP pre,y.2≠[])(hk:∀y∈cP pre,lt k y.2=aE):∀y∈bM pre,lt k y.2=false:=by
 intro y hy;obtain⟨z,hz,hy⟩:=jp.1 hy;have hzs:(z.1,bp z.2)∈cP pre:=fi.2 ⟨z,hz,rfl⟩;have h1:=h0 _ hzs;have h2:=hk _ hzs;have hP:=(List.pairwise_flatMap.1 hP).1 z hz
 obtain⟨a',x,e⟩:∃a' x,z.2=a'++[x]:=by
  rcases fS z.2 with h|⟨l,x,h⟩
  all_goals grind
 rw[e]at hy hP h1 h2;have ex:bp (a'++[x])=x.2:=iE a' (by simp);simp[ex]at h1 h2;rcases cG.1 hy with hy|hy
 ·have:=(fT.1 hP).2.2 y hy x (by simp);exact Q3 h2 (this.2.resolve_left h1)
 grind
def acj{a c:Su}{x}(h:HP (a++x::c)):∀y∈a,y.2≠[]:=λy hy=>((fT.1 h).2.2 y hy x (by simp)).1
abbrev tM(r:Int)(n:Nat)(es:Es):List O:=tm r (n:Int) (bZ es) (bI n (bi es))
def af0{r n es}(h:cH n es){p l}(hg:c7 es p=aA (bA l))(hr:cX l=aD):bW aJ aU 82 [.ptr 0 0 0,.int aB p] (tM r n es)=aA (gZ (tM r n es) (bw l.prs,l.high,l.next)):=by
 refine Ii _ _ _ _ _ (o:=.doneM (.ifc 120 (eL l)) (tM r n es++[aN 41 [] 0,aM 120 (eL l) aE])) ?_ (.done (by kernel_rfl));unfold DI;rw[co tI (yy h hg),bN,ef rfl,be,aQ (X6 _ hr),nZ,dL rfl,bn]
def afZ{r n es}(h:cH n es){p m}(hg:c7 es p=aA (cR m))(hr:cy m=aD):bW aJ aU 82 [.ptr 0 0 0,.int aB p] (tM r n es)=aA (hJ (tM r n es) (aY m.seps,aO m.kids,m.high,m.next)):=by
 refine Ii _ _ _ _ _ (o:=.doneM (.ifc 150 (eI m)) (tM r n es++[aN 41 [] 0,aM 120 (eL kX) aE,aN 9 [] 0,aN 3 [] 0,aM 150 (eI m) aE])) ?_ (.done (by kernel_rfl));unfold DI;rw[co tI (yy h hg),bN,ef rfl,be,aQ (X5 (ny hr) (PD hr)),nZ,ew (by decide),be,aQ (X4 hr),xn,dL rfl,bn]
section
variable {r:Int}{n:Nat}{es:Es}{p:Int}
def tS(h:cH n es){l}(hg:c7 es p=aA (bA l))(hr:cX l=aD){k k2 k3} :
  iF aJ aU (gZ (tM r n es)) (hJ (tM r n es)) (iu (tM r n es)) 82 [.ptr 0 0 0,.int aB p] (tM r n es) k k2 k3=k (bw l.prs,l.high,l.next):=aco (aes _) (af0 h hg hr)
def rv(h:cH n es){m}(hg:c7 es p=aA (cR m))(hr:cy m=aD){k k2 k3} :
  iF aJ aU (gZ (tM r n es)) (hJ (tM r n es)) (iu (tM r n es)) 82 [.ptr 0 0 0,.int aB p] (tM r n es) k k2 k3=k2 (aY m.seps,aO m.kids,m.high,m.next):=acp (aet _) (aeu _) (afZ h hg hr)
def rT(h:cH n es){b l}(hg:c7 es p=aA b)(hr:cX l=aD):bW aJ aU 78 [.ptr 0 0 0,.int aB p,.ifc 120 (eL l)] (tM r n es)=aA (gE (r,n,bZ (bQ es p (bA l)),bI n (bi (bQ es p (bA l))))):=by
 refine aaR _ _ _ _ _ _ _ _ (o:=.doneM (.tup []) (tM r n (bQ es p (bA l))++[aN 41 [] 0,aM 120 (eL l) aE])) ?_ (.done (by kernel_rfl));unfold Pd;rw[aQ (PF _ hr),de,cL RG (VZ h hg (pw hr))]
def uw(h:cH n es){b m}(hg:c7 es p=aA b)(hr:cy m=aD):bW aJ aU 78 [.ptr 0 0 0,.int aB p,.ifc 150 (eI m)] (tM r n es)=aA (gE (r,n,bZ (bQ es p (cR m)),bI n (bi (bQ es p (cR m))))):=by
 refine aaS _ _ _ _ _ _ _ _ _ (o:=.doneM (.tup []) (tM r n (bQ es p (cR m))++[aN 9 [] 0,aN 3 [] 0,aM 150 (eI m) aE])) ?_ (.done (by kernel_rfl));unfold Pe;rw[aQ (PH _ (gv hr)),de,cL RG (VZ h hg (ny hr))]
end
abbrev br:=Int × Su × Int × Nat
def mj(x:br):V:=.agg [.int aB x.1,.sl (aY (aX x.2.1 x.2.2.1).seps),.sl (aO (aX x.2.1 x.2.2.1).kids),.str (bp x.2.1),.int aB x.2.2.1,.int aB (x.2.2.2:Int)]
def gx(l:List br):List V:=l.map mj
def uo l:(gx l).length=l.length:=by simp[gx]
def P4{m k}(h:cy m=aD)(hk:cz k=aD)(hh:m.high=[]∨lt k m.high=aD):jN m k=((gp m.seps k:Int),0):=by
 unfold jN
 all_goals grind
inductive jt(es:Es)(k:Bs):Int->List br->Int->Lf->Prop
 |leaf {p:Int} {l:Lf} (hg:c7 es p=aA (bA l)) (hr:cX l=aD):jt es k p [] p l
 |inn {p:Int} {e:Su} {nx:Int} {i:Nat} {p':Int} {sts:List br} {pl:Int} {l:Lf} (hg:c7 es p=aA (cR (aX e nx))) (hr:cy (aX e nx)=aD) (hf:jN (aX e nx) k=((i:Int),0)) (hi:(aX e nx).kids[i]? = aA p') :
  jt es k p' sts pl l->jt es k p ((p,e,nx,i)::sts) pl l
def VT{r:Int}{n:Nat}{es:Es}(hS:cH n es){k:Bs}(hk:cz k=aD) :
  ∀(d:List IL) (b:LL) (up:List IL) (p:Int) (h:Bs) (a c:Su) (sts:List br),kC r up p h a c sts->Dn (a++(p,h)::c) d b->(∀y∈a,lt k y.2=aE)->(h=[]∨lt k h=aD) ->
  (∀l∈d,dG okI l 0)->dG okF b 0->(∀l∈d,∀x∈cx cw l 0,x∈es)->(∀x∈cx dF b 0,x∈es)->HP (dh b) ->
  ∃p' h' ws pre prs post,kC r (d.reverse++up) p' h' (dh pre) (dh post) (ws.reverse++sts)/\b=pre++(p',prs,h')::post/\(∀y∈dh pre,lt k y.2=aE)/\(h'=[]∨lt k h'=aD)/\ws.length=d.length /\
   jt es k p ws p' ⟨prs,h',bS post 0⟩
 | [],b,up,p,h,a,c,sts,hp,hd,ha,hh,_,hF,_,hE,_=>by
  obtain⟨pre,prs,post,rfl,rfl,rfl⟩:=XZ (jM hd);have hr:=EK hF;have hg:=gY hS.nd (hE _ (Jp (f:=dF) pre p (prs,h) post 0));exact⟨p,h,[],pre,prs,post,hp,rfl,ha,hh,rfl,.leaf hg hr⟩
 |l::d,b,up,p,h,a,c,sts,hp,hd,ha,hh,hI,hF,hEI,hE,hP=>by
  have hPs:=Dq hd (λl hl=>jE (hI l hl)) hP;obtain⟨e,hdk⟩:=gX hd;clear hd;obtain⟨pre,x,post,rfl,rfl,rfl,rfl⟩:=XY e;obtain⟨hne,hr⟩:okI x (bS post 0):=nK (hI _ (dl ..));have hg:=gY hS.nd (hEI _ (dl ..) _ (Jp (f:=cw) pre p x post 0));obtain⟨e1,p',h',e2,rfl,h1,h2,h3⟩:=NR k x hne;have hfind:=P4 hr hk hh;have hfi:=hfind.trans (by rw[h1]);have hkid:((e1++(p',h')::e2).map (·.1))[e1.length]? = aA p':=by simp
  have hk2:bM (pre++(p,e1++(p',h')::e2)::post)=bM pre++e1++(p',h')::(e2++bM post):=by simp[bM]
  rw[hk2]at hdk
  have hpre:∀y∈bM pre++e1,lt k y.2=false:=by
   intro y hy;rcases cG.1 hy with hy|hy
   ·have hPk:=Dq hdk (λl hl=>jE (hI l (by grind))) hP;rw[c8]at hPk;exact adb (λx hx=>jE (hI _ (dl ..)) x (by grind)) (fT.1 hPk).1 (acj hPs) ha y hy
   grind
  have hh':h'=[]∨lt k h'=true:=by
   by_cases h2e:e2=[]
   ·subst h2e;have:bp (e1++[(p',h')])=h':=(iE e1 (by simp)).trans rfl;grind
   grind
  obtain⟨p2,h2',ws,pre',prs,post',q1,q2,q3,q4,q5,q6⟩:=VT hS hk d b _ p' h' _ _ _ (.st hp) hdk hpre hh' (λl hl=>hI l (by grind)) hF (λl hl=>hEI l (by grind)) hE hP;refine⟨p2,h2',(p,e1++(p',h')::e2,bS post 0,e1.length)::ws,pre',prs,post',?_,q2,q3,q4,by grind,.inn hg hr hfi hkid q6⟩;grind
def ai5{r:Int}{n:Nat}{es:Es}(hS:cH n es){k:Bs}{p:Int}{ws}{pl:Int}{l:Lf}(h:jt es k p ws pl l):∀acc:List br,acc.length+ws.length<=10000 ->
  Go qk aD 5 (fF 75) (.head 0 (CP k p r n (bZ es) (bI n (bi es)) (gx acc))) (.doneM (.tup [.own 5,.agg [.sl (bw l.prs),.str l.high,.int aB l.next],.int aB pl]) (tM r n es++[aN 176 (gx (acc++ws)) 0,aM 120 (.agg [.sl (bw l.prs),.str l.high,.int aB l.next]) aE])):=by
 induction h with
 |@leaf p l hg hr =>
  intro acc _;rw[fR];refine UI _ _ _ _ _ _ _ ?_ (.refl _);unfold Lq;rw[tS hS hg hr,bN]
 |@inn p e nx i p' sts pl l hg hr hf hi _ ih =>
  intro acc ha;have ih:=ih (acc++[(p,e,nx,i)]) (by grind);rw[c8]at ih;refine UI _ _ _ _ _ _ _ ?_ ih;unfold Lq;rw[rv hS hg hr,bN];rw[aQ (P3 _ k (gv hr)),De,hf,ef rfl,aS (aZ (by rw[uo];grind)),bq]
  have hi2:bk (aO (aX e nx).kids) i=λk=>k (aC aB p'):=by
   funext kk;exact fq hi
  rw[hi2];simp[gx,mj]
def rQ{r n es}(hS:cH n es){k ws pl l}(h:jt es k r ws pl l)(hw:ws.length<=10000) :
  bW aJ aU 75 [.ptr 0 0 0,.str k] (tM r n es)=aA (tJ (tM r n es) (gx ws,bw l.prs,l.high,l.next,pl)) :=
 aaM _ _ _ _ _ rfl ⟨_,_,ai5 hS h [] (by grind),by kernel_rfl⟩
def dV(ups:List IL):Es:=ups.flatMap λl=>cx cw l 0
structure WT(n:Nat)(r:Int)(es:Es)(ups:List IL)(b:LL):Prop where
 shf:cH n es
 rep:es.Perm (dV ups++cx dF b 0)
 dn:Dn [(r,[])] ups b
 okI:∀l∈ups,dG okI l 0
 okF:dG okF b 0
 ord:lk b
def N8:∀{d s b},Dn s d b->(∀l∈d,dG okI l 0)->s≠[]->∀l∈d,l≠[]
 | [],_,_,_,_,_=>by simp
 |l::d,s,b,hd,hI,hs=>by
  obtain⟨e,hdk⟩:=gX hd;have hl:l≠[]:=by rintro rfl;exact hs e
  intro l' hl';rcases dC.1 hl' with rfl|hl'
  ·grind
  ·refine N8 hdk (λx hx=>hI x (by grind)) ?_ l' hl';obtain⟨x,t,rfl⟩:=mW hl;have:=jE (hI _ (dl)) x (by simp);intro h0;rw[bM,lc,wJ]at h0;grind
def DL{α f}:∀(l:List (Int × α)) n,(cx f l n).length=l.length
 | [],_=>rfl
 |(p,x)::l,n=>by rw[cx,d8,DL];rfl
def PG:∀{ups:List IL},(∀l∈ups,l≠[])->ups.length<=(dV ups).length
 | [],_=>cZ _
 |l::ups,h=>by
  have:=PG (ups:=ups) λx hx=>h x (by grind)
  have h1:=lT.2 (h l (by simp));rw[dV,lc,gJ,DL,d8];have e:(dV _).length=(List.flatMap _ ups).length:=rfl;omega
def ml{n r es ups b}(h:WT n r es ups b):ups.length<=1024:=by
 have h1:=PG (N8 h.dn h.okI (by simp));have h2:=h.rep.length_eq;have h3:=vy h.shf;have h4:=h.shf.le;grind
def Ga{n r es ups b}(h:WT n r es ups b){k}(hk:cz k=aD) :
  ∃p h' ws pre prs post,kC r ups.reverse p h' (dh pre) (dh post) ws.reverse/\b=pre++(p,prs,h')::post/\(∀y∈dh pre,lt k y.2=aE)/\(h'=[]∨lt k h'=aD)/\ws.length=ups.length/\jt es k r ws p ⟨prs,h',bS post 0⟩:=by
 obtain⟨p,h',ws,pre,prs,post,q1,q2,q3,q4,q5,q6⟩:=VT (r:=r) h.shf hk _ b [] r [] [] [] [] .top h.dn (by simp) (.inl rfl) h.okI h.okF
  (λl hl x hx=>h.rep.mem_iff.2 (sh _ (jp.2 ⟨l,hl,hx⟩))) (λx hx=>h.rep.mem_iff.2 (mX _ hx)) (EO h.ord)
 grind
def Vl:∀{l},(∀s∈l,cz s=aD)->db l<=19 * l.length
 | [],_=>cZ _
 |s::l,h=>by
  have h1:=fd (h s (by simp));have h2:=Vl (l:=l) λx hx=>h x (by grind)
  simp[db,d8];omega
structure qv(e1:Su)(p:Int)(h:Bs)(e2:Su)(nx:Int)(k:Bs)(to:Int):Prop where
 right:cy (aX (e1++(p,h)::e2) nx)=aD
 key:cz k=aD
 pg:eD to=aD
 lo:∀y∈e1,bf y.2 k
 hi:h=[]∨lt k h=aD
 hp:HP (e1++(p,h)::e2)
def IY{a k}(hk:cz k=aD)(h:bf a k):lt k a=false:=by
 rcases h.2 with h'|h'
 ·subst h';cases hk
 ·exact oy h'
def QG{e1 p h e2 nx k to}(f:qv e1 p h e2 nx k to):gp (aX (e1++(p,h)::e2) nx).seps k=e1.length:=by
 refine Ni k e1 p h e2 (λy hy=>IY f.key (f.lo y hy)) λhne=>?_
 obtain⟨y,r,rfl⟩:=mW hne;have:=(fT.1 f.hp).2.1;have:=(i7.1 this).1 y (by simp);exact f.hi.resolve_left this.1
def I4{e1 p h e2 nx k to}(f:qv e1 p h e2 nx k to):bp (e1++(p,h)::e2)=[]∨lt k (bp (e1++(p,h)::e2))=true:=by
 rw[iE _ (by simp)];cases e2 with
 |nil=>exact f.hi
 |cons y r =>
  rw[mN _ (by simp)];have h1:=(fT.1 f.hp).2.1;obtain⟨x,hx⟩:∃x,(y::r).getLast? = aA x:=⟨_,Wj (by simp)⟩
  have hm:=List.mem_of_getLast? hx;have e:bp (y::r)=x.2:=by unfold bp;grind
  have:=(i7.1 h1).1 x hm;rw[e];exact adO (f.hi.resolve_left this.1) this
def AD{e1 p h e2 nx k to}(f:qv e1 p h e2 nx k to) :
  mT (aX (e1++(p,h)::e2) nx) k to=if 23+db (aX (e1++(p,k)::(to,h)::e2) nx).seps<=252 then (aX (e1++(p,k)::(to,h)::e2) nx,0) else (jD,6):=by
 have ha:=QG f;have hf:=P4 f.right f.key (I4 f);unfold mT;rw[hf,ha,bc ⟨rfl,f.pg⟩,El,bh]
 ·unfold kN;grind
 ·rintro⟨h0,h1⟩;have hlt1:e1.length - 1 < e1.length:=by omega
  have:(aX (e1++(p,h)::e2) nx).seps[e1.length - 1]? = aA e1[e1.length - 1].2:=by
   grind
  rw[this]at h1;have hm:=Ca hlt1;have:=f.lo _ hm;rw[Option.some.inj h1]at this;rcases this.2 with h'|h'
  ·exact this.1 h'
  ·rw[lF]at h';grind
def Eh{e1 p h e2 nx k to}(f:qv e1 p h e2 nx k to)(hz:23+db (aX (e1++(p,k)::(to,h)::e2) nx).seps<=252):cy (aX (e1++(p,k)::(to,h)::e2) nx)=true:=by
 have ha:=QG f
 have hf:MU (aX (e1++(p,h)::e2) nx) k to:=by
  refine⟨f.right,f.key,?_,f.pg,?_,?_⟩
  ·rcases I4 f with h|h
   all_goals grind
  ·have:=AD f;unfold mT at this;grind
  ·rw[ha,El];unfold kN;grind
 have:=afE hf
 rwa [ha,El]at this
def qV{s}(h:cz s=aD):s≠[]:=by rintro rfl;cases h
def Ej e1 p h (e2:Su) k to nx:db (aX (e1++(p,k)::(to,h)::e2) nx).seps=db (aX (e1++(p,h)::e2) nx).seps+(3+k.length):=by
 have:=El e1 p h e2 k to nx;rw[<-this]
 have h2:db (aX (e1++(p,h)::e2) nx).seps=db ((aX (e1++(p,h)::e2) nx).seps.take e1.length)+db ((aX (e1++(p,h)::e2) nx).seps.drop e1.length):=by
  rw[<-y4,lj]
 rw[y4,y4,h2];simp[db];omega
def D9{e:Su}(h:e≠[]):∃x∈e,bp e=x.2:=by
 obtain⟨a',x,rfl⟩:∃a' x,e=a'++[x]:=by
  rcases fS e with h'|⟨l,x,h'⟩
  all_goals grind
 exact⟨x,by simp,iE a' (by simp)⟩
def IX e1 p h (c:Su) k to:bp (e1++(p,k)::(to,h)::c)=bp (e1++(p,h)::c):=by
 cases c with
 |nil =>
  have a1:bp (e1++[(p,h)])=h:=(iE e1 (by simp)).trans rfl;have a2:bp (e1++[(p,k),(to,h)])=h:=(iE e1 (by simp)).trans rfl;grind
 |cons z c =>
  have a1:bp (e1++(p,h)::z::c)=bp (z::c):=(iE e1 (by simp)).trans (mN _ (by simp));have a2:bp (e1++(p,k)::(to,h)::z::c)=bp (z::c):=(iE e1 (by simp)).trans ((mN _ (by simp)).trans (mN _ (by simp)));grind
structure Wx(e:Su)(nx:Int)(k:Bs)(to q:Int)(e' fa fb:Su):Prop where
 cut:e'=fa++fb
 na:fa≠[]
 nb:fb≠[]
 ra:cy (aX fa (q+1))=aD
 rb:cy (aX fb nx)=aD
 mid:cz (bp fa)=aD
 six:6<=fa.length/\6<=fb.length
 big:(∀y∈e,y.2.length<=5)->k.length<=5->15<=fa.length
 run:∃ea eb,cy (aX ea (q+1))=aD/\cy (aX eb nx)=aD/\rL (aX e nx) q=(aX ea (q+1),aX eb nx,bp fa,0) /\
  ((lt k (bp fa)=aD/\mT (aX ea (q+1)) k to=(aX fa (q+1),0)/\eb=fb)∨(lt k (bp fa)=aE/\ea=fa/\mT (aX eb nx) k to=(aX fb nx,0)))
def Vm:∀{l},(∀s∈l,s.length<=5)->db l<=8 * l.length
 | [],_=>cZ _
 |s::l,h=>by
  have h1:=h s (by simp);have h2:=Vm (l:=l) λx hx=>h x (by grind)
  simp[db,d8];omega
def acF{e1:Su}{p:Int}{h:Bs}{e2:Su}{nx:Int}{k:Bs}{to q:Int}(f:qv e1 p h e2 nx k to)(hz:¬23+db (aX (e1++(p,k)::(to,h)::e2) nx).seps<=252)(hq:eD q=aD) :
  ∃fa fb,Wx (e1++(p,h)::e2) nx k to q (e1++(p,k)::(to,h)::e2) fa fb:=by
 rw[Ej]at hz;have hkl:=(fd f.key).2;obtain⟨r1,r2,r3,r4,r5,r6,r7⟩:=k6 f.right;have h19:=Vl r3;have hsl:(aX (e1++(p,h)::e2) nx).seps.length=(e1++(p,h)::e2).length - 1:=FO;have h3:3<=(aX (e1++(p,h)::e2) nx).kids.length:=by omega
 obtain⟨A,mid,B,s1,s2,s3,s4,s5⟩:=Vd f.right h3;have hss:=aia (to:=q) f.right h3 hq
 have hspl:rL (aX (e1++(p,h)::e2) nx) q=(rJ (aX (e1++(p,h)::e2) nx) q,rK (aX (e1++(p,h)::e2) nx),mid,0):=by
  unfold rL;rw[bc ⟨f.right,h3,hq⟩,s3]
 have hsz:db (aX (e1++(p,h)::e2) nx).seps=db A+(3+mid.length)+db B:=by
  rw[s1,y4];simp only[db];omega
 have hAl:A.length+B.length+1=(aX (e1++(p,h)::e2) nx).seps.length:=by grind
 have hA4:=oN (l:=A) λx hx=>r3 x (by grind)
 have hB4:=oN (l:=B) λx hx=>r3 x (by grind)
 have hmk:cz mid=true:=r3 mid (by grind);have hml:=(fd hmk).1
 have hbig:(∀y∈e1++(p,h)::e2,y.2.length<=5)->k.length<=5->15<=(aX (e1++(p,h)::e2) nx).seps.length / 2+1:=by
  intro hy hk5
  have h8:db (aX (e1++(p,h)::e2) nx).seps<=8 * (aX (e1++(p,h)::e2) nx).seps.length:=Vm λs hs=>by
   obtain⟨y,hy1,rfl⟩:=fi.1 hs;exact hy y ((List.dropLast_sublist _).subset hy1)
  omega
 generalize hm:(aX (e1++(p,h)::e2) nx).seps.length / 2+1=m at *
 obtain⟨ea,hea⟩:∃ea,ea=(e1++(p,h)::e2).take m:=⟨_,rfl⟩
 obtain⟨eb,heb⟩:∃eb,eb=(e1++(p,h)::e2).drop m:=⟨_,rfl⟩
 have hab:e1++(p,h)::e2=ea++eb:=by rw[hea,heb,lj]
 have hel:ea.length=m:=by grind
 have hbl:eb.length+m=(e1++(p,h)::e2).length:=by grind
 have hna:ea≠[]:=by grind
 have hsixA:6<=ea.length:=by omega
 have hsixB:6<=eb.length:=by omega
 have hnb:eb≠[]:=by grind
 have hsp:=ah7 ea eb hnb q nx (by grind);rw[<-hab]at hsp
 have hmid:bp ea=mid:=by
  grind
 have hsa:(aX ea (q+1)).seps=A:=by
  grind
 have hsb:(aX eb nx).seps=B:=by
  grind
 have hra:cy (aX ea (q+1))=true:=by grind
 have hrb:cy (aX eb nx)=true:=by grind
 rw[hsp.1,hsp.2,<-hmid]at hspl;rw[<-hmid]at hmk hml;have hHP:=f.hp;rw[hab]at hHP;have hHa:HP ea:=(fT.1 hHP).1;have hHb:HP eb:=(fT.1 hHP).2.1;rcases List.append_eq_append_iff.1 hab with⟨c,hc1,hc2⟩|⟨c,hc1,hc2⟩
 ·-- ea=e1++c
  cases c with
  |nil =>
   rw[fR]at hc1;subst hc1;rw[il]at hc2;subst hc2;have f2:qv [] p h e2 nx k to:=⟨hrb,f.key,f.pg,by simp,f.hi,hHb⟩
   have hp2:=AD f2;have hz2:23+db (aX ([]++(p,k)::(to,h)::e2) nx).seps<=252:=by rw[Ej,il,hsb];omega
   rw[bc hz2]at hp2;obtain⟨x,hx,e⟩:=D9 hna;refine⟨ea,(p,k)::(to,h)::e2,rfl,hna,by simp,hra,Eh f2 hz2,hmk,⟨hsixA,by grind⟩,λh1 h2=>hel ▸ hbig h1 h2,ea,(p,h)::e2,hra,hrb,hspl,.inr ⟨?_,rfl,hp2⟩⟩;rw[e];exact IY f.key (f.lo x hx)
  |cons y c =>
   rw[gI]at hc2;obtain⟨rfl,hc3⟩:=List.cons.inj hc2;clear hc2;subst hc1;subst hc3;have f2:qv e1 p h c (q+1) k to:=⟨hra,f.key,f.pg,f.lo,f.hi,hHa⟩
   have hp2:=AD f2;have hz2:23+db (aX (e1++(p,k)::(to,h)::c) (q+1)).seps<=252:=by rw[Ej,hsa];omega
   rw[bc hz2]at hp2;have hhi:=IX e1 p h c k to;refine⟨e1++(p,k)::(to,h)::c,eb,by simp,by simp,hnb,Eh f2 hz2,hrb,by grind,⟨by grind,hsixB⟩,λh1 h2=>by have h3:=hbig h1 h2;grind,e1++(p,h)::c,eb,hra,hrb,by grind,.inl ⟨?_,hp2,rfl⟩⟩;rw[hhi];exact(I4 f2).resolve_left (qV hmk)
 ·-- e1=ea++c
  subst hc1;subst hc2;have f2:qv c p h e2 nx k to:=⟨hrb,f.key,f.pg,λy hy=>f.lo y (by grind),f.hi,hHb⟩
  have hp2:=AD f2;have hz2:23+db (aX (c++(p,k)::(to,h)::e2) nx).seps<=252:=by rw[Ej,hsb];omega
  rw[bc hz2]at hp2;obtain⟨x,hx,e⟩:=D9 hna;refine⟨ea,c++(p,k)::(to,h)::e2,by simp,hna,by simp,hra,Eh f2 hz2,hmk,⟨hsixA,by grind⟩,λh1 h2=>hel ▸ hbig h1 h2,ea,c++(p,h)::e2,hra,hrb,hspl,.inr ⟨?_,rfl,hp2⟩⟩;rw[e];exact IY f.key (f.lo x (by grind))
def aci{a c:Su}{p to k h}(hP:HP (a++(p,h)::c))(hlo:∀y∈a,bf y.2 k)(hkh:bf k h):HP (a++(p,k)::(to,h)::c):=by
 obtain⟨h1,h2,h3⟩:=fT.1 hP;obtain⟨h4,h5⟩:=i7.1 h2;refine fT.2 ⟨h1,i7.2 ⟨?_,i7.2 ⟨h4,h5⟩⟩,?_⟩
 ·intro y hy;rcases dC.1 hy with rfl|hy
  ·grind
  ·exact Qx hkh (h4 y hy)
 ·intro y hy z hz;rcases dC.1 hz with rfl|hz
  ·grind
  ·rcases dC.1 hz with rfl|hz
   ·exact h3 y hy (p,h) (by simp)
   grind
def xh:List br->List V
 | []=>[]
 |s::r=>.tup [.int aB (r.length:Int),mj s]::xh r
def Nn:∀sts:List _,(sI (gx sts.reverse)).map aV=xh sts
 | []=>rfl
 |s::r=>by
  have ih:=Nn r;unfold sI at ih |-
  rw[Cd,gx,li,List.zipIdx_append,li,List.reverse_append,li];rw[gx]at ih;rw[ih];simp[xh]
def WY(sts:List _)(h:sts.length<=16777216):C0 [.ref (.sl (gx sts.reverse)) 0]=aA (sI (gx sts.reverse)):=by
 refine bc ⟨by rw[uo,zm];exact h,?_⟩;rw[e9];intro x hx;obtain⟨s,_,rfl⟩:=fi.1 hx;rfl
theorem n8 l up:dV (l::up)=cx cw l 0++dV up:=rfl
def WV{es R:Es}{pre post:IL}{q:Int}{x:Su}{up:List IL}{X:Es}(h:es.Perm (dV ((pre++(q,x)::post)::up)++X)):es.Perm ((q,cw x (bS post 0))::(cx cw pre (q+1)++cx cw post 0++(dV up++X))):=by
 rw[n8,lx,cx]at h;refine h.trans ?_;simp only[c8,gI];exact zp
structure GF(n:Nat)(r:Int)(es:Es)(up:List IL)(d:List IL)(b:LL)(X:Es)(p to:Int)(k h:Bs)(a c:Su):Prop where
 shf:cH n es
 dn:Dn (a++(p,k)::(to,h)::c) d b
 hp:HP (a++(p,h)::c)
 lo:∀y∈a,bf y.2 k
 hi:h=[]∨lt k h=aD
 key:cz k=aD
 pg:eD p=aD
 pgt:eD to=aD
 okI:∀l∈up,dG okI l 0
 rep:es.Perm (dV up++X)
 room:es.length+up.length+1<=n
def D6{p q x}:∀{es},c7 (bQ es p x) q=if q=p then aA x else c7 es q
 | []=>by
  rfl
 |(a,y)::es=>by
  rw[bQ]
  by_cases h:p=a
  ·subst h;rw[bc rfl,c7,c7];grind
  ·rw[bh h,c7,c7,D6];grind
def xF{p x es}:c7 (bQ es p x) p=aA x:=by rw[D6,bc rfl]
def s8{p q x es}(h:q≠p):c7 (bQ es p x) q=c7 es q:=by rw[D6,bh h]
def fp{es p b}(h:c7 es p=aA b):p∈bo es:=Classical.byContradiction λq=>by rw[vk.2 q]at h;cases h
inductive nV(n:Nat)(r:Int):Es->List br->Bs->Int->Int->Int->Es->Prop
 |top {es:Es} {k:Bs} {p to:Int} {j:Nat} (hs:cH n es) (hf:kK n (bi es)=aA j) (hj:j < n) (hq:(j:Int)∉bo es) (hr:cy (aX [(p,k),(to,[])] 0)=aD) :
  nV n r es [] k p to j (bQ (bQ es j []) j (cR (aX [(p,k),(to,[])] 0)))
 |room {es:Es} {sts:List br} {k:Bs} {p to q:Int} {e:Su} {nx:Int} {i:Nat} {e':Su} (hs:cH n es) (hg:c7 es q=aA (cR (aX e nx))) (hr:cy (aX e nx)=aD) (hk:cz k=aD) (hp:mT (aX e nx) k to=(aX e' nx,0)) (hr':cy (aX e' nx)=aD) :
  nV n r es ((q,e,nx,i)::sts) k p to r (bQ es q (cR (aX e' nx)))
 |two {es:Es} {sts:List br} {k:Bs} {p to q:Int} {e:Su} {nx:Int} {i j:Nat} {ea eb fa fb:Su} {r':Int} {es':Es} (hs:cH n es) (hg:c7 es q=aA (cR (aX e nx))) (hr:cy (aX e nx)=aD) (hk:cz k=aD) (hp:mT (aX e nx) k to=(jD,6))
  (hf:kK n (bi es)=aA j) (hj:j < n) (hq:(j:Int)∉bo es) (hra:cy (aX ea ((j:Int)+1))=aD) (hrb:cy (aX eb nx)=aD) (rfa:cy (aX fa ((j:Int)+1))=aD) (rfb:cy (aX fb nx)=aD)
  (hspl:rL (aX e nx) j=(aX ea ((j:Int)+1),aX eb nx,bp fa,0)) (hcase:(lt k (bp fa)=aD/\mT (aX ea ((j:Int)+1)) k to=(aX fa ((j:Int)+1),0)/\eb=fb)∨(lt k (bp fa)=aE/\ea=fa/\mT (aX eb nx) k to=(aX fb nx,0))) :
  nV n r (bQ (bQ (bQ es j []) q (cR (aX fa ((j:Int)+1)))) j (cR (aX fb nx))) sts (bp fa) q j r' es'->nV n r es ((q,e,nx,i)::sts) k p to r' es'
def M4(n:Nat)(r:Int)(es:Es)(k:Bs)(p to:Int)(sts:List br)(r':Int)(es':Es):Prop :=
 ∃m,Go qk aD 5 (fF 123) (.head 0 (zC (xh sts) r n (bZ es) (bI n (bi es)) k p to)) (.doneM (.tup []) m)/\∀r0 n0 e0 b0,jZ aU (tm r0 n0 e0 b0) (.tup []) m=tE (r',n,bZ es',bI n (bi es'))
def Cm(up:List IL):Prop:=∀l,up.getLast? = aA l->∀x∈l,2<=x.2.length
def Ft(up:List IL):Prop:=∀l∈up,∀x∈l.dropLast,15<=x.2.length
def Fk(up:List IL):Prop:=∀l∈up.dropLast,∀x∈l,6<=x.2.length
def Cn(up:List IL):Prop:=∀l∈up,∀x∈l,∀y∈x.2,y.2.length<=5
def Wy(n:Nat)(r:Int)(es:Es)(up:List IL)(k:Bs)(p to:Int)(sts:List br)(d:List IL)(b:LL)(X:Es)(c:Su):Prop :=
 ∃r' up' es',cH n es'/\Dn [(r',[])] (up'.reverse++d) b/\(∀l∈up',dG okI l 0)/\es'.Perm (dV up'++X)/\up'≠[]/\(Cm up->Cm up')/\(c=[]->Cn up->k.length<=5->Ft up->Ft up')/\(Fk up->Fk up')/\nV n r es sts k p to r' es'
def afr{r q h pre post}{sts:List br}(hp:kC r [] q h (cP pre) (cP post) sts):pre=[]/\post=[]:=by
 generalize hA:cP _=A at hp;generalize hC:cP _=C at hp;cases hp;exact⟨ME.1 hA,ME.1 hC⟩
def R5{l:IL}{n}(h:dG okI l n)(h0:bM l=[]):l=[]:=by
 cases l with
 |nil=>rfl
 |cons y t =>
  rw[bM,lc,wJ]at h0;exact fY h0.1 (jE h y (by simp))
def VQ{n:Nat}{r es}{k:Bs}{p to sts r' es' m}(h:KJ (xh sts) r n (bZ es) (bI n (bi es)) k p to=aA (.doneM (.tup []) m))
  (hc:∀r0 n0 e0 b0,jZ aU (tm r0 n0 e0 b0) (.tup []) m=tE (r',n,bZ es',bI n (bi es'))):M4 n r es k p to sts r' es' :=
 ⟨m,T8 _ _ _ _ _ _ _ _ h (.refl _),hc⟩
def ajO(A B U X:Es):(A++B++(U++X)).Perm (U++(A++(B++X))):=by
 grind
def E0{es p b}(h:p∉bo es):(bQ es p b).length=es.length+1:=by rw[v7 h];simp
def Bg{es p b}(h:p∈bo es):(bQ es p b).length=es.length:=by
 have:=di se (oG (b:=b) h);simpa[bo]using this
def gk{es R:Es}{p b}(h:es.Perm ((p,b)::R)):p∈bo es:=fi.2 ⟨(p,b),h.mem_iff.2 (dl),rfl⟩
def ac8{k h:Bs}(hk:cz k=aD)(h1:h=[]∨lt k h=aD):bf k h:=⟨qV hk,h1⟩
def FQ{n es}(h:cH n es){p}(hp:p∈bo es):eD p=true:=by
 have:=h.rng;have:=h.le;unfold eD;grind
def agC{p to k}(hk:cz k=aD)(hp:eD p=aD)(ht:eD to=aD):cy (aX [(p,k),(to,[])] 0)=true:=by
 have hkl:=fd hk;refine tU.2 ⟨rfl,?_,?_,rfl,?_⟩
 ·grind
 ·show ff [] [k]=aD;unfold ff;rw[hk,qU hk];rfl
 ·refine u4.2 ⟨Int.le_refl 0,(by decide:(0:Int)<=1024),?_⟩;show 23+db _<=252;simp[db];omega
def aiX{n:Nat}{r:Int}{up:List IL}{p:Int}{h:Bs}{a c:Su}{sts:List br}(hp:kC r up p h a c sts):∀{k:Bs} {to:Int} {es:Es} {d:List IL} {b:LL} {X:Es},GF n r es up d b X p to k h a c->Wy n r es up k p to sts d b X c:=by
 induction hp with
 |top =>
  intro k to es d b X f;obtain⟨q,hq,hf,hq2⟩:=II f.shf (by have:=f.room;grind);have hqn:((q:Int))∉bo es:=hq2;have hs1:=qg f.shf (b:=[]) hq hq2;have hr:=agC f.key f.pg f.pgt;have hg:c7 (bQ es q []) q=aA []:=nD hs1.nd ((v7 hq2 ▸ (List.perm_append_comm:(es++[((q:Int),[])]).Perm _):(bQ es q []).Perm (((q:Int),[])::es)));have hpm:(bQ es q []).Perm (((q:Int),[])::es):=by rw[v7 hq2];grind
  have hpm2:=jU (b':=cR (aX [(r,k),(to,[])] 0)) hs1.nd hpm;refine⟨q,[[((q:Int),[(r,k),(to,[])])]],bQ (bQ es q []) q (cR (aX [(r,k),(to,[])] 0)),i4 hs1 (gk hpm),?_,?_,?_,?_,?_,?_,?_,?_⟩
  ·have e:Dn (bM [((q:Int),[(r,k),(to,[])])]) d b:=f.dn;exact Dn.inn _ _ _ e
  ·intro l hl;have:l=[((q:Int),[(r,k),(to,[])])]:=by grind
   rw[this];exact⟨⟨by simp,hr⟩,trivial⟩
  ·refine hpm2.trans ?_;refine List.Perm.cons _ ?_;exact f.rep
  ·simp
  ·intro _ l hl x hx;grind
  ·intro _ _ _ _ l hl x hx;grind
  ·intro _ l hl;grind
  ·exact .top f.shf hf hq hq2 hr
 |@st up q e1 p h e2 pre post sts hup ih =>
  intro k to es d b X f;obtain⟨hne,hr⟩:okI (e1++(p,h)::e2) (bS post 0):=nK (f.okI _ (dl ..));have hat:=WV (R:=[]) f.rep;have hqk:=gk hat;have hgq:=nD f.shf.nd hat;obtain⟨ok1,_,ok2⟩:=(ia _ _ _).1 (f.okI _ (dl ..));have hkh:=ac8 f.key f.hi;have hPn:HP (bM pre++e1++(p,k)::(to,h)::(e2++bM post)):=aci f.hp f.lo hkh
  have hPe:HP (e1++(p,h)::e2):=by
   have:=f.hp;rw[c8]at this;have:=(fT.1 this).2.1;have e:e1++(p,h)::(e2++bM post)=(e1++(p,h)::e2)++bM post:=by simp
   rw[e]at this;exact(fT.1 this).1
  have hin:qv e1 p h e2 (bS post 0) k to:=⟨hr,f.key,f.pgt,λy hy=>f.lo y (by grind),f.hi,hPe⟩
  have hput:=AD hin
  by_cases hz:23+db (aX (e1++(p,k)::(to,h)::e2) (bS post 0)).seps<=252
  ·-- it has room
   rw[bc hz]at hput;have hr2:=Eh hin hz;have hsh:=i4 f.shf (b:=cR (aX (e1++(p,k)::(to,h)::e2) (bS post 0))) hqk;have hpm:=jU (b':=cR (aX (e1++(p,k)::(to,h)::e2) (bS post 0))) f.shf.nd hat;refine⟨r,(pre++(q,e1++(p,k)::(to,h)::e2)::post)::up,_,hsh,?_,?_,?_,?_,?_,?_,?_,?_⟩
   ·have e:bM pre++e1++(p,k)::(to,h)::(e2++bM post)=bM (pre++(q,e1++(p,k)::(to,h)::e2)::post):=by simp[bM]
    have hd:=f.dn;rw[e]at hd;have:=Dn.inn _ _ _ hd;have e':cP (pre++(q,e1++(p,k)::(to,h)::e2)::post)=cP pre++(q,bp (e1++(p,h)::e2))::cP post:=by simp[cP,IX]
    rw[e']at this;have:=JW hup this;grind
   ·intro l hl;rcases dC.1 hl with rfl|hl
    ·exact(ia _ _ _).2 ⟨ok1,⟨by simp,hr2⟩,ok2⟩
    ·exact f.okI l (by grind)
   ·refine hpm.trans ?_;rw[n8,lx,cx];simp only[c8,gI];exact List.perm_middle.symm
   ·simp
   ·intro h2 l hl x hx;cases up with
    |nil =>
     have:l=pre++(q,e1++(p,k)::(to,h)::e2)::post:=by grind
     subst this;have h2:=h2 _ rfl;grind
    |cons y up=>exact h2 l (by grind) x hx
   ·intro hc _ _ hF l hl x hx;have h0:=R5 ok2 (wJ.1 hc).2;subst h0;rcases dC.1 hl with rfl|hl
    ·rw[Mx]at hx;exact hF _ (dl ..) x (by grind)
    ·exact hF l (by grind) x hx
   ·intro hF l hl x hx;cases up with
    |nil=>grind
    |cons y up =>
     rw[Wh (by simp)]at hl;rcases dC.1 hl with rfl|hl
     ·have h0:=hF (pre++(q,e1++(p,h)::e2)::post) (by grind);rcases cG.1 hx with hx|hx
      ·grind
      ·rcases dC.1 hx with rfl|hx
       ·have:=h0 (q,e1++(p,h)::e2) (by simp);grind
       grind
     ·exact hF l (by grind) x hx
   ·exact .room f.shf hgq hr f.key hput hr2
  ·-- it is two
   rw[bh hz]at hput;obtain⟨j,hj,hjf,hj2⟩:=II f.shf (by have:=f.room;grind);have hs1:=qg f.shf (b:=[]) hj hj2;have hjr:=FQ hs1 (p:=(j:Int)) (by rw[qW hj2];simp);obtain⟨fa,fb,t⟩:=acF hin hz hjr;obtain⟨ea,eb,hra,hrb,hspl,hcase⟩:=t.run;have hqj:(q:Int)≠(j:Int):=λe=>hj2 (e ▸ hqk)
   have hp1:(bQ es j []).Perm ((q,cw (e1++(p,h)::e2) (bS post 0))::(((j:Int),[])::(cx cw pre (q+1)++cx cw post 0++(dV up++X)))):=by
    rw[v7 hj2];grind
   have hg1:=nD hs1.nd hp1;have hp2:=jU (b':=cR (aX fa ((j:Int)+1))) hs1.nd hp1;have hs2:=i4 hs1 (b:=cR (aX fa ((j:Int)+1))) (gk hp1);have hp2':=hp2.trans (List.Perm.swap ..);have hg2:=nD hs2.nd hp2';have hp3:=jU (b':=cR (aX fb (bS post 0))) hs2.nd hp2';have hs3:=i4 hs2 (b:=cR (aX fb (bS post 0))) (gk hp2')
   have hlen3:(bQ (bQ (bQ es j []) q (cR (aX fa ((j:Int)+1)))) j (cR (aX fb (bS post 0)))).length=es.length+1:=by
    rw[Bg (gk hp2'),Bg (gk hp1),E0 hj2]
   have hfe:bp fb=bp (e1++(p,h)::e2):=by
    rw[<-IX e1 p h e2 k to,t.cut,iE _ t.nb]
   have ek:bM pre++e1++(p,k)::(to,h)::(e2++bM post)=bM (pre++(q,fa)::(j,fb)::post):=by
    have e0:bM (pre++(q,fa)::(j,fb)::post)=bM pre++((fa++fb)++bM post):=by simp[bM]
    rw[e0,<-t.cut];simp
   have es1:cP (pre++(q,fa)::((j:Int),fb)::post)=cP pre++(q,bp fa)::((j:Int),bp (e1++(p,h)::e2))::cP post:=by simp[cP,hfe]
   have hd:=f.dn;rw[ek]at hd hPn;have hd:=Dn.inn _ _ _ hd;rw[es1]at hd;have hokl:dG okI (pre++(q,fa)::((j:Int),fb)::post) 0:=(ia _ _ _).2 ⟨ok1,⟨t.na,t.ra⟩,⟨t.nb,t.rb⟩,ok2⟩;have hPs:=Eb (jE hokl) hPn;rw[es1]at hPs
   have hPo:HP (cP pre++(q,bp (e1++(p,h)::e2))::cP post):=by
    have e0:bM pre++e1++(p,h)::(e2++bM post)=bM (pre++(q,e1++(p,h)::e2)::post):=by simp[bM]
    have h0:=f.hp;rw[e0]at h0;have:=Eb (jE (f.okI _ (dl ..))) h0;have e':cP (pre++(q,e1++(p,h)::e2)::post)=cP pre++(q,bp (e1++(p,h)::e2))::cP post:=by simp[cP]
    grind
   have hlo:∀y∈cP pre,bf y.2 (bp fa):=λy hy=>(fT.1 hPs).2.2 y hy (q,bp fa) (by simp)
   have hhi:bf (bp fa) (bp (e1++(p,h)::e2)):=(i7.1 (fT.1 hPs).2.1).1 ((j:Int),bp (e1++(p,h)::e2)) (by simp)
   have hf2:GF n r (bQ (bQ (bQ es j []) q (cR (aX fa ((j:Int)+1)))) j (cR (aX fb (bS post 0)))) up ((pre++(q,fa)::((j:Int),fb)::post)::d) b (cx cw (pre++(q,fa)::((j:Int),fb)::post) 0++X) q j (bp fa) (bp (e1++(p,h)::e2)) (cP pre) (cP post):=by
    refine⟨hs3,hd,hPo,hlo,hhi.2,t.mid,FQ f.shf hqk,hjr,λl hl=>f.okI l (by grind),?_,by have:=f.room;grind⟩;refine hp3.trans ?_;rw[lx,cx,cx];refine((List.Perm.swap ..).trans ?_)
    have h1:(dV up++(cx cw pre (q+1)++(q,cw fa ((j:Int)+1))::((j:Int),cw fb (bS post 0))::cx cw post 0++X)).Perm ((q,cw fa ((j:Int)+1))::((j:Int),cw fb (bS post 0))::(dV up++(cx cw pre (q+1)++(cx cw post 0++X)))):=by
     grind
    refine List.Perm.trans ?_ h1.symm;refine List.Perm.cons _ (List.Perm.cons _ ?_);grind
   obtain⟨r',up',es',g1,g2,g3,g4,g5,g6,g8,g9,g7⟩:=ih hf2;refine⟨r',(pre++(q,fa)::((j:Int),fb)::post)::up',es',g1,?_,?_,?_,?_,?_,?_,?_,?_⟩
   ·grind
   ·grind
   ·refine g4.trans ?_;rw[n8,<-c8];grind
   ·simp
   ·intro h2 l hl x hx;obtain⟨z,up2,rfl⟩:=mW g5;refine g6 ?_ l (by grind) x hx;cases up with
    |nil=>intro l hl;grind
    |cons y up=>intro l hl;exact h2 l (by grind)
   ·intro hc hs hk5 hF l hl x hx;have h0:=R5 ok2 (wJ.1 hc).2;have hse:∀y∈e1++(p,h)::e2,y.2.length<=5:=hs _ (dl ..) (q,e1++(p,h)::e2) (by simp);have hbg:=t.big hse hk5
    have hk5':(bp fa).length<=5:=by
     obtain⟨z,hz,e⟩:=D9 t.na;rw[e];have:z∈e1++(p,k)::(to,h)::e2:=by rw[t.cut];grind
     rcases cG.1 this with h1|h1
     ·grind
     ·rcases dC.1 h1 with rfl|h1
      ·grind
      ·rcases dC.1 h1 with rfl|h1
       ·exact hse (p,h) (by simp)
       grind
    have hup3:=g8 (by rw[h0];rfl) (λl hl=>hs l (by grind)) hk5' (λl hl=>hF l (by grind));subst h0;rcases dC.1 hl with rfl|hl
    ·rw[show pre++[(q,fa),((j:Int),fb)]=(pre++[(q,fa)])++[((j:Int),fb)] by simp,Mx]at hx;rcases cG.1 hx with hx|hx
     ·exact hF _ (dl ..) x (by grind)
     grind
    ·exact hup3 l hl x hx
   ·intro hF l hl x hx;obtain⟨z,up2,rfl⟩:=mW g5
    have hup2:=g9 (λl hl=>hF l (by
     cases up with
     |nil=>grind
     |cons y up=>grind))
    rw[Wh (by simp)]at hl;rcases dC.1 hl with rfl|hl
    ·have h0:∀y,y∈pre∨y∈post->6<=y.2.length:=by
      intro y hy;cases up with
      |nil =>
       have hd0:=afr hup;grind
      |cons w up =>
       exact hF (pre++(q,e1++(p,h)::e2)::post) (by grind) y (by all_goals grind)
     rcases cG.1 hx with hx|hx
     ·grind
     ·rcases dC.1 hx with rfl|hx
      ·exact t.six.1
      ·rcases dC.1 hx with rfl|hx
       ·exact t.six.2
       grind
    ·exact hup2 l hl x hx
   ·exact .two f.shf hgq hr f.key hput hjf hj hj2 hra hrb t.ra t.rb hspl hcase g7
def aiY{n r}{es:Es}{k:Bs}{p to sts r'}{es':Es}(h:nV n r es sts k p to r' es'):M4 n r es k p to sts r' es':=by
 induction h with
 |@top es k p to j hs hf hj hq hr =>
  have hs1:=qg hs (b:=[]) hj hq;apply VQ
  case h =>
   unfold KJ;rw[show xh []=[] from rfl,af7,cL yi (F4 hs hf hq)];show(bV aJ _ _ _ [_,_,.ifc 150 (eI (aX [(p,k),(to,[])] 0))] (tM j n (bQ es j [])) _)=_;rw[cL jP (uw hs1 xF hr)]
  case hc=>intro r0 n0 e0 b0;kernel_rfl
 |@room es sts k p to q e nx i e' hs hg hr hk hp hr' =>
  have hpc:=EW (aX e nx) k to (gv hr) (by have:=(fd hk).2;omega);have hst:mj (q,e,nx,i) = .agg [.int aB q,.sl (aY (aX e nx).seps),.sl (aO (aX e nx).kids),.str (bp e),.int aB nx,.int aB (i)]:=rfl;apply VQ
  case h =>
   show(aT aJ _ [eI (aX e nx),_,_] _)=_;rw[aQ hpc,hp,xn,dL rfl,bn];rw[cL jP (uw hs hg hr')]
  case hc=>intro r0 n0 e0 b0;kernel_rfl
 |@two es sts k p to q e nx i j ea eb fa fb r' es' hs hg hr hk hp hf hj hq hra hrb rfa rfb hspl hcase _ ih =>
  obtain⟨m,g5,g6⟩:=ih;have hpc:=EW (aX e nx) k to (gv hr) (by have:=(fd hk).2;omega);have hst:mj (q,e,nx,i) = .agg [.int aB q,.sl (aY (aX e nx).seps),.sl (aO (aX e nx).kids),.str (bp e),.int aB nx,.int aB i]:=rfl;have hsc:=ah5 (aX e nx) j (gv hr);rw[hspl]at hsc;have hs1:=qg hs (b:=[]) hj hq;have hqj:q≠j:=λe=>hq (e ▸ fp hg)
  have hg1:c7 (bQ es j []) q=aA _:=(s8 hqj).trans hg;have hs2:=i4 hs1 (b:=cR (aX fa (j+1))) (fp hg1);have hg2:c7 (bQ (bQ es j []) q (cR (aX fa (j+1)))) j=aA []:=(s8 hqj.symm).trans xF;refine⟨m,T8 _ _ _ _ _ _ _ _ ?_ g5,g6⟩;show(aT aJ _ [eI (aX e nx),_,_] _)=_;rw[aQ hpc,hp,xn,ew (by decide),cL yi (F4 hs hf hq)];rw[aQ hsc,X2];rcases hcase with⟨hl,hpa,rfl⟩|⟨hl,rfl,hpb⟩
  ·have hpc2:=EW (aX ea ((j)+1)) k to (gv hra) (by have:=(fd hk).2;omega);rw[hpa]at hpc2;have hl':Op.bytesLess k (bp fa)=true:=hl;rw[hl'];show(aT aJ _ [eI (aX ea ((j)+1)),_,_] _)=_;rw[aQ hpc2,xn];rw[cL jP (uw hs1 hg1 rfa)];rw[cL jP (uw hs2 hg2 rfb)]
  ·have hpc2:=EW (aX eb nx) k to (gv hrb) (by have:=(fd hk).2;omega);rw[hpb]at hpc2;have hl':Op.bytesLess k (bp ea)=false:=hl;rw[hl'];show(aT aJ _ [eI (aX eb nx),_,_] _)=_;rw[aQ hpc2,xn];rw[cL jP (uw hs1 hg1 rfa)];rw[cL jP (uw hs2 hg2 rfb)]
structure lS(prs:List Pr)(h:Bs):Prop where
 ri:prs.Pairwise λx y=>lt x.1 y.1=aD
 mem:∀x∈prs,cz x.1=aD/\eu x.2=aD
 hi:h=[]∨(cz h=aD/\∀x∈prs,lt x.1 h=aD)
 wt:bE prs<=231
def yC{l}:ll (bD l)↔l.Pairwise λx y=>lt x.1 y.1=true:=MG
def Tm:∀{l p},(l.Pairwise λx y=>lt x.1 y.1=aD)->(∀x∈l,cz x.1=aD/\eu x.2=aD)->(∀x∈l,lt p x.1=aD)->iY p l=aD
 | [],_,_,_,_=>rfl
 |x::l,p,h1,h2,h3=>by
  obtain⟨h4,h5⟩:=i7.1 h1;have ih:=Tm (p:=x.1) h5 (λy hy=>h2 y (by grind)) h4;unfold iY;grind
def adf{l h}(hk:cz h=aD)(ha:∀x∈l,lt x.1 h=aD):lt (j9 [] l) h=true:=by
 rcases fS l with rfl|⟨a,x,rfl⟩
 ·exact qU hk
 ·have:j9 [] (a.concat x)=x.1:=by simp[j9]
  grind
def rE{prs h nx}(o:lS prs h)(h0:0<=nx)(h1:nx<=1024):cX ⟨prs,h,nx⟩=true:=by
 refine nL.2 ⟨Tm o.ri o.mem λx hx=>qU (o.mem x hx).1,?_,h0,h1,o.wt⟩;unfold gt;rcases o.hi with h|⟨hk,ha⟩
 ·grind
 ·simp only[hk,adf hk ha];simp
def tu{prs h nx}(o:cX ⟨prs,h,nx⟩=aD):lS prs h/\0<=nx/\nx<=1024:=by
 have g:=lA o;obtain⟨h1,h2,h3,h4,h5⟩:=nL.1 o;have hr:=yC.1 g.ri;refine⟨⟨hr,g.mem,?_,h5⟩,h3,h4⟩;simp[gt,oT,cT]at h2;rcases h2 with h2|⟨h2,h6⟩
 ·grind
 ·refine .inr ⟨h2,λx hx=>?_⟩;rcases fS prs with rfl|⟨a,y,rfl⟩
  ·grind
  ·have e:j9 [] (a.concat y)=y.1:=by simp[j9]
   rw[e]at h6;rw[i5]at hx hr;rcases cG.1 hx with hx|hx
   ·exact lt_trans ((fT.1 hr).2.2 x hx y (by simp)) h6
   grind
def F5{l}(hr:ll (bD l)) k:∀x∈l.take (cK (bD l) k),lt x.1 k=true:=by
 intro x hx;obtain⟨i,hi⟩:=zk hx;rw[kx]at hi;split at hi
 ·exact(Et hr k (tp hi)).2 ‹_›
 grind
def Dt{l}(hr:ll (bD l)) k:∀x∈l.drop (if cY (bD l) k then cK (bD l) k+1 else cK (bD l) k),lt k x.1=true:=by
 intro x hx;obtain⟨i,hi⟩:=zk hx;rw[i6]at hi;have hp:=yC.1 hr
 have hat:∀{a b:Nat} {y z:Pr},l[a]? = aA y->l[b]? = aA z->a < b->lt y.1 z.1=true:=by
  intro a b y z ha hb hab;obtain⟨h1,rfl⟩:=cE.1 ha;obtain⟨h2,rfl⟩:=cE.1 hb;exact Cc.1 hp a b h1 h2 hab
 cases hh:cY _ k with
 |true =>
  rw[hh,bc rfl]at hi;obtain⟨h2,h3⟩:=pb hh;have h2':cK (bD l) k < l.length:=by grind
  have h4:=cI h2'
  have h6:l[cK _ k].1=k:=by
   have:=tp h4;grind
  grind
 |false =>
  rw[hh]at hi;have hi:l[cK _ k+i]? = aA x:=hi
  have bf:cK (bD l) k < l.length:=by
   grind
  have h4:=cI bf
  have h5:lt l[cK _ k].1 k=false:=by
   cases hq:lt _ k with
   |false=>rfl
   |true=>have:=(Et hr k (tp h4)).1 hq;omega
  have h6:l[cK _ k].1≠k:=by
   unfold cY at hh;rw[tp h4]at hh;grind
  have h7:=pK h5 h6;rcases Gv i with rfl|hpos
  ·grind
  ·exact lt_trans h7 (hat h4 hi (by omega))
def J0{prs h k v}(o:lS prs h)(hk:cz k=aD)(hv:eu v=aD)(hh:h=[]∨lt k h=aD)(hw:bE (du prs k v)<=231):lS (du prs k v) h:=by
 have hr:=yC.2 o.ri;refine⟨?_,λx hx=>?_,?_,hw⟩
 ·have h1:=F5 hr k;have h2:=Dt hr k;refine fT.2 ⟨fT.2 ⟨o.ri.sublist (List.take_sublist ..),by simp,?_⟩,o.ri.sublist (List.drop_sublist ..),?_⟩
  ·grind
  ·intro x hx y hy;rcases cG.1 hx with hx|hx
   ·exact lt_trans (h1 x hx) (h2 y hy)
   grind
 ·rcases ru hx with rfl|hx
  ·grind
  ·exact o.mem x hx
 ·rcases o.hi with h'|⟨h1,h2⟩
  ·grind
  ·refine .inr ⟨h1,λx hx=>?_⟩;rcases ru hx with rfl|hx
   ·exact hh.resolve_left (qV h1)
   grind
def acb{prs:List Pr}{h:Bs}(o:lS prs h)(m:Nat){x:Pr}(hx:prs[m]? = aA x)(h0:0 < m):lS (prs.take m) x.1/\lS (prs.drop m) h/\bf x.1 h/\cz x.1=aD/\(∀y∈prs.drop m,lt y.1 x.1=aE)/\∃y∈prs,lt y.1 x.1=true:=by
 obtain⟨hm,e⟩:=cE.1 hx;have hd:prs.drop m=x::prs.drop (m+1):=by rw[<-e];exact sd hm
 have hri:=o.ri;rw[<-lj m prs]at hri;obtain⟨r1,r2,r3⟩:=fT.1 hri;have hxm:x∈prs:=dH hx;have hw:=zd prs m;have ow:=o.wt;have hkx:=(o.mem x hxm).1;refine⟨⟨r1,λy hy=>o.mem y (uF hy),.inr ⟨hkx,λy hy=>r3 y hy x (by grind)⟩,by omega⟩,⟨r2,λy hy=>o.mem y (uE hy),?_,by omega⟩,⟨qV hkx,?_⟩,hkx,?_,?_⟩
 ·rcases o.hi with h'|⟨h1,h2⟩
  all_goals grind
 ·rcases o.hi with h'|⟨h1,h2⟩
  all_goals grind
 ·intro y hy;rw[hd]at hy r2;rcases dC.1 hy with rfl|hy
  ·exact lF _
  ·exact oy ((i7.1 r2).1 y hy)
 ·have h00:0 < prs.length:=by omega
  refine⟨prs[0],Ca h00,?_⟩;rw[<-e];exact Cc.1 o.ri 0 m h00 hm h0
def vV{pre post:LL}{p prs h}(ho:lk (pre++(p,prs,h)::post)) :
  lk pre/\lk post/\(∀y∈pre,bf y.2.2 h/\∀x∈prs,lt x.1 y.2.2=aE)/\(∀z∈post,bf h z.2.2/\∀x∈z.2.1,lt x.1 h=aE)/\(∀y∈pre,∀z∈post,bf y.2.2 z.2.2/\∀x∈z.2.1,lt x.1 y.2.2=aE):=by
 obtain⟨h1,h2,h3⟩:=fT.1 ho;obtain⟨h4,h5⟩:=i7.1 h2;exact⟨h1,h5,λy hy=>h3 y hy (p,prs,h) (by simp),λz hz=>h4 z hz,λy hy z hz=>h3 y hy z (by grind)⟩
def Sp{pre post:LL}{p prs prs' h}(ho:lk (pre++(p,prs,h)::post))(hn:∀y∈pre,∀x∈prs',lt x.1 y.2.2=aE):lk (pre++(p,prs',h)::post):=by
 obtain⟨h1,h2,h3,h4,h5⟩:=vV ho;refine fT.2 ⟨h1,i7.2 ⟨h4,h2⟩,?_⟩;intro y hy z hz;grind
def ae3{pre post:LL}{p j prs A B h s}(ho:lk (pre++(p,prs,h)::post))(hA:∀y∈pre,∀x∈A,lt x.1 y.2.2=aE)(hB:∀y∈pre,∀x∈B,lt x.1 y.2.2=aE)
  (hs:∀y∈pre,bf y.2.2 s) (hsh:bf s h) (hsB:∀x∈B,lt x.1 s=aE):lk (pre++(p,A,s)::(j,B,h)::post):=by
 obtain⟨h1,h2,h3,h4,h5⟩:=vV ho;refine fT.2 ⟨h1,i7.2 ⟨?_,i7.2 ⟨h4,h2⟩⟩,?_⟩
 ·intro z hz;rcases dC.1 hz with rfl|hz
  ·grind
  ·obtain⟨q1,q2⟩:=h4 z hz;refine⟨Qx hsh q1,λx hx=>Q3 (q2 x hx) (hsh.2.resolve_left q1.1)⟩
 ·intro y hy z hz;grind
def cF(b:LL):List Pr:=b.flatMap λx=>x.2.1
def aiW{n r es p to k sts r' es'}(hl:sts.length<=10000)(h:nV n r es sts k p to r' es') :
  bW aJ aU 123 [.ptr 0 0 0,.sl (gx sts.reverse),.str k,.int aB p,.int aB to] (tM r n es)=aA (tE (r',n,bZ es',bI n (bi es'))):=by
 obtain⟨m,g5,g6⟩:=aiY h;refine YV _ _ _ _ _ _ _ _ ?_ ⟨_,_,g5,g6 _ _ _ _⟩;unfold On;rw[WY sts (by omega),mS,Nn]
def Ap{up}:(dV up.reverse).Perm (dV up):=by
 induction up with
 |nil=>grind
 |cons l up ih =>
  rw[Cd,dV,List.flatMap_append];refine List.perm_append_comm.trans ?_;have e:List.flatMap (λl=>cx cw l 0) [l]=cx cw l 0:=by simp
  rw[e];exact List.Perm.append_left _ ih
def Eu{es U:Es}{pre post:LL}{p x}(h:es.Perm (U++cx dF (pre++(p,x)::post) 0)):es.Perm ((p,dF x (bS post 0))::(cx dF pre (p+1)++cx dF post 0++U)):=by
 rw[lx]at h;refine h.trans (List.perm_append_comm.trans ?_);simp[c8];exact zp
def Q4{U:Es}{pre post:LL}{p x}:((p,dF x (bS post 0))::(cx dF pre (p+1)++cx dF post 0++U)).Perm (U++cx dF (pre++(p,x)::post) 0):=(Eu (.refl _)).symm
def Hj:∀{d s b b'},dh b'=dh b->Dn s d b->Dn s d b'
 | [],s,b,b',e,h=>by rw[jM h,<-e];exact .leaf _
 |l::d,s,b,b',e,h=>by
  obtain⟨e1,h⟩:=gX h;rw[e1];exact .inn _ _ _ (Hj e h)
def pz a b:cF (a++b)=cF a++cF b:=by simp[cF]
def kO p prs h (b:LL):cF ((p,prs,h)::b)=prs++cF b:=by simp[cF]
def adm{z a s}(h1:lt z a=aE)(h2:lt z s=aD):lt a s=true:=by
 by_cases e:z=a
 ·grind
 ·exact lt_trans (pK h1 e) h2
structure WF(n:Nat)(r:Int)(es:Es)(ups:List IL)(b:LL):Prop extends WT n r es ups b where
 ne:ups≠[]->∀x∈b,x.2.1≠[]
 rt:Cm ups.reverse
def adn{r b}{pre post:LL}{x}(h:Dn [(r,[])] [] b)(hb:b=pre++x::post):pre=[]/\post=[]:=by
 have:=di se (jM h);rw[hb]at this;simp[dh]at this;exact⟨wL (by omega),wL (by omega)⟩
def A3{n r es ups b}(h:WF n r es ups b){pre post:LL}{x}(hb:b=pre++x::post):∀y,y∈pre∨y∈post->y.2.1≠[]:=by
 intro y hy
 by_cases hu:ups=[]
 ·have hd:=h.dn;rw[hu]at hd;obtain⟨rfl,rfl⟩:=adn hd hb
  all_goals grind
 ·exact h.ne hu y (by grind)
def VI{n:Nat}{r:Int}{es:Es}{ups:List IL}{b:LL}(h:WF n r es ups b){p:Int}{h':Bs}{sts:List br}{pre post:LL}{prs:List Pr}(hp:kC r ups.reverse p h' (dh pre) (dh post) sts)(hb:b=pre++(p,prs,h')::post)
  {A B:List Pr} {s:Bs} {j:Nat} (hj:j < n) (hj2:(j:Int)∉bo es) (oA:lS A s) (oB:lS B h') (hA0:A≠[]) (hB0:B≠[]) (hsh:bf s h') (hks:cz s=aD) (hlo:∀y∈pre,bf y.2.2 s) (hA:∀y∈pre,∀x∈A,lt x.1 y.2.2=aE) (hB:∀y∈pre,∀x∈B,lt x.1 y.2.2=aE) (hsB:∀x∈B,lt x.1 s=aE)
  (hroom:es.length+ups.length+2<=n) :
  ∃r' es' ups',WF n r' es' ups' (pre++(p,A,s)::((j:Int),B,h')::post)/\nV n r (bQ (bQ (bQ es j []) p (bA ⟨A,s,(j:Int)+1⟩)) j (bA ⟨B,h',bS post 0⟩)) sts s p j r' es'/\(post=[]->Cn ups->s.length<=5->Ft ups->Ft ups')/\(Fk ups.reverse->Fk ups'.reverse):=by
 have hne:=A3 h hb;subst hb;have hn:=h.shf.le;have hul:=ml h.toWT;have hat:=Eu h.rep;have hpk:=gk hat;obtain⟨ok1,ok3,ok2⟩:=(ia _ _ _).1 h.okF;obtain⟨o,hx0,hx1⟩:=tu (show cX ⟨prs,h',bS post 0⟩=aD from ok3);have hrA:=rE oA (nx:=(j:Int)+1) (by omega) (by omega);have hrB:=rE oB hx0 hx1;have hs1:=qg h.shf (b:=[]) hj hj2
 have hp1:(bQ es j []).Perm ((p,dF (prs,h') (bS post 0))::(((j:Int),[])::(cx dF pre (p+1)++cx dF post 0++dV ups))):=by
  rw[v7 hj2];grind
 have hg1:=nD hs1.nd hp1;have hp2:=jU (b':=bA ⟨A,s,(j:Int)+1⟩) hs1.nd hp1;have hs2:=i4 hs1 (b:=bA ⟨A,s,(j:Int)+1⟩) (gk hp1);have hp2':=hp2.trans (List.Perm.swap ..);have hg2:=nD hs2.nd hp2';have hp3:=jU (b':=bA ⟨B,h',bS post 0⟩) hs2.nd hp2';have hs3:=i4 hs2 (b:=bA ⟨B,h',bS post 0⟩) (gk hp2')
 have hlen3:(bQ (bQ (bQ es j []) p (bA ⟨A,s,(j:Int)+1⟩)) j (bA ⟨B,h',bS post 0⟩)).length=es.length+1:=by
  rw[Bg (gk hp2'),Bg (gk hp1),E0 hj2]
 have eS:dh (pre++(p,A,s)::((j:Int),B,h')::post)=dh pre++(p,s)::((j:Int),h')::dh post:=by simp[dh]
 have eS0:dh (pre++(p,prs,h')::post)=dh pre++(p,h')::dh post:=by simp[dh]
 have hd:Dn (dh pre++(p,s)::((j:Int),h')::dh post) [] (pre++(p,A,s)::((j:Int),B,h')::post):=by
  rw[<-eS];exact .leaf _
 have hP:=EO h.ord;rw[eS0]at hP
 have hf:GF n r (bQ (bQ (bQ es j []) p (bA ⟨A,s,(j:Int)+1⟩)) j (bA ⟨B,h',bS post 0⟩)) ups.reverse [] (pre++(p,A,s)::((j:Int),B,h')::post) (cx dF (pre++(p,A,s)::((j:Int),B,h')::post) 0) p j s h' (dh pre) (dh post):=by
  refine⟨hs3,hd,hP,λy hy=>?_,hsh.2,hks,FQ h.shf hpk,FQ hs1 (by rw[qW hj2];simp),λl hl=>h.okI l (by grind),?_,by grind⟩
  ·obtain⟨z,hz,rfl⟩:=fi.1 hy;grind
  ·refine hp3.trans ?_;rw[lx,cx,cx];refine((List.Perm.swap ..).trans ?_)
   have h1:(dV ups.reverse++(cx dF pre (p+1)++(p,dF (A,s) ((j:Int)+1))::((j:Int),dF (B,h') (bS post 0))::cx dF post 0)).Perm ((p,dF (A,s) ((j:Int)+1))::((j:Int),dF (B,h') (bS post 0))::(dV ups.reverse++(cx dF pre (p+1)++cx dF post 0))):=by
    grind
   refine List.Perm.trans ?_ h1.symm;refine List.Perm.cons _ (List.Perm.cons _ ?_);exact List.perm_append_comm.trans (List.Perm.append_right _ Ap.symm)
 obtain⟨r',up',es',g1,g2,g3,g4,g5,g6,g8,g9,g7⟩:=aiX hp hf;refine⟨r',es',up'.reverse,⟨⟨g1,?_,?_,λl hl=>g3 l (by grind),?_,ae3 h.ord hA hB hlo hsh hsB⟩,?_,?_⟩,g7,λh0 h1 h2 h3 l hl=>g8 (by rw[h0];rfl) (λl hl=>h1 l (by grind)) h2 (λl hl=>h3 l (by grind)) l (by grind),λh0=>by grind⟩
 ·exact g4.trans (List.Perm.append_right _ Ap.symm)
 ·grind
 ·exact(ia _ _ _).2 ⟨ok1,hrA,hrB,ok2⟩
 ·grind
 ·rw[Ce];exact g6 h.rt
abbrev su(l:List Pr):Prop:=l.Pairwise λx y=>lt x.1 y.1=aD
def NP{α:Type}(l:List α) i j (h:i<=j):l=l.take i++((l.drop i).take (j - i)++l.drop j):=by
 have:l.drop j=(l.drop i).drop (j - i):=by simp_all
 rw[this,lj,lj]
def RB{l k}(hr:ll (bD l)):∀x∈(l.drop (cK (bD l) k)).take ((if cY (bD l) k then cK (bD l) k+1 else cK (bD l) k) - cK (bD l) k),x.1=k:=by
 intro x hx;cases hh:cY (bD l) k with
 |false=>simp_all
 |true =>
  rw[hh,bc rfl,show cK (bD l) k+1 - cK (bD l) k=1 by omega]at hx;obtain⟨h2,h3⟩:=pb hh;have h2':cK (bD l) k < l.length:=by rwa [mO]at h2
  rw[sd h2',Cf]at hx;have h4:=cI h2';have:=tp h4;grind
def u9{α:Type}{p}{l:List α}(h:∀x∈l,p x=aD):l.filter p=l:=My.2 h
def vd{α:Type}{p}{l:List α}(h:∀x∈l,p x=aE):l.filter p=[]:=List.filter_eq_nil_iff.2 λx hx=>by grind
def SQ{l}(hr:su l) k v:du l k v=l.filter (λx=>lt x.1 k)++(k,v)::l.filter (λx=>lt k x.1):=by
 have hr':=yC.2 hr;have h1:=F5 hr' k;have h2:=Dt hr' k;have h3:=RB (k:=k) hr';unfold du;generalize hj:(if cY (bD l) k then cK (bD l) k+1 else cK (bD l) k)=j at *
 have hij:cK (bD l) k<=j:=by grind
 generalize cK (bD l) k=i at *
 have e:=NP l i j hij
 have f1:l.filter (λx=>lt x.1 k)=l.take i:=by
  conv=>lhs;rw[e]
  rw[oX,oX,u9 h1,vd (p:=λx:Pr=>lt x.1 k) λx hx=>by rw[h3 x hx];exact lF _,vd (p:=λx:Pr=>lt x.1 k) λx hx=>oy (h2 x hx)];simp
 have f2:l.filter (λx=>lt k x.1)=l.drop j:=by
  conv=>lhs;rw[e]
  rw[oX,oX,vd (p:=λx:Pr=>lt k x.1) λx hx=>oy (h1 x hx),vd (p:=λx:Pr=>lt k x.1) λx hx=>by rw[h3 x hx];exact lF _,u9 h2];simp
 grind
def IR{l}(hr:su l) k:cY (bD l) k=l.any λx=>x.1==k:=by
 have hr':=yC.2 hr;cases hh:cY (bD l) k with
 |true =>
  obtain⟨h2,h3⟩:=pb hh;have hm:=h3 ▸ Ca h2;obtain⟨x,hx,e⟩:=fi.1 hm;grind
 |false =>
  symm;rw[zj];intro x hx hc;have e:x.1=k:=by grind
  have h1:=F5 hr' k;have h2:=Dt hr' k;rw[hh]at h2;rw[<-lj (cK (bD l) k) l]at hx;rcases cG.1 hx with hx|hx
  ·have:=h1 x hx;rw[e,lF]at this;grind
  ·have:=h2 x hx;rw[e,lF]at this;grind
def Hb{l}(hr:su l){k}(hh:cY (bD l) k=aD):gC l k=l.filter λx=>!(x.1==k):=by
 have hr':=yC.2 hr;have h1:=F5 hr' k;have h2:=Dt hr' k;have h3:=RB (k:=k) hr';unfold gC;rw[hh,bc rfl]at h2 h3;have e:=NP l (cK (bD l) k) (cK (bD l) k+1) (by omega)
 have ne:∀x:Pr,lt x.1 k=aD∨lt k x.1=aD->(!(x.1==k))=true:=by
  intro x hx
  by_cases he:x.1=k
  ·rw[he,lF]at hx;grind
  grind
 conv=>rhs;rw[e]
 rw[oX,oX,u9 (p:=λx:Pr=>!(x.1==k)) λx hx=>ne x (.inl (h1 x hx)),vd (p:=λx:Pr=>!(x.1==k)) λx hx=>by grind,u9 (p:=λx:Pr=>!(x.1==k)) λx hx=>ne x (.inr (h2 x hx))];simp
def DX:∀{b n},lk b->dG okF b n->su (cF b)
 | [],_,_,_=>List.Pairwise.nil
 |(p,prs,h)::b,n,ho,hF=>by
  obtain⟨h1,h2⟩:=i7.1 ho;obtain⟨o,_,_⟩:=tu (show cX ⟨prs,h,bS b n⟩=aD from hF.1);refine fT.2 ⟨o.ri,DX h2 hF.2,?_⟩;intro x hx y hy;obtain⟨z,hz,hy⟩:=jp.1 hy;obtain⟨q1,q2⟩:=h1 z hz;have hxh:=(o.hi.resolve_left q1.1).2 x hx;have:=q2 y hy
  by_cases e:y.1=h
  ·grind
  ·exact lt_trans hxh (pK this e)
def Mf{n:Int}{pre post:LL}{p:Int}{prs:List Pr}{h k:Bs}(ho:lk (pre++(p,prs,h)::post))(hF:dG okF (pre++(p,prs,h)::post) n)(hlo:∀y∈dh pre,lt k y.2=aE)(hhi:h=[]∨lt k h=aD) :
  (∀x∈cF pre,lt x.1 k=aD)/\∀x∈cF post,lt k x.1=true:=by
 obtain⟨h1,h2,h3,h4,h5⟩:=vV ho;obtain⟨ok1,ok3,ok2⟩:=(ia _ _ _).1 hF;constructor
 ·intro x hx;obtain⟨y,hy,hx⟩:=jp.1 hx;obtain⟨m,hm⟩:=JE ok1 y hy;obtain⟨o,_,_⟩:=tu (show cX ⟨y.2.1,y.2.2,m⟩=aD from hm);have hxy:=(o.hi.resolve_left (h3 y hy).1.1).2 x hx;have hky:lt k y.2.2=false:=hlo (y.1,y.2.2) (fi.2 ⟨y,hy,rfl⟩)
  by_cases e:k=y.2.2
  ·grind
  ·exact lt_trans hxy (pK hky e)
 ·intro x hx;obtain⟨z,hz,hx⟩:=jp.1 hx;obtain⟨q1,q2⟩:=h4 z hz;have hkh:=hhi.resolve_left q1.1;have:=q2 x hx
  by_cases e:x.1=h
  ·grind
  ·exact lt_trans hkh (pK this e)
end Go.Proofs.YtlphgcjepphhcaaGreat
