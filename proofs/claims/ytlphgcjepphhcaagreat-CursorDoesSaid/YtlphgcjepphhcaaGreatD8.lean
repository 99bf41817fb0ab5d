/-
  Texts that the last one stands on.
-/
import Derived.Test.YtlphgcjepphhcaaGreatD7
import Derived.Shelf.Spec.SlicesInsert
import Derived.Lib.SliceRun
import Derived.RangeFuncNested
import Derived.RangeFuncBound
import Derived.RangeFuncCalls
import Derived.RangeFuncLeaves
import Derived.Shelf.Abstract
import Derived.Shelf.RegionOpen
import Derived.WalkKit
import Derived.OwnWalkIn
import Derived.TacticsInMore
import Derived.LoopNIn
import Derived.LoopIn
import Derived.Stop.RegionWithIn
import Derived.Test.YtlphgcjepphhcaaGreatProg
import Derived.Shelf.SortM.Plain
import Derived.Shelf.SortM.SortNone
import Derived.KernelRfl
import Derived.Shelf.SlMaps.Clone
noncomputable section
open Bool renaming true->aC,false->aD,not_true->bK
open List renaming length_append->eV,append_assoc->cO,length_map->d9,mem_cons_self->er,nil_append->eA,length_cons->dp,nodup_cons->o5,nodup_append->uA,reverse_cons->Bz,exists_cons_of_ne_nil->uv,getElem?_eq_some_iff->bX,pairwise_iff_getElem->By,getElem?_eq_getElem->cj,mem_append_right->uz,mem_cons_of_mem->y6,map_nil->fX,map_reverse->wz,length->oZ,length_reverse->wy,mem_append->cz,mem_map->ib,mem_singleton->jO,eq_nil_or_concat->gg,map_cons->d8,perm_middle->y7,mem_append_left->Bv,reverse_reverse->BA,length_pos_iff->uy,mem_cons->dE,not_mem_nil->FN,size_toArray->wB,length_nil->fc,push_toArray->Lq,append_toArray->Lh,cons_append->ew,all_eq_true->eJ,mem_of_getElem?->dx,range->fK,getElem?_map->fW,getElem?_range->rZ,length_range->Ln
open Go.Lite.V renaming sl->aG,agg->aH,str->aE,int->aB,tup->aT,one->fq,cells->gT
open Option renaming some->aA,none->aF,bind_some->bk
open Go.Lite.O renaming row->aM,box->aJ
open Nat renaming add_comm->sg,zero_add->fY,mul_one->mZ,sub_self->qC,add_zero->fL,le_refl->c7,zero_le->jQ,add_assoc->jP
open Go renaming FuncId->bL,Program->bu,World->be,TypeId->aO,grownCap->gv,Value->aR
open Array renaming replicate_succ->K9,replicate_zero->La
namespace Go.Proofs.YtlphgcjepphhcaaGreat
open Go Go.Lite
set_option linter.unusedSimpArgs false
set_option linter.unusedVariables false
set_option maxRecDepth 100000
section
variable {n:Nat}{r:Int}{es:Es}{Ls:List Bs}
theorem RQ(hS:cP n es)(hL:dq n es Ls)(P:List Int)(hP:P.length<=2000)(m6:List V){o:dR} :
  ∀(l:IL) (i:Nat) (acc:List Int),P.drop i=bT l->(∀x∈l,∃m,okI x.2 m/\(x.1,cd x.2 m)∈es)->acc.length+(bR l).length<=2000->i<=P.length ->
  Go qk aC 5 (fF 56) (.head 1 (n5 (aS P) (P.length:Int) r (bg Ls) (cU n (br es)) m6 (aS (acc++bT (bR l))))) o ->
  Go qk aC 5 (fF 56) (.head 1 (n5 (aS P) (i:Int) r (bg Ls) (cU n (br es)) m6 (aS acc))) o
 | [],i,acc,hd,_,_,hi0,hg=>by
  have hi:=fT hd;have e:i=P.length:=by omega
  subst e;simpa[bR,bT]using hg
 |(q,x)::l,i,acc,hd,bA,hlen,hi0,hg=>by
  obtain⟨h1,h2,h3⟩:=ej hd;obtain⟨m,⟨hne,hr⟩,hm⟩:=bA (q,x) (by simp);have hge:=i9 hS.nd hm;have e1:bR ((q,x)::l)=x++bR l:=by simp[bR]
  rw[e1]at hlen hg;rw[eV]at hlen;have w:W .i64 ((i:Int)+1)=((i+1:Nat):Int):=by rw[bf (by omega)];omega
  refine EQ _ _ _ _ _ _ _ (o:=.head 1 (n5 (aS P) ((i+1:Nat):Int) r (bg Ls) (cU n (br es)) m6 (aS (acc++bT x)))) ?_
   (RQ hS hL P hP m6 l (i+1) (acc++bT x) h2 (fun y hy=>bA y (by grind)) (by simp[bT];omega) (by omega) (by rw[cO];simpa[bT]using hg))
  unfold A4;rw[cy,aW (by omega),aZ,aQ (by simp),bi,f0 h1,bF,cY l9 (qc hS hL hge hr),cF,aZ,aQ (mS _),aQ (aW (by simp only[cy,d9];omega)),w,pK];rfl
theorem RS(hS:cP n es)(hL:dq n es Ls)(P:List Int)(hP:P.length<=2000)(m6:List V){o:dR} :
  ∀(l:LL) (i:Nat),P.drop i=bT l->(∀x∈l,∃m,okF x.2 m/\(x.1,dM x.2 m)∈es)->i<=P.length ->
  Go qk aC 5 (fF 56) (.head 1 (n5 (aS P) (P.length:Int) r (bg Ls) (cU n (br es)) m6 [])) o ->
  Go qk aC 5 (fF 56) (.head 1 (n5 (aS P) (i:Int) r (bg Ls) (cU n (br es)) m6 [])) o
 | [],i,hd,_,hi,hg=>by
  have h1:=fT hd;grind
 |(q,x)::l,i,hd,bA,hi,hg=>by
  obtain⟨h1,h2,h3⟩:=ej hd;obtain⟨m,hr,hm⟩:=bA (q,x) (by simp);have hge:=i9 hS.nd hm;have w:W .i64 ((i:Int)+1)=((i+1:Nat):Int):=by rw[bf (by omega)];omega
  refine EQ _ _ _ _ _ _ _ (o:=.head 1 (n5 (aS P) ((i+1:Nat):Int) r (bg Ls) (cU n (br es)) m6 [])) ?_
   (RS hS hL P hP m6 l (i+1) h2 (fun y hy=>bA y (by grind)) (by omega) hg)
  unfold A4;rw[cy,aW (by omega),aZ,aQ (by simp),bi,f0 h1,bF,cY l9 (AL (l:=⟨x.1,x.2,m⟩) hS hL hge hr),cF,aP,w]
theorem RY{Ts bs:List V}{acc:List V}{P:List Int}{o:dR}(hl:acc.length<=3000)
  (h:Go qk aC 5 (fF 56) (.head 1 (n5 (aS P) ((0:Nat):Int) r Ts bs (acc++[aG (aS P)]) [])) o) :
  Go qk aC 5 (fF 56) (.head 0 (zy r Ts bs (acc++[aG (aS P)]))) o:=by
 have w:W .i64 (((acc++[aG (aS P)]).length:Int) - 1)=((acc.length:Nat):Int):=by
  rw[eV,bf (by grind)];simp
 have hg:(acc++[aG (aS P)])[acc.length]? = aA (aG (aS P)):=by simp
 refine afC _ _ _ _ ?_ h;unfold S9;rw[w,aQ (by simp),aQ (aW (by simp)),bi,cG hg,jD];rfl
theorem RU(hS:cP n es)(hL:dq n es Ls):∀(d:List IL) (b:LL) (s:Su) (acc:List V),Dn s d b->(∀l∈d,d0 okI l 0)->d0 okF b 0->(∀l∈d,qw cd es l)->qw dM es b->(∀l∈d,l.length<=1024)->b.length<=1024->acc.length+d.length<=2000->s≠[] ->
  Go qk aC 5 (fF 56) (.head 0 (zy r (bg Ls) (cU n (br es)) (acc++[aG (aS (bT s))]))) (.doneM (.own 5) (rM r n es Ls++[aM 80 (acc++gn d b) 0]))
 | [],b,s,acc,hd,_,hF,_,hE,_,hb,hl,_=>by
  have e:=pz hd;have ep:bT s=bT b:=by rw[e,I0]
  rw[ep];have hbl:(bT b).length=b.length:=by simp[bT]
  refine RY (by grind) (RS hS hL (bT b) (by omega) _ b 0 rfl (fun x hx=>?_) (by omega) (EQ _ _ _ _ _ _ _ ?_ (.refl _)))
  ·obtain⟨m,h1,h2⟩:=vr (f:=dM) hF x hx;exact⟨m,h1,hE _ h2⟩
  ·unfold A4;rw[cy,bp (by omega),aP];rfl
 |l::d,b,s,acc,hd,hI,hF,hEI,hE,hdl,hb,hl,hne=>by
  obtain⟨e,hdk⟩:=oc hd;have ep:bT s=bT l:=by rw[e,IZ]
  have hll:=hdl l (er ..);have hpl:(bT l).length=l.length:=by simp[bT]
  have hkl:=MK hdk (fun x hx=>hdl x (by grind)) hb;have hlne:l≠[]:=by rintro rfl;exact hne e
  have hkne:=Pz hlne (mP (hI _ (er ..)));have ih:=RU hS hL d b (bR l) (acc++[aG (aS (bT l))]) hdk (fun x hx=>hI x (by grind)) hF (fun x hx=>hEI x (by grind)) hE (fun x hx=>hdl x (by grind)) hb (by grind) hkne;have e2:acc++[aG (aS (bT l))]++gn d b=acc++gn (l::d) b:=by simp[gn]
  rw[e2]at ih;rw[ep];refine RY (by grind) (RQ hS hL (bT l) (by omega) _ l 0 [] rfl (fun x hx=>?_) (by grind) (by omega) (EQ _ _ _ _ _ _ _ ?_ ih))
  ·obtain⟨m,h1,h2⟩:=vr (f:=cd) (hI _ (er ..)) x hx;exact⟨m,h1,hEI _ (er ..) _ h2⟩
  ·unfold A4;rw[eA,cy,bp (by omega),aP,dH,aP,aQ (aW (by grind))];rw[cy,bT,d9];simp_all
theorem RX{ups:List IL}{b:LL}(h:WT n r es ups b)(hL:dq n es Ls):cA aI aX 56 [.ptr 0 0 0] (rM r n es Ls)=aA (re (rM r n es Ls) (gn ups b)):=by
 have hl:=uh h;obtain⟨h1,h2⟩:=Ah h;obtain⟨h3,h4⟩:=Ab h;have:=RU (r:=r) h.shf hL ups b [(r,[])] [] h.dn h.okI h.okF h3 h4 h1 h2 (by grind) (by simp);exact YM _ _ _ rfl ⟨_,_,this,by kernel_rfl⟩
theorem aeG{ups:List IL}{b:LL}(h:WT n r es ups b)(hL:dq n es Ls):cA aI aX 55 [.ptr 0 0 0] (rM r n es Ls)=aA (xT (rM r n es Ls) (aS (bT b))):=by
 have hl:=uh h;have hlen:(gn ups b).length=ups.length+1:=by simp[gn]
 have w:W .i64 (((gn ups b).length:Int) - 1)=((ups.length:Nat):Int):=by rw[hlen,bf (by omega)];omega
 have hg:(gn ups b)[ups.length]? = aA (aG (aS (bT b))):=by simp[gn]
 refine YK _ _ _ (o:=.doneM (.sl (aS (bT b))) (rM r n es Ls++[aM 3 [] 0])) ?_ (.done (by kernel_rfl));unfold NH;rw[cY Qp (RX h hL),cF,w,aQ (by simp),bi,cG hg,jD]
theorem Sb(hS:cP n es)(hL:dq n es Ls)(P:List Int)(hP:P.length<=2000):∀(l:LL) (i:Nat) (acc:List Pr),P.drop i=bT l->(∀x∈l,∃m,okF x.2 m/\(x.1,dM x.2 m)∈es)->i<=P.length->acc.length+1000 * l.length<=5000000 ->
  Go qk aC 5 (fF 67) (.head 0 (B8 (aS P) (i:Int) r (bg Ls) (cU n (br es)) (bn acc))) (.doneM (.own 6) (rM r n es Ls++[aM 41 [] 0,aM 41 (bn (acc++bP l)) 0]))
 | [],i,acc,hd,_,hi,_=>by
  have h1:=fT hd;refine Tb _ _ _ _ _ _ ?_ (.refl _);unfold Kq;rw[cy,bp (by omega),aP];simp[bP]
 |(q,prs,h)::l,i,acc,hd,bA,hi,hl=>by
  obtain⟨h1,h2,h3⟩:=ej hd;obtain⟨m,hr,hm⟩:=bA (q,prs,h) (by simp);have hge:=i9 hS.nd hm;have hr:cK ⟨prs,h,m⟩=true:=hr;have g:=lA hr;have g1:=g.len;have g2:=g.wt;simp only at g1 g2;simp only[dp]at hl;have w:W .i64 ((i:Int)+1)=((i+1:Nat):Int):=by rw[bf (by omega)];omega
  have ih:=Sb hS hL P hP l (i+1) (acc++prs) h2 (fun y hy=>bA y (by grind)) (by omega) (by grind);have e:acc++prs++bP l=acc++bP ((q,prs,h)::l):=by rw[mJ,cO]
  rw[e]at ih;refine Tb _ _ _ _ _ _ ?_ ih;unfold Kq;rw[cy,aW (by omega),aZ,aQ (by simp),bi,f0 h1,bF,cY nL (qd (l:=⟨prs,h,m⟩) hS hL hge hr),cF,aQ (jI _),aQ (aW (by simp only[dv];omega)),w,AF]
theorem aeZ{ups:List IL}{b:LL}(h:WT n r es ups b)(hL:dq n es Ls):cA aI aX 67 [.ptr 0 0 0] (rM r n es Ls)=aA (xV (rM r n es Ls) (bn (bP b))):=by
 obtain⟨h1,h2⟩:=Ah h;obtain⟨h3,h4⟩:=Ab h;have hbl:(bT b).length=b.length:=by simp[bT]
 have:=Sb (r:=r) h.shf hL (bT b) (by omega) b 0 [] rfl (fun x hx=>by
  obtain⟨m,h1,h2⟩:=vr (f:=dM) h.okF x hx;exact⟨m,h1,h4 _ h2⟩) (by omega) (by grind)
 rw[eA]at this;refine YU _ _ _ ?_ ⟨_,_,this,by kernel_rfl⟩;unfold NM;rw[cY acI (aeG h hL),cF];rfl
end
section
variable {n:Nat}{r:Int}{es:Es}{Ls:List Bs}{g:Int}{w:Bool}
theorem Ef{P:List Int}(hP:P.length<=20000){Ts bs:List V}{o:dR}:∀(l T:List Int) (i:Nat),P.drop i=l++T->(∀x∈l,x≠g) ->
  Go qk aC 5 (fF 151) (.head 0 (mq (aS P) g w ((i+l.length:Nat):Int) r Ts bs)) o->Go qk aC 5 (fF 151) (.head 0 (mq (aS P) g w (i:Int) r Ts bs)) o
 | [],_,_,_,_,hg=>hg
 |x::l,T,i,hd,hx,hg=>by
  obtain⟨h1,h2,h3⟩:=ej (r:=l++T) hd;have w1:W .i64 ((i:Int)+1)=((i+1:Nat):Int):=by rw[bf (by omega)];omega
  refine J4 _ _ _ _ _ _ _ ?_ (Ef hP l T (i+1) h2 (fun y hy=>hx y (by grind)) (by rw[show i+1+l.length=i+(x::l).length by grind];exact hg));unfold yz;rw[cy,aW (by omega),aZ,aQ (by simp),bi,f0 h1,bF,fP (hx x (by simp)),aZ,w1]
theorem RB{P:List Int}{Ts bs:List V}{i:Nat}(hi:i=P.length):Go qk aC 5 (fF 151) (.head 0 (mq (aS P) g w (i:Int) r Ts bs)) (.doneM (.tup []) (rm r Ts bs)):=by
 refine J4 _ _ _ _ _ _ _ ?_ (.refl _);unfold yz;rw[cy,bp (by omega),aP]
theorem aev{C:List Int}(hd:(g::C).Nodup)(hP:C.length<=10000){Ts bs:List V}:cA aI aX 151 [.ptr 0 0 0,.sl (aS (g::C)),.int .i64 g,.bool w] (rm r Ts bs)=aA (tG (r,Ts,bs)):=by
 have hg:=(o5.1 hd).1
 have h1:Go qk aC 5 (fF 151) (.head 0 (mq (aS (g::C)) g w ((1:Nat):Int) r Ts bs)) (.doneM (.tup []) (rm r Ts bs)) :=
  Ef (by grind) C [] 1 (by simp) (fun x hx e=>hg (e ▸ hx)) (RB (by grind))
 exact Nf _ _ _ _ _ _ rfl ⟨_,_,h1,by kernel_rfl⟩
theorem RD{A C:List Int}{z:Int}(hd:(A++z::g::C).Nodup)(hP:(A++z::g::C).length<=10000){Ts bs Ts' bs':List V}
  (hs:yz (aS (A++z::g::C)) g w ((A.length+1:Nat):Int) r Ts bs=aA (.head 0 (mq (aS (A++z::g::C)) g w ((A.length+2:Nat):Int) r Ts' bs'))) :
  cA aI aX 151 [.ptr 0 0 0,.sl (aS (A++z::g::C)),.int .i64 g,.bool w] (rm r Ts bs)=aA (tG (r,Ts',bs')):=by
 obtain⟨_,h2,h3⟩:=uA.1 hd;obtain⟨h4,h5⟩:=o5.1 h2;have h6:=(o5.1 h5).1;have hl:(A++z::g::C).length=A.length+2+C.length:=by grind
 obtain⟨D,hD,hDl⟩:∃D,(A++z::g::C).drop 1=D++g::C/\D.length=A.length/\∀x∈D,x∈A++[z]:=by
  cases A with
  |nil=>grind
  |cons a A=>exact⟨A++[z],by simp,by simp,by grind⟩
 have h1:Go qk aC 5 (fF 151) (.head 0 (mq (aS (A++z::g::C)) g w ((1:Nat):Int) r Ts bs)) (.doneM (.tup []) (rm r Ts' bs')):=by
  refine Ef (by omega) D (g::C) 1 hD (fun x hx e=>?_) ?_
  ·grind
  ·rw[hDl.1,sg 1];refine J4 _ _ _ _ _ _ _ hs (Ef (by omega) C [] (A.length+2) ?_ (fun x hx e=>h6 (e ▸ hx)) (RB (by omega)));simp_all
 exact Nf _ _ _ _ _ _ rfl ⟨_,_,h1,by kernel_rfl⟩
theorem P8{A C:List Int}{z:Int}:(A++z::g::C)[A.length+1]? = aA g/\(A++z::g::C)[A.length]? = aA z:=by
 grind
theorem aet(hSh:cP n es)(hL:dq n es Ls){A C:List Int}{z:Int}(hd:(A++z::g::C).Nodup)(hP:(A++z::g::C).length<=10000){ez eg:Su}{nz ng:Int}(hz:cT es z=aA (cv (aV ez nz)))(hg:cT es g=aA (cv (aV eg ng)))(rz:bZ (aV ez nz)=aC)(rg:bZ (aV eg ng)=aC)(hne:ez≠[])
  (rn:bZ (aV (hS w (bG eg) ez) ng)=aC) :
  cA aI aX 151 [.ptr 0 0 0,.sl (aS (A++z::g::C)),.int .i64 g,.bool w] (rM r n es Ls)=aA (tG (r,bg (Ls.set z.toNat (cd (hS w (bG eg) ez) ng)),cU n (br (bD es z (cd (hS w (bG eg) ez) ng))))):=by
 have hl:(A++z::g::C).length=A.length+2+C.length:=by grind
 obtain⟨i1,i2⟩:=P8 (A:=A) (C:=C) (z:=z) (g:=g);have w1:W .i64 (((A.length+1:Nat):Int)+1)=((A.length+2:Nat):Int):=by rw[bf (by omega)];omega
 have w2:W .i64 (((A.length+1:Nat):Int) - 1)=((A.length:Nat):Int):=by rw[bf (by omega)];omega
 have hH:=N2 w (bG eg) ez hne nz ng;refine RD hd hP ?_;unfold yz;rw[cy,aW (by omega),aZ,aQ (aW (by omega)),bi,f0 i1,bF,dA rfl,aP,w2,aQ (by simp),bi,f0 i2,bF,cY nL (RP hSh hL hz rz),cF,cY nL (RP hSh hL hg rg),cF,aQ (by simp),f0 i2,bF,cY l9 (qc hSh hL hz rz),cF,cY l9 (qc hSh hL hg rg),cF,aP];cases w with
 |true =>
  rw[aZ,aQ (by simp),f0 i2,bF];have hH:aH [aG (bg (aV ez nz).seps),aG (aS (aV ez nz).kids),aE (bG eg),aB .i64 ng]=eI (aV (hS aC (bG eg) ez) ng):=hH;rw[hH,aN (sU _ (gF rn)),cR,cH lF (lJ hSh hL (fB hz) (nv rn)),w1];rfl
 |false =>
  rw[aP,aQ (by simp),f0 i2,bF];have hH:aH [aG (bg (aV ez nz).seps),aG (aS (aV ez nz).kids),aE (aV ez nz).high,aB .i64 ng]=eI (aV (hS aD (bG eg) ez) ng):=hH;rw[hH,aN (sU _ (gF rn)),cR,cH lF (lJ hSh hL (fB hz) (nv rn)),w1];rfl
theorem aeu(hSh:cP n es)(hL:dq n es Ls){A C:List Int}{z:Int}(hd:(A++z::g::C).Nodup)(hP:(A++z::g::C).length<=10000){lz lg:Lf}(hz:cT es z=aA (bq lz))(hg:cT es g=aA (bq lg))(rz:cK lz=aC)(rg:cK lg=aC)
  (rn:cK ⟨lz.prs,bif w then lg.high else lz.high,lg.next⟩=aC) :
  cA aI aX 151 [.ptr 0 0 0,.sl (aS (A++z::g::C)),.int .i64 g,.bool w] (rM r n es Ls)=aA (tG (r,bg (Ls.set z.toNat (bq ⟨lz.prs,bif w then lg.high else lz.high,lg.next⟩)),cU n (br (bD es z (bq ⟨lz.prs,bif w then lg.high else lz.high,lg.next⟩))))):=by
 have hl:(A++z::g::C).length=A.length+2+C.length:=by grind
 obtain⟨i1,i2⟩:=P8 (A:=A) (C:=C) (z:=z) (g:=g);have w1:W .i64 (((A.length+1:Nat):Int)+1)=((A.length+2:Nat):Int):=by rw[bf (by omega)];omega
 have w2:W .i64 (((A.length+1:Nat):Int) - 1)=((A.length:Nat):Int):=by rw[bf (by omega)];omega
 refine RD hd hP ?_;unfold yz;rw[cy,aW (by omega),aZ,aQ (aW (by omega)),bi,f0 i1,bF,dA rfl,aP,w2,aQ (by simp),bi,f0 i2,bF,cY nL (qd hSh hL hz rz),cF,cY nL (qd hSh hL hg rg),cF,aQ (by simp),f0 i2,bF,cY l9 (AL hSh hL hz rz),cF,cY l9 (AL hSh hL hg rg),cF,aZ];cases w with
 |true =>
  rw[aZ,aQ (by simp),f0 i2,bF];have rn:cK ⟨lz.prs,lg.high,lg.next⟩=true:=rn;show(aL aI _ [eL ⟨lz.prs,lg.high,lg.next⟩] _)=_;rw[aN (qa _ rn),cR,cH lF (lJ hSh hL (fB hz) (pA rn)),w1];rfl
 |false =>
  rw[aP,aQ (by simp),f0 i2,bF];have rn:cK ⟨lz.prs,lz.high,lg.next⟩=true:=rn;show(aL aI _ [eL ⟨lz.prs,lz.high,lg.next⟩] _)=_;rw[aN (qa _ rn),cR,cH lF (lJ hSh hL (fB hz) (pA rn)),w1];rfl
end
theorem OV{es:Es}{p:Int}{b:Bs}(h:cT es p=aA b):(p,b)∈es:=by
 induction es with
 |nil=>cases h
 |cons x es ih =>
  obtain⟨a,y⟩:=x;rw[cT]at h;grind
theorem ab0{n:Nat}{E1 E2:Es}{Ls:List Bs}(hn:(bB E1).Nodup)(hp:E1.Perm E2)(h:dq n E1 Ls):dq n E2 Ls :=
 ⟨h.len,fun p b hb=>h.at_ p b (i9 hn (hp.mem_iff.2 (OV hb)))⟩
theorem agJ{E1 E2:Es}(hp:E1.Perm E2):br E1=br E2:=KZ fun p=>(List.Perm.mem_iff (hp.map (fun x:Int × Bs=>x.1)))
theorem ab5{a b:List (List Int)}{c d e f:List Int}(h1:mX a c e)(h2:mX b d f):mX (a++b) (c++d) (e++f):=by
 induction h1 with
 |nil=>grind
 |cons q _ ih=>exact .cons q ih
theorem ab6{a:List (List Int)}{c e:List Int}(h:mX a c e):mX a.reverse c.reverse e.reverse:=by
 induction h with
 |nil=>exact .nil
 |cons q _ ih=>simp only[Bz];exact ab5 ih (.cons q .nil)
theorem P7{a b:List (List Int)}{e f:List Int}(h1:mj a e)(h2:mj b f):mj (a++b) (e++f):=by
 induction h1 with
 |nil=>grind
 |cons q _ ih=>exact .cons q ih
theorem ab7{a:List (List Int)}{e:List Int}(h:mj a e):mj a.reverse e.reverse:=by
 induction h with
 |nil=>exact .nil
 |cons q _ ih=>simp only[Bz];exact P7 ih (.cons q .nil)
section
variable {n:Nat}{r:Int}{es:Es}{Ls:List Bs}{o:dR}
theorem ae9{r':Int}{es':Es}(h:lR n r es r' es')(hL:dq n es Ls):dq n es' Ls/\∃i:List V × List V × Bs × Int × Bool,cA aI aX 95 [.ptr 0 0 0,.int .i64 r] (rM r n es Ls)=aA (jY (rM r n es Ls) i) /\
  ∃b,Go qk aC 5 (fF 111) (.head 4 (BR i.2.2.2.2 r (bg Ls) (cU n (br es)) i.1 i.2.1 i.2.2.1 i.2.2.2.1)) (.doneM (.tup []) (rM r' n es' Ls++[aJ 152 b aD])):=by
 induction h with
 |@leaf r es l hs hg hr =>
  refine⟨hL,_,AL hs hL hg hr,aH [aG [],aG [],aE [],aB .i64 0],JR _ _ _ _ _ _ _ _ ?_ (.refl _)⟩;unfold Et;grind
 |@stop r es e nx hs hg hr h2 =>
  refine⟨hL,_,qc hs hL hg hr,eI (aV e nx),JR _ _ _ _ _ _ _ _ ?_ (.refl _)⟩;unfold Et;rw[aZ,dH (show((aS (aV e nx).kids).length:Int)≠1 by rw[cy,d9];omega),aP]
 |@one r es k h nx r' es' hs hg hr _ ih =>
  obtain⟨h1,i,h2,b,h3⟩:=ih (P1 hs hL);refine⟨h1,_,qc hs hL hg hr,b,JR _ _ _ _ _ _ _ _ ?_ h3⟩;unfold Et;rw[aZ,db (by rfl),aZ,cH Qn (Ry hs hL (fB hg)),f0 (show(aV [(k,h)] nx).kids[0]? = aA k from rfl),bF];show(dJ aI _ _ _ _ (rM k n (fO es r) Ls) _)=_;rw[cY l9 h2,cF]
theorem Rz{X:List Int}(hX:X.length<=20000):∀(ps:Es) (i:Nat) (es R:Es),X.drop i=bB ps->i<=X.length->cP n es->dq n es Ls->es.Perm (ps++R) ->
  (dq n (oy es (bB ps)) Ls->Go qk aC 5 (fF 111) (.head 3 (wG (aS X) (X.length:Int) r (bg Ls) (cU n (br (oy es (bB ps)))))) o) ->
  Go qk aC 5 (fF 111) (.head 3 (wG (aS X) (i:Int) r (bg Ls) (cU n (br es)))) o
 | [],i,es,R,hd,hi,_,hL,_,hg=>by
  have h1:=fT hd;have e:i=X.length:=by omega
  subst e;exact hg hL
 |(p,b)::ps,i,es,R,hd,hi,hS,hL,hp,hg=>by
  obtain⟨h1,h2,h3⟩:=ej hd;have ih:=Rz hX ps (i+1) (fO es p) R h2 (by omega) (EW hS p) (P1 hS hL) (CC hS.nd hp) hg;have w:W .i64 ((i:Int)+1)=((i+1:Nat):Int):=by rw[bf (by omega)];omega
  refine Sx _ _ _ _ _ ?_ ih;unfold JQ;rw[cy,aW (by omega),aZ,aQ (by simp),bi,f0 h1,bF,cH Qn (Ry hS hL (gp hp)),w]
theorem RA(hS0:cP n es)(hL:dq n es Ls){X:List Int}(hX:X.length<=20000):∀(ss:List bh) (x:bh) (rest:List bh) (D:List Int) (s:bh) (T:List bh),ss++x::rest=s::T->X=(ss++x::rest).reverse.map (·.1)++D->(∀s∈ss,s.2.1.length=1)->(∀s∈ss++[x],cT es s.1=aA (cv (aV s.2.1 s.2.2.1))/\bZ (aV s.2.1 s.2.2.1)=aC) ->
  Go qk aC 5 (fF 111) (.head 0 (ze (aS X) (rest.length:Int) r (bg Ls) (cU n (br es)) (bg (aV x.2.1 x.2.2.1).seps) (aS (aV x.2.1 x.2.2.1).kids) (bG x.2.1) x.2.2.1)) o ->
  Go qk aC 5 (fF 111) (.head 0 (ze (aS X) (T.length:Int) r (bg Ls) (cU n (br es)) (bg (aV s.2.1 s.2.2.1).seps) (aS (aV s.2.1 s.2.2.1).kids) (bG s.2.1) s.2.2.1)) o
 | [],x,rest,D,s,T,h,_,_,_,hg=>by
  grind
 |a::ss,x,rest,D,s,T,h,hd,h1,bA,hg=>by
  obtain⟨rfl,hT⟩:=List.cons.inj h;obtain⟨s2,T2,hT2⟩:∃s2 T2,ss++x::rest=s2::T2:=uv (by simp);have hT':T=s2::T2:=hT.symm.trans hT2;subst hT';have hd2:X=(ss++x::rest).reverse.map (·.1)++(a.1::D):=by grind
  have ih:=RA hS0 hL hX ss x rest (a.1::D) s2 T2 hT2 hd2 (fun s hs=>h1 s (by grind)) (fun s hs=>bA s (by grind)) hg
  have hin:s2∈ss++[x]:=by
   cases ss with
   |nil=>grind
   |cons b ss=>grind
  obtain⟨hg2,hr2⟩:=bA s2 (by grind)
  have hx:X[T2.length]? = aA s2.1:=by
   simp_all
  have hl:T2.length < X.length:=(bX.1 hx).1;have w:W .i64 (((s2::T2).length:Int) - 1)=((T2.length:Nat):Int):=by rw[dp,bf (by omega)];omega
  have hk:((aS (aV a.2.1 a.2.2.1).kids).length:Int)=1:=by rw[cy,d9,h1 a (by simp)];rfl
  refine Sv _ _ _ _ _ _ _ _ _ ?_ ih;unfold JO;rw[db hk,aZ,w,aQ (by simp),bi,f0 hx,bF,cY l9 (qc hS0 hL hg2 hr2),cF]
theorem RO{X kids:List Int}{at_:Nat}{q:Int}(hX:X.length<=20000)(hk:kids.length<=20000)(hx:X[at_+1]? = aA q)(hn:kids.Nodup){xi:Nat}(hxi:kids[xi]? = aA q){Ts bs sp:List V}{hi:Bs}{nx:Int}{lv:List V}{mm:List O}
  (hlv:cA aI aX 56 [.ptr 0 0 0] (rm r Ts bs)=aA (re (rm r Ts bs) lv))
  (hg:Go qk aC 5 (fF 111) (.head 2 (m5 (aS X) (at_:Int) (xi:Int) lv ((at_+1:Nat):Int) r Ts bs sp (aS kids) hi nx)) o):∀(d i:Nat),i+d=xi ->
  Go qk aC 5 (fF 111) (.head 1 (BQ (aS X) (at_:Int) (i:Int) r Ts bs sp (aS kids) hi nx)) o
 |0,i,hi0=>by
  obtain rfl:i=xi:=by omega
  have hl:=(bX.1 hx).1;have w:W .i64 ((at_:Int)+1)=((at_+1:Nat):Int):=by rw[bf (by omega)];omega
  refine Sw _ _ _ _ _ _ _ _ _ _ ?_ hg;unfold JP;rw[aQ (by simp),bi,f0 hxi,bF,w,aQ (aW (by omega)),bi,f0 hx,bF,dA rfl,aP,cY Qp hlv,cF]
 |d+1,i,hi0=>by
  have hl:=(bX.1 hx).1;obtain⟨hl2,hv⟩:=bX.1 hxi;have hi1:i < kids.length:=by omega
  have hne:kids[i]≠q:=by
   rw[<-hv];exact By.1 hn i xi hi1 hl2 (by omega)
  have w:W .i64 ((at_:Int)+1)=((at_+1:Nat):Int):=by rw[bf (by omega)];omega
  have w1:W .i64 ((i:Int)+1)=((i+1:Nat):Int):=by rw[bf (by omega)];omega
  refine Sw _ _ _ _ _ _ _ _ _ _ ?_ (RO hX hk hx hn hxi (mm:=mm) hlv hg d (i+1) (by omega));unfold JP;rw[aQ (by simp),bi,f0 (cj hi1),bF,w,aQ (aW (by omega)),bi,f0 hx,bF,fP hne,aZ,w1]
theorem RF{X:List Int}(hX:X.length<=20000){LV:List V}{at_ xi nx:Int}{sp kd:List V}{hi:Bs}{Ts bs:List V}:∀(Ps:List (List Int)) (gs:List Int) (k:Nat),mj Ps gs->(∃T,X.drop k=gs++T)->(∃T,LV.drop k=Ps.map (fun P=>aG (aS P))++T)->(∀P∈Ps,P.length<=10000) ->
  Go qk aC 5 (fF 111) (.head 2 (m5 (aS X) at_ xi LV ((k+gs.length:Nat):Int) r Ts bs sp kd hi nx)) o ->
  Go qk aC 5 (fF 111) (.head 2 (m5 (aS X) at_ xi LV (k:Int) r Ts bs sp kd hi nx)) o
 |_,_,_,.nil,_,_,_,hg=>hg
 |_,_,k,@mj.cons C g Ps gs hd hr,⟨T,h1⟩,⟨T2,h2⟩,hP,hg=>by
  obtain⟨a1,a2,a3⟩:=ej (l:=X) (r:=gs++T) h1;obtain⟨b1,b2,b3⟩:=ej (l:=LV) (r:=Ps.map (fun P=>aG (aS P))++T2) h2;have hC:=hP (g::C) (by simp);simp only[dp]at hC;have w:W .i64 ((k:Int)+1)=((k+1:Nat):Int):=by rw[bf (by omega)];omega
  have ih:=RF hX (LV:=LV) (at_:=at_) (xi:=xi) (nx:=nx) (sp:=sp) (kd:=kd) (hi:=hi) (Ts:=Ts) (bs:=bs) Ps gs (k+1) hr ⟨T,a2⟩ ⟨T2,b2⟩ (fun P hp=>hP P (by grind)) (by rw[show k+1+gs.length=k+(g::gs).length by grind];grind);refine Er _ _ _ _ _ _ _ _ _ _ _ _ ?_ ih;unfold AU;rw[cy,aW (by omega),aZ,aQ (by simp),bi,cG b1,jD,aQ (by simp),f0 a1,bF,cH IC (aev hd (by omega)),w]
def xD(Ls:List Bs)(l:Es):List Bs:=l.foldl (fun e x=>e.set x.1.toNat x.2) Ls
theorem RE{X:List Int}(hX:X.length<=20000){LV:List V}{at_ xi nx:Int}{sp kd:List V}{hi:Bs}{w:Bool}(hw:w=decide (xi > 0))(h:Bs):∀(Ps:List (List Int)) (zo gs:List Nd) (k:Nat) (es R:Es) (Ls:List Bs),mX Ps (zo.map (·.1)) (gs.map (·.1))->cP n es->dq n es Ls->es.Perm (cx zo++R)->(∀g∈gs,(g.1,cd g.2.1 g.2.2)∈R) ->
  (∀z∈zo,z.2.1≠[]/\bZ (aV z.2.1 z.2.2)=aC)->(∀g∈gs,bZ (aV g.2.1 g.2.2)=aC/\bG g.2.1=h)->(∀z∈dC w h zo gs,bZ (aV z.2.1 z.2.2)=aC)->(∃T,X.drop k=gs.map (·.1)++T)->(∃T,LV.drop k=Ps.map (fun P=>aG (aS P))++T)->(∀P∈Ps,P.length<=10000) ->
  (dq n (dD es (cx (dC w h zo gs))) (xD Ls (cx (dC w h zo gs)))->Go qk aC 5 (fF 111) (.head 2 (m5 (aS X) at_ xi LV ((k+gs.length:Nat):Int) r (bg (xD Ls (cx (dC w h zo gs)))) (cU n (br (dD es (cx (dC w h zo gs))))) sp kd hi nx)) o) ->
  Go qk aC 5 (fF 111) (.head 2 (m5 (aS X) at_ xi LV (k:Int) r (bg Ls) (cU n (br es)) sp kd hi nx)) o
 |_,[],[],k,es,R,Ls,_,_,hL,_,_,_,_,_,_,_,_,hg=>hg hL
 |_,[],_::_,_,_,_,_,hl,_,_,_,_,_,_,_,_,_,_,_=>by cases hl
 |_,_::_,[],_,_,_,_,hl,_,_,_,_,_,_,_,_,_,_,_=>by cases hl
 |_,(z,ez,nz)::zo,(q,eq,nq)::gs,k,es,R,Ls,@mX.cons A C _ _ Ps _ _ hd hr,hs,hL,hp,hR,hz,hgs,hnew,⟨T,h1⟩,⟨T2,h2⟩,hP,hg=>by
  obtain⟨a1,a2,a3⟩:=ej (l:=X) (r:=gs.map (·.1)++T) h1;obtain⟨b1,b2,b3⟩:=ej (l:=LV) (r:=Ps.map (fun P=>aG (aS P))++T2) h2;obtain⟨hne,hrz⟩:=hz (z,ez,nz) (by simp);obtain⟨hrq,hhq⟩:=hgs (q,eq,nq) (by simp);simp only at hhq;subst hhq;have hrn:bZ (aV (hS w (bG eq) ez) nq)=true:=hnew (z,hS w (bG eq) ez,nq) (by simp[dC]);have hgz:cT es z=aA (cv (aV ez nz)):=mL hs.nd hp;have hgq:cT es q=aA (cv (aV eq nq)):=i9 hs.nd (hp.mem_iff.2 (uz _ (hR (q,eq,nq) (by simp))));have hp2:=j6 (b':=cv (aV (hS w (bG eq) ez) nq)) hs.nd hp;have hs2:=iY hs (b:=cv (aV (hS w (bG eq) ez) nq)) (gp hp);have hL2:=ku hs hL (hs.rng z (gp hp)) (cv (aV (hS w (bG eq) ez) nq));have hPl:=hP _ (er ..)
  have ih:=RE hX (LV:=LV) (at_:=at_) (xi:=xi) (nx:=nx) (sp:=sp) (kd:=kd) (hi:=hi) hw (bG eq) Ps zo gs (k+1) _ ((z,cv (aV (hS w (bG eq) ez) nq))::R) _ hr hs2 hL2 (hp2.trans List.perm_middle.symm) (fun g hg=>y6 _ (hR g (by grind))) (fun y hy=>hz y (by grind)) (fun y hy=>hgs y (by grind)) (fun y hy=>hnew y (by
   show y∈(z,hS w (bG eq) ez,nq)::dC w (bG eq) zo gs;grind)) ⟨T,a2⟩ ⟨T2,b2⟩ (fun P hp=>hP P (by grind)) (fun hL'=>by
   have:=hg hL';rw[show k+1+gs.length=k+((q,eq,nq)::gs).length by grind];exact this)
  have w1:W .i64 ((k:Int)+1)=((k+1:Nat):Int):=by rw[bf (by omega)];omega
  refine Er _ _ _ _ _ _ _ _ _ _ _ _ ?_ ih;unfold AU;rw[cy,aW (by omega),aZ,aQ (by simp),bi,cG b1,jD,aQ (by simp),f0 a1,bF,<-hw];show(bH aI _ _ _ _ (rM r n es Ls) _)=_;rw[cH IC (aet hs hL hd hPl hgz hgq hrz hrq hne hrn),w1];rfl
end
theorem ag0{es:Es}{k:Bs}{p:Int}{ws:List bh}{pl:Int}{l:Lf}(h:jy es k p ws pl l):(dX ws pl)[0]? = aA p:=by
 cases h with
 |leaf _ _=>rfl
 |inn _ _ _ _ _=>rfl
theorem ag1{es:Es}{k:Bs}{p:Int}{ws:List bh}{pl:Int}{l:Lf}(h:jy es k p ws pl l):∀(A:List bh) (s:bh) (D:List bh),ws=A++s::D->∃q,(aV s.2.1 s.2.2.1).kids[s.2.2.2]? = aA q/\(dX ws pl)[A.length+1]? = aA q:=by
 induction h with
 |leaf _ _=>simp_all
 |@inn p e nx i p' sts pl l hg hr hf hi hw ih =>
  intro A s D e0;cases A with
  |nil =>
   obtain⟨rfl,rfl⟩:=List.cons.inj e0;exact⟨p',hi,ag0 hw⟩
  |cons a A =>
   obtain⟨rfl,e2⟩:=List.cons.inj e0;obtain⟨q,h1,h2⟩:=ih A s D e2;exact⟨q,h1,h2⟩
theorem P2{n:Nat}:∀{L L':Es} {es R:Es} {Ls:List Bs},es.Perm (L++R)->bB L=bB L'->cP n es->dq n es Ls->dq n (dD es L') (xD Ls L')
 | [],[],_,_,_,_,_,_,hL=>hL
 |(a,x)::L,[],_,_,_,_,e,_,_=>by simp[bB]at e
 | [],(a,x)::L,_,_,_,_,e,_,_=>by simp[bB]at e
 |(a,x)::L,(a',y)::L',es,R,Ls,h,e,hs,hL=>by
  have e:a::bB L=a'::bB L':=e;obtain⟨rfl,e2⟩:=List.cons.inj e;exact P2 (L:=L) (L':=L') (es:=bD es a y) (R:=(a,y)::R) (Ls:=Ls.set a.toNat y) ((j6 (b':=y) hs.nd h).trans List.perm_middle.symm) e2 (iY hs (gp h)) (ku hs hL (hs.rng a (gp h)) y)
section
variable {n:Nat}{r:Int}{es:Es}{ws:List bh}{pl:Int}{lf:Lf}{w:Bool}{zl:List Nl}{gs zo:List Nd}{xo X:Nd}{ss:List bh}{xi:Nat}{rest:List bh}{out:List Int}{R:Es}{r':Int}{es':Es}{Ls:List Bs}
theorem Uo(d:li n es ws pl lf w zl gs zo xo X ss xi rest out R):ws=rest.reverse++(xo.1,xo.2.1,xo.2.2,xi)::ss.reverse:=by
 have:=ef List.reverse d.x.fst;grind
theorem Ug(d:li n es ws pl lf w zl gs zo xo X ss xi rest out R):(dX ws pl)[rest.length]? = aA xo.1/\(dX ws pl).drop (rest.length+1)=gs.reverse.map (·.1)++[pl]/\(dX ws pl).length=rest.length+1+gs.length+1:=by
 have e:dX ws pl=rest.reverse.map (·.1)++xo.1::(gs.reverse.map (·.1)++[pl]):=by
  unfold dX;rw[Uo d,d.x.fgs];simp_all
 rw[e];refine⟨?_,?_,by grind⟩
 ·grind
 ·rw[show rest.reverse.map (·.1)++xo.1::(gs.reverse.map (·.1)++[pl])=(rest.reverse.map (·.1)++[xo.1])++(gs.reverse.map (·.1)++[pl]) by simp];exact CE _ _ (by simp)
theorem Rr(d:li n es ws pl lf w zl gs zo xo X ss xi rest out R)(hsk:lR n r (mF es pl lf w zl gs zo X) r' es')(LV:List V){E2:Es}{Ls2:List Bs}
  (hp:E2.Perm (fZ (gw w lf zl)++(cx (dC w lf.high zo gs)++((pl,bq lf)::(cx gs++(cx [xo]++R)))))) (hs2:cP n E2) (hL2:dq n E2 Ls2) :
  dq n es' (Ls2.set xo.1.toNat (cd X.2.1 X.2.2))/\∃b,Go qk aC 5 (fF 111) (.head 2 (m5 (aS (dX ws pl)) (rest.length:Int) (xi:Int) LV ((dX ws pl).length:Int) r (bg Ls2) (cU n (br E2)) (bg (aV xo.2.1 xo.2.2).seps) (aS (aV xo.2.1 xo.2.2).kids) (bG xo.2.1) xo.2.2))
   (.doneM (.tup []) (rM r' n es' (Ls2.set xo.1.toNat (cd X.2.1 X.2.2))++[aJ 152 b aD])):=by
 obtain⟨x1,x2,x3⟩:=Ug d;have hlen:=d.len;have hwl:(dX ws pl).length=ws.length+1:=by simp[dX]
 have hp2:E2.Perm ((xo.1,cd xo.2.1 xo.2.2)::((((pl,bq lf)::cx gs))++(fZ (gw w lf zl)++(cx (dC w lf.high zo gs)++R)))):=by
  refine hp.trans (k7.2 fun x=>?_);simp only[kK,lT,oo];simp only[cx,fX,pw];omega
 have hgx:=mL hs2.nd hp2;have hp3:=j6 (b':=cd X.2.1 X.2.2) hs2.nd hp2;have hs3:=iY hs2 (b:=cd X.2.1 X.2.2) (gp hp2);have hL3:=ku hs2 hL2 (hs2.rng xo.1 (gp hp2)) (cd X.2.1 X.2.2);obtain⟨E3,hE3⟩:∃E3,E3=bD E2 xo.1 (cd X.2.1 X.2.2):=⟨_,rfl⟩
 obtain⟨ps,hps⟩:∃ps,ps=((pl,bq lf)::cx gs).reverse:=⟨_,rfl⟩
 have hkp:bB ps=gs.reverse.map (·.1)++[pl]:=by rw[hps];simp[bB,cx,wz]
 have hp4:(bD E2 xo.1 (cd X.2.1 X.2.2)).Perm (ps++((X.1,cd X.2.1 X.2.2)::(fZ (gw w lf zl)++(cx (dC w lf.high zo gs)++R)))):=by
  have h1:ps.Perm ((pl,bq lf)::cx gs):=by grind
  refine(hp3.trans (k7.2 fun x=>?_)).trans (List.Perm.append_right _ h1.symm);rw[d.x.pg];simp only[kK,lT];omega
 have h5:=H3 hs3 hp4;have hdp:=d.left.1
 have hpd:(oy (bD E2 xo.1 (cd X.2.1 X.2.2)) (bB ps)).Perm (mF es pl lf w zl gs zo X):=by
  refine h5.1.trans (List.Perm.trans (k7.2 fun x=>?_) hdp.symm);simp only[kK,lT,oo];simp only[cx,fX,pw];omega
 have hdel:gD (aV xo.2.1 xo.2.2) (xi:Int)=(aV X.2.1 X.2.2,0):=by
  unfold gD;have:=d.x.lti;have:=d.x.two;rw[aU ⟨d.rxo,by omega,by grind,by grind⟩,bi,d.x.del]
 have hdo:=Wn (aV xo.2.1 xo.2.2) (xi:Int) (gF d.rxo);rw[hdel]at hdo
 have hL4:dq n (mF es pl lf w zl gs zo X) (Ls2.set xo.1.toNat (cd X.2.1 X.2.2)):=by
  refine ab0 h5.2.nd hpd ⟨hL3.len,fun q b hq=>?_⟩;refine hL3.at_ q b (i9 hs3.nd (hp4.mem_iff.2 (uz _ (h5.1.mem_iff.1 (OV hq)))))
 obtain⟨hL',i,hi,b,hgo⟩:=ae9 hsk hL4;have w1:W .i64 ((rest.length:Int)+1)=((rest.length+1:Nat):Int):=by rw[bf (by omega)];omega
 refine⟨hL',b,Er _ _ _ _ _ _ _ _ _ _ _ _ (o:=.head 3 (wG (aS (dX ws pl)) ((rest.length+1:Nat):Int) r (bg (Ls2.set xo.1.toNat (cd X.2.1 X.2.2))) (cU n (br (bD E2 xo.1 (cd X.2.1 X.2.2)))))) ?_ (Rz (by omega) ps (rest.length+1) _ _ (by grind) (by omega) hs3 hL3 hp4 fun _=>?_)⟩
 ·unfold AU;rw[cy,bp (by omega),aP];show(aL aI _ [eI (aV xo.2.1 xo.2.2),_] _)=_;rw[aN hdo,uQ,aQ (by simp),bi,f0 x1,bF];show(aL aI _ [eI (aV X.2.1 X.2.2)] _)=_;rw[aN (sU _ (gF d.rX)),cR,cH lF (lJ hs2 hL2 (gp hp2) (nv d.rX)),w1];rfl
 ·rw[agJ hpd];refine Sx _ _ _ _ _ ?_ hgo;unfold JQ;rw[cy,bp (by omega),aP];show(dJ aI _ _ _ _ (rM r n (mF es pl lf w zl gs zo X) (Ls2.set xo.1.toNat (cd X.2.1 X.2.2))) _)=_;rw[cY l9 hi,cF]
theorem aec(d:li n es ws pl lf w zl gs zo xo X ss xi rest out R)(hl:Bn n r es ws pl zl gs zo xo)(hsk:lR n r (mF es pl lf w zl gs zo X) r' es')(hL:dq n es Ls) :
  ∃Ls',dq n es' Ls'/\∃LV b,cA aI aX 56 [.ptr 0 0 0] (rM r n es Ls)=aA (re (rM r n es Ls) LV) /\
   Go qk aC 5 (fF 111) (.head 2 (m5 (aS (dX ws pl)) (rest.length:Int) (xi:Int) LV ((rest.length+1:Nat):Int) r (bg Ls) (cU n (br es)) (bg (aV xo.2.1 xo.2.2).seps) (aS (aV xo.2.1 xo.2.2).kids) (bG xo.2.1) xo.2.2))
   (.doneM (.tup []) (rM r' n es' Ls'++[aJ 152 b aD])):=by
 obtain⟨ups,b,Ps,U,A,C,hW,hnd,hul,l1,l2,l3,l4,l5,l6,l7⟩:=hl;obtain⟨x1,x2,x3⟩:=Ug d;have hlen:=d.len;have hwl:(dX ws pl).length=ws.length+1:=by simp[dX]
 have hu:=ef oZ l1;rw[d9,wy,eV]at hu;have hU:U.length=rest.length+1:=by omega
 have e1:ups.map bT=U.reverse++Ps.reverse:=by
  simp_all
 have hLV:gn ups b=U.reverse.map (fun P=>aG (aS P))++(Ps.reverse++[bT b]).map (fun P=>aG (aS P)):=by
  have:(ups.map fun l=>aG (aS (bT l)))=(ups.map bT).map fun P=>aG (aS P):=by simp
  unfold gn;grind
 have hd:(gn ups b).drop (rest.length+1)=(Ps.reverse++[bT b]).map (fun P=>aG (aS P)):=by grind
 obtain⟨le1,le2⟩:=Ah hW
 have hPl:∀P∈Ps.reverse++[bT b],P.length<=10000:=by
  intro P hP;rcases cz.1 hP with hP|hP
  ·have:P∈ups.map bT:=by grind
   obtain⟨l,hl,rfl⟩:=ib.1 this;have:=le1 l hl;simp only[bT,d9];omega
  ·rw[jO.1 hP];simp only[bT,d9];omega
 have hlv:=RX hW hL;have hzl1:=d.zl1
 match hzl:zl,hzl1 with
 | [],_ =>
  have hzo:=d.zl0 rfl;subst hzo;obtain⟨h1,b2,h2⟩:=Rr d hsk (gn ups b) (E2:=es) (Ls2:=Ls) d.perm d.shf hL;refine⟨_,h1,_,b2,hlv,?_⟩
  have hA:A=[]:=by
   simp_all
  subst hA;rw[eA]at l3
  have hN:mj (Ps.reverse++[bT b]) (gs.reverse.map (·.1)++[pl]):=by
   refine P7 ?_ (by rw[l3]at l4 |-;exact .cons l4 .nil);rw[wz];exact ab7 (l7 rfl)
  refine RF (by omega) _ _ _ hN ⟨[],by grind⟩ ⟨[],by grind⟩ hPl ?_;grind
 | [(z,lz)],_ =>
  have hzo:=d.zo1 (by simp);have hgl:=d.x.fgs;have hF:=l6 (by simp)
  obtain⟨A',rfl⟩:∃A',A=A'++[z]:=by
   rcases gg A with rfl|⟨A',y,rfl⟩
   all_goals grind
  have l3:bT b=A'++z::pl::C:=by grind
  have hperm:=d.perm
  have hP1:es.Perm (cx zo.reverse++((z,bq lz)::(pl,bq lf)::(cx gs++(cx [xo]++R)))):=by
   have h1:(cx zo.reverse).Perm (cx zo):=by simp only[cx,wz];grind
   refine hperm.trans (List.Perm.trans (k7.2 fun x=>?_) (List.Perm.append_right _ h1.symm));simp only[kK,lT,fZ,d8,fX,pw];omega
  have hNr:dC w lf.high zo.reverse gs.reverse=(dC w lf.high zo gs).reverse:=by
   unfold dC;grind
  have hk1:bB (cx zo.reverse)=bB (cx (dC w lf.high zo.reverse gs.reverse)):=by
   rw[xz,xz,II _ _ _ _ (by grind)]
  have hq1:=Fu d.shf.nd hP1 hk1;have hq2:=EY d.shf hP1 hk1;have hgz:=mL hq2.nd (hq1.1.trans y7);have hgp:cT (dD es (cx (dC w lf.high zo.reverse gs.reverse))) pl=aA (bq lf):=i9 hq2.nd (hq1.1.mem_iff.2 (by simp));have hrz:=d.rzl (z,lz) (by simp);have hrn:cK ⟨lz.prs,bif w then lf.high else lz.high,lf.next⟩=true:=d.rzl' (z,_) (by simp[gw]);have hs3:=iY hq2 (b:=bq ⟨lz.prs,bif w then lf.high else lz.high,lf.next⟩) (fB hgz);have hp3:=j6 (b':=bq ⟨lz.prs,bif w then lf.high else lz.high,lf.next⟩) hq2.nd (hq1.1.trans y7)
  have hp3':(bD (dD es (cx (dC w lf.high zo.reverse gs.reverse))) z (bq ⟨lz.prs,bif w then lf.high else lz.high,lf.next⟩)).Perm (fZ (gw w lf [(z,lz)])++(cx (dC w lf.high zo gs)++((pl,bq lf)::(cx gs++(cx [xo]++R))))):=by
   refine hp3.trans (List.Perm.cons _ (List.Perm.append_right _ ?_));rw[hNr];simp only[cx,wz];grind
  have hLk:∀L1,dq n (dD es (cx (dC w lf.high zo.reverse gs.reverse))) L1->dq n (bD (dD es (cx (dC w lf.high zo.reverse gs.reverse))) z (bq ⟨lz.prs,bif w then lf.high else lz.high,lf.next⟩)) (L1.set z.toNat (bq ⟨lz.prs,bif w then lf.high else lz.high,lf.next⟩)):=fun L1 h1=>ku hq2 h1 (hq2.rng z (fB hgz)) _
  have hloop:∀o,(dq n (dD es (cx (dC w lf.high zo.reverse gs.reverse))) (xD Ls (cx (dC w lf.high zo.reverse gs.reverse)))->Go qk aC 5 (fF 111) (.head 2 (m5 (aS (dX ws pl)) (rest.length:Int) (xi:Int) (gn ups b) ((rest.length+1+gs.reverse.length:Nat):Int) r (bg (xD Ls (cx (dC w lf.high zo.reverse gs.reverse)))) (cU n (br (dD es (cx (dC w lf.high zo.reverse gs.reverse))))) (bg (aV xo.2.1 xo.2.2).seps) (aS (aV xo.2.1 xo.2.2).kids) (bG xo.2.1) xo.2.2)) o)->Go qk aC 5 (fF 111) (.head 2 (m5 (aS (dX ws pl)) (rest.length:Int) (xi:Int) (gn ups b) ((rest.length+1:Nat):Int) r (bg Ls) (cU n (br es)) (bg (aV xo.2.1 xo.2.2).seps) (aS (aV xo.2.1 xo.2.2).kids) (bG xo.2.1) xo.2.2)) o:=by
   intro o hg;refine RE (by omega) d.x.fw lf.high Ps.reverse zo.reverse gs.reverse (rest.length+1) es _ Ls (by rw[wz,wz];exact ab6 hF) d.shf hL hP1 ?_ ?_ ?_ ?_ ⟨[pl],x2⟩ ⟨[aG (aS (bT b))],by grind⟩ (fun P hP=>hPl P (Bv _ hP)) hg
   ·intro g hg;have:(g.1,cd g.2.1 g.2.2)∈cx gs:=ib.2 ⟨g,by grind,rfl⟩;grind
   ·intro z hz;exact d.rzo z (by grind)
   ·intro g hg;exact⟨d.rgs g (by grind),d.x.hi g (by grind)⟩
   ·intro z hz;rw[hNr]at hz;exact d.rzo' z (by grind)
  have hL1:=P2 hP1 hk1 d.shf hL;obtain⟨h1,b2,h2⟩:=Rr d hsk (gn ups b) hp3' hs3 (hLk _ hL1);refine⟨_,h1,_,b2,hlv,hloop _ fun _=>?_⟩;rw[wy]
  have hi1:(dX ws pl)[rest.length+1+gs.length]? = aA pl:=by
   have:((dX ws pl).drop (rest.length+1))[gs.length]? = aA pl:=by grind
   grind
  have hi2:(gn ups b)[rest.length+1+gs.length]? = aA (aG (aS (bT b))):=by
   simp_all
  have w1:W .i64 (((rest.length+1+gs.length:Nat):Int)+1)=((rest.length+1+gs.length+1:Nat):Int):=by rw[bf (by omega)];omega
  rw[x3]at h2;refine Er _ _ _ _ _ _ _ _ _ _ _ _ ?_ h2;unfold AU;have hbl:(bT b).length<=10000:=hPl _ (by simp);have hir:=aeu (r:=r) (w:=w) hq2 hL1 (A:=A') (C:=C) (by grind) (by grind) hgz hgp hrz d.rlf hrn;rw[<-l3]at hir;rw[cy,aW (by omega),aZ,aQ (aW (by omega)),bi,cG hi2,jD,aQ (aW (by omega)),f0 hi1,bF,<-d.x.fw];show(bH aI _ _ _ _ (rM r n (dD es (cx (dC w lf.high zo.reverse gs.reverse))) (xD Ls (cx (dC w lf.high zo.reverse gs.reverse)))) _)=_;rw[cH IC hir,w1]
 |_::_::_,h=>grind
end
section
variable {n:Nat}{r:Int}{es:Es}{ws:List bh}{pl:Int}{lf:Lf}{w:Bool}{zl:List Nl}{gs zo:List Nd}{xo X:Nd}{ss:List bh}{xi:Nat}{rest:List bh}{out:List Int}{R:Es}{r':Int}{es':Es}{Ls:List Bs}
theorem aed{k:Bs}{lw:Lf}(d:li n es ws pl lf w zl gs zo xo X ss xi rest out R)(hl:Bn n r es ws pl zl gs zo xo)(hsk:lR n r (mF es pl lf w zl gs zo X) r' es')(hw:jy es k r ws pl lw)(hL:dq n es Ls) :
  ∃Ls',dq n es' Ls'/\cA aI aX 111 [.ptr 0 0 0,.sl (aS (dX ws pl))] (rM r n es Ls)=aA (Ak (r',bg Ls',cU n (br es'))):=by
 obtain⟨Ls',hL',LV,b,hlv,hgo⟩:=aec d hl hsk hL;obtain⟨_,_,_,_,_,_,_,hnd,_⟩:=hl;refine⟨Ls',hL',?_⟩;have hlen:=d.len;have hwl:(dX ws pl).length=ws.length+1:=by simp[dX]
 have hx2:=d.x.two;obtain⟨q,k1,k2⟩:=ag1 hw rest.reverse (xo.1,xo.2.1,xo.2.2,xi) ss.reverse (Uo d);rw[wy]at k2;have hwr:(ss++(xo.1,xo.2.1,xo.2.2,xi)::rest).reverse=ws:=by rw[<-d.x.fst,BA]
 have hwn:ss.length+rest.length+1=ws.length:=by grind
 have hkl:(aV xo.2.1 xo.2.2).kids.length=xo.2.1.length:=by simp
 have hki:=(bX.1 k1).1
 have hmem:∀x∈cx gs++cx [xo],x∈es:=by
  intro x hx;refine d.perm.mem_iff.2 (uz _ (uz _ (y6 _ ?_)));grind
 have hgx:cT es xo.1=aA (cv (aV xo.2.1 xo.2.2)):=i9 d.shf.nd (hmem _ (uz _ (by simp[cx,cd])))
 have hkn:2<=(aV xo.2.1 xo.2.2).kids.length/\(aV xo.2.1 xo.2.2).kids.length<=20000:=by
  have:=(gF d.rxo).kids;grind
 have bA:∀s∈ss++[(xo.1,xo.2.1,xo.2.2,xi)],cT es s.1=aA (cv (aV s.2.1 s.2.2.1))/\bZ (aV s.2.1 s.2.2.1)=true:=by
  intro s hs;rcases cz.1 hs with hs|hs
  ·have hg:(s.1,s.2.1,s.2.2.1)∈gs:=by rw[d.x.fgs];grind
   exact⟨i9 d.shf.nd (hmem _ (Bv _ (ib.2 ⟨_,hg,rfl⟩))),d.rgs _ hg⟩
  ·rw[jO.1 hs];exact⟨hgx,d.rxo⟩
 obtain⟨s,T,hsT⟩:∃s T,ss++(xo.1,xo.2.1,xo.2.2,xi)::rest=s::T:=uv (by simp);have hTl:T.length+1=ws.length:=by grind
 have hs1:(dX ws pl)[T.length]? = aA s.1:=by
  rw[<-hwr,hsT];unfold dX;grind
 have hsin:s∈ss++[(xo.1,xo.2.1,xo.2.2,xi)]:=by
  cases ss with
  |nil=>grind
  |cons c ss=>grind
 obtain⟨hgs,hrs⟩:=bA s hsin;have hk:=RO (mm:=[]) (X:=dX ws pl) (by omega) hkn.2 k2 hnd k1 hlv hgo xi 0 (fY _)
 have h0:=RA (r:=r) (X:=dX ws pl) d.shf hL (by omega) ss (xo.1,xo.2.1,xo.2.2,xi) rest [pl] s T hsT (by rw[hwr];rfl) d.x.one bA (Sv _ _ _ _ _ _ _ _ _ (by
  unfold JO;rw[dH (show((aS (aV xo.2.1 xo.2.2).kids).length:Int)≠1 by rw[cy];omega),aP];rfl) hk)
 have w0:W .i64 (((aS (dX ws pl)).length:Int) - 2)=((T.length:Nat):Int):=by rw[cy,bf (by omega)];omega
 refine WQ _ _ _ _ ?_ ⟨_,_,h0,by kernel_rfl⟩;unfold MU;rw[w0,aQ (by simp),bi,f0 hs1,bF,cY l9 (qc d.shf hL hgs hrs),cF]
end
theorem aeb{n:Nat}{r:Int}{es:Es}{k:Bs}{e r':Int}{es':Es}(h:uq n r es k e r' es')(Ls:List Bs)(hL:dq n es Ls) :
  ∃Ls',dq n es' Ls'/\cA aI aX 66 [.ptr 0 0 0,.str k] (rM r n es Ls)=aA (xU (e,r',bg Ls',cU n (br es'))):=by
 cases h with
 |arg h =>
  refine⟨Ls,hL,zT _ _ _ _ (o:=.doneM (.int .i64 1) (rM r n es Ls)) ?_ (.done (by kernel_rfl))⟩;unfold xd;rw[aN (kq k),bI,h];rfl
 |@no ws pl l hs hk hw hl hr0 hh =>
  have hk2:=(fm hk).2;have hdl:=Jn l hr0 k (by omega);rw[hh]at hdl;have hg:=(Fo hw).1;have w:W .i64 (((aS (dX ws pl)).length:Int) - 1)=((ws.length:Nat):Int):=by rw[oU,bf (by omega)];omega
  refine⟨Ls,hL,?_⟩;apply zT
  ·unfold xd;rw[aN (kq k),bI,hk,bK,aP,cY vw (vX hs hL (by omega) hw (by omega)),cF,w,aQ (by simp),bi,cG (wl ws pl),bF,cY nL (qd hs hL hg hr0),cF];show(aL aI _ [eL l,_] _)=_;rw[aN hdl];show(nr (aT [eL kW,aB .i64 7]) _)=_;rw[n9,fP (by decide),aZ]
  ·exact .done (by kernel_rfl)
 |@put ws pl l hs hk hw hl hg hr0 hh hd hr =>
  have hk2:=(fm hk).2;have hdl:=Jn l hr0 k (by omega);rw[hh,aU rfl]at hdl;have hr1:=hs.rng pl (fB hg);have w:W .i64 (((aS (dX ws pl)).length:Int) - 1)=((ws.length:Nat):Int):=by rw[oU,bf (by omega)];omega
  refine⟨_,ku hs hL hr1 (bq ⟨gi l.prs k,l.high,l.next⟩),?_⟩
  by_cases h0:gi l.prs k=[]
  ·have hw0:=hd.resolve_left fun q=>q h0
   apply zT
   ·unfold xd;rw[aN (kq k),bI,hk,bK,aP,cY vw (vX hs hL (by omega) hw (by omega)),cF,w,aQ (by simp),bi,cG (wl ws pl),bF,cY nL (qd hs hL hg hr0),cF];show(aL aI _ [eL l,_] _)=_;rw[aN hdl,n9,dA rfl,aP,bp (by rw[dv,h0];simp),aP,db (by rw[oU,hw0];rfl),aZ];show(aL aI _ [eL ⟨gi l.prs k,l.high,l.next⟩] _)=_;rw[aN (qa _ hr),cR,cH lF (lJ hs hL (fB hg) (pA hr))]
   ·exact .done (by kernel_rfl)
  ·apply zT
   ·unfold xd;rw[aN (kq k),bI,hk,bK,aP,cY vw (vX hs hL (by omega) hw (by omega)),cF,w,aQ (by simp),bi,cG (wl ws pl),bF,cY nL (qd hs hL hg hr0),cF];show(aL aI _ [eL l,_] _)=_;rw[aN hdl,n9,dA rfl,aP,aW (show((bn (gi l.prs k)).length:Int) > 0 by rw[dv];have:=uy.2 h0;omega),aZ];show(aL aI _ [eL ⟨gi l.prs k,l.high,l.next⟩] _)=_;rw[aN (qa _ hr),cR,cH lF (lJ hs hL (fB hg) (pA hr))]
   ·exact .done (by kernel_rfl)
 |@drop ws pl l w zl gs zo xo X ss xi rest out R r' es' hk hw hr0 hh hd hw0 d hsk hdl0 =>
  have hk2:=(fm hk).2;have hdl:=Jn l hr0 k (by omega);rw[hh,aU rfl]at hdl;have hlen:=d.len;obtain⟨Ls',hL',hdr⟩:=aed d hdl0 hsk hw hL;have hg:=(Fo hw).1;have w:W .i64 (((aS (dX ws pl)).length:Int) - 1)=((ws.length:Nat):Int):=by rw[oU,bf (by omega)];omega
  refine⟨Ls',hL',?_⟩;apply zT
  ·unfold xd;rw[aN (kq k),bI,hk,bK,aP,cY vw (vX d.shf hL (by omega) hw (by omega)),cF,w,aQ (by simp),bi,cG (wl ws pl),bF,cY nL (qd d.shf hL hg hr0),cF];show(aL aI _ [eL l,_] _)=_;rw[aN hdl,n9,dA rfl,aP,bp (by rw[dv,hd];simp),aP,dH (by rw[oU];have:=uy.2 hw0;omega),aP,cH ack hdr]
  ·exact .done (by kernel_rfl)
set_option maxRecDepth 1000000
theorem pQ:∀x∈([]:List jL),jM aI x:=fun _ h=>nomatch h
theorem oH:∀x∈([]:List (bL × List V × V)),wE aI x:=fun _ h=>nomatch h
def Oz:jL:=⟨15,[.int .i64 (10)],[],(.ptr 4 0 0,[.row 5 [.int .u8 (1),.int .u8 (0)] 0,.box 192 (.agg [.tail 0 0,.int .i64 (10)]) aC,.map [(.int .i64 (0),.str [76,0,0,0,0])],.box 140 (.agg [.ptr 1 0 0,.mp 2]) aD,.box 128 (.agg [.ptr 3 0 0,.int .i64 (0)]) aD])⟩
theorem ZU:jM aI Oz:=oD pQ oH 100 (by kernel_rfl)
def OA:jL:=⟨32,[.ptr 0 0 0,.str [97],.str []],[.box 128 (.agg [.ptr 1 0 0,.int .i64 (0)]) aD,.box 140 (.agg [.ptr 2 0 0,.mp 3]) aD,.box 192 (.agg [.tail 4 0,.int .i64 (10)]) aC,.map [(.int .i64 (0),.str [76,0,0,0,0])],.row 5 [.int .u8 (1),.int .u8 (0)] 0],(.tup [.bool aC,.int .i64 (0)],[.box 128 (.agg [.ptr 1 0 0,.int .i64 (0)]) aD,.box 140 (.agg [.ptr 2 0 0,.mp 3]) aD,.box 192 (.agg [.tail 4 0,.int .i64 (10)]) aC,.map [(.int .i64 (0),.str [76,1,0,0,0,1,97,0])],.row 5 [.int .u8 (1),.int .u8 (0)] 0,.row 41 [] 0,.box 120 (.agg [.sl [],.str [],.int .i64 (0)]) aD,.row 41 [] 0,.box 120 (.agg [.sl [.agg [.str [97],.str []]],.str [],.int .i64 (0)]) aD])⟩
theorem ZV:jM aI OA:=oD pQ oH 100 (by kernel_rfl)
def OB:jL:=⟨32,[.ptr 0 0 0,.str [98],.str []],[.box 128 (.agg [.ptr 1 0 0,.int .i64 (0)]) aD,.box 140 (.agg [.ptr 2 0 0,.mp 3]) aD,.box 192 (.agg [.tail 4 0,.int .i64 (10)]) aC,.map [(.int .i64 (0),.str [76,1,0,0,0,1,97,0])],.row 5 [.int .u8 (1),.int .u8 (0)] 0],(.tup [.bool aC,.int .i64 (0)],[.box 128 (.agg [.ptr 1 0 0,.int .i64 (0)]) aD,.box 140 (.agg [.ptr 2 0 0,.mp 3]) aD,.box 192 (.agg [.tail 4 0,.int .i64 (10)]) aC,.map [(.int .i64 (0),.str [76,2,0,0,0,1,97,0,1,98,0])],.row 5 [.int .u8 (1),.int .u8 (0)] 0,.row 41 [] 0,.box 120 (.agg [.sl [.agg [.str [97],.str []]],.str [],.int .i64 (0)]) aD,.row 41 [] 0,.box 120 (.agg [.sl [.agg [.str [97],.str []],.agg [.str [98],.str []]],.str [],.int .i64 (0)]) aD])⟩
theorem ZW:jM aI OB:=oD pQ oH 100 (by kernel_rfl)
def OC:jL:=⟨32,[.ptr 0 0 0,.str [99],.str []],[.box 128 (.agg [.ptr 1 0 0,.int .i64 (0)]) aD,.box 140 (.agg [.ptr 2 0 0,.mp 3]) aD,.box 192 (.agg [.tail 4 0,.int .i64 (10)]) aC,.map [(.int .i64 (0),.str [76,2,0,0,0,1,97,0,1,98,0])],.row 5 [.int .u8 (1),.int .u8 (0)] 0],(.tup [.bool aC,.int .i64 (0)],[.box 128 (.agg [.ptr 1 0 0,.int .i64 (0)]) aD,.box 140 (.agg [.ptr 2 0 0,.mp 3]) aD,.box 192 (.agg [.tail 4 0,.int .i64 (10)]) aC,.map [(.int .i64 (0),.str [76,3,0,0,0,1,97,0,1,98,0,1,99,0])],.row 5 [.int .u8 (1),.int .u8 (0)] 0,.row 41 [] 0,.box 120 (.agg [.sl [.agg [.str [97],.str []],.agg [.str [98],.str []]],.str [],.int .i64 (0)]) aD,.row 41 [] 0,.box 120 (.agg [.sl [.agg [.str [97],.str []],.agg [.str [98],.str []],.agg [.str [99],.str []]],.str [],.int .i64 (0)]) aD])⟩
theorem ZX:jM aI OC:=oD pQ oH 100 (by kernel_rfl)
def OD:jL:=⟨32,[.ptr 0 0 0,.str [100],.str []],[.box 128 (.agg [.ptr 1 0 0,.int .i64 (0)]) aD,.box 140 (.agg [.ptr 2 0 0,.mp 3]) aD,.box 192 (.agg [.tail 4 0,.int .i64 (10)]) aC,.map [(.int .i64 (0),.str [76,3,0,0,0,1,97,0,1,98,0,1,99,0])],.row 5 [.int .u8 (1),.int .u8 (0)] 0],(.tup [.bool aC,.int .i64 (0)],[.box 128 (.agg [.ptr 1 0 0,.int .i64 (0)]) aD,.box 140 (.agg [.ptr 2 0 0,.mp 3]) aD,.box 192 (.agg [.tail 4 0,.int .i64 (10)]) aC,.map [(.int .i64 (0),.str [76,4,0,0,0,1,97,0,1,98,0,1,99,0,1,100,0])],.row 5 [.int .u8 (1),.int .u8 (0)] 0,.row 41 [] 0,.box 120 (.agg [.sl [.agg [.str [97],.str []],.agg [.str [98],.str []],.agg [.str [99],.str []]],.str [],.int .i64 (0)]) aD,.row 41 [] 0,.box 120 (.agg [.sl [.agg [.str [97],.str []],.agg [.str [98],.str []],.agg [.str [99],.str []],.agg [.str [100],.str []]],.str [],.int .i64 (0)]) aD])⟩
theorem ZY:jM aI OD:=oD pQ oH 100 (by kernel_rfl)
def OE:jL:=⟨34,[.ptr 0 0 0,.str [98],.int .i64 (2)],[.box 128 (.agg [.ptr 1 0 0,.int .i64 (0)]) aD,.box 140 (.agg [.ptr 2 0 0,.mp 3]) aD,.box 192 (.agg [.tail 4 0,.int .i64 (10)]) aC,.map [(.int .i64 (0),.str [76,4,0,0,0,1,97,0,1,98,0,1,99,0,1,100,0])],.row 5 [.int .u8 (1),.int .u8 (0)] 0],(.own 6,[.box 128 (.agg [.ptr 1 0 0,.int .i64 (0)]) aD,.box 140 (.agg [.ptr 2 0 0,.mp 3]) aD,.box 192 (.agg [.tail 4 0,.int .i64 (10)]) aC,.map [(.int .i64 (0),.str [76,4,0,0,0,1,97,0,1,98,0,1,99,0,1,100,0])],.row 5 [.int .u8 (1),.int .u8 (0)] 0,.row 41 [] 0,.row 41 [.agg [.str [98],.str []],.agg [.str [99],.str []]] 0])⟩
theorem ZZ:jM aI OE:=oD pQ oH 100 (by kernel_rfl)
def OF:jL:=⟨33,[.ptr 0 0 0,.str [99]],[.box 128 (.agg [.ptr 1 0 0,.int .i64 (0)]) aD,.box 140 (.agg [.ptr 2 0 0,.mp 3]) aD,.box 192 (.agg [.tail 4 0,.int .i64 (10)]) aC,.map [(.int .i64 (0),.str [76,4,0,0,0,1,97,0,1,98,0,1,99,0,1,100,0])],.row 5 [.int .u8 (1),.int .u8 (0)] 0],(.int .i64 (0),[.box 128 (.agg [.ptr 1 0 0,.int .i64 (0)]) aD,.box 140 (.agg [.ptr 2 0 0,.mp 3]) aD,.box 192 (.agg [.tail 4 0,.int .i64 (10)]) aC,.map [(.int .i64 (0),.str [76,3,0,0,0,1,97,0,1,98,0,1,100,0])],.row 5 [.int .u8 (1),.int .u8 (0)] 0,.row 41 [] 0,.box 120 (.agg [.sl [.agg [.str [97],.str []],.agg [.str [98],.str []],.agg [.str [99],.str []],.agg [.str [100],.str []]],.str [],.int .i64 (0)]) aD,.row 41 [] 0,.box 120 (.agg [.sl [.agg [.str [97],.str []],.agg [.str [98],.str []],.agg [.str [100],.str []]],.str [],.int .i64 (0)]) aD])⟩
theorem Z4:jM aI OF:=oD pQ oH 100 (by kernel_rfl)
def OG:jL:=⟨32,[.ptr 0 0 0,.str [98,98],.str [120]],[.box 128 (.agg [.ptr 1 0 0,.int .i64 (0)]) aD,.box 140 (.agg [.ptr 2 0 0,.mp 3]) aD,.box 192 (.agg [.tail 4 0,.int .i64 (10)]) aC,.map [(.int .i64 (0),.str [76,3,0,0,0,1,97,0,1,98,0,1,100,0])],.row 5 [.int .u8 (1),.int .u8 (0)] 0],(.tup [.bool aC,.int .i64 (0)],[.box 128 (.agg [.ptr 1 0 0,.int .i64 (0)]) aD,.box 140 (.agg [.ptr 2 0 0,.mp 3]) aD,.box 192 (.agg [.tail 4 0,.int .i64 (10)]) aC,.map [(.int .i64 (0),.str [76,4,0,0,0,1,97,0,1,98,0,2,98,98,1,120,1,100,0])],.row 5 [.int .u8 (1),.int .u8 (0)] 0,.row 41 [] 0,.box 120 (.agg [.sl [.agg [.str [97],.str []],.agg [.str [98],.str []],.agg [.str [100],.str []]],.str [],.int .i64 (0)]) aD,.row 41 [] 0,.box 120 (.agg [.sl [.agg [.str [97],.str []],.agg [.str [98],.str []],.agg [.str [98,98],.str [120]],.agg [.str [100],.str []]],.str [],.int .i64 (0)]) aD])⟩
theorem Z5:jM aI OG:=oD pQ oH 100 (by kernel_rfl)
def OH:jL:=⟨34,[.ptr 0 0 0,.str [98],.int .i64 (2)],[.box 128 (.agg [.ptr 1 0 0,.int .i64 (0)]) aD,.box 140 (.agg [.ptr 2 0 0,.mp 3]) aD,.box 192 (.agg [.tail 4 0,.int .i64 (10)]) aC,.map [(.int .i64 (0),.str [76,4,0,0,0,1,97,0,1,98,0,2,98,98,1,120,1,100,0])],.row 5 [.int .u8 (1),.int .u8 (0)] 0],(.own 6,[.box 128 (.agg [.ptr 1 0 0,.int .i64 (0)]) aD,.box 140 (.agg [.ptr 2 0 0,.mp 3]) aD,.box 192 (.agg [.tail 4 0,.int .i64 (10)]) aC,.map [(.int .i64 (0),.str [76,4,0,0,0,1,97,0,1,98,0,2,98,98,1,120,1,100,0])],.row 5 [.int .u8 (1),.int .u8 (0)] 0,.row 41 [] 0,.row 41 [.agg [.str [98],.str []],.agg [.str [98,98],.str [120]]] 0])⟩
theorem Z6:jM aI OH:=oD pQ oH 100 (by kernel_rfl)
def OI:jL:=⟨34,[.ptr 0 0 0,.str [98,98],.int .i64 (2)],[.box 128 (.agg [.ptr 1 0 0,.int .i64 (0)]) aD,.box 140 (.agg [.ptr 2 0 0,.mp 3]) aD,.box 192 (.agg [.tail 4 0,.int .i64 (10)]) aC,.map [(.int .i64 (0),.str [76,4,0,0,0,1,97,0,1,98,0,2,98,98,1,120,1,100,0])],.row 5 [.int .u8 (1),.int .u8 (0)] 0],(.own 6,[.box 128 (.agg [.ptr 1 0 0,.int .i64 (0)]) aD,.box 140 (.agg [.ptr 2 0 0,.mp 3]) aD,.box 192 (.agg [.tail 4 0,.int .i64 (10)]) aC,.map [(.int .i64 (0),.str [76,4,0,0,0,1,97,0,1,98,0,2,98,98,1,120,1,100,0])],.row 5 [.int .u8 (1),.int .u8 (0)] 0,.row 41 [] 0,.row 41 [.agg [.str [98,98],.str [120]],.agg [.str [100],.str []]] 0])⟩
theorem Z7:jM aI OI:=oD pQ oH 100 (by kernel_rfl)
theorem Z8:∀x∈[Oz,OA,OB,OC,OD,OE,OF,OG,OH,OI],jM aI x:=by
 intro x hx;simp only[dE,FN,or_false]at hx;rcases hx with rfl|rfl|rfl|rfl|rfl|rfl|rfl|rfl|rfl|rfl
 ·exact ZU
 ·exact ZV
 ·exact ZW
 ·exact ZX
 ·exact ZY
 ·exact ZZ
 ·exact Z4
 ·exact Z5
 ·exact Z6
 ·exact Z7
theorem Z9:bJ aI 30 []=aA (.bool aC):=adx Z8 oH 100 (by kernel_rfl)
theorem LQ{P:bu}{w:be}{tx e:aO}{A:Option Addr}{c sz:Nat}(ht:P.underlying tx=aA (.slice e)):jK P w tx (.slice A 0 c) sz 0 []:=by
 refine⟨.inr ⟨e,ht⟩,fun w2=>rfl,by simp,fun n w2 hn _=>?_,by simp⟩;have:n=0:=by omega
 subst this;cases A<;>simp[Builtin.firstCells,loadCells,loadCellsFrom]
set_option maxHeartbeats 4000000 in
set_option maxRecDepth 100000 in
theorem abd:FG Tryz.prog 212 225 100 9 3 .i64:=by
 have hce:Tryz.prog.cellsOf 9=1:=by kernel_rfl
 have mixed:Tryz.prog.follows .mixedOrders=true:=by kernel_rfl
 have t22:Tryz.prog.underlying 100=aA (.slice 9):=by kernel_rfl
 refine⟨t22,by kernel_rfl,by kernel_rfl,?_,?_,?_,?_⟩
 ·intro w g g2 o m c2 lb cb us us2 hne hg hg2 hus
  rw[run_callFunc_extern (P:=Tryz.prog) (f:=225) (fn:=Tryz.f225) (by kernel_rfl) (by kernel_rfl) (by kernel_rfl) (by kernel_rfl) (e:=Extern.SlicesOverlaps.overlaps #[100,100] #[4]) (by kernel_rfl),
   Lib.run_overlaps_apart w 100 4 9 t22 1 (fun w=>by kernel_rfl) ⟨g2,0,aF⟩ ⟨g,o,aF⟩ m c2 lb cb hne 9 9 us2.size us.size (by simp[World.shape?,hg2]) (by simp[World.shape?,hg]) (by omega) (by simp[World.frozen?,hg2]) (by simp[World.frozen?,hg2])]
  rfl
 ·intro g n c i g2 m c2 w w2 w3 k1 k2 hi hm hroom hc63 hov hcp1 hcp2;rw[hce]at hcp1 hcp2;simp only[mZ]at hcp1 hcp2;have hz1:¬((m:Int)=0):=by omega
  have hz2:¬((i:Int)=(n:Int)):=by omega
  have hw1:IntKind.i64.wrap ((i:Int)+(m:Int))=(i:Int)+(m:Int):=by rw[IntKind.wrap_i64];omega
  have hw2:IntKind.i64.wrap ((n:Int)+(m:Int))=(n:Int)+(m:Int):=by rw[IntKind.wrap_i64];omega
  have hb1:(0:Int)<=(i:Int)+(m:Int):=by omega
  have hin:i<=n:=by omega
  have htn:((i:Int)+(m:Int)).toNat=i+m:=by omega
  have hb2:¬(c=i+m):=by omega
  have hb3:(i:Int)<=(n:Int)+(m:Int):=by omega
  have hb4:¬(c=i):=by omega
  go_enter Tryz.func212,Tryz.ntmps212
  go_wp2_with (simp only[hov])
  go_region_law_o (refine step_copy_runI rfl _ _ 100 100 rfl _ _ (by simp[Act.eval,Act.put]) (by simp[Act.eval,Act.put]) (hcp1 _ _ _) ?_)
  go_wp2_with (at_builtin;refine wpList_copy_runI _ rfl _ _ 100 100 rfl _ _ rfl rfl (hcp2 _ _) ?_)
  go_ret;exact⟨rfl,rfl⟩
 ·intro A A2 n c m c2 w w1 r hm hnc hc63 hA0 hA1 hr;have hz1:¬((m:Int)=0):=by omega
  cases A with
  |none =>
   obtain⟨rfl,rfl⟩:=hA0 rfl
   go_enter Tryz.func212,Tryz.ntmps212
   go_wp2_with (at_builtin;refine Lib.wpList_append_run _ rfl _ _ _ _ rfl _ _ rfl rfl _ _ (hr _) ?_)
   all_goals (go_ret;exact⟨rfl,rfl⟩)
  |some a =>
   obtain⟨g,rfl⟩:=hA1 a rfl
   go_enter Tryz.func212,Tryz.ntmps212
   go_wp2_with (at_builtin;refine Lib.wpList_append_run _ rfl _ _ _ _ rfl _ _ rfl rfl _ _ (hr _) ?_)
   all_goals (go_ret;exact⟨rfl,rfl⟩)
 ·intro g n c i g2 m c2 N G w w1 w2 w3 k1 k2 hi hm hnc hgr hlen hGn hG63 hap hcp1 hcp2;rw[hce]at hcp1 hcp2;simp only[mZ]at hcp1 hcp2;have hz1:¬((m:Int)=0):=by omega
  have hz2:¬((i:Int)=(n:Int)):=by omega
  have hz3:(c:Int) < (n:Int)+(m:Int):=by omega
  have hw1:IntKind.i64.wrap ((i:Int)+(m:Int))=(i:Int)+(m:Int):=by rw[IntKind.wrap_i64];omega
  have hw2:IntKind.i64.wrap ((n:Int)+(m:Int))=(n:Int)+(m:Int):=by rw[IntKind.wrap_i64];omega
  have hw3:IntKind.i64.wrap ((n:Int)+(m:Int) - (i:Int))=(n:Int)+(m:Int) - (i:Int):=by rw[IntKind.wrap_i64];omega
  have hb1:(0:Int)<=(i:Int)+(m:Int):=by omega
  have hin:i<=n:=by omega
  have htn:((i:Int)+(m:Int)).toNat=i+m:=by omega
  have hGi:¬(G=i):=by omega
  have hGim:¬(G=i+m):=by omega
  have hci:¬(c=i):=by omega
  have hb3:(i:Int)<=(n:Int):=by omega
  go_enter Tryz.func212,Tryz.ntmps212
  go_wp2_with (first
   |(at_builtin;refine Lib.wpList_append_run _ rfl _ _ _ _ rfl _ _ rfl rfl _ _ (hap _) ?_)
   |(at_builtin;refine wpList_copy_runI _ rfl _ _ 100 100 rfl _ _ rfl rfl (hcp1 _ _) ?_))
  go_region_law_o (refine step_copy_runI rfl _ _ 100 100 rfl (.slice (aA ⟨N,(i+m),aF⟩) (n+m - (i+m)) (G - (i+m))) (.slice (aA ⟨g,i,aF⟩) (n - i) (c - i)) (by simp[Act.eval,Act.put]) (by simp[Act.eval,Act.put]) (hcp2 3 (G - (i+m)) (c - i)) ?_)
  go_wp2
  go_ret;exact⟨rfl,rfl⟩
set_option maxHeartbeats 4000000 in
set_option maxRecDepth 100000 in
theorem Wp:FE Tryz.prog 170 100 9:=by
 have hce:Tryz.prog.cellsOf 9=1:=by kernel_rfl
 have mixed:Tryz.prog.follows .mixedOrders=true:=by kernel_rfl
 have t22:Tryz.prog.underlying 100=aA (.slice 9):=by kernel_rfl
 refine⟨t22,by kernel_rfl,?_,?_,?_⟩
 ·intro i z hi hz;have h1:(Tryz.prog.info? 9).bind (·.zero)=aA (.string "".toUTF8):=by kernel_rfl
  rw[hi]at h1;simp only[bk,hz,Option.some.injEq]at h1;subst h1;intro v hv;simp[Value.cells]at hv;subst hv;rfl
 ·intro A n c i w hin hnc hc63 hA0 hA1;cases A with
  |none =>
   obtain⟨rfl,rfl⟩:=hA0 rfl;have:i=0:=by omega
   subst this
   go_enter Tryz.func170,Tryz.ntmps170
   go_wp2
   all_goals (go_ret;exact⟨rfl,rfl⟩)
  |some a =>
   obtain⟨g,q,rfl⟩:=hA1 a rfl
   go_enter Tryz.func170,Tryz.ntmps170
   go_wp2
   all_goals (go_ret;exact⟨rfl,rfl⟩)
 ·intro g q n c i jj w w2 w3 k hij hjn hnc hc63 hap hcl;rw[hce]at hap hcl;simp only[mZ]at hap hcl;have hz1:¬((i:Int)=(jj:Int)):=by omega
  have hin:i<=n:=by omega
  have hij':i<=jj:=by omega
  have hb1:¬(c=i):=by omega
  have hb2:i+(n - jj)<=n:=by omega
  have hb3:¬(c=i+(n - jj)):=by omega
  have hic:i<=c:=by omega
  have hjc':jj<=c:=by omega
  have hbc:i+(n - jj)<=c:=by omega
  have hnij:(i:Int)+((n - jj:Nat):Int)<=(n:Int):=by omega
  by_cases hjc:c=jj
  ·have hn:n=jj:=by omega
   subst hn;subst hjc;have hap':=fun ty=>hap ty (aA ⟨g,q,aF⟩) 0 (fun h=>gU h (by omega))
   simp only[qC,fL]at hap' hcl |-
   go_enter Tryz.func170,Tryz.ntmps170
   go_wp2
   go_region_law_o (refine E8 rfl _ _ 100 100 rfl (.slice (aA ⟨g,q,aF⟩) i c) (.slice (aA ⟨g,q,aF⟩) 0 0) (by simp[Act.eval,Act.put]) (by simp[Act.eval,Act.put]) (hap' 100) ?_)
   go_wp2
   go_ret;exact⟨rfl,rfl⟩
  ·go_enter Tryz.func170,Tryz.ntmps170
   go_wp2
   go_region_law_o (refine E8 rfl _ _ 100 100 rfl (.slice (aA ⟨g,q,aF⟩) i c) (.slice (aA ⟨g,q+jj,aF⟩) (n - jj) (c - jj)) (by simp[Act.eval,Act.put]) (by simp[Act.eval,Act.put]) (hap 100 (aA ⟨g,q+jj,aF⟩) (c - jj) (fun _=>rfl)) ?_)
   go_wp2
   go_ret;exact⟨rfl,rfl⟩
set_option maxHeartbeats 4000000 in
set_option maxRecDepth 100000 in
theorem VN:FC Tryz.prog 171 100 9:=by
 have hce:Tryz.prog.cellsOf 9=1:=by kernel_rfl
 have mixed:Tryz.prog.follows .mixedOrders=true:=by kernel_rfl
 have t22:Tryz.prog.underlying 100=aA (.slice 9):=by kernel_rfl
 have q22:∀(w:be) (a:Option Addr) (n c n' c':Nat),(binOp .eql 100 (.slice a n c) (.slice aF n' c')).run Tryz.prog w = .ok (.bool a.isNone) w:=fun w a n c n' c'=>Lib.run_eql_slice_nil w _ _ a n c n' c' t22
 refine⟨t22,by kernel_rfl,?_,?_,?_⟩
 ·intro n c w
  go_enter Tryz.func171,Tryz.ntmps171
  go_wp2
  go_ret;exact⟨rfl,rfl⟩
 ·intro g b n c w w2 r hr
  go_enter Tryz.func171,Tryz.ntmps171
  go_wp2_with (at_builtin;refine Lib.wpList_append_run _ rfl _ _ _ _ rfl _ _ rfl rfl _ _ (hr _) ?_)
  go_ret;exact⟨rfl,rfl⟩
 ·intro a c w;obtain⟨ab,ao,asp⟩:=a;have hr:∀(ty:aO) (w:be),(Builtin.append_ #[100,100] ty #[.slice (aA ⟨w.heap.size,0,aF⟩) 0 0,.slice (aA ⟨ab,ao,asp⟩) 0 c]).run Tryz.prog (w.alloc (.cells #[] 9)) = .ok (.slice (aA ⟨w.heap.size,0,aF⟩) 0 0) (w.alloc (.cells #[] 9)):=fun ty w=>AR t22 (by rw[hce];decide) (LQ t22) (c7 _)
  go_enter Tryz.func171,Tryz.ntmps171
  go_wp2_with (at_builtin;refine Lib.wpList_append_run _ rfl _ _ _ _ rfl _ _ rfl rfl _ _ (hr _ _) ?_)
  go_ret;exact⟨rfl,rfl⟩
set_option maxHeartbeats 4000000 in
set_option maxRecDepth 100000 in
theorem abb:FG Tryz.prog 213 227 80 3 3 .i64:=by
 have hce:Tryz.prog.cellsOf 3=1:=by kernel_rfl
 have mixed:Tryz.prog.follows .mixedOrders=true:=by kernel_rfl
 have t22:Tryz.prog.underlying 80=aA (.slice 3):=by kernel_rfl
 refine⟨t22,by kernel_rfl,by kernel_rfl,?_,?_,?_,?_⟩
 ·intro w g g2 o m c2 lb cb us us2 hne hg hg2 hus
  rw[run_callFunc_extern (P:=Tryz.prog) (f:=227) (fn:=Tryz.f227) (by kernel_rfl) (by kernel_rfl) (by kernel_rfl) (by kernel_rfl) (e:=Extern.SlicesOverlaps.overlaps #[80,80] #[4]) (by kernel_rfl),
   Lib.run_overlaps_apart w 80 4 3 t22 1 (fun w=>by kernel_rfl) ⟨g2,0,aF⟩ ⟨g,o,aF⟩ m c2 lb cb hne 3 3 us2.size us.size (by simp[World.shape?,hg2]) (by simp[World.shape?,hg]) (by omega) (by simp[World.frozen?,hg2]) (by simp[World.frozen?,hg2])]
  rfl
 ·intro g n c i g2 m c2 w w2 w3 k1 k2 hi hm hroom hc63 hov hcp1 hcp2;rw[hce]at hcp1 hcp2;simp only[mZ]at hcp1 hcp2;have hz1:¬((m:Int)=0):=by omega
  have hz2:¬((i:Int)=(n:Int)):=by omega
  have hw1:IntKind.i64.wrap ((i:Int)+(m:Int))=(i:Int)+(m:Int):=by rw[IntKind.wrap_i64];omega
  have hw2:IntKind.i64.wrap ((n:Int)+(m:Int))=(n:Int)+(m:Int):=by rw[IntKind.wrap_i64];omega
  have hb1:(0:Int)<=(i:Int)+(m:Int):=by omega
  have hin:i<=n:=by omega
  have htn:((i:Int)+(m:Int)).toNat=i+m:=by omega
  have hb2:¬(c=i+m):=by omega
  have hb3:(i:Int)<=(n:Int)+(m:Int):=by omega
  have hb4:¬(c=i):=by omega
  go_enter Tryz.func213,Tryz.ntmps213
  go_wp2_with (simp only[hov])
  go_region_law_o (refine step_copy_runI rfl _ _ 80 80 rfl _ _ (by simp[Act.eval,Act.put]) (by simp[Act.eval,Act.put]) (hcp1 _ _ _) ?_)
  go_wp2_with (at_builtin;refine wpList_copy_runI _ rfl _ _ 80 80 rfl _ _ rfl rfl (hcp2 _ _) ?_)
  go_ret;exact⟨rfl,rfl⟩
 ·intro A A2 n c m c2 w w1 r hm hnc hc63 hA0 hA1 hr;have hz1:¬((m:Int)=0):=by omega
  cases A with
  |none =>
   obtain⟨rfl,rfl⟩:=hA0 rfl
   go_enter Tryz.func213,Tryz.ntmps213
   go_wp2_with (at_builtin;refine Lib.wpList_append_run _ rfl _ _ _ _ rfl _ _ rfl rfl _ _ (hr _) ?_)
   all_goals (go_ret;exact⟨rfl,rfl⟩)
  |some a =>
   obtain⟨g,rfl⟩:=hA1 a rfl
   go_enter Tryz.func213,Tryz.ntmps213
   go_wp2_with (at_builtin;refine Lib.wpList_append_run _ rfl _ _ _ _ rfl _ _ rfl rfl _ _ (hr _) ?_)
   all_goals (go_ret;exact⟨rfl,rfl⟩)
 ·intro g n c i g2 m c2 N G w w1 w2 w3 k1 k2 hi hm hnc hgr hlen hGn hG63 hap hcp1 hcp2;rw[hce]at hcp1 hcp2;simp only[mZ]at hcp1 hcp2;have hz1:¬((m:Int)=0):=by omega
  have hz2:¬((i:Int)=(n:Int)):=by omega
  have hz3:(c:Int) < (n:Int)+(m:Int):=by omega
  have hw1:IntKind.i64.wrap ((i:Int)+(m:Int))=(i:Int)+(m:Int):=by rw[IntKind.wrap_i64];omega
  have hw2:IntKind.i64.wrap ((n:Int)+(m:Int))=(n:Int)+(m:Int):=by rw[IntKind.wrap_i64];omega
  have hw3:IntKind.i64.wrap ((n:Int)+(m:Int) - (i:Int))=(n:Int)+(m:Int) - (i:Int):=by rw[IntKind.wrap_i64];omega
  have hb1:(0:Int)<=(i:Int)+(m:Int):=by omega
  have hin:i<=n:=by omega
  have htn:((i:Int)+(m:Int)).toNat=i+m:=by omega
  have hGi:¬(G=i):=by omega
  have hGim:¬(G=i+m):=by omega
  have hci:¬(c=i):=by omega
  have hb3:(i:Int)<=(n:Int):=by omega
  go_enter Tryz.func213,Tryz.ntmps213
  go_wp2_with (first
   |(at_builtin;refine Lib.wpList_append_run _ rfl _ _ _ _ rfl _ _ rfl rfl _ _ (hap _) ?_)
   |(at_builtin;refine wpList_copy_runI _ rfl _ _ 80 80 rfl _ _ rfl rfl (hcp1 _ _) ?_))
  go_region_law_o (refine step_copy_runI rfl _ _ 80 80 rfl (.slice (aA ⟨N,(i+m),aF⟩) (n+m - (i+m)) (G - (i+m))) (.slice (aA ⟨g,i,aF⟩) (n - i) (c - i)) (by simp[Act.eval,Act.put]) (by simp[Act.eval,Act.put]) (hcp2 3 (G - (i+m)) (c - i)) ?_)
  go_wp2
  go_ret;exact⟨rfl,rfl⟩
set_option maxHeartbeats 4000000 in
set_option maxRecDepth 100000 in
theorem Wo:FE Tryz.prog 172 80 3:=by
 have hce:Tryz.prog.cellsOf 3=1:=by kernel_rfl
 have mixed:Tryz.prog.follows .mixedOrders=true:=by kernel_rfl
 have t22:Tryz.prog.underlying 80=aA (.slice 3):=by kernel_rfl
 refine⟨t22,by kernel_rfl,?_,?_,?_⟩
 ·intro i z hi hz;have h1:(Tryz.prog.info? 3).bind (·.zero)=aA (.int .i64 0):=by kernel_rfl
  rw[hi]at h1;simp only[bk,hz,Option.some.injEq]at h1;subst h1;intro v hv;simp[Value.cells]at hv;subst hv;rfl
 ·intro A n c i w hin hnc hc63 hA0 hA1;cases A with
  |none =>
   obtain⟨rfl,rfl⟩:=hA0 rfl;have:i=0:=by omega
   subst this
   go_enter Tryz.func172,Tryz.ntmps172
   go_wp2
   all_goals (go_ret;exact⟨rfl,rfl⟩)
  |some a =>
   obtain⟨g,q,rfl⟩:=hA1 a rfl
   go_enter Tryz.func172,Tryz.ntmps172
   go_wp2
   all_goals (go_ret;exact⟨rfl,rfl⟩)
 ·intro g q n c i jj w w2 w3 k hij hjn hnc hc63 hap hcl;rw[hce]at hap hcl;simp only[mZ]at hap hcl;have hz1:¬((i:Int)=(jj:Int)):=by omega
  have hin:i<=n:=by omega
  have hij':i<=jj:=by omega
  have hb1:¬(c=i):=by omega
  have hb2:i+(n - jj)<=n:=by omega
  have hb3:¬(c=i+(n - jj)):=by omega
  have hic:i<=c:=by omega
  have hjc':jj<=c:=by omega
  have hbc:i+(n - jj)<=c:=by omega
  have hnij:(i:Int)+((n - jj:Nat):Int)<=(n:Int):=by omega
  by_cases hjc:c=jj
  ·have hn:n=jj:=by omega
   subst hn;subst hjc;have hap':=fun ty=>hap ty (aA ⟨g,q,aF⟩) 0 (fun h=>gU h (by omega))
   simp only[qC,fL]at hap' hcl |-
   go_enter Tryz.func172,Tryz.ntmps172
   go_wp2
   go_region_law_o (refine E8 rfl _ _ 80 80 rfl (.slice (aA ⟨g,q,aF⟩) i c) (.slice (aA ⟨g,q,aF⟩) 0 0) (by simp[Act.eval,Act.put]) (by simp[Act.eval,Act.put]) (hap' 80) ?_)
   go_wp2
   go_ret;exact⟨rfl,rfl⟩
  ·go_enter Tryz.func172,Tryz.ntmps172
   go_wp2
   go_region_law_o (refine E8 rfl _ _ 80 80 rfl (.slice (aA ⟨g,q,aF⟩) i c) (.slice (aA ⟨g,q+jj,aF⟩) (n - jj) (c - jj)) (by simp[Act.eval,Act.put]) (by simp[Act.eval,Act.put]) (hap 80 (aA ⟨g,q+jj,aF⟩) (c - jj) (fun _=>rfl)) ?_)
   go_wp2
   go_ret;exact⟨rfl,rfl⟩
set_option maxHeartbeats 4000000 in
set_option maxRecDepth 100000 in
theorem VM:FC Tryz.prog 173 80 3:=by
 have hce:Tryz.prog.cellsOf 3=1:=by kernel_rfl
 have mixed:Tryz.prog.follows .mixedOrders=true:=by kernel_rfl
 have t22:Tryz.prog.underlying 80=aA (.slice 3):=by kernel_rfl
 have q22:∀(w:be) (a:Option Addr) (n c n' c':Nat),(binOp .eql 80 (.slice a n c) (.slice aF n' c')).run Tryz.prog w = .ok (.bool a.isNone) w:=fun w a n c n' c'=>Lib.run_eql_slice_nil w _ _ a n c n' c' t22
 refine⟨t22,by kernel_rfl,?_,?_,?_⟩
 ·intro n c w
  go_enter Tryz.func173,Tryz.ntmps173
  go_wp2
  go_ret;exact⟨rfl,rfl⟩
 ·intro g b n c w w2 r hr
  go_enter Tryz.func173,Tryz.ntmps173
  go_wp2_with (at_builtin;refine Lib.wpList_append_run _ rfl _ _ _ _ rfl _ _ rfl rfl _ _ (hr _) ?_)
  go_ret;exact⟨rfl,rfl⟩
 ·intro a c w;obtain⟨ab,ao,asp⟩:=a;have hr:∀(ty:aO) (w:be),(Builtin.append_ #[80,80] ty #[.slice (aA ⟨w.heap.size,0,aF⟩) 0 0,.slice (aA ⟨ab,ao,asp⟩) 0 c]).run Tryz.prog (w.alloc (.cells #[] 3)) = .ok (.slice (aA ⟨w.heap.size,0,aF⟩) 0 0) (w.alloc (.cells #[] 3)):=fun ty w=>AR t22 (by rw[hce];decide) (LQ t22) (c7 _)
  go_enter Tryz.func173,Tryz.ntmps173
  go_wp2_with (at_builtin;refine Lib.wpList_append_run _ rfl _ _ _ _ rfl _ _ rfl rfl _ _ (hr _ _) ?_)
  go_ret;exact⟨rfl,rfl⟩
set_option maxHeartbeats 4000000 in
set_option maxRecDepth 100000 in
theorem adp:Lx Tryz.prog 209 9 66 5:=by
 have mixed:Tryz.prog.follows .mixedOrders=true:=by kernel_rfl
 have ts:Tryz.prog.underlying 9=aA .string:=by kernel_rfl
 have tr:Tryz.prog.underlying 66=aA (.slice 5):=by kernel_rfl
 have tb:Tryz.prog.underlying 5=aA (.int .u8):=by kernel_rfl
 refine⟨ts,tr,tb,by kernel_rfl,?_⟩;intro b n L c A w w2 r hn hcap hcopy hconv;have hcopy1:=fun ty=>hcopy ty n (.inl rfl)
 have hcopy2:gv w b.size 0 5=n->∀ty,_:=fun h ty=>hcopy ty 0 (.inr h)
 have hrun:=Lib.run_convert_string_bytes w 9 66 5 b ts tr tb
 go_enter Tryz.func209,Tryz.ntmps209
 by_cases hcn:gv w b.size 0 5=n
 ·have hcopy3:=hcopy2 hcn;clear hcopy2;rw[hcn]at hrun hcopy3 hcopy1 hconv hcap;rw[qC,show b.size - n=0 by omega]at hcopy3 hcopy1;clear hcopy hcn
  go_wp2
  go_ret;exact⟨rfl,rfl⟩
 ·clear hcopy hcopy2
  go_wp2
  go_ret;exact⟨rfl,rfl⟩
set_option maxRecDepth 100000 in
theorem VQ(a b:ByteArray)(w:be):Calls Tryz.prog 207 #[.string a,.string b] w fun e w'=>e = .returned (.int .i64 (Lib.compareBytes a.data.toList b.data.toList))/\w'=w:=by
 go_enter Tryz.func207,Tryz.ntmps207
 go_wp2
 rw[run_callFunc_extern Tryz.func224 (by kernel_rfl) (by kernel_rfl) (by kernel_rfl) (e:=Extern.BytealgCompare.compare) (by kernel_rfl),Lib.run_compareString];simp only[Result.andThen];rw[Oper.upon_value]
 go_wp2
 go_ret;exact⟨rfl,rfl⟩
set_option maxRecDepth 100000 in
theorem VP(a b:ByteArray)(w:be):Calls Tryz.prog 158 #[.string a,.string b] w fun e w'=>e = .returned (.int .i64 (Lib.compareBytes a.data.toList b.data.toList))/\w'=w:=by
 go_enter Tryz.func158,Tryz.ntmps158
 go_wp2_with (go_at_call 207;refine(VQ _ _ _).mono ?_;rintro e w' ⟨rfl,rfl⟩)
 go_ret;exact⟨rfl,rfl⟩
end Go.Proofs.YtlphgcjepphhcaaGreat
namespace Go.Proofs.YtlphgcjepphhcaaGreat
open Go Go.RowKit Go.Shelf
 attribute [local go_sem] Oper.semAt_some
set_option maxRecDepth 100000 in
set_option maxHeartbeats 4000000 in
theorem Vg(l B1 o1 B2 o2 n1 c1 n2 c2 N:Nat)(hN:N=min n1 n2)(A1 A2:Option Addr)(fx fy:Nat->aR)(I:Nat->be->Prop)(Ix:be->Prop)(hn:n1<=16777216)(hS:∀k W,I k W->I k W.drew)
  (h1:∀k W,I k W->W.cell? ⟨B1,o1,aF⟩=aA (.slice A1 n1 c1)) (h2:∀k W,I k W->W.cell? ⟨B2,o2,aF⟩=aA (.slice A2 n2 c2))
  (hx:∀k,k < n1->k < n2->∃b1 p1 b2 p2,A1=aA ⟨b1,p1,aF⟩/\A2=aA ⟨b2,p2,aF⟩/\∀W,I k W->W.cell? ⟨b1,p1+k,aF⟩=aA (fx k)/\W.cell? ⟨b2,p2+k,aF⟩=aA (fy k))
  (hY:∀k W,k < n1->k < n2->I k W->YieldAt Fence.wide 0 Tryz.prog l #[fx k,fy k] W fun e W2=>(e = .returned (.bool aC)/\I (k+1) W2)∨(e = .returned (.bool aD)/\Ix W2))
  (W:be) (h0:I 0 W) :
  CallsIn Fence.wide 1 Tryz.prog 210 #[.func (.yield l) #[] #[],.pointer (aA ⟨B1,o1,aF⟩),.pointer (aA ⟨B2,o2,aF⟩)] W fun e W'=>(∃v,e = .returned v)/\(I N W'∨Ix W'):=by
 have g1:=h1 0 W h0;have g2:=h2 0 W h0;refine callsIn_of_wp Tryz.func210 rfl trivial ?_ rfl;simp only[Tryz.ntmps210,wB,dp,fc,Nat.reduceAdd,Nat.reduceSub,K9,La,Lq,Lh,eA,ew];gi_wp2;rw[show min ((n1:Nat):Int) ((n2:Nat):Int)=((N:Nat):Int) by omega]
 gi_loopw [10] (fun i wr=>∃k:Nat,k<=N/\i = .int .i64 k/\I k wr)
  (fun i _=>N - (intOf i).toNat)
 case atStart=>exact⟨0,jQ _,rfl,h0⟩
 case round =>
  obtain⟨k,hk,rfl,hI⟩:=hrel
  by_cases bd:k < N
  ·obtain⟨b1,p1,b2,p2,rfl,rfl,hcell⟩:=hx k (by omega) (by omega);obtain⟨fn,tmps,assign,body,hy,hR⟩:=hY k wr.drew (by omega) (by omega) (hS k wr hI);have q1:=h1 k wr hI;have q2:=h2 k wr hI;have hk1:k < n1:=by omega
   have hk2:k < n2:=by omega
   obtain⟨q3,q4⟩:=hcell wr hI;clear h1 h2 hx hY hS hcell g1 g2 h0;gi_wp2
   have hR:=hR.mono (R':=fun e W2=>∃bb,e = .returned (.bool bb)/\(bb=aC->I (k+1) W2)/\(bb=aD->Ix W2)) (by
    rintro e W2 (⟨rfl,h⟩|⟨rfl,h⟩)
    ·exact⟨aC,rfl,fun _=>h,fun e=>by cases e⟩
    ·exact⟨aD,rfl,fun e=>by (cases e),fun _=>h⟩)
   gi_region_with (refine hR.mono ?_;rintro e W3 ⟨bb,rfl,hb1,hb2⟩)
   all_goals
    cases bb;rotate_left
    ·gi_wp2
     go_roundw
     case rel=>exact⟨k+1,by omega,by simp,hb1 (by trivial)⟩
     case measure=>simp[intOf];omega
    ·gi_wp2;refine bodyPost_ret (results_none rfl _ _ _) rfl ?_;exact⟨⟨_,rfl⟩,.inr (hb2 (by trivial))⟩
  ·obtain rfl:k=N:=by omega
   clear h1 h2 hx hY hS g1 g2 h0;gi_wp2
   go_end0
   exact⟨⟨_,rfl⟩,.inl hI⟩
set_option maxRecDepth 100000 in
set_option maxHeartbeats 4000000 in
theorem U4(l B1 o1 n1 c1:Nat)(A1:Option Addr)(f:Nat->Nat->aR)(I:Nat->be->Prop)(Ix:be->Prop)(hn:n1<=16777216)
  (h1:∀k W,I k W->W.cell? ⟨B1,o1,aF⟩=aA (.slice A1 n1 c1))
  (hx:∀k,k < n1->∃b1 p1,A1=aA ⟨b1,p1,aF⟩/\∀W m,I m W->∀i,i < 6->W.cell? ⟨b1,p1+k * 6+i,aF⟩=aA (f k i))
  (hY:∀k W,k < n1->I k W->YieldAt Fence.wide 0 Tryz.prog l #[.int .i64 ((n1:Int) - 1 - (k:Int)),(.agg #[f (n1 - 1 - k) 0,f (n1 - 1 - k) 1,f (n1 - 1 - k) 2,f (n1 - 1 - k) 3,f (n1 - 1 - k) 4,f (n1 - 1 - k) 5])] W fun e W2=>(e = .returned (.bool aC)/\I (k+1) W2)∨(e = .returned (.bool aD)/\Ix W2))
  (W:be) (h0:I 0 W) :
  CallsIn Fence.wide 1 Tryz.prog 211 #[.func (.yield l) #[] #[],.pointer (aA ⟨B1,o1,aF⟩)] W fun e W'=>(∃v,e = .returned v)/\(I n1 W'∨Ix W'):=by
 have g1:=h1 0 W h0;refine callsIn_of_wp Tryz.func211 rfl trivial ?_ rfl;simp only[Tryz.ntmps211,wB,dp,fc,Nat.reduceAdd,Nat.reduceSub,K9,La,Lq,Lh,eA,ew];gi_wp2
 gi_loopw [3] (fun i wr=>∃k:Nat,k<=n1/\i = .int .i64 ((n1:Int) - 1 - (k:Int))/\I k wr)
  (fun i _=>(intOf i+1).toNat)
 case atStart=>exact⟨0,jQ _,by simp,h0⟩
 case round =>
  obtain⟨k,hk,rfl,hI⟩:=hrel
  by_cases bd:k < n1
  ·obtain⟨b1,p1,rfl,hcell⟩:=hx (n1 - 1 - k) (by omega);have hY2:=hY k wr bd hI;obtain⟨fn,tmps,assign,body,hy,hR⟩:=hY2;have q2:=hcell wr k hI 0 (by omega);have q3:=hcell wr k hI 1 (by omega);have q4:=hcell wr k hI 2 (by omega);have q5:=hcell wr k hI 3 (by omega);have q6:=hcell wr k hI 4 (by omega);have q7:=hcell wr k hI 5 (by omega);rw[fL]at q2;have q1:=h1 k wr hI;have e1:((n1 - 1 - k:Nat):Int)=(n1:Int) - 1 - (k:Int):=by omega
   have e2:((n1:Int) - 1 - (k:Int)).toNat=n1 - 1 - k:=by omega
   have e3:((n1:Int) - 1 - (k:Int)) ≥ 0:=by omega
   clear h1 hx hY hcell g1 h0;gi_wp2;refine hR.mono ?_;rintro e W3 (⟨rfl,hJ3⟩|⟨rfl,hJx3⟩)
   ·gi_wp2
    go_roundw
    case rel=>exact⟨k+1,by omega,by simp;omega,hJ3⟩
    case measure=>simp[intOf];omega
   ·gi_wp2;refine bodyPost_ret (results_none rfl _ _ _) rfl ?_;exact⟨⟨_,rfl⟩,.inr hJx3⟩
  ·obtain rfl:k=n1:=by omega
   clear h1 hx hY g1 h0;gi_wp2
   go_end0
   exact⟨⟨_,rfl⟩,.inl hI⟩
set_option maxRecDepth 100000 in
set_option maxHeartbeats 4000000 in
theorem aeS(l B1 o1 B2 o2 BB ob n s:Nat)(I:Nat->be->Prop)(Ix:be->Prop)(hn:n<=16777216)(hs:s<=16777216)(hS:∀k W,I k W->I k W.drew)
  (h1:∀k W,I k W->W.cell? ⟨B1,o1,aF⟩=aA (.pointer (aA ⟨BB,ob,aF⟩))) (h2:∀k W,I k W->W.cell? ⟨B2,o2,aF⟩=aA (.int .i64 (s:Int)))
  (h3:∀k W,I k W->W.cell? ⟨BB,ob+1,aF⟩=aA (.int .i64 (n:Int)))
  (hY:∀k W,k < n->I k W->YieldAt Fence.wide 0 Tryz.prog l #[.int .i64 (((s:Int)+(k:Int)) % (n:Int))] W fun e W2=>(e = .returned (.bool aC)/\I (k+1) W2)∨(e = .returned (.bool aD)/\Ix W2))
  (W:be) (h0:I 0 W) :
  CallsIn Fence.wide 1 Tryz.prog 192 #[.func (.yield l) #[] #[],.pointer (aA ⟨B1,o1,aF⟩),.pointer (aA ⟨B2,o2,aF⟩)] W fun e W'=>(∃v,e = .returned v)/\(I n W'∨Ix W'):=by
 have g1:=h1 0 W h0;have g2:=h2 0 W h0;have g3:=h3 0 W h0;refine callsIn_of_wp Tryz.func192 rfl trivial ?_ rfl;simp only[Tryz.ntmps192,wB,dp,fc,Nat.reduceAdd,Nat.reduceSub,K9,La,Lq,Lh,eA,ew];gi_wp2
 gi_loopw [9] (fun i wr=>∃k:Nat,k<=n/\i = .int .i64 k/\I k wr)
  (fun i _=>n - (intOf i).toNat)
 case atStart=>exact⟨0,jQ _,rfl,h0⟩
 case round =>
  obtain⟨k,hk,rfl,hI⟩:=hrel
  by_cases bd:k < n
  ·obtain⟨fn,tmps,assign,body,hy,hR⟩:=hY k wr.drew bd (hS k wr hI);have q1:=h1 k wr hI;have q2:=h2 k wr hI;have q3:=h3 k wr hI;have w1:IntKind.i64.wrap ((s:Int)+(k:Int))=((s+k:Nat):Int):=by rw[IntKind.wrap_i64];omega
   have w2:((s+k:Nat):Int).tmod (n:Int)=(((s+k) % n:Nat):Int):=rfl;have w3:¬((n:Int)=0):=by omega
   clear h1 h2 h3 hY hS g1 g2 g3 h0;gi_wp2
   have hR:=hR.mono (R':=fun e W2=>∃bb,e = .returned (.bool bb)/\(bb=aC->I (k+1) W2)/\(bb=aD->Ix W2)) (by
    rintro e W2 (⟨rfl,h⟩|⟨rfl,h⟩)
    ·exact⟨aC,rfl,fun _=>h,fun e=>by cases e⟩
    ·exact⟨aD,rfl,fun e=>by (cases e),fun _=>h⟩)
   gi_region_with (refine hR.mono ?_;rintro e W3 ⟨bb,rfl,hb1,hb2⟩)
   all_goals
    cases bb;rotate_left
    ·gi_wp2
     go_roundw
     case rel=>exact⟨k+1,by omega,by simp,hb1 (by trivial)⟩
     case measure=>simp[intOf];omega
    ·gi_wp2;refine bodyPost_ret (results_none rfl _ _ _) rfl ?_;exact⟨⟨_,rfl⟩,.inr (hb2 (by trivial))⟩
  ·obtain rfl:k=n:=by omega
   clear h1 h2 h3 hY hS g1 g2 g3 h0;gi_wp2
   go_end0
   exact⟨⟨_,rfl⟩,.inl hI⟩
end Go.Proofs.YtlphgcjepphhcaaGreat
namespace Go.Proofs.YtlphgcjepphhcaaGreat
open Go Go.Proofs
set_option maxRecDepth 100000
end Go.Proofs.YtlphgcjepphhcaaGreat
namespace Go.Proofs.YtlphgcjepphhcaaGreat
open Go Go.Lite
theorem R8{_P:bu}{Z:Zs}{w:be}{a:List V}{u:aR}(h:VR Z w j0 (.sl a) u)(h1:a.all fq=aC) :
  ∃(A:Option Addr) (c:Nat) (fx:Nat->aR),u = .slice A a.length c/\∀k x,a[k]? = aA x->VR Z w j0 x (fx k)/\∃g b,A=aA ⟨g,b,aF⟩/\Z g (b+k)/\w.cell? ⟨g,b+k,aF⟩=aA (fx k):=by
 rcases h.slInv with⟨A,c,rfl,rfl⟩|⟨g,b,c,sz,rfl,_,hsz,hh⟩
 ·exact⟨A,c,fun _=>default,rfl,fun k x hk=>by simp at hk⟩
 ·refine⟨aA ⟨g,b,aF⟩,c,fun k=>(w.cell? ⟨g,b+k,aF⟩).getD default,rfl,fun k x hk=>?_⟩;have hone:x.one=true:=eJ.1 h1 x (dx hk);obtain⟨l1,l2,l3⟩:=hh k x hk;rw[lS hone]at l1 l3;have:sz=1:=l1.symm;subst this;obtain⟨_,u,hu,hv⟩:=l3 0 x rfl;rw[mZ,fL]at hu;have hz:=l2 0 (by decide);rw[mZ,fL]at hz;show VR Z w j0 x ((w.cell? ⟨g,b+k,aF⟩).getD default)/\_;rw[hu];refine⟨hv,g,b,rfl,hz,?_⟩;show w.cell? ⟨g,b+k,aF⟩=aA ((w.cell? ⟨g,b+k,aF⟩).getD default);rw[hu];rfl
theorem aeX{_P:bu}{Z:Zs}{w:be}{a:List V}{u:aR}(h:VR Z w j0 (.sl a) u)(h1:a.all DY=aC) :
  ∃(A:Option Addr) (c:Nat) (f:Nat->Nat->aR),u = .slice A a.length c/\∀k x,a[k]? = aA x->VR Z w j0 x (.agg #[f k 0,f k 1,f k 2,f k 3,f k 4,f k 5])/\∃g b,A=aA ⟨g,b,aF⟩/\∀i,i < 6->Z g (b+k * 6+i)/\w.cell? ⟨g,b+k * 6+i,aF⟩=aA (f k i):=by
 rcases h.slInv with⟨A,c,rfl,rfl⟩|⟨g,b,c,sz,rfl,_,hsz,hh⟩
 ·exact⟨A,c,fun _ _=>default,rfl,fun k x hk=>by simp at hk⟩
 ·refine⟨aA ⟨g,b,aF⟩,c,fun k i=>(w.cell? ⟨g,b+k * 6+i,aF⟩).getD default,rfl,fun k x hk=>?_⟩;have hone:DY x=true:=eJ.1 h1 x (dx hk);obtain⟨l1,l2,l3⟩:=hh k x hk;unfold DY at hone;split at hone;rotate_left
  ·cases hone
  rename_i cs;have hl:cs.length=6:=by simpa using hone
  have e:gT (.agg cs)=cs:=rfl;rw[e]at l1 l3;have:sz=6:=by omega
  subst this
  have key:∀i,i < 6->∃u,w.cell? ⟨g,b+k * 6+i,aF⟩=aA u/\∀y,cs[i]? = aA y->VR Z w j0 y u:=fun i hi=>by
   have hy:cs[i]? = aA cs[i]:=cj (by omega);obtain⟨_,u,hu,hv⟩:=l3 i _ hy;refine⟨u,hu,fun y hy2=>?_⟩;rw[hy]at hy2;cases hy2;exact hv
  have hz:∀i,i < 6->Z g (b+k * 6+i):=fun i hi=>by rw[jP];exact l2 i hi
  refine⟨?_,g,b,rfl,fun i hi=>⟨hz i hi,?_⟩⟩
  ·refine .agg (us:=[_,_,_,_,_,_]) (by simpa using hl) fun i c u hc hu=>?_
   have hi:i < 6:=by rw[<-hl];exact(bX.1 hc).1
   obtain⟨u',h1',h2'⟩:=key i hi;have h3:=h2' c hc
   match i,hi,hu,h1' with
   |0,_,hu,h1'=>simp at hu;rw[fL]at h1';rw[<-hu,h1'] ;exact h3
   |1,_,hu,h1'=>simp at hu;rw[<-hu,h1'] ;exact h3
   |2,_,hu,h1'=>simp at hu;rw[<-hu,h1'] ;exact h3
   |3,_,hu,h1'=>simp at hu;rw[<-hu,h1'] ;exact h3
   |4,_,hu,h1'=>simp at hu;rw[<-hu,h1'] ;exact h3
   |5,_,hu,h1'=>simp at hu;rw[<-hu,h1'] ;exact h3
   |i+6,hi,_,_=>omega
  ·obtain⟨u',h1',_⟩:=key i hi;show w.cell? ⟨g,b+k * 6+i,aF⟩=aA ((w.cell? ⟨g,b+k * 6+i,aF⟩).getD default);rw[h1'];rfl
theorem afM:sj Tryz.prog Jm:=by
 intro f ts h xs rounds hf hr Z w us hzin ha;unfold Jm at hf;split at hf
 ·rename_i e;subst e;cases hf;unfold AO at hr;split at hr;rotate_left
  ·cases hr
  rename_i q n from0;split at hr;rotate_left
  ·cases hr
  rename_i hc;obtain⟨hn0,hn,hf0,hf⟩:=hc;cases hr;obtain⟨n,rfl⟩:∃m:Nat,n=(m:Int):=⟨n.toNat,by omega⟩
  obtain⟨s,rfl⟩:∃m:Nat,from0=(m:Int):=⟨from0.toNat,by omega⟩
  obtain⟨hl,hv⟩:=ha
  match us,hl,hv with
  | [u1,u2],hl,hv =>
  have v1:=hv 0 _ u1 rfl rfl;have v2:=hv 1 _ u2 rfl rfl;refine⟨Go.Proofs.enters_of Tryz.func192 (by kernel_rfl) rfl,?_⟩;cases v1 with
  |ref f1 c1 d1 =>
  rename_i B1 o1;cases v2 with
  |ref f2 c2 d2 =>
  rename_i B2 o2;obtain⟨_,z1,e1⟩:=c1 0 _ rfl;obtain⟨_,z2,e2⟩:=c2 0 _ rfl;have r1:=d1 0 _ rfl;have r2:=d2 0 _ rfl;generalize f1 0=g1 at e1 r1;generalize f2 0=g2 at e2 r2;cases r2;cases r1 with
  |ref f3 c3 d3 =>
  rename_i BB ob;obtain⟨_,z3,e3⟩:=c3 1 _ rfl;have r3:=d3 1 _ rfl;generalize f3 1=g3 at e3 r3;cases r3;have hbl:(vW (n:Int) (s:Int)).length=n:=by simp[vW]
  refine⟨(fK n).map fun k:Nat=>[.int .i64 (((s:Int)+(k:Int)) % (n:Int))],by simp[hbl],?_,?_⟩
  ·intro k x u hx hu;have hk:k < n:=by rw[<-hbl];exact(bX.1 hx).1
   unfold vW at hx;rw[fW,rZ (by omega)]at hx;rw[fW,rZ hk]at hu;simp at hu hx;subst hu;subst hx;refine⟨rfl,fun i y' v hy' hv'=>?_⟩
   match i,hy',hv' with
   |0,hy',hv'=>simp at hy' hv';subst hy';subst hv';exact .int
   |i+1,hy',hv'=>simp at hy'
  ·intro l I Ix W hI hIx hK hY h0
   have hY':∀k W,k < n->I k W->YieldAt Fence.wide 0 Tryz.prog l #[.int .i64 (((s:Int)+(k:Int)) % (n:Int))] W fun e W2=>(e = .returned (.bool aC)/\I (k+1) W2)∨(e = .returned (.bool aD)/\Ix W2):=by
    intro k W hk1 hi;exact hY k [.int .i64 (((s:Int)+(k:Int)) % (n:Int))] W (by rw[fW,rZ hk1];rfl) hi
   have:=aeS l B1 (o1+0) B2 (o2+0) BB (ob+0) n s I Ix (by omega) (by omega) (fun k W hi=>hI k W W.drew hi ⟨rfl,rfl,rfl,rfl⟩) (fun k W hi=>((hK k W hi).2 _ _ z1).trans e1) (fun k W hi=>((hK k W hi).2 _ _ z2).trans e2) (fun k W hi=>((hK k W hi).2 _ _ z3).trans e3) hY' W h0;have:=(callsIn_wide (n:=1)).1 this;simp only[d9,Ln];exact this
 split at hf
 ·rename_i e;subst e;cases hf;unfold Cf at hr;split at hr;rotate_left
  ·cases hr
  rename_i a;split at hr;rotate_left
  ·cases hr
  rename_i hc;obtain⟨hlen,hpair⟩:=hc;cases hr;obtain⟨hl,hv⟩:=ha
  match us,hl,hv with
  | [u1],hl,hv =>
  have v1:=hv 0 _ u1 rfl rfl;refine⟨Go.Proofs.enters_of Tryz.func211 (by kernel_rfl) rfl,?_⟩;cases v1 with
  |ref f1 c1 d1 =>
  rename_i B1 o1;obtain⟨_,z1,e1⟩:=c1 0 (.sl a) rfl;obtain⟨A1,p1,fa,w1,r1⟩:=aeX (_P:=Tryz.prog) (d1 0 (.sl a) rfl) hpair;rw[w1]at e1;have hbl:(sF a).length=a.length:=by simp[sF]
  have hbg:∀k x,(sF a)[k]? = aA x->∃y,a[a.length - 1 - k]? = aA y/\k < a.length/\x=[.int .i64 ((a.length - 1 - k:Nat):Int),y]:=by
   intro k x hx;have hk:k < a.length:=by rw[<-hbl];exact(bX.1 hx).1
   unfold sF at hx;rw[List.getElem?_reverse (by simpa using hk)]at hx;simp only[d9,List.length_zipIdx,fW,List.getElem?_zipIdx]at hx;have hy:a[a.length - 1 - k]? = aA a[a.length - 1 - k]:=cj (by omega);rw[hy]at hx;simp at hx;refine⟨_,hy,hk,?_⟩;rw[<-hx]
  refine⟨(fK a.length).map fun k:Nat=>[.int .i64 ((a.length:Int) - 1 - (k:Int)),.agg #[fa (a.length - 1 - k) 0,fa (a.length - 1 - k) 1,fa (a.length - 1 - k) 2,fa (a.length - 1 - k) 3,fa (a.length - 1 - k) 4,fa (a.length - 1 - k) 5]],by simp[hbl],?_,?_⟩
  ·intro k x u hx hu;obtain⟨y,hy,hk,rfl⟩:=hbg k x hx;rw[fW,rZ hk]at hu;simp at hu;subst hu;refine⟨rfl,fun i y' v hy' hv'=>?_⟩
   match i,hy',hv' with
   |0,hy',hv' =>
    simp at hy' hv';subst hy';subst hv';have:((a.length - 1 - k:Nat):Int)=(a.length:Int) - 1 - (k:Int):=by omega
    rw[this];exact .int
   |1,hy',hv'=>simp at hy' hv';subst hy';subst hv';exact(r1 _ y hy).1
   |i+2,hy',hv'=>simp at hy'
  ·intro l I Ix W hI hIx hK hY h0
   have hY':∀k W,k < a.length->I k W->YieldAt Fence.wide 0 Tryz.prog l #[.int .i64 ((a.length:Int) - 1 - (k:Int)),.agg #[fa (a.length - 1 - k) 0,fa (a.length - 1 - k) 1,fa (a.length - 1 - k) 2,fa (a.length - 1 - k) 3,fa (a.length - 1 - k) 4,fa (a.length - 1 - k) 5]] W fun e W2=>(e = .returned (.bool aC)/\I (k+1) W2)∨(e = .returned (.bool aD)/\Ix W2):=by
    intro k W hk1 hi;exact hY k [.int .i64 ((a.length:Int) - 1 - (k:Int)),.agg #[fa (a.length - 1 - k) 0,fa (a.length - 1 - k) 1,fa (a.length - 1 - k) 2,fa (a.length - 1 - k) 3,fa (a.length - 1 - k) 4,fa (a.length - 1 - k) 5]] W (by rw[fW,rZ hk1];rfl) hi
   have hx:∀k,k < a.length->∃b1 p1,A1=aA ⟨b1,p1,aF⟩/\∀W m,I m W->∀i,i < 6->W.cell? ⟨b1,p1+k * 6+i,aF⟩=aA (fa k i):=by
    intro k hk1;obtain⟨_,g1,q1,m1,m2⟩:=r1 k a[k] (by simp[hk1]);exact⟨g1,q1,m1,fun W m hi i h6=>((hK m W hi).2 _ _ (m2 i h6).1).trans (m2 i h6).2⟩
   have:=U4 l B1 (o1+0) a.length p1 A1 fa I Ix hlen (fun k W hi=>((hK k W hi).2 _ _ z1).trans e1) hx hY' W h0;have:=(callsIn_wide (n:=1)).1 this;simp only[d9,Ln];exact this
 split at hf
 ·rename_i e;subst e;cases hf;unfold wV at hr;split at hr;rotate_left
  ·cases hr
  rename_i a b;split at hr;rotate_left
  ·cases hr
  rename_i hc;obtain⟨hal,ha1,hb1⟩:=hc;cases hr;obtain⟨hl,hv⟩:=ha
  match us,hl,hv with
  | [u1,u2],hl,hv =>
  have v1:=hv 0 _ u1 rfl rfl;have v2:=hv 1 _ u2 rfl rfl;refine⟨Go.Proofs.enters_of Tryz.func210 (by kernel_rfl) rfl,?_⟩;cases v1 with
  |ref f1 c1 d1 =>
  rename_i B1 o1;cases v2 with
  |ref f2 c2 d2 =>
  rename_i B2 o2;obtain⟨_,z1,e1⟩:=c1 0 (.sl a) rfl;obtain⟨_,z2,e2⟩:=c2 0 (.sl b) rfl;obtain⟨A1,p1,fx,w1,r1⟩:=R8 (_P:=Tryz.prog) (d1 0 (.sl a) rfl) ha1;obtain⟨A2,p2,fy,w2,r2⟩:=R8 (_P:=Tryz.prog) (d2 0 (.sl b) rfl) hb1;rw[w1]at e1;rw[w2]at e2;refine⟨(fK (min a.length b.length)).map fun k=>[fx k,fy k],by simp,?_,?_⟩
  ·intro k x u hx hu;rw[List.getElem?_zipWith]at hx;rw[fW]at hu;cases hxa:a[k]? with
   |none=>simp[hxa]at hx
   |some xa =>
    cases hxb:b[k]? with
    |none=>simp[hxa,hxb]at hx
    |some xb =>
     simp[hxa,hxb]at hx;subst hx;have hka:=(bX.1 hxa).1;have hkb:=(bX.1 hxb).1;rw[rZ (by omega)]at hu;simp at hu;subst hu;refine⟨rfl,fun i y v hy hv=>?_⟩
     match i,hy,hv with
     |0,hy,hv=>simp at hy hv;subst hy;subst hv;exact(r1 k _ hxa).1
     |1,hy,hv=>simp at hy hv;subst hy;subst hv;exact(r2 k _ hxb).1
     |i+2,hy,hv=>simp at hy
  ·intro l I Ix W hI hIx hK hY h0
   have hY':∀k W,k < a.length->k < b.length->I k W->YieldAt Fence.wide 0 Tryz.prog l #[fx k,fy k] W fun e W2=>(e = .returned (.bool aC)/\I (k+1) W2)∨(e = .returned (.bool aD)/\Ix W2):=by
    intro k W hk1 hk2 hi;have:=hY k [fx k,fy k] W (by rw[fW,rZ (by omega)];rfl) hi;exact this
   have hx:∀k,k < a.length->k < b.length->∃b1 p1 b2 p2,A1=aA ⟨b1,p1,aF⟩/\A2=aA ⟨b2,p2,aF⟩/\∀W,I k W->W.cell? ⟨b1,p1+k,aF⟩=aA (fx k)/\W.cell? ⟨b2,p2+k,aF⟩=aA (fy k):=by
    intro k hk1 hk2;obtain⟨_,g1,q1,m1,m2,m3⟩:=r1 k _ (cj hk1);obtain⟨_,g2,q2,n1,n2,n3⟩:=r2 k _ (cj hk2);exact⟨g1,q1,g2,q2,m1,n1,fun W hi=>⟨((hK k W hi).2 _ _ m2).trans m3,((hK k W hi).2 _ _ n2).trans n3⟩⟩
   have:=Vg l B1 (o1+0) B2 (o2+0) a.length p1 b.length p2 (min a.length b.length) rfl A1 A2 fx fy I Ix hal (fun k W hi=>hI k W W.drew hi ⟨rfl,rfl,rfl,rfl⟩) (fun k W hi=>((hK k W hi).2 _ _ z1).trans e1) (fun k W hi=>((hK k W hi).2 _ _ z2).trans e2) hx hY' W h0;have:=(callsIn_wide (n:=1)).1 this;simp only[d9,Ln];exact this
 ·cases hf
theorem bA:yY aI:=by
 have hceS:Tryz.prog.cellsOf 9=1:=by kernel_rfl
 have hceI:Tryz.prog.cellsOf 3=1:=by kernel_rfl
 refine⟨by kernel_rfl,?_,?_,afM⟩
 ·intro f g h;have h:Jk f=aA g:=h;unfold Jk at h;split at h
  ·rename_i e;subst e;cases h;have:=Mt VN;rw[hceS]at this;exact this
  split at h
  ·rename_i e;subst e;cases h;have:=Mt VM;rw[hceI]at this;exact this
  split at h
  ·rename_i e;subst e;cases h;exact adr adp
  split at h
  ·rename_i e;subst e;cases h;exact VU VP
  ·cases h
 ·intro f g h;have h:Ji f=aA g:=h;unfold Ji at h;split at h
  ·rename_i e;subst e;cases h;have:=Pn abd;rw[hceS]at this;exact this
  split at h
  ·rename_i e;subst e;cases h;have:=Pn abb;rw[hceI]at this;exact this
  split at h
  ·rename_i e;subst e;cases h;exact MH Wp
  split at h
  ·rename_i e;subst e;cases h;exact MH Wo
  ·cases h
end Go.Proofs.YtlphgcjepphhcaaGreat
