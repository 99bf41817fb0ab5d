/-
  Texts that the last one stands on.
-/
import Derived.Test.YtlphgcjepphhcaaGreatD6
noncomputable section
open List renaming pairwise_append->fJ,pairwise_cons->iL,mem_cons->dE,reverse_cons->Bz,map_append->gA,length_reverse->wy,all_eq_true->eJ,mem_map->ib,append_assoc->cO,cons_append->ew,perm_middle->y7,flatMap_cons->nZ,append_eq_nil_iff->ww,length->oZ,mem_cons_self->er,dropLast_concat->FH,dropLast_cons_of_ne_nil->Li,mem_append->cz,exists_cons_of_ne_nil->uv,eq_nil_or_concat->gg,concat_eq_append->i4,getElem?_of_mem->y4,getElem?_take->lj,getElem?_drop->js,getElem?_eq_some_iff->bX,pairwise_iff_getElem->By,getElem?_eq_getElem->cj,drop_eq_getElem_cons->qy,take_append_drop->lk,mem_of_getElem?->dx,mem_of_mem_take->o4,mem_of_mem_drop->qA,getElem_mem->Bu,eq_nil_of_length_eq_zero->wx,reverse_reverse->BA,take_succ_cons->o6,take_zero->se,mem_singleton->jO,filter_eq_self->Lk,filter_append->qz,any_eq_false->yZ,mem_flatMap->jN,dropLast_append_of_ne_nil->Uy,length_append->eV,length_map->d9,nil_append->eA,mem_append_left->Bv,mem_append_right->uz,length_cons->dp,filter_cons_of_neg->FJ,filter_cons_of_pos->FK,append_nil->fh,mem_filter->mW,length_take->eC,getLastD->y5,take_length->iM,take_of_length_le->sd,take_add_one->FO,length_nil->fc,length_pos_iff->uy,nodup_cons->o5,mem_cons_of_mem->y6,map_nil->fX,nodup_append->uA,map_cons->d8,drop_drop->uu,all_cons->oY,getElem?_eq_none->rY,length_drop->fD,range->fK,getElem?_range->rZ,ext_getElem?->uw,getElem?_set->FL,length_set->gS,map_reverse->wz
open Go.Lite.V renaming tup->aT,sl->aG,flat1->jw,cells->gT,agg->aH,str->aE,int->aB,bool->bc
open Option renaming some->aA,none->aF,getD_some->uC
open Bool renaming true->aC,false->aD,or_eq_true->nS,and_eq_true->co,true_and->dL,not_true->bK,and_false->gP,not_false->gb,false_or->gq,or_true->mh,or_eq_false_iff->qu,false_and->iZ,or_false->j9
open Nat renaming eq_zero_or_pos->BF,le_refl->c7,add_zero->fL,zero_add->fY,sub_self->qC,zero_le->jQ,add_assoc->jP
open Go.Lite.O renaming row->aM,box->aJ
open Go renaming maxLen->f8,FuncId->bL,TypeId->aO
namespace Go.Proofs.YtlphgcjepphhcaaGreat
open Go Go.Lite
set_option linter.unusedSimpArgs false
set_option linter.unusedVariables false
set_option maxRecDepth 100000
theorem aaO{a c:Su}{p to:Int}{k h:Bs}(hP:HP (a++(p,h)::c))(hlo:∀y∈a,bd y.2 k)(hkh:bd k h):HP (a++(p,k)::(to,h)::c):=by
 obtain⟨h1,h2,h3⟩:=fJ.1 hP;obtain⟨h4,h5⟩:=iL.1 h2;refine fJ.2 ⟨h1,iL.2 ⟨?_,iL.2 ⟨h4,h5⟩⟩,?_⟩
 ·intro y hy;rcases dE.1 hy with rfl|hy
  ·grind
  ·exact O7 hkh (h4 y hy)
 ·intro y hy z hz;rcases dE.1 hz with rfl|hz
  ·grind
  ·rcases dE.1 hz with rfl|hz
   ·exact h3 y hy (p,h) (by simp)
   grind
def sG:List bh->List V
 | []=>[]
 |s::r=>.tup [.int .i64 (r.length:Int),mf s]::sG r
theorem L2:∀sts:List bh,(sF (gz sts.reverse)).map aT=sG sts
 | []=>rfl
 |s::r=>by
  have ih:=L2 r;unfold sF at ih |-
  rw[Bz,gz,gA,List.zipIdx_append,gA,List.reverse_append,gA];rw[gz]at ih;rw[ih];simp[sG]
theorem U6(sts:List bh)(h:sts.length<=16777216):Cf [.ref (.sl (gz sts.reverse)) 0]=aA (sF (gz sts.reverse)):=by
 refine aU ⟨by rw[t8,wy];exact h,?_⟩;rw[eJ];intro x hx;obtain⟨s,_,rfl⟩:=ib.1 hx;rfl
theorem oh(l:IL)(up:List IL):dY (l::up)=bW cd l 0++dY up:=rfl
theorem U3{es R:Es}{pre post:IL}{q:Int}{x:Su}{up:List IL}{X:Es}(h:es.Perm (dY ((pre++(q,x)::post)::up)++X)):es.Perm ((q,cd x (cS post 0))::(bW cd pre (q+1)++bW cd post 0++(dY up++X))):=by
 rw[oh,lx,bW]at h;refine h.trans ?_;simp only[cO,ew];exact y7
structure FW(n:Nat)(r:Int)(es:Es)(up:List IL)(d:List IL)(b:LL)(X:Es)(p to:Int)(k h:Bs)(a c:Su):Prop where
 shf:cP n es
 dn:Dn (a++(p,k)::(to,h)::c) d b
 hp:HP (a++(p,h)::c)
 lo:∀y∈a,bd y.2 k
 hi:h=[]∨lt k h=aC
 key:cg k=aC
 pg:d6 p=aC
 pgt:d6 to=aC
 okI:∀l∈up,d0 okI l 0
 rep:es.Perm (dY up++X)
 room:es.length+up.length+1<=n
theorem C8{p q:Int}{x:Bs}:∀{es:Es},cT (bD es p x) q=if q=p then aA x else cT es q
 | []=>by
  show(if q=p then aA x else aF)=_;rfl
 |(a,y)::es=>by
  rw[bD]
  by_cases h:p=a
  ·subst h;rw[aU rfl,cT,cT];grind
  ·rw[aY h,cT,cT,C8];grind
theorem xn{p:Int}{x:Bs}{es:Es}:cT (bD es p x) p=aA x:=by rw[C8,aU rfl]
theorem s8{p q:Int}{x:Bs}{es:Es}(h:q≠p):cT (bD es p x) q=cT es q:=by rw[C8,aY h]
theorem fB{es:Es}{p:Int}{b:Bs}(h:cT es p=aA b):p∈bB es:=Classical.byContradiction fun q=>by rw[C7.2 q]at h;cases h
inductive pi(n:Nat)(r:Int):Es->List bh->Bs->Int->Int->Int->Es->Prop
 |top {es:Es} {k:Bs} {p to:Int} {j:Nat} (hs:cP n es) (hf:mI n (br es)=aA j) (hj:j < n) (hq:(j:Int)∉bB es) (hr:bZ (aV [(p,k),(to,[])] 0)=aC) :
  pi n r es [] k p to j (bD (bD es j []) j (cv (aV [(p,k),(to,[])] 0)))
 |room {es:Es} {sts:List bh} {k:Bs} {p to q:Int} {e:Su} {nx:Int} {i:Nat} {e':Su} (hs:cP n es) (hg:cT es q=aA (cv (aV e nx))) (hr:bZ (aV e nx)=aC) (hk:cg k=aC) (hp:mQ (aV e nx) k to=(aV e' nx,0)) (hr':bZ (aV e' nx)=aC) :
  pi n r es ((q,e,nx,i)::sts) k p to r (bD es q (cv (aV e' nx)))
 |two {es:Es} {sts:List bh} {k:Bs} {p to q:Int} {e:Su} {nx:Int} {i j:Nat} {ea eb fa fb:Su} {r':Int} {es':Es} (hs:cP n es) (hg:cT es q=aA (cv (aV e nx))) (hr:bZ (aV e nx)=aC) (hk:cg k=aC) (hp:mQ (aV e nx) k to=(jG,6))
  (hf:mI n (br es)=aA j) (hj:j < n) (hq:(j:Int)∉bB es) (hra:bZ (aV ea ((j:Int)+1))=aC) (hrb:bZ (aV eb nx)=aC) (rfa:bZ (aV fa ((j:Int)+1))=aC) (rfb:bZ (aV fb nx)=aC)
  (hspl:rK (aV e nx) j=(aV ea ((j:Int)+1),aV eb nx,bG fa,0)) (hcase:(lt k (bG fa)=aC/\mQ (aV ea ((j:Int)+1)) k to=(aV fa ((j:Int)+1),0)/\eb=fb)∨(lt k (bG fa)=aD/\ea=fa/\mQ (aV eb nx) k to=(aV fb nx,0))) :
  pi n r (bD (bD (bD es j []) q (cv (aV fa ((j:Int)+1)))) j (cv (aV fb nx))) sts (bG fa) q j r' es'->pi n r es ((q,e,nx,i)::sts) k p to r' es'
def LH(n:Nat)(r:Int)(es:Es)(k:Bs)(p to:Int)(sts:List bh)(r':Int)(es':Es):Prop :=
 ∃m,Go qk aC 5 (fF 123) (.head 0 (zi (sG sts) r n (cX es) (cD n (br es)) k p to)) (.doneM (.tup []) m)/\∀r0 n0 e0 b0,iP aX (tm r0 n0 e0 b0) (.tup []) m=tF (r',n,cX es',cD n (br es'))
def BK(up:List IL):Prop:=∀l,up.getLast? = aA l->∀x∈l,2<=x.2.length
def Ft(up:List IL):Prop:=∀l∈up,∀x∈l.dropLast,15<=x.2.length
def Fk(up:List IL):Prop:=∀l∈up.dropLast,∀x∈l,6<=x.2.length
def BL(up:List IL):Prop:=∀l∈up,∀x∈l,∀y∈x.2,y.2.length<=5
def UK(n:Nat)(r:Int)(es:Es)(up:List IL)(k:Bs)(p to:Int)(sts:List bh)(d:List IL)(b:LL)(X:Es)(c:Su):Prop :=
 ∃r' up' es',cP n es'/\Dn [(r',[])] (up'.reverse++d) b/\(∀l∈up',d0 okI l 0)/\es'.Perm (dY up'++X)/\up'≠[]/\(BK up->BK up')/\(c=[]->BL up->k.length<=5->Ft up->Ft up')/\(Fk up->Fk up')/\pi n r es sts k p to r' es'
theorem adG{r:Int}{q:Int}{h:Bs}{pre post:IL}{sts:List bh}(hp:kG r [] q h (cI pre) (cI post) sts):pre=[]/\post=[]:=by
 generalize hA:cI pre=A at hp;generalize hC:cI post=C at hp;cases hp;exact⟨List.map_eq_nil_iff.1 hA,List.map_eq_nil_iff.1 hC⟩
theorem Qx{l:IL}{n:Int}(h:d0 okI l n)(h0:bR l=[]):l=[]:=by
 cases l with
 |nil=>rfl
 |cons y t =>
  rw[bR,nZ,ww]at h0;exact gU h0.1 (mP h y (by simp))
theorem Uf{n:Nat}{r:Int}{es:Es}{k:Bs}{p to:Int}{sts:List bh}{r':Int}{es':Es}{m:List O}(h:AX (sG sts) r n (cX es) (cD n (br es)) k p to=aA (.doneM (.tup []) m))
  (hc:∀r0 n0 e0 b0,iP aX (tm r0 n0 e0 b0) (.tup []) m=tF (r',n,cX es',cD n (br es'))):LH n r es k p to sts r' es' :=
 ⟨m,SA _ _ _ _ _ _ _ _ h (.refl _),hc⟩
theorem ahQ(A B U X:Es):(A++B++(U++X)).Perm (U++(A++(B++X))):=by
 grind
theorem Rh{es:Es}{p:Int}{b:Bs}(h:p∉bB es):(bD es p b).length=es.length+1:=by rw[vS h];simp
theorem D7{es:Es}{p:Int}{b:Bs}(h:p∈bB es):(bD es p b).length=es.length:=by
 have:=ef oZ (yj (b:=b) h);simpa[bB]using this
theorem gp{es R:Es}{p:Int}{b:Bs}(h:es.Perm ((p,b)::R)):p∈bB es:=ib.2 ⟨(p,b),h.mem_iff.2 (er ..),rfl⟩
theorem abx{k h:Bs}(hk:cg k=aC)(h1:h=[]∨lt k h=aC):bd k h:=⟨pM hk,h1⟩
theorem EX{n:Nat}{es:Es}(h:cP n es){p:Int}(hp:p∈bB es):d6 p=true:=by
 have:=h.rng p hp;have:=h.le;unfold d6;grind
theorem aeR{p to:Int}{k:Bs}(hk:cg k=aC)(hp:d6 p=aC)(ht:d6 to=aC):bZ (aV [(p,k),(to,[])] 0)=true:=by
 have hkl:=fm hk;refine tR.2 ⟨rfl,?_,?_,rfl,?_⟩
 ·grind
 ·show eY [] [k]=aC;unfold eY;rw[hk,qV hk];rfl
 ·refine uW.2 ⟨Int.le_refl 0,(by decide:(0:Int)<=1024),?_⟩;show 23+cW [k]<=252;simp only[cW];omega
theorem agV{n:Nat}{r:Int}{up:List IL}{p:Int}{h:Bs}{a c:Su}{sts:List bh}(hp:kG r up p h a c sts):∀{k:Bs} {to:Int} {es:Es} {d:List IL} {b:LL} {X:Es},FW n r es up d b X p to k h a c->UK n r es up k p to sts d b X c:=by
 induction hp with
 |top =>
  intro k to es d b X f;obtain⟨q,hq,hf,hq2⟩:=HY f.shf (by have:=f.room;grind);have hqn:((q:Int))∉bB es:=hq2;have hs1:=qh f.shf (b:=[]) hq hq2;have hr:=aeR f.key f.pg f.pgt;have hg:cT (bD es q []) q=aA []:=mL hs1.nd ((vS hq2 ▸ (List.perm_append_comm:(es++[((q:Int),[])]).Perm _):(bD es q []).Perm (((q:Int),[])::es)));have hpm:(bD es q []).Perm (((q:Int),[])::es):=by rw[vS hq2];grind
  have hpm2:=j6 (b':=cv (aV [(r,k),(to,[])] 0)) hs1.nd hpm;refine⟨q,[[((q:Int),[(r,k),(to,[])])]],bD (bD es q []) q (cv (aV [(r,k),(to,[])] 0)),iY hs1 (gp hpm),?_,?_,?_,?_,?_,?_,?_,?_⟩
  ·have e:Dn (bR [((q:Int),[(r,k),(to,[])])]) d b:=f.dn;exact Dn.inn _ _ _ e
  ·intro l hl;have:l=[((q:Int),[(r,k),(to,[])])]:=by grind
   rw[this];exact⟨⟨by simp,hr⟩,trivial⟩
  ·refine hpm2.trans ?_;refine List.Perm.cons _ ?_;exact f.rep
  ·simp
  ·intro _ l hl x hx;grind
  ·intro _ _ _ _ l hl x hx;grind
  ·intro _ l hl;grind
  ·exact .top f.shf hf hq hq2 hr
 |@st up q e1 p h e2 pre post sts hup ih =>
  intro k to es d b X f;obtain⟨hne,hr⟩:okI (e1++(p,h)::e2) (cS post 0):=nM (f.okI _ (er ..));have hat:=U3 (R:=[]) f.rep;have hqk:=gp hat;have hgq:=mL f.shf.nd hat;obtain⟨ok1,_,ok2⟩:=(gV _ _ _).1 (f.okI _ (er ..));have hkh:=abx f.key f.hi;have hPn:HP (bR pre++e1++(p,k)::(to,h)::(e2++bR post)):=aaO f.hp f.lo hkh
  have hPe:HP (e1++(p,h)::e2):=by
   have:=f.hp;rw[cO]at this;have:=(fJ.1 this).2.1;have e:e1++(p,h)::(e2++bR post)=(e1++(p,h)::e2)++bR post:=by simp
   rw[e]at this;exact(fJ.1 this).1
  have hin:qx e1 p h e2 (cS post 0) k to:=⟨hr,f.key,f.pgt,fun y hy=>f.lo y (by grind),f.hi,hPe⟩
  have hput:=Ac hin
  by_cases hz:23+cW (aV (e1++(p,k)::(to,h)::e2) (cS post 0)).seps<=252
  ·-- it has room
   rw[aU hz]at hput;have hr2:=Dj hin hz;have hsh:=iY f.shf (b:=cv (aV (e1++(p,k)::(to,h)::e2) (cS post 0))) hqk;have hpm:=j6 (b':=cv (aV (e1++(p,k)::(to,h)::e2) (cS post 0))) f.shf.nd hat;refine⟨r,(pre++(q,e1++(p,k)::(to,h)::e2)::post)::up,_,hsh,?_,?_,?_,?_,?_,?_,?_,?_⟩
   ·have e:bR pre++e1++(p,k)::(to,h)::(e2++bR post)=bR (pre++(q,e1++(p,k)::(to,h)::e2)::post):=by simp[bR]
    have hd:=f.dn;rw[e]at hd;have:=Dn.inn _ _ _ hd;have e':cI (pre++(q,e1++(p,k)::(to,h)::e2)::post)=cI pre++(q,bG (e1++(p,h)::e2))::cI post:=by simp[cI,H9]
    rw[e']at this;have:=I6 hup this;grind
   ·intro l hl;rcases dE.1 hl with rfl|hl
    ·exact(gV _ _ _).2 ⟨ok1,⟨by simp,hr2⟩,ok2⟩
    ·exact f.okI l (by grind)
   ·refine hpm.trans ?_;rw[oh,lx,bW];simp only[cO,ew];exact List.perm_middle.symm
   ·simp
   ·intro h2 l hl x hx;cases up with
    |nil =>
     have:l=pre++(q,e1++(p,k)::(to,h)::e2)::post:=by grind
     subst this;have h2:=h2 _ rfl;grind
    |cons y up=>exact h2 l (by grind) x hx
   ·intro hc _ _ hF l hl x hx;have h0:=Qx ok2 (ww.1 hc).2;subst h0;rcases dE.1 hl with rfl|hl
    ·rw[FH]at hx;exact hF _ (er ..) x (by grind)
    ·exact hF l (by grind) x hx
   ·intro hF l hl x hx;cases up with
    |nil=>grind
    |cons y up =>
     rw[Li (by simp)]at hl;rcases dE.1 hl with rfl|hl
     ·have h0:=hF (pre++(q,e1++(p,h)::e2)::post) (by grind);rcases cz.1 hx with hx|hx
      ·grind
      ·rcases dE.1 hx with rfl|hx
       ·have:=h0 (q,e1++(p,h)::e2) (by simp);grind
       grind
     ·exact hF l (by grind) x hx
   ·exact .room f.shf hgq hr f.key hput hr2
  ·-- it is two
   rw[aY hz]at hput;obtain⟨j,hj,hjf,hj2⟩:=HY f.shf (by have:=f.room;grind);have hs1:=qh f.shf (b:=[]) hj hj2;have hjr:=EX hs1 (p:=(j:Int)) (by rw[xA hj2];simp);obtain⟨fa,fb,t⟩:=aa4 hin hz hjr;obtain⟨ea,eb,hra,hrb,hspl,hcase⟩:=t.run;have hqj:(q:Int)≠(j:Int):=fun e=>hj2 (e ▸ hqk)
   have hp1:(bD es j []).Perm ((q,cd (e1++(p,h)::e2) (cS post 0))::(((j:Int),[])::(bW cd pre (q+1)++bW cd post 0++(dY up++X)))):=by
    rw[vS hj2];grind
   have hg1:=mL hs1.nd hp1;have hp2:=j6 (b':=cv (aV fa ((j:Int)+1))) hs1.nd hp1;have hs2:=iY hs1 (b:=cv (aV fa ((j:Int)+1))) (gp hp1);have hp2':=hp2.trans (List.Perm.swap ..);have hg2:=mL hs2.nd hp2';have hp3:=j6 (b':=cv (aV fb (cS post 0))) hs2.nd hp2';have hs3:=iY hs2 (b:=cv (aV fb (cS post 0))) (gp hp2')
   have hlen3:(bD (bD (bD es j []) q (cv (aV fa ((j:Int)+1)))) j (cv (aV fb (cS post 0)))).length=es.length+1:=by
    rw[D7 (gp hp2'),D7 (gp hp1),Rh hj2]
   have hfe:bG fb=bG (e1++(p,h)::e2):=by
    rw[<-H9 e1 p h e2 k to,t.cut,ja _ t.nb]
   have ek:bR pre++e1++(p,k)::(to,h)::(e2++bR post)=bR (pre++(q,fa)::(j,fb)::post):=by
    have e0:bR (pre++(q,fa)::(j,fb)::post)=bR pre++((fa++fb)++bR post):=by simp[bR]
    rw[e0,<-t.cut];simp
   have es1:cI (pre++(q,fa)::((j:Int),fb)::post)=cI pre++(q,bG fa)::((j:Int),bG (e1++(p,h)::e2))::cI post:=by simp[cI,hfe]
   have hd:=f.dn;rw[ek]at hd hPn;have hd:=Dn.inn _ _ _ hd;rw[es1]at hd;have hokl:d0 okI (pre++(q,fa)::((j:Int),fb)::post) 0:=(gV _ _ _).2 ⟨ok1,⟨t.na,t.ra⟩,⟨t.nb,t.rb⟩,ok2⟩;have hPs:=Dd (mP hokl) hPn;rw[es1]at hPs
   have hPo:HP (cI pre++(q,bG (e1++(p,h)::e2))::cI post):=by
    have e0:bR pre++e1++(p,h)::(e2++bR post)=bR (pre++(q,e1++(p,h)::e2)::post):=by simp[bR]
    have h0:=f.hp;rw[e0]at h0;have:=Dd (mP (f.okI _ (er ..))) h0;have e':cI (pre++(q,e1++(p,h)::e2)::post)=cI pre++(q,bG (e1++(p,h)::e2))::cI post:=by simp[cI]
    grind
   have hlo:∀y∈cI pre,bd y.2 (bG fa):=fun y hy=>(fJ.1 hPs).2.2 y hy (q,bG fa) (by simp)
   have hhi:bd (bG fa) (bG (e1++(p,h)::e2)):=(iL.1 (fJ.1 hPs).2.1).1 ((j:Int),bG (e1++(p,h)::e2)) (by simp)
   have hf2:FW n r (bD (bD (bD es j []) q (cv (aV fa ((j:Int)+1)))) j (cv (aV fb (cS post 0)))) up ((pre++(q,fa)::((j:Int),fb)::post)::d) b (bW cd (pre++(q,fa)::((j:Int),fb)::post) 0++X) q j (bG fa) (bG (e1++(p,h)::e2)) (cI pre) (cI post):=by
    refine⟨hs3,hd,hPo,hlo,hhi.2,t.mid,EX f.shf hqk,hjr,fun l hl=>f.okI l (by grind),?_,by have:=f.room;grind⟩;refine hp3.trans ?_;rw[lx,bW,bW];refine((List.Perm.swap ..).trans ?_)
    have h1:(dY up++(bW cd pre (q+1)++(q,cd fa ((j:Int)+1))::((j:Int),cd fb (cS post 0))::bW cd post 0++X)).Perm ((q,cd fa ((j:Int)+1))::((j:Int),cd fb (cS post 0))::(dY up++(bW cd pre (q+1)++(bW cd post 0++X)))):=by
     grind
    refine List.Perm.trans ?_ h1.symm;refine List.Perm.cons _ (List.Perm.cons _ ?_);grind
   obtain⟨r',up',es',g1,g2,g3,g4,g5,g6,g8,g9,g7⟩:=ih hf2;refine⟨r',(pre++(q,fa)::((j:Int),fb)::post)::up',es',g1,?_,?_,?_,?_,?_,?_,?_,?_⟩
   ·grind
   ·grind
   ·refine g4.trans ?_;rw[oh,<-cO];grind
   ·simp
   ·intro h2 l hl x hx;obtain⟨z,up2,rfl⟩:=uv g5;refine g6 ?_ l (by grind) x hx;cases up with
    |nil=>intro l hl;grind
    |cons y up=>intro l hl;exact h2 l (by grind)
   ·intro hc hs hk5 hF l hl x hx;have h0:=Qx ok2 (ww.1 hc).2;have hse:∀y∈e1++(p,h)::e2,y.2.length<=5:=hs _ (er ..) (q,e1++(p,h)::e2) (by simp);have hbg:=t.big hse hk5
    have hk5':(bG fa).length<=5:=by
     obtain⟨z,hz,e⟩:=Db t.na;rw[e];have:z∈e1++(p,k)::(to,h)::e2:=by rw[t.cut];grind
     rcases cz.1 this with h1|h1
     ·grind
     ·rcases dE.1 h1 with rfl|h1
      ·grind
      ·rcases dE.1 h1 with rfl|h1
       ·exact hse (p,h) (by simp)
       grind
    have hup3:=g8 (by rw[h0];rfl) (fun l hl=>hs l (by grind)) hk5' (fun l hl=>hF l (by grind));subst h0;rcases dE.1 hl with rfl|hl
    ·rw[show pre++[(q,fa),((j:Int),fb)]=(pre++[(q,fa)])++[((j:Int),fb)] by simp,FH]at hx;rcases cz.1 hx with hx|hx
     ·exact hF _ (er ..) x (by grind)
     grind
    ·exact hup3 l hl x hx
   ·intro hF l hl x hx;obtain⟨z,up2,rfl⟩:=uv g5
    have hup2:=g9 (fun l hl=>hF l (by
     cases up with
     |nil=>grind
     |cons y up=>grind))
    rw[Li (by simp)]at hl;rcases dE.1 hl with rfl|hl
    ·have h0:∀y,y∈pre∨y∈post->6<=y.2.length:=by
      intro y hy;cases up with
      |nil =>
       have hd0:=adG hup;grind
      |cons w up =>
       exact hF (pre++(q,e1++(p,h)::e2)::post) (by grind) y (by all_goals grind)
     rcases cz.1 hx with hx|hx
     ·grind
     ·rcases dE.1 hx with rfl|hx
      ·exact t.six.1
      ·rcases dE.1 hx with rfl|hx
       ·exact t.six.2
       grind
    ·exact hup2 l hl x hx
   ·exact .two f.shf hgq hr f.key hput hjf hj hj2 hra hrb t.ra t.rb hspl hcase g7
theorem agW{n:Nat}{r:Int}{es:Es}{k:Bs}{p to:Int}{sts:List bh}{r':Int}{es':Es}(h:pi n r es sts k p to r' es'):LH n r es k p to sts r' es':=by
 induction h with
 |@top es k p to j hs hf hj hq hr =>
  have hs1:=qh hs (b:=[]) hj hq;apply Uf
  case h =>
   unfold AX;rw[show sG []=[] from rfl,aem,cH DG (Fc hs hf hq)];show(bH aI _ _ _ [_,_,.ifc 150 (eI (aV [(p,k),(to,[])] 0))] (tM j n (bD es j [])) _)=_;rw[cH k6 (ul hs1 xn hr)]
   try exact rfl
  case hc=>intro r0 n0 e0 b0;kernel_rfl
 |@room es sts k p to q e nx i e' hs hg hr hk hp hr' =>
  have hpc:=D5 (aV e nx) k to (gF hr) (by have:=(fm hk).2;omega);have hst:mf (q,e,nx,i) = .agg [.int .i64 q,.sl (bg (aV e nx).seps),.sl (aS (aV e nx).kids),.str (bG e),.int .i64 nx,.int .i64 (i:Int)]:=rfl;apply Uf
  case h =>
   unfold AX;simp only[sG,yn,jf,jo,bF,jp,hst,oa];show(aL aI _ [eI (aV e nx),_,_] _)=_;rw[aN hpc,hp,w6,db rfl,aZ];show(bH aI _ _ _ [_,_,.ifc 150 (eI (aV e' nx))] (tM r n es) _)=_;rw[cH k6 (ul hs hg hr')]
   try exact rfl
  case hc=>intro r0 n0 e0 b0;kernel_rfl
 |@two es sts k p to q e nx i j ea eb fa fb r' es' hs hg hr hk hp hf hj hq hra hrb rfa rfb hspl hcase _ ih =>
  obtain⟨m,g5,g6⟩:=ih;have hpc:=D5 (aV e nx) k to (gF hr) (by have:=(fm hk).2;omega);have hst:mf (q,e,nx,i) = .agg [.int .i64 q,.sl (bg (aV e nx).seps),.sl (aS (aV e nx).kids),.str (bG e),.int .i64 nx,.int .i64 (i:Int)]:=rfl;have hsc:=af9 (aV e nx) j (gF hr);rw[hspl]at hsc;have hs1:=qh hs (b:=[]) hj hq;have hqj:q≠(j:Int):=fun e=>hq (e ▸ fB hg)
  have hg1:cT (bD es j []) q=aA _:=(s8 hqj).trans hg;have hs2:=iY hs1 (b:=cv (aV fa ((j:Int)+1))) (fB hg1);have hg2:cT (bD (bD es j []) q (cv (aV fa ((j:Int)+1)))) j=aA []:=(s8 hqj.symm).trans xn;refine⟨m,SA _ _ _ _ _ _ _ _ ?_ g5,g6⟩;unfold AX;simp only[sG,yn,jf,jo,bF,jp,hst,oa];show(aL aI _ [eI (aV e nx),_,_] _)=_;rw[aN hpc,hp,w6,dH (by decide),aP,cH DG (Fc hs hf hq)];show(aL aI _ [eI (aV e nx),_] _)=_;rw[aN hsc,Wd];rcases hcase with⟨hl,hpa,rfl⟩|⟨hl,rfl,hpb⟩
  ·have hpc2:=D5 (aV ea ((j:Int)+1)) k to (gF hra) (by have:=(fm hk).2;omega);rw[hpa]at hpc2;have hl':Op.bytesLess k (bG fa)=true:=hl;rw[hl',aZ];show(aL aI _ [eI (aV ea ((j:Int)+1)),_,_] _)=_;rw[aN hpc2,w6];show(bH aI _ _ _ [_,_,.ifc 150 (eI (aV fa ((j:Int)+1)))] (tM r n (bD es j [])) _)=_;rw[cH k6 (ul hs1 hg1 rfa)];show(bH aI _ _ _ [_,_,.ifc 150 (eI (aV eb nx))] (tM r n (bD (bD es j []) q (cv (aV fa ((j:Int)+1))))) _)=_;rw[cH k6 (ul hs2 hg2 rfb)]
  ·have hpc2:=D5 (aV eb nx) k to (gF hrb) (by have:=(fm hk).2;omega);rw[hpb]at hpc2;have hl':Op.bytesLess k (bG ea)=false:=hl;rw[hl',aP];show(aL aI _ [eI (aV eb nx),_,_] _)=_;rw[aN hpc2,w6];show(bH aI _ _ _ [_,_,.ifc 150 (eI (aV ea ((j:Int)+1)))] (tM r n (bD es j [])) _)=_;rw[cH k6 (ul hs1 hg1 rfa)];show(bH aI _ _ _ [_,_,.ifc 150 (eI (aV fb nx))] (tM r n (bD (bD es j []) q (cv (aV ea ((j:Int)+1))))) _)=_;rw[cH k6 (ul hs2 hg2 rfb)]
structure lP(prs:List Pr)(h:Bs):Prop where
 ri:prs.Pairwise fun x y=>lt x.1 y.1=aC
 mem:∀x∈prs,cg x.1=aC/\eH x.2=aC
 hi:h=[]∨(cg h=aC/\∀x∈prs,lt x.1 h=aC)
 wt:bz prs<=231
theorem yq{l:List Pr}:ln (bw l)↔l.Pairwise fun x y=>lt x.1 y.1=true:=List.pairwise_map
theorem RI:∀{l:List Pr} {p:Bs},(l.Pairwise fun x y=>lt x.1 y.1=aC)->(∀x∈l,cg x.1=aC/\eH x.2=aC)->(∀x∈l,lt p x.1=aC)->iW p l=aC
 | [],_,_,_,_=>rfl
 |x::l,p,h1,h2,h3=>by
  obtain⟨h4,h5⟩:=iL.1 h1;have ih:=RI (p:=x.1) h5 (fun y hy=>h2 y (by grind)) h4;obtain⟨q1,q2⟩:=h2 x (by simp);unfold iW;grind
theorem abD{l:List Pr}{h:Bs}(hk:cg h=aC)(ha:∀x∈l,lt x.1 h=aC):lt (gm [] l) h=true:=by
 rcases gg l with rfl|⟨a,x,rfl⟩
 ·exact qV hk
 ·have:gm [] (a.concat x)=x.1:=by simp[gm]
  grind
theorem rD{prs:List Pr}{h:Bs}{nx:Int}(o:lP prs h)(h0:0<=nx)(h1:nx<=1024):cK ⟨prs,h,nx⟩=true:=by
 refine nN.2 ⟨RI o.ri o.mem fun x hx=>qV (o.mem x hx).1,?_,h0,h1,o.wt⟩;unfold gk;rcases o.hi with h|⟨hk,ha⟩
 ·grind
 ·simp only[hk,abD hk ha];simp
theorem tv{prs:List Pr}{h:Bs}{nx:Int}(o:cK ⟨prs,h,nx⟩=aC):lP prs h/\0<=nx/\nx<=1024:=by
 have g:=lA o;obtain⟨h1,h2,h3,h4,h5⟩:=nN.1 o;have hr:=yq.1 g.ri;refine⟨⟨hr,g.mem,?_,h5⟩,h3,h4⟩;simp only[gk,nS,co]at h2;rcases h2 with h2|⟨h2,h6⟩
 ·grind
 ·refine .inr ⟨h2,fun x hx=>?_⟩;rcases gg prs with rfl|⟨a,y,rfl⟩
  ·grind
  ·have e:gm [] (a.concat y)=y.1:=by simp[gm]
   rw[e]at h6;rw[i4]at hx hr;rcases cz.1 hx with hx|hx
   ·exact lt_trans ((fJ.1 hr).2.2 x hx y (by simp)) h6
   grind
theorem Fe{l:List Pr}(hr:ln (bw l))(k:Bs):∀x∈l.take (bY (bw l) k),lt x.1 k=true:=by
 intro x hx;obtain⟨i,hi⟩:=y4 hx;rw[lj]at hi;split at hi
 ·exact(Dr hr k (tl hi)).2 ‹_›
 grind
theorem CF{l:List Pr}(hr:ln (bw l))(k:Bs):∀x∈l.drop (if c9 (bw l) k then bY (bw l) k+1 else bY (bw l) k),lt k x.1=true:=by
 intro x hx;obtain⟨i,hi⟩:=y4 hx;rw[js]at hi;have hp:=yq.1 hr
 have hat:∀{a b:Nat} {y z:Pr},l[a]? = aA y->l[b]? = aA z->a < b->lt y.1 z.1=true:=by
  intro a b y z ha hb hab;obtain⟨h1,rfl⟩:=bX.1 ha;obtain⟨h2,rfl⟩:=bX.1 hb;exact By.1 hp a b h1 h2 hab
 cases hh:c9 (bw l) k with
 |true =>
  rw[hh,aU rfl]at hi;obtain⟨h2,h3⟩:=qK hh;have h2':bY (bw l) k < l.length:=by grind
  have h4:l[bY (bw l) k]? = aA l[bY (bw l) k]:=cj h2';have h5:=hat h4 hi (by omega)
  have h6:l[bY (bw l) k].1=k:=by
   have:=tl h4;grind
  grind
 |false =>
  rw[hh]at hi;have hi:l[bY (bw l) k+i]? = aA x:=hi
  have bd:bY (bw l) k < l.length:=by
   grind
  have h4:l[bY (bw l) k]? = aA l[bY (bw l) k]:=cj bd
  have h5:lt l[bY (bw l) k].1 k=false:=by
   cases hq:lt l[bY (bw l) k].1 k with
   |false=>rfl
   |true=>have:=(Dr hr k (tl h4)).1 hq;omega
  have h6:l[bY (bw l) k].1≠k:=by
   intro e;unfold c9 at hh;rw[tl h4]at hh;grind
  have h7:=nJ h5 h6;rcases BF i with rfl|hpos
  ·grind
  ·exact lt_trans h7 (hat h4 hi (by omega))
theorem Jb{prs:List Pr}{h k v:Bs}(o:lP prs h)(hk:cg k=aC)(hv:eH v=aC)(hh:h=[]∨lt k h=aC)(hw:bz (dm prs k v)<=231):lP (dm prs k v) h:=by
 have hr:=yq.2 o.ri;refine⟨?_,fun x hx=>?_,?_,hw⟩
 ·unfold dm;have h1:=Fe hr k;have h2:=CF hr k;refine fJ.2 ⟨fJ.2 ⟨o.ri.sublist (List.take_sublist ..),by simp,?_⟩,o.ri.sublist (List.drop_sublist ..),?_⟩
  ·grind
  ·intro x hx y hy;rcases cz.1 hx with hx|hx
   ·exact lt_trans (h1 x hx) (h2 y hy)
   grind
 ·rcases ru hx with rfl|hx
  ·grind
  ·exact o.mem x hx
 ·rcases o.hi with h'|⟨h1,h2⟩
  ·grind
  ·refine .inr ⟨h1,fun x hx=>?_⟩;rcases ru hx with rfl|hx
   ·exact hh.resolve_left (pM h1)
   grind
theorem aaJ{prs:List Pr}{h:Bs}(o:lP prs h)(m:Nat){x:Pr}(hx:prs[m]? = aA x)(h0:0 < m):lP (prs.take m) x.1/\lP (prs.drop m) h/\bd x.1 h/\cg x.1=aC/\(∀y∈prs.drop m,lt y.1 x.1=aD)/\∃y∈prs,lt y.1 x.1=true:=by
 obtain⟨hm,e⟩:=bX.1 hx;have hd:prs.drop m=x::prs.drop (m+1):=by rw[<-e];exact qy hm
 have hri:=o.ri;rw[<-lk m prs]at hri;obtain⟨r1,r2,r3⟩:=fJ.1 hri;have hxm:x∈prs:=dx hx;have hw:=yV prs m;have ow:=o.wt;have hkx:=(o.mem x hxm).1;refine⟨⟨r1,fun y hy=>o.mem y (o4 hy),.inr ⟨hkx,fun y hy=>r3 y hy x (by grind)⟩,by omega⟩,⟨r2,fun y hy=>o.mem y (qA hy),?_,by omega⟩,⟨pM hkx,?_⟩,hkx,?_,?_⟩
 ·rcases o.hi with h'|⟨h1,h2⟩
  all_goals grind
 ·rcases o.hi with h'|⟨h1,h2⟩
  all_goals grind
 ·intro y hy;rw[hd]at hy r2;rcases dE.1 hy with rfl|hy
  ·exact lE _
  ·exact nI ((iL.1 r2).1 y hy)
 ·have h00:0 < prs.length:=by omega
  refine⟨prs[0],Bu h00,?_⟩;rw[<-e];exact By.1 o.ri 0 m h00 hm h0
theorem vL{pre post:LL}{p:Int}{prs:List Pr}{h:Bs}(ho:lm (pre++(p,prs,h)::post)) :
  lm pre/\lm post/\(∀y∈pre,bd y.2.2 h/\∀x∈prs,lt x.1 y.2.2=aD)/\(∀z∈post,bd h z.2.2/\∀x∈z.2.1,lt x.1 h=aD)/\(∀y∈pre,∀z∈post,bd y.2.2 z.2.2/\∀x∈z.2.1,lt x.1 y.2.2=aD):=by
 obtain⟨h1,h2,h3⟩:=fJ.1 ho;obtain⟨h4,h5⟩:=iL.1 h2;exact⟨h1,h5,fun y hy=>h3 y hy (p,prs,h) (by simp),fun z hz=>h4 z hz,fun y hy z hz=>h3 y hy z (by grind)⟩
theorem QO{pre post:LL}{p:Int}{prs prs':List Pr}{h:Bs}(ho:lm (pre++(p,prs,h)::post))(hn:∀y∈pre,∀x∈prs',lt x.1 y.2.2=aD):lm (pre++(p,prs',h)::post):=by
 obtain⟨h1,h2,h3,h4,h5⟩:=vL ho;refine fJ.2 ⟨h1,iL.2 ⟨h4,h2⟩,?_⟩;intro y hy z hz;grind
theorem adn{pre post:LL}{p j:Int}{prs A B:List Pr}{h s:Bs}(ho:lm (pre++(p,prs,h)::post))(hA:∀y∈pre,∀x∈A,lt x.1 y.2.2=aD)(hB:∀y∈pre,∀x∈B,lt x.1 y.2.2=aD)
  (hs:∀y∈pre,bd y.2.2 s) (hsh:bd s h) (hsB:∀x∈B,lt x.1 s=aD):lm (pre++(p,A,s)::(j,B,h)::post):=by
 obtain⟨h1,h2,h3,h4,h5⟩:=vL ho;refine fJ.2 ⟨h1,iL.2 ⟨?_,iL.2 ⟨h4,h2⟩⟩,?_⟩
 ·intro z hz;rcases dE.1 hz with rfl|hz
  ·grind
  ·obtain⟨q1,q2⟩:=h4 z hz;refine⟨O7 hsh q1,fun x hx=>PN (q2 x hx) (hsh.2.resolve_left q1.1)⟩
 ·intro y hy z hz;grind
def bP(b:LL):List Pr:=b.flatMap fun x=>x.2.1
theorem agU{n:Nat}{r:Int}{es:Es}{p to:Int}{k:Bs}{sts:List bh}{r':Int}{es':Es}(hl:sts.length<=10000)(h:pi n r es sts k p to r' es') :
  cA aI aX 123 [.ptr 0 0 0,.sl (gz sts.reverse),.str k,.int .i64 p,.int .i64 to] (tM r n es)=aA (tF (r',n,cX es',cD n (br es'))):=by
 obtain⟨m,g5,g6⟩:=agW h;refine Xa _ _ _ _ _ _ _ _ ?_ ⟨_,_,g5,g6 _ _ _ _⟩;unfold M3;rw[U6 sts (by omega),iT,L2]
theorem zX{up:List IL}:(dY up.reverse).Perm (dY up):=by
 induction up with
 |nil=>grind
 |cons l up ih =>
  rw[Bz,dY,List.flatMap_append];refine List.perm_append_comm.trans ?_;have e:List.flatMap (fun l=>bW cd l 0) [l]=bW cd l 0:=by simp
  rw[e];exact List.Perm.append_left _ ih
theorem Dt{es U:Es}{pre post:LL}{p:Int}{x:rV}(h:es.Perm (U++bW dM (pre++(p,x)::post) 0)):es.Perm ((p,dM x (cS post 0))::(bW dM pre (p+1)++bW dM post 0++U)):=by
 rw[lx,bW]at h;refine h.trans (List.perm_append_comm.trans ?_);simp only[cO,ew];exact y7
theorem PO{U:Es}{pre post:LL}{p:Int}{x:rV}:((p,dM x (cS post 0))::(bW dM pre (p+1)++bW dM post 0++U)).Perm (U++bW dM (pre++(p,x)::post) 0):=(Dt (.refl _)).symm
theorem Gw:∀{d:List IL} {s:Su} {b b':LL},df b'=df b->Dn s d b->Dn s d b'
 | [],s,b,b',e,h=>by rw[pz h,<-e];exact .leaf _
 |l::d,s,b,b',e,h=>by
  obtain⟨e1,h⟩:=oc h;rw[e1];exact .inn _ _ _ (Gw e h)
theorem pD(a b:LL):bP (a++b)=bP a++bP b:=by simp[bP]
theorem mJ(p:Int)(prs:List Pr)(h:Bs)(b:LL):bP ((p,prs,h)::b)=prs++bP b:=by simp[bP]
theorem abJ{z a s:Bs}(h1:lt z a=aD)(h2:lt z s=aC):lt a s=true:=by
 by_cases e:z=a
 ·grind
 ·exact lt_trans (nJ h1 e) h2
structure WF(n:Nat)(r:Int)(es:Es)(ups:List IL)(b:LL):Prop extends WT n r es ups b where
 ne:ups≠[]->∀x∈b,x.2.1≠[]
 rt:BK ups.reverse
theorem abK{r:Int}{b:LL}{pre post:LL}{x:Int × rV}(h:Dn [(r,[])] [] b)(hb:b=pre++x::post):pre=[]/\post=[]:=by
 have:=ef oZ (pz h);rw[hb]at this;simp[df]at this;exact⟨wx (by omega),wx (by omega)⟩
theorem Ay{n:Nat}{r:Int}{es:Es}{ups:List IL}{b:LL}(h:WF n r es ups b){pre post:LL}{x:Int × rV}(hb:b=pre++x::post):∀y,y∈pre∨y∈post->y.2.1≠[]:=by
 intro y hy
 by_cases hu:ups=[]
 ·have hd:=h.dn;rw[hu]at hd;obtain⟨rfl,rfl⟩:=abK hd hb
  all_goals grind
 ·exact h.ne hu y (by grind)
theorem T8{n:Nat}{r:Int}{es:Es}{ups:List IL}{b:LL}(h:WF n r es ups b){p:Int}{h':Bs}{sts:List bh}{pre post:LL}{prs:List Pr}(hp:kG r ups.reverse p h' (df pre) (df post) sts)(hb:b=pre++(p,prs,h')::post)
  {A B:List Pr} {s:Bs} {j:Nat} (hj:j < n) (hj2:(j:Int)∉bB es) (oA:lP A s) (oB:lP B h') (hA0:A≠[]) (hB0:B≠[]) (hsh:bd s h') (hks:cg s=aC) (hlo:∀y∈pre,bd y.2.2 s) (hA:∀y∈pre,∀x∈A,lt x.1 y.2.2=aD) (hB:∀y∈pre,∀x∈B,lt x.1 y.2.2=aD) (hsB:∀x∈B,lt x.1 s=aD)
  (hroom:es.length+ups.length+2<=n) :
  ∃r' es' ups',WF n r' es' ups' (pre++(p,A,s)::((j:Int),B,h')::post)/\pi n r (bD (bD (bD es j []) p (bq ⟨A,s,(j:Int)+1⟩)) j (bq ⟨B,h',cS post 0⟩)) sts s p j r' es'/\(post=[]->BL ups->s.length<=5->Ft ups->Ft ups')/\(Fk ups.reverse->Fk ups'.reverse):=by
 have hne:=Ay h hb;subst hb;have hn:=h.shf.le;have hul:=uh h.toWT;have hat:=Dt h.rep;have hpk:=gp hat;obtain⟨ok1,ok3,ok2⟩:=(gV _ _ _).1 h.okF;obtain⟨o,hx0,hx1⟩:=tv (show cK ⟨prs,h',cS post 0⟩=aC from ok3);have hrA:=rD oA (nx:=(j:Int)+1) (by omega) (by omega);have hrB:=rD oB hx0 hx1;have hs1:=qh h.shf (b:=[]) hj hj2
 have hp1:(bD es j []).Perm ((p,dM (prs,h') (cS post 0))::(((j:Int),[])::(bW dM pre (p+1)++bW dM post 0++dY ups))):=by
  rw[vS hj2];grind
 have hg1:=mL hs1.nd hp1;have hp2:=j6 (b':=bq ⟨A,s,(j:Int)+1⟩) hs1.nd hp1;have hs2:=iY hs1 (b:=bq ⟨A,s,(j:Int)+1⟩) (gp hp1);have hp2':=hp2.trans (List.Perm.swap ..);have hg2:=mL hs2.nd hp2';have hp3:=j6 (b':=bq ⟨B,h',cS post 0⟩) hs2.nd hp2';have hs3:=iY hs2 (b:=bq ⟨B,h',cS post 0⟩) (gp hp2')
 have hlen3:(bD (bD (bD es j []) p (bq ⟨A,s,(j:Int)+1⟩)) j (bq ⟨B,h',cS post 0⟩)).length=es.length+1:=by
  rw[D7 (gp hp2'),D7 (gp hp1),Rh hj2]
 have eS:df (pre++(p,A,s)::((j:Int),B,h')::post)=df pre++(p,s)::((j:Int),h')::df post:=by simp[df]
 have eS0:df (pre++(p,prs,h')::post)=df pre++(p,h')::df post:=by simp[df]
 have hd:Dn (df pre++(p,s)::((j:Int),h')::df post) [] (pre++(p,A,s)::((j:Int),B,h')::post):=by
  rw[<-eS];exact .leaf _
 have hP:=IT h.ord;rw[eS0]at hP
 have hf:FW n r (bD (bD (bD es j []) p (bq ⟨A,s,(j:Int)+1⟩)) j (bq ⟨B,h',cS post 0⟩)) ups.reverse [] (pre++(p,A,s)::((j:Int),B,h')::post) (bW dM (pre++(p,A,s)::((j:Int),B,h')::post) 0) p j s h' (df pre) (df post):=by
  refine⟨hs3,hd,hP,fun y hy=>?_,hsh.2,hks,EX h.shf hpk,EX hs1 (by rw[xA hj2];simp),fun l hl=>h.okI l (by grind),?_,by grind⟩
  ·obtain⟨z,hz,rfl⟩:=ib.1 hy;grind
  ·refine hp3.trans ?_;rw[lx,bW,bW];refine((List.Perm.swap ..).trans ?_)
   have h1:(dY ups.reverse++(bW dM pre (p+1)++(p,dM (A,s) ((j:Int)+1))::((j:Int),dM (B,h') (cS post 0))::bW dM post 0)).Perm ((p,dM (A,s) ((j:Int)+1))::((j:Int),dM (B,h') (cS post 0))::(dY ups.reverse++(bW dM pre (p+1)++bW dM post 0))):=by
    grind
   refine List.Perm.trans ?_ h1.symm;refine List.Perm.cons _ (List.Perm.cons _ ?_);exact List.perm_append_comm.trans (List.Perm.append_right _ zX.symm)
 obtain⟨r',up',es',g1,g2,g3,g4,g5,g6,g8,g9,g7⟩:=agV hp hf;refine⟨r',es',up'.reverse,⟨⟨g1,?_,?_,fun l hl=>g3 l (by grind),?_,adn h.ord hA hB hlo hsh hsB⟩,?_,?_⟩,g7,fun h0 h1 h2 h3 l hl=>g8 (by rw[h0];rfl) (fun l hl=>h1 l (by grind)) h2 (fun l hl=>h3 l (by grind)) l (by grind),fun h0=>by grind⟩
 ·exact g4.trans (List.Perm.append_right _ zX.symm)
 ·grind
 ·exact(gV _ _ _).2 ⟨ok1,hrA,hrB,ok2⟩
 ·grind
 ·rw[BA];exact g6 h.rt
abbrev uF(l:List Pr):Prop:=l.Pairwise fun x y=>lt x.1 y.1=aC
theorem Mv{α:Type}(l:List α)(i j:Nat)(h:i<=j):l=l.take i++((l.drop i).take (j - i)++l.drop j):=by
 have:l.drop j=(l.drop i).drop (j - i):=by simp_all
 rw[this,lk,lk]
theorem Qg{l:List Pr}{k:Bs}(hr:ln (bw l)):∀x∈(l.drop (bY (bw l) k)).take ((if c9 (bw l) k then bY (bw l) k+1 else bY (bw l) k) - bY (bw l) k),x.1=k:=by
 intro x hx;cases hh:c9 (bw l) k with
 |false=>simp_all
 |true =>
  rw[hh,aU rfl,show bY (bw l) k+1 - bY (bw l) k=1 by omega]at hx;obtain⟨h2,h3⟩:=qK hh;have h2':bY (bw l) k < l.length:=by rwa [lZ]at h2
  rw[qy h2',o6,se]at hx;have e:x=l[bY (bw l) k]:=jO.1 hx;have h4:l[bY (bw l) k]? = aA l[bY (bw l) k]:=cj h2';have:=tl h4;grind
theorem u4{α:Type}{p:α->Bool}{l:List α}(h:∀x∈l,p x=aC):l.filter p=l:=Lk.2 h
theorem u5{α:Type}{p:α->Bool}{l:List α}(h:∀x∈l,p x=aD):l.filter p=[]:=List.filter_eq_nil_iff.2 fun x hx=>by grind
theorem Rc{l:List Pr}(hr:uF l)(k v:Bs):dm l k v=l.filter (fun x=>lt x.1 k)++(k,v)::l.filter (fun x=>lt k x.1):=by
 have hr':=yq.2 hr;have h1:=Fe hr' k;have h2:=CF hr' k;have h3:=Qg (k:=k) hr';unfold dm;generalize hj:(if c9 (bw l) k then bY (bw l) k+1 else bY (bw l) k)=j at *
 have hij:bY (bw l) k<=j:=by grind
 generalize bY (bw l) k=i at *
 have e:=Mv l i j hij
 have f1:l.filter (fun x=>lt x.1 k)=l.take i:=by
  conv=>lhs;rw[e]
  rw[qz,qz,u4 h1,u5 (p:=fun x:Pr=>lt x.1 k) fun x hx=>by rw[h3 x hx];exact lE _,u5 (p:=fun x:Pr=>lt x.1 k) fun x hx=>nI (h2 x hx)];simp
 have f2:l.filter (fun x=>lt k x.1)=l.drop j:=by
  conv=>lhs;rw[e]
  rw[qz,qz,u5 (p:=fun x:Pr=>lt k x.1) fun x hx=>nI (h1 x hx),u5 (p:=fun x:Pr=>lt k x.1) fun x hx=>by rw[h3 x hx];exact lE _,u4 h2];simp
 grind
theorem O3{l:List Pr}(hr:uF l)(k:Bs):c9 (bw l) k=l.any fun x=>x.1==k:=by
 have hr':=yq.2 hr;cases hh:c9 (bw l) k with
 |true =>
  obtain⟨h2,h3⟩:=qK hh;have hm:k∈bw l:=h3 ▸ Bu h2;obtain⟨x,hx,e⟩:=ib.1 hm;grind
 |false =>
  symm;rw[yZ];intro x hx hc;have e:x.1=k:=by grind
  have h1:=Fe hr' k;have h2:=CF hr' k;rw[hh]at h2;have h2:∀x∈l.drop (bY (bw l) k),lt k x.1=true:=h2;rw[<-lk (bY (bw l) k) l]at hx;rcases cz.1 hx with hx|hx
  ·have:=h1 x hx;rw[e,lE]at this;grind
  ·have:=h2 x hx;rw[e,lE]at this;grind
theorem Gq{l:List Pr}(hr:uF l){k:Bs}(hh:c9 (bw l) k=aC):gi l k=l.filter fun x=>!(x.1==k):=by
 have hr':=yq.2 hr;have h1:=Fe hr' k;have h2:=CF hr' k;have h3:=Qg (k:=k) hr';unfold gi;rw[hh,aU rfl]at h2 h3;have e:=Mv l (bY (bw l) k) (bY (bw l) k+1) (by omega)
 have ne:∀x:Pr,lt x.1 k=aC∨lt k x.1=aC->(!(x.1==k))=true:=by
  intro x hx
  by_cases he:x.1=k
  ·rw[he,lE]at hx;grind
  grind
 conv=>rhs;rw[e]
 rw[qz,qz,u4 (p:=fun x:Pr=>!(x.1==k)) fun x hx=>ne x (.inl (h1 x hx)),u5 (p:=fun x:Pr=>!(x.1==k)) fun x hx=>by grind,u4 (p:=fun x:Pr=>!(x.1==k)) fun x hx=>ne x (.inr (h2 x hx))];simp
theorem HU:∀{b:LL} {n:Int},lm b->d0 okF b n->uF (bP b)
 | [],_,_,_=>List.Pairwise.nil
 |(p,prs,h)::b,n,ho,hF=>by
  obtain⟨h1,h2⟩:=iL.1 ho;obtain⟨o,_,_⟩:=tv (show cK ⟨prs,h,cS b n⟩=aC from hF.1);rw[mJ];refine fJ.2 ⟨o.ri,HU h2 hF.2,?_⟩;intro x hx y hy;obtain⟨z,hz,hy⟩:=jN.1 hy;obtain⟨q1,q2⟩:=h1 z hz;have hxh:=(o.hi.resolve_left q1.1).2 x hx;have:=q2 y hy
  by_cases e:y.1=h
  ·grind
  ·exact lt_trans hxh (nJ this e)
theorem Uh{n:Int}{pre post:LL}{p:Int}{prs:List Pr}{h k:Bs}(ho:lm (pre++(p,prs,h)::post))(hF:d0 okF (pre++(p,prs,h)::post) n)(hlo:∀y∈df pre,lt k y.2=aD)(hhi:h=[]∨lt k h=aC) :
  (∀x∈bP pre,lt x.1 k=aC)/\∀x∈bP post,lt k x.1=true:=by
 obtain⟨h1,h2,h3,h4,h5⟩:=vL ho;obtain⟨ok1,ok3,ok2⟩:=(gV _ _ _).1 hF;constructor
 ·intro x hx;obtain⟨y,hy,hx⟩:=jN.1 hx;obtain⟨m,hm⟩:=IN ok1 y hy;obtain⟨o,_,_⟩:=tv (show cK ⟨y.2.1,y.2.2,m⟩=aC from hm);have hxy:=(o.hi.resolve_left (h3 y hy).1.1).2 x hx;have hky:lt k y.2.2=false:=hlo (y.1,y.2.2) (ib.2 ⟨y,hy,rfl⟩)
  by_cases e:k=y.2.2
  ·grind
  ·exact lt_trans hxy (nJ hky e)
 ·intro x hx;obtain⟨z,hz,hx⟩:=jN.1 hx;obtain⟨q1,q2⟩:=h4 z hz;have hkh:=hhi.resolve_left q1.1;have:=q2 x hx
  by_cases e:x.1=h
  ·grind
  ·exact lt_trans hkh (nJ this e)
inductive uE(n:Nat)(r:Int)(es:Es)(k v:Bs):Bool->Int->Int->Es->Prop
 |arg (h:(cg k && eH v)=aD):uE n r es k v aD 1 r es
 |put {ws:List bh} {pl:Int} {l:Lf} (hs:cP n es) (hk:cg k=aC) (hv:eH v=aC) (hw:jy es k r ws pl l) (hl:ws.length<=1024) (hg:cT es pl=aA (bq l)) (hr0:cK l=aC) (hh:l.high=[]∨lt k l.high=aC) (hz:bz (dm l.prs k v)<=231) (hr:cK ⟨dm l.prs k v,l.high,l.next⟩=aC) :
  uE n r es k v (!c9 (bw l.prs) k) 0 r (bD es pl (bq ⟨dm l.prs k v,l.high,l.next⟩))
 |full {ws:List bh} {pl:Int} {l:Lf} (hs:cP n es) (hk:cg k=aC) (hv:eH v=aC) (hw:jy es k r ws pl l) (hl:ws.length<=1024) (hg:cT es pl=aA (bq l)) (hr0:cK l=aC) (hh:l.high=[]∨lt k l.high=aC) (hz:¬bz (dm l.prs k v)<=231) (hf:n - es.length < ws.length+2) :
  uE n r es k v aD 6 r es
 |split {ws:List bh} {pl:Int} {l:Lf} {j:Nat} {x:Pr} {A B:List Pr} {r':Int} {es':Es} (hs:cP n es) (hk:cg k=aC) (hv:eH v=aC) (hw:jy es k r ws pl l) (hl:ws.length<=1024) (hg:cT es pl=aA (bq l)) (hr0:cK l=aC) (hh:l.high=[]∨lt k l.high=aC) (hz:¬bz (dm l.prs k v)<=231) (hf:¬n - es.length < ws.length+2)
  (hfj:mI n (br es)=aA j) (hj:j < n) (hq:(j:Int)∉bB es) (h2:2<=l.prs.length) (hx:l.prs[dK l.prs]? = aA x)
  (rA0:cK ⟨l.prs.take (dK l.prs),x.1,(j:Int)+1⟩=aC) (rB0:cK ⟨l.prs.drop (dK l.prs),l.high,l.next⟩=aC) (rA:cK ⟨A,x.1,(j:Int)+1⟩=aC) (rB:cK ⟨B,l.high,l.next⟩=aC)
  (hc:(lt k x.1=aC/\A=dm (l.prs.take (dK l.prs)) k v/\bz A<=231/\B=l.prs.drop (dK l.prs))∨(lt k x.1=aD/\A=l.prs.take (dK l.prs)/\B=dm (l.prs.drop (dK l.prs)) k v/\bz B<=231))
  (hu:pi n r (bD (bD (bD es j []) pl (bq ⟨A,x.1,(j:Int)+1⟩)) j (bq ⟨B,l.high,l.next⟩)) ws.reverse x.1 pl j r' es') :
  uE n r es k v (!c9 (bw l.prs) k) 0 r' es'
theorem Fo{es:Es}{k:Bs}{p:Int}{ws:List bh}{pl:Int}{l:Lf}(h:jy es k p ws pl l):cT es pl=aA (bq l)/\cK l=true:=by
 induction h with
 |leaf hg hr=>grind
 |inn _ _ _ _ _ ih=>grind
theorem D8{k v:Bs}{r n:Int}{es:List (V × V)}{bs:List V}{m:List O}{v0:V}{L:Bool × Int × Int × Int × List (V × V) × List V}(h:xc k v r n es bs=aA (.doneM v0 m))(hc:iP aX (tm r n es bs) v0 m=vB L) :
  cA aI aX 32 [.ptr 0 0 0,.str k,.str v] (tm r n es bs)=aA (vB L):=Yy _ _ _ _ _ _ h (.done hc)
theorem TC{x1:List V}{q:Lf}{p:Int}{k v:Bs}{r n:Int}{es:List (V × V)}{bs:List V}{m:List O}{L:Int × Int × List (V × V) × List V}(h:CQ x1 (bn q.prs) q.high q.next p k v r n es bs=aA (.doneM (.tup []) m))(hc:iP aX (tm r n es bs) (.tup []) m=vF L) :
  cA aI aX 79 [.ptr 0 0 0,.sl x1,eL q,.int .i64 p,.agg [.str k,.str v]] (tm r n es bs)=aA (vF L):=Zf _ _ _ _ _ _ _ _ _ _ _ h (.done hc)
theorem HZ(l:Lf)(h:cK l=aC)(k:Bs):∃g,bJ aI 76 [eL l,.str k]=aA (.tup [.str g,.int .i64 (bif c9 (bw l.prs) k then 0 else 7)]):=by
 rw[aay l h k];cases c9 (bw l.prs) k with
 |true=>grind
 |false=>grind
theorem Da(b:Bool):((bif b then 0 else 7:Int) != (0:Int)) = !b:=by cases b<;>rfl
theorem adT{n:Nat}{r:Int}{es:Es}{k v:Bs}{ok:Bool}{e r':Int}{es':Es}(h:uE n r es k v ok e r' es') :
  cA aI aX 32 [.ptr 0 0 0,.str k,.str v] (tM r n es)=aA (vB (ok,e,r',n,cX es',cD n (br es'))):=by
 cases h with
 |arg h =>
  refine D8 (v0:=.tup [.bool aD,.int .i64 1]) (m:=tM r n es) ?_ (by kernel_rfl);unfold xc;rw[aN (lC k),bI];cases hk:cg k with
  |false=>rfl
  |true =>
   rw[hk,dL]at h;rw[bK,aP,aN (yS v),bI,h];rfl
 |@put ws pl l hs hk hv hw hl hg hr0 hh hz hr =>
  obtain⟨g,hget⟩:=HZ l hr0 k;have hput:=AG l hr0 k v hk hv hh;unfold kw at hput;rw[aU hz]at hput;apply D8
  case h =>
   unfold xc;rw[aN (lC k),bI,hk,bK,aP,aN (yS v),bI,hv,bK,aP,cY vE (wj hs hw (by omega)),cF];show(aL aI _ [eL l,_] _)=_;rw[aN hget,jA];show(aL aI _ [eL l,_,_] _)=_;rw[aN hput,n8,db rfl,aZ];show(bH aI _ _ _ [_,_,.ifc 120 (eL ⟨dm l.prs k v,l.high,l.next⟩)] (tM r n es) _)=_;rw[cH k6 (un hs hg hr),Da]
  case hc=>kernel_rfl
 |@full ws pl l hs hk hv hw hl hg hr0 hh hz hf =>
  obtain⟨g,hget⟩:=HZ l hr0 k;have hput:=AG l hr0 k v hk hv hh;unfold kw at hput;rw[aY hz]at hput;have hll:=tu hs;have hn:=hs.le;have w1:W .i64 (((gz ws).length:Int)+1)=((ws.length+1:Nat):Int):=by rw[t8,bf (by omega)];omega
  have w2:W .i64 (((ws.length+1:Nat):Int)+1)=((ws.length+2:Nat):Int):=by rw[bf (by omega)];omega
  apply D8
  case h =>
   unfold xc;rw[aN (lC k),bI,hk,bK,aP,aN (yS v),bI,hv,bK,aP,cY vE (wj hs hw (by omega)),cF];show(aL aI _ [eL l,_] _)=_;rw[aN hget,jA];show(aL aI _ [eL l,_,_] _)=_;rw[aN hput,n8,dH (by decide),aP,cY Qo (OO hs),cF,w1,w2,aW (by omega),aZ]
  case hc=>kernel_rfl
 |@split ws pl l j x A B r' es' hs hk hv hw hl hg hr0 hh hz hf hfj hj hq h2 hx rA0 rB0 rA rB hc hu =>
  obtain⟨g,hget⟩:=HZ l hr0 k;have hput:=AG l hr0 k v hk hv hh;unfold kw at hput;rw[aY hz]at hput;have hll:=tu hs;have hn:=hs.le;have w1:W .i64 (((gz ws).length:Int)+1)=((ws.length+1:Nat):Int):=by rw[t8,bf (by omega)];omega
  have w2:W .i64 (((ws.length+1:Nat):Int)+1)=((ws.length+2:Nat):Int):=by rw[bf (by omega)];omega
  have hspl:=agc l hr0 h2 j (by omega);simp only[qi]at hspl;rw[hx]at hspl;simp only[uC]at hspl;have hs1:=qh hs (b:=[]) hj hq;have hpj:pl≠(j:Int):=fun e=>hq (e ▸ fB hg)
  have hg1:cT (bD es j []) pl=aA _:=(s8 hpj).trans hg;have hs2:=iY hs1 (b:=bq ⟨A,x.1,(j:Int)+1⟩) (fB hg1);have hg2:cT (bD (bD es j []) pl (bq ⟨A,x.1,(j:Int)+1⟩)) j=aA []:=(s8 hpj.symm).trans xn;have hup:=agU (by grind) hu;rw[BA]at hup
  have hsp:cA aI aX 79 [.ptr 0 0 0,.sl (gz ws),eL l,.int .i64 pl,.agg [.str k,.str v]] (tM r n es)=aA (vF (r',n,cX es',cD n (br es'))):=by
   rcases hc with⟨hkx,rfl,hwA,rfl⟩|⟨hkx,rfl,rfl,hwB⟩
   ·have hput:=AG _ rA0 k v hk hv (.inr hkx);unfold kw at hput;rw[aU hwA]at hput;apply TC
    case h =>
     unfold CQ;rw[cH DG (Fc hs hfj hq)];show(aL aI _ [eL l,_] _)=_;rw[aN hspl,MB,show Op.bytesLess k x.1=aC from hkx,aZ];show(aL aI _ [eL ⟨l.prs.take (dK l.prs),x.1,(j:Int)+1⟩,_,_] _)=_;rw[aN hput,n8];show(bH aI _ _ _ [_,_,.ifc 120 (eL ⟨dm (l.prs.take (dK l.prs)) k v,x.1,(j:Int)+1⟩)] (tM r n (bD es j [])) _)=_;rw[cH k6 (un hs1 hg1 rA)];show(bH aI _ _ _ [_,_,.ifc 120 (eL ⟨l.prs.drop (dK l.prs),l.high,l.next⟩)] (tM r n (bD (bD es j []) pl (bq ⟨dm (l.prs.take (dK l.prs)) k v,x.1,(j:Int)+1⟩))) _)=_;rw[cH k6 (un hs2 hg2 rB),cH Ql hup]
    case hc=>kernel_rfl
   ·have hput:=AG _ rB0 k v hk hv hh;unfold kw at hput;rw[aU hwB]at hput;apply TC
    case h =>
     unfold CQ;rw[cH DG (Fc hs hfj hq)];show(aL aI _ [eL l,_] _)=_;rw[aN hspl,MB,show Op.bytesLess k x.1=aD from hkx,aP];show(aL aI _ [eL ⟨l.prs.drop (dK l.prs),l.high,l.next⟩,_,_] _)=_;rw[aN hput,n8];show(bH aI _ _ _ [_,_,.ifc 120 (eL ⟨l.prs.take (dK l.prs),x.1,(j:Int)+1⟩)] (tM r n (bD es j [])) _)=_;rw[cH k6 (un hs1 hg1 rA)];show(bH aI _ _ _ [_,_,.ifc 120 (eL ⟨dm (l.prs.drop (dK l.prs)) k v,l.high,l.next⟩)] (tM r n (bD (bD es j []) pl (bq ⟨l.prs.take (dK l.prs),x.1,(j:Int)+1⟩))) _)=_;rw[cH k6 (un hs2 hg2 rB),cH Ql hup]
    case hc=>kernel_rfl
  apply D8
  case h =>
   unfold xc;rw[aN (lC k),bI,hk,bK,aP,aN (yS v),bI,hv,bK,aP,cY vE (wj hs hw (by omega)),cF];show(aL aI _ [eL l,_] _)=_;rw[aN hget,jA];show(aL aI _ [eL l,_,_] _)=_;rw[aN hput,n8,dH (by decide),aP,cY Qo (OO hs),cF,w1,w2,bp (by omega),aP];show(bH aI _ _ _ [_,_,eL l,_,_] _ _)=_;rw[cH acM hsp,Da]
  case hc=>kernel_rfl
theorem Jc(l:List Pr)(k v:Bs):dm l k v≠[]:=by simp[dm]
theorem adJ(l:List Pr)(k v:Bs):l.length<=(dm l k v).length:=by
 unfold dm;grind
theorem Je{a m c:List Pr}{k v:Bs}(ha:∀x∈a,lt x.1 k=aC)(hc:∀x∈c,lt k x.1=aC)(hr:uF (a++(m++c))):dm (a++(m++c)) k v=a++(dm m k v++c):=by
 obtain⟨r1,r2,_⟩:=fJ.1 hr;obtain⟨r3,_,_⟩:=fJ.1 r2;rw[Rc hr,Rc r3];simp only[qz];rw[u4 (p:=fun x:Pr=>lt x.1 k) ha,u5 (p:=fun x:Pr=>lt k x.1) (l:=a) fun x hx=>nI (ha x hx),u5 (p:=fun x:Pr=>lt x.1 k) (l:=c) fun x hx=>nI (hc x hx),u4 (p:=fun x:Pr=>lt k x.1) hc];simp
theorem O4{a m c:List Pr}{k:Bs}(ha:∀x∈a,lt x.1 k=aC)(hc:∀x∈c,lt k x.1=aC)(hr:uF (a++(m++c))):c9 (bw (a++(m++c))) k=c9 (bw m) k:=by
 obtain⟨r1,r2,_⟩:=fJ.1 hr;obtain⟨r3,_,_⟩:=fJ.1 r2;rw[O3 hr,O3 r3,List.any_append,List.any_append]
 have h1:(a.any fun x=>x.1==k)=false:=yZ.2 fun x hx hc=>by
  have e:x.1=k:=by grind
  have:=ha x hx;rw[e,lE]at this;grind
 have h2:(c.any fun x=>x.1==k)=false:=yZ.2 fun x hx hc2=>by
  have e:x.1=k:=by grind
  have:=hc x hx;rw[e,lE]at this;grind
 grind
structure Rs(ups:List IL)(b:LL):Prop where
 ft:Ft ups
 f2:∀x∈b.dropLast,2<=x.2.1.length
 h5:∀x∈b,x.2.2.length<=5
 k5:∀x∈bP b,x.1.length<=5/\bz [x]<=40
theorem MI:∀{d:List IL} {s:Su} {b:LL},Dn s d b->(∀l∈d,d0 okI l 0)->(∀x∈b,x.2.2.length<=5)->(∀y∈s,y.2.length<=5)/\BL d
 | [],s,b,h,_,ha=>by
  refine⟨fun y hy=>?_,fun l hl=>nomatch hl⟩;rw[pz h,df]at hy;grind
 |l::d,s,b,h,hI,ha=>by
  obtain⟨e,hk⟩:=oc h;obtain⟨i1,i2⟩:=MI hk (fun x hx=>hI x (by grind)) ha;constructor
  ·intro y hy;rw[e,cI]at hy;obtain⟨z,hz,rfl⟩:=ib.1 hy;obtain⟨w,hw,e2⟩:=Db (mP (hI _ (er ..)) z hz);show(bG z.2).length<=5;rw[e2];exact i1 w (jN.2 ⟨z,hz,hw⟩)
  ·intro l' hl';rcases dE.1 hl' with rfl|hl'
   ·intro x hx y hy;exact i1 y (jN.2 ⟨x,hx,hy⟩)
   ·exact i2 l' hl'
def BJ(ups:List IL)(b:LL)(k v:Bs)(ups':List IL)(b':LL):Prop:=(∀x∈bP b,lt x.1 k=aC)->k.length<=5->bz [(k,v)]<=40->Rs ups b->Rs ups' b'
theorem Sd{b b':LL}{k v:Bs}(h:bP b'=dm (bP b) k v)(hk:k.length<=5)(hw:bz [(k,v)]<=40)(h5:∀x∈bP b,x.1.length<=5/\bz [x]<=40):∀x∈bP b',x.1.length<=5/\bz [x]<=40:=by
 intro x hx;rw[h]at hx;rcases ru hx with rfl|hx
 all_goals grind
theorem ae6{ups:List IL}{b:LL}{pre post:LL}{p:Int}{prs:List Pr}{h' k v:Bs}(hb:b=pre++(p,prs,h')::post)(hf:bP (pre++(p,dm prs k v,h')::post)=dm (bP b) k v)(hl:prs.length<=(dm prs k v).length):BJ ups b k v ups (pre++(p,dm prs k v,h')::post):=by
 intro h1 h2 h3 h;refine⟨h.ft,?_,?_,Sd hf h2 h3 h.k5⟩
 ·intro x hx;have hf2:=h.f2;rw[hb]at hf2;cases post with
  |nil =>
   grind
  |cons y t =>
   rw[Uy (by simp),Li (by simp)]at hx hf2;rcases cz.1 hx with hx|hx
   ·grind
   ·rcases dE.1 hx with rfl|hx
    ·have:=hf2 (p,prs,h') (by simp);grind
    grind
 ·intro x hx;have h5:=h.h5;rw[hb]at h5;rcases cz.1 hx with hx|hx
  ·grind
  ·rcases dE.1 hx with rfl|hx
   ·exact h5 (p,prs,h') (by simp)
   grind
theorem ae7{n:Nat}{r:Int}{es:Es}{ups ups':List IL}{b:LL}(hW:WF n r es ups b){pre:LL}{p j:Int}{prs A B:List Pr}{h' k v s:Bs}(hb:b=pre++[(p,prs,h')])(hf:bP (pre++[(p,A,s),(j,B,h')])=dm (bP b) k v)(hs:∃x∈bP b,x.1=s)(hA:A=prs.take (dK prs))(h2:2<=prs.length)(hw:¬bz prs+bz [(k,v)]<=231)(h50:∀x∈prs,bz [x]<=50)(hp:bz prs<=231)
  (hup:BL ups->s.length<=5->Ft ups->Ft ups'):BJ ups b k v ups' (pre++[(p,A,s),(j,B,h')]):=by
 intro h1 hk5 h3 h;obtain⟨x0,hx0,hxs⟩:=hs;have hs5:s.length<=5:=hxs ▸ (h.k5 x0 hx0).1;refine⟨hup (MI hW.dn hW.okI h.h5).2 hs5 h.ft,?_,?_,Sd hf hk5 h3 h.k5⟩
 ·intro x hx;have hf2:=h.f2;rw[hb,FH]at hf2;rw[show pre++[(p,A,s),(j,B,h')]=(pre++[(p,A,s)])++[(j,B,h')] by simp,FH]at hx;rcases cz.1 hx with hx|hx
  ·grind
  ·rw[jO.1 hx];show 2<=A.length;obtain⟨m0,m1,m2,m3⟩:=O2 h2 h50 hp;have hsp:=yV prs (dK prs);rw[<-hA]at hsp
   match hAl:A with
   | []=>grind
   | [y] =>
    have hy:y∈prs:=o4 (hA ▸ jO.2 rfl);grind
   |y::z::t=>simp
 ·intro x hx;have h5:=h.h5;rw[hb]at h5;rcases cz.1 hx with hx|hx
  ·grind
  ·rcases dE.1 hx with rfl|hx
   ·grind
   ·rw[jO.1 hx];exact h5 (p,prs,h') (by simp)
def LA(n:Nat)(r:Int)(es:Es)(ups:List IL)(b:LL)(k v:Bs)(ok:Bool)(e r':Int)(es':Es)(ups':List IL)(b':LL):Prop :=
 (e=0/\cg k=aC/\eH v=aC/\bP b'=dm (bP b) k v/\ok = !c9 (bw (bP b)) k/\BJ ups b k v ups' b'/\(Fk ups.reverse->Fk ups'.reverse)) ∨
 (ok=aD/\r'=r/\es'=es/\ups'=ups/\b'=b/\((e=1/\(cg k && eH v)=aD)∨(e=6/\cg k=aC/\eH v=aC/\n - es.length < ups.length+2)))
theorem adO{n:Nat}{r:Int}{es:Es}{ups:List IL}{b:LL}(h:WF n r es ups b)(k v:Bs) :
  ∃ok e r' es' ups' b',WF n r' es' ups' b'/\uE n r es k v ok e r' es'/\LA n r es ups b k v ok e r' es' ups' b':=by
 cases hkv:(cg k && eH v)with
 |false=>exact⟨aD,1,r,es,ups,b,h,.arg hkv,.inr ⟨rfl,rfl,rfl,rfl,rfl,.inl ⟨rfl,hkv⟩⟩⟩
 |true =>
  obtain⟨hk,hv⟩:=Bool.and_eq_true_iff.1 hkv;obtain⟨p,h',ws,pre,prs,post,q1,q2,q3,q4,q5,q6⟩:=Uj h.toWT hk;have hF:=h.okF;rw[q2]at hF;have hr:cK ⟨prs,h',cS post 0⟩=true:=IM hF;obtain⟨o,hx0,hx1⟩:=tv hr;have hn:=h.shf.le;have hul:=uh h.toWT;have hll:=tu h.shf;obtain⟨hgp,_⟩:=Fo q6;have hord:=h.ord;rw[q2]at hord;have hpre:=(vL hord).2.2.1;obtain⟨hca,hcc⟩:=Uh hord hF q3 q4;have hris:=HU hord hF;have efl:bP (pre++(p,prs,h')::post)=bP pre++(prs++bP post):=by rw[pD,mJ]
  rw[efl]at hris;have hput:=Je (v:=v) hca hcc hris;have hhas:=O4 hca hcc hris;have hfb:bP b=bP pre++(prs++bP post):=by grind
  by_cases hz:bz (dm prs k v)<=231
  ·have o2:=Jb o hk hv q4 hz;have hr2:=rD o2 hx0 hx1;have hat:=h.rep;rw[q2]at hat;have hat:=Dt hat;have hpm:=j6 (b':=bq ⟨dm prs k v,h',cS post 0⟩) h.shf.nd hat;obtain⟨ok1,ok3,ok2⟩:=(gV _ _ _).1 hF;have hne:=Ay h q2;refine⟨!c9 (bw prs) k,0,r,bD es p (bq ⟨dm prs k v,h',cS post 0⟩),ups,pre++(p,dm prs k v,h')::post,⟨⟨iY h.shf (gp hat),hpm.trans (PO (U:=dY ups) (pre:=pre) (post:=post) (p:=p) (x:=(dm prs k v,h'))),?_,h.okI,(gV _ _ _).2 ⟨ok1,hr2,ok2⟩,QO hord ?_⟩,?_,h.rt⟩,.put h.shf hk hv q6 (by omega) hgp hr q4 hz hr2,.inl ⟨rfl,hk,hv,?_,?_,ae6 q2 ?_ (adJ prs k v),fun h=>h⟩⟩
   ·have e:df (pre++(p,dm prs k v,h')::post)=df b:=by rw[q2];simp[df]
    exact Gw e h.dn
   ·intro y hy x hx;rcases ru hx with rfl|hx
    ·exact q3 (y.1,y.2.2) (ib.2 ⟨y,hy,rfl⟩)
    grind
   ·intro _ x hx;rcases cz.1 hx with hx|hx
    ·grind
    ·rcases dE.1 hx with rfl|hx
     ·exact Jc _ _ _
     grind
   ·rw[hfb,hput,pD,mJ]
   ·grind
   ·rw[hfb,hput,pD,mJ]
  ·by_cases hfree:n - es.length < ws.length+2
   ·exact⟨aD,6,r,es,ups,b,h,.full h.shf hk hv q6 (by omega) hgp hr q4 hz hfree,.inr ⟨rfl,rfl,rfl,rfl,rfl,.inr ⟨rfl,hk,hv,by omega⟩⟩⟩
   ·have hpw:=Jd prs k v;have hkv:=Fp (x:=(k,v)) hk hv;have h50:=Up o.mem;have ow:=o.wt;have hlen:2<=prs.length:=by omega
    obtain⟨j,hj,hjf,hj2⟩:=HY h.shf (by omega);obtain⟨m0,m1,m2,m3⟩:=O2 hlen (fun x hx=>(Fp (o.mem x hx).1 (o.mem x hx).2).2) o.wt;have hx:prs[dK prs]? = aA prs[dK prs]:=cj m1;obtain⟨oA,oB,hsh,hks,hgB,z,hzp,hzs⟩:=aaJ o (dK prs) hx m0;generalize hxx:prs[dK prs]=x at *
    have hlo':∀y∈pre,bd y.2.2 x.1:=fun y hy=>⟨(hpre y hy).1.1,.inr (abJ ((hpre y hy).2 z hzp) hzs)⟩
    have klo:∀y∈pre,lt k y.2.2=false:=fun y hy=>q3 (y.1,y.2.2) (ib.2 ⟨y,hy,rfl⟩)
    have hrA:=rD oA (nx:=(j:Int)+1) (by omega) (by omega);have hrB:=rD oB hx0 hx1;have hroom:es.length+ups.length+2<=n:=by omega
    have htd:prs=prs.take (dK prs)++(prs.drop (dK prs)++[]):=by simp
    have htd2:prs=[]++(prs.take (dK prs)++prs.drop (dK prs)):=by simp
    have hA0:prs.take (dK prs)≠[]:=by
     grind
    have hB0:prs.drop (dK prs)≠[]:=by
     grind
    have hrt:uF (prs.take (dK prs)++prs.drop (dK prs)):=by grind
    cases hks2:lt k x.1 with
    |true =>
     have hw:bz (dm (prs.take (dK prs)) k v)<=231:=by have:=Jd (prs.take (dK prs)) k v;omega
     have oA2:=Jb oA hk hv (.inr hks2) hw
     obtain⟨r',es',ups',hW,hup,hrs,hfk⟩:=T8 h q1 q2 hj hj2 oA2 oB (Jc _ _ _) hB0 hsh hks hlo'
      (fun y hy q hq=>by
       rcases ru hq with rfl|hq
       all_goals grind)
      (fun y hy q hq=>(hpre y hy).2 q (qA hq)) hgB hroom
     refine⟨!c9 (bw prs) k,0,r',es',ups',_,hW,.split h.shf hk hv q6 (by omega) hgp hr q4 hz hfree hjf hj hj2 hlen hx hrA hrB (rD oA2 (by omega) (by omega)) hrB (.inl ⟨hks2,rfl,hw,rfl⟩) hup,.inl ⟨rfl,hk,hv,?_,by rw[hfb,hhas],fun h1=>gU (h1 x (by grind)) (by rw[nI hks2];simp),hfk⟩⟩
     have hgk:∀y∈prs.drop (dK prs),lt k y.1=true:=fun y hy=>by
      have h0:=hgB y hy
      by_cases e:y.1=x.1
      ·grind
      ·exact lt_trans hks2 (nJ h0 e)
     have:=Je (a:=[]) (m:=prs.take (dK prs)) (c:=prs.drop (dK prs)) (k:=k) (v:=v) (by simp) hgk (by grind);rw[<-htd2]at this;rw[hfb,hput,this,pD,mJ,mJ];simp
    |false =>
     have hw:bz (dm (prs.drop (dK prs)) k v)<=231:=by have:=Jd (prs.drop (dK prs)) k v;omega
     have oB2:=Jb oB hk hv q4 hw
     obtain⟨r',es',ups',hW,hup,hrs,hfk⟩:=T8 h q1 q2 hj hj2 oA oB2 hA0 (Jc _ _ _) hsh hks hlo'
      (fun y hy q hq=>(hpre y hy).2 q (o4 hq))
      (fun y hy q hq=>by
       rcases ru hq with rfl|hq
       all_goals grind)
      (fun q hq=>by
       rcases ru hq with rfl|hq
       all_goals grind) hroom
     have hlk:∀y∈prs.take (dK prs),lt y.1 k=true:=fun y hy=>by
      have h1:=(oA.hi.resolve_left (pM hks)).2 y hy
      by_cases e:k=x.1
      ·grind
      ·exact lt_trans h1 (nJ hks2 e)
     have hpa:=Je (a:=prs.take (dK prs)) (m:=prs.drop (dK prs)) (c:=[]) (k:=k) (v:=v) hlk (by simp) (by grind);rw[<-htd]at hpa
     have hfl2:bP (pre++(p,prs.take (dK prs),x.1)::((j:Int),dm (prs.drop (dK prs)) k v,h')::post)=dm (bP b) k v:=by
      rw[hfb,hput,hpa,pD,mJ,mJ];simp
     have hrsn:BJ ups b k v ups' (pre++(p,prs.take (dK prs),x.1)::((j:Int),dm (prs.drop (dK prs)) k v,h')::post):=by
      intro h1 hk5 h3 hh
      have hpo:post=[]:=by
       cases hpo:post with
       |nil=>rfl
       |cons y t =>
        exfalso;have hy:=Ay h q2 y (.inr (by grind));obtain⟨z,t',hz⟩:=uv hy;have hm:z∈bP post:=jN.2 ⟨y,by grind,by grind⟩;have a1:=hcc z hm;have a2:=h1 z (by grind);rw[nI a1]at a2;grind
      have q2':b=pre++[(p,prs,h')]:=by grind
      have hfl3:=hfl2;rw[hpo]at hfl3;have:=ae7 (ups':=ups') h q2' hfl3 ⟨x,by grind,rfl⟩ rfl hlen (by grind) (fun y hy=>(Fp (o.mem y hy).1 (o.mem y hy).2).2) o.wt (fun a b c=>hrs hpo a b c);rw[hpo];exact this h1 hk5 h3 hh
     refine⟨!c9 (bw prs) k,0,r',es',ups',_,hW,.split h.shf hk hv q6 (by omega) hgp hr q4 hz hfree hjf hj hj2 hlen hx hrA hrB hrA (rD oB2 hx0 hx1) (.inr ⟨hks2,rfl,rfl,hw⟩) hup,.inl ⟨rfl,hk,hv,hfl2,by rw[hfb,hhas],hrsn,hfk⟩⟩
def bT{α:Type}(l:List (Int × α)):List Int:=l.map (·.1)
def gn(ups:List IL)(b:LL):List V:=(ups.map fun l=>aG (aS (bT l)))++[aG (aS (bT b))]
def qw{α:Type}(f:α->Int->Bs)(es:Es)(l:List (Int × α)):Prop:=∀x∈bW f l 0,x∈es
theorem vr{α:Type}{f:α->Int->Bs}{g:α->Int->Prop}:∀{l:List (Int × α)} {n:Int},d0 g l n->∀x∈l,∃m,g x.2 m/\(x.1,f x.2 m)∈bW f l n
 |(p,y)::l,n,h,x,hx=>by
  rcases dE.1 hx with rfl|hx
  ·exact⟨_,h.1,by rw[bW];simp⟩
  ·obtain⟨m,h1,h2⟩:=vr (f:=f) h.2 x hx;exact⟨m,h1,by rw[bW];grind⟩
theorem f0{l:List Int}{i:Nat}{x:Int}{k:V->R}(h:l[i]? = aA x):bl (aS l) i k=k (.int .i64 x):=iq h
theorem PS{n:Nat}{r:Int}{es:Es}(hS:cP n es)(P:List Int)(hP:P.length<=2000)(m6:List V){o:dR} :
  ∀(l:IL) (i:Nat) (acc:List Int),P.drop i=bT l->(∀x∈l,∃m,okI x.2 m/\(x.1,cd x.2 m)∈es)->acc.length+(bR l).length<=2000->i<=P.length ->
  Go qk aC 5 (fF 87) (.head 1 (m9 (aS P) (P.length:Int) (P.length:Int) r n (cX es) (cD n (br es)) m6 (aS (acc++bT (bR l))))) o ->
  Go qk aC 5 (fF 87) (.head 1 (m9 (aS P) (P.length:Int) (i:Int) r n (cX es) (cD n (br es)) m6 (aS acc))) o
 | [],i,acc,hd,_,_,hi0,hg=>by
  have hi:=fT hd;have e:i=P.length:=by omega
  subst e;simpa[bR,bT]using hg
 |(q,x)::l,i,acc,hd,bA,hlen,hi0,hg=>by
  obtain⟨h1,h2,h3⟩:=ej hd;obtain⟨m,⟨hne,hr⟩,hm⟩:=bA (q,x) (by simp);have hge:=i9 hS.nd hm;have e1:bR ((q,x)::l)=x++bR l:=by simp[bR]
  rw[e1]at hlen hg;rw[eV]at hlen;have w:W .i64 ((i:Int)+1)=((i+1:Nat):Int):=by rw[bf (by omega)];omega
  refine ES _ _ _ _ _ _ _ _ _ (o:=.head 1 (m9 (aS P) (P.length:Int) ((i+1:Nat):Int) r n (cX es) (cD n (br es)) m6 (aS (acc++bT x)))) ?_
   (PS hS P hP m6 l (i+1) (acc++bT x) h2 (fun y hy=>bA y (by grind)) (by simp[bT];omega) (by omega) (by rw[cO];simpa[bT]using hg))
  unfold A5;rw[aW (by omega),aZ,aQ (by simp),bi,f0 h1,bF,vT hS hge hr,cF,aQ (mS _),aQ (aW (by simp only[cy,d9];omega)),w,pK];rfl
theorem PT{n:Nat}{r:Int}{es:Es}(hS:cP n es)(P:List Int)(hP:P.length<=2000)(m6:List V){o:dR} :
  ∀(l:LL) (i:Nat),P.drop i=bT l->(∀x∈l,∃m,okF x.2 m/\(x.1,dM x.2 m)∈es)->i<=P.length ->
  Go qk aC 5 (fF 87) (.head 1 (m9 (aS P) (P.length:Int) (P.length:Int) r n (cX es) (cD n (br es)) m6 [])) o ->
  Go qk aC 5 (fF 87) (.head 1 (m9 (aS P) (P.length:Int) (i:Int) r n (cX es) (cD n (br es)) m6 [])) o
 | [],i,hd,_,hi,hg=>by
  have h1:=fT hd;grind
 |(q,x)::l,i,hd,bA,hi,hg=>by
  obtain⟨h1,h2,h3⟩:=ej hd;obtain⟨m,hr,hm⟩:=bA (q,x) (by simp);have hge:=i9 hS.nd hm;have w:W .i64 ((i:Int)+1)=((i+1:Nat):Int):=by rw[bf (by omega)];omega
  refine ES _ _ _ _ _ _ _ _ _ (o:=.head 1 (m9 (aS P) (P.length:Int) ((i+1:Nat):Int) r n (cX es) (cD n (br es)) m6 [])) ?_
   (PT hS P hP m6 l (i+1) h2 (fun y hy=>bA y (by grind)) (by omega) hg)
  unfold A5;rw[aW (by omega),aZ,aQ (by simp),bi,f0 h1,bF,yl (l:=⟨x.1,x.2,m⟩) hS hge hr,cF,w]
theorem I0(b:LL):bT (df b)=bT b:=by simp[df,bT]
theorem IZ(l:IL):bT (cI l)=bT l:=by simp[cI,bT]
theorem MK{s:Su}{d:List IL}{b:LL}(h:Dn s d b)(hd:∀l∈d,l.length<=1024)(hb:b.length<=1024):s.length<=1024:=by
 cases d with
 |nil=>rw[pz h,df,d9];grind
 |cons l d=>rw[(oc h).1,cI,d9];grind
theorem Pz{l:IL}(h:l≠[])(hn:∀x∈l,x.2≠[]):bR l≠[]:=by
 obtain⟨x,t,rfl⟩:=uv h;intro h0;rw[bR,nZ,ww]at h0;grind
theorem PV{n:Nat}{r:Int}{es:List (V × V)}{bs:List V}{acc:List V}{P:List Int}{o:dR}(hl:acc.length<=3000)
  (h:Go qk aC 5 (fF 87) (.head 1 (m9 (aS P) (P.length:Int) ((0:Nat):Int) r n es bs (acc++[aG (aS P)]) [])) o) :
  Go qk aC 5 (fF 87) (.head 0 (zA r n es bs (acc++[aG (aS P)]))) o:=by
 have w:W .i64 (((acc++[aG (aS P)]).length:Int) - 1)=((acc.length:Nat):Int):=by
  rw[eV,bf (by grind)];simp
 have hg:(acc++[aG (aS P)])[acc.length]? = aA (aG (aS P)):=by simp
 refine afE _ _ _ _ _ ?_ h;unfold Tf;rw[w,aQ (by simp),aQ (aW (by simp)),bi,cG hg,jD,cy];rfl
theorem PU{n:Nat}{r:Int}{es:Es}(hS:cP n es):∀(d:List IL) (b:LL) (s:Su) (acc:List V),Dn s d b->(∀l∈d,d0 okI l 0)->d0 okF b 0->(∀l∈d,qw cd es l)->qw dM es b->(∀l∈d,l.length<=1024)->b.length<=1024->acc.length+d.length<=2000->s≠[] ->
  Go qk aC 5 (fF 87) (.head 0 (zA r n (cX es) (cD n (br es)) (acc++[aG (aS (bT s))]))) (.doneM (.own 5) (tM r n es++[aM 80 (acc++gn d b) 0]))
 | [],b,s,acc,hd,_,hF,_,hE,_,hb,hl,_=>by
  have e:=pz hd;have ep:bT s=bT b:=by rw[e,I0]
  rw[ep];have hbl:(bT b).length=b.length:=by simp[bT]
  refine PV (by grind) (PT hS (bT b) (by omega) _ b 0 rfl (fun x hx=>?_) (by omega) (ES _ _ _ _ _ _ _ _ _ ?_ (.refl _)))
  ·obtain⟨m,h1,h2⟩:=vr (f:=dM) hF x hx;exact⟨m,h1,hE _ h2⟩
  ·unfold A5;rw[bp (by omega),aP];rfl
 |l::d,b,s,acc,hd,hI,hF,hEI,hE,hdl,hb,hl,hne=>by
  obtain⟨e,hdk⟩:=oc hd;have ep:bT s=bT l:=by rw[e,IZ]
  have hll:=hdl l (er ..);have hpl:(bT l).length=l.length:=by simp[bT]
  have hkl:=MK hdk (fun x hx=>hdl x (by grind)) hb;have hlne:l≠[]:=by rintro rfl;exact hne e
  have hkne:=Pz hlne (mP (hI _ (er ..)));have ih:=PU (r:=r) hS d b (bR l) (acc++[aG (aS (bT l))]) hdk (fun x hx=>hI x (by grind)) hF (fun x hx=>hEI x (by grind)) hE (fun x hx=>hdl x (by grind)) hb (by grind) hkne;have e2:acc++[aG (aS (bT l))]++gn d b=acc++gn (l::d) b:=by simp[gn]
  rw[e2]at ih;rw[ep];refine PV (by grind) (PS hS (bT l) (by omega) _ l 0 [] rfl (fun x hx=>?_) (by grind) (by omega) (ES _ _ _ _ _ _ _ _ _ ?_ ih))
  ·obtain⟨m,h1,h2⟩:=vr (f:=cd) (hI _ (er ..)) x hx;exact⟨m,h1,hEI _ (er ..) _ h2⟩
  ·unfold A5;rw[eA,bp (by omega),aP,dH,aP,aQ (aW (by grind))];rw[cy,bT,d9];simp_all
theorem Ah{n:Nat}{r:Int}{es:Es}{ups:List IL}{b:LL}(h:WT n r es ups b):(∀l∈ups,l.length<=1024)/\b.length<=1024:=by
 have h2:=h.rep.length_eq;have h3:=tu h.shf;have h4:=h.shf.le;rw[eV,CS]at h2;refine⟨fun l hl=>?_,by omega⟩
 have:∀{u:List IL},l∈u->l.length<=(dY u).length:=by
  intro u hu
  induction u with
  |nil=>grind
  |cons x u ih =>
   rw[oh,eV,CS];grind
 grind
theorem Ab{n:Nat}{r:Int}{es:Es}{ups:List IL}{b:LL}(h:WT n r es ups b):(∀l∈ups,qw cd es l)/\qw dM es b :=
 ⟨fun l hl x hx=>h.rep.mem_iff.2 (Bv _ (jN.2 ⟨l,hl,hx⟩)),fun x hx=>h.rep.mem_iff.2 (uz _ hx)⟩
theorem abS{n:Nat}{r:Int}{es:Es}{ups:List IL}{b:LL}(h:WT n r es ups b):cA aI aX 87 [.ptr 0 0 0] (tM r n es)=aA (xX (tM r n es) (gn ups b)):=by
 have hl:=uh h;obtain⟨h1,h2⟩:=Ah h;obtain⟨h3,h4⟩:=Ab h;have:=PU (r:=r) h.shf ups b [(r,[])] [] h.dn h.okI h.okF h3 h4 h1 h2 (by grind) (by simp);exact Zl _ _ _ _ rfl ⟨_,_,this,by kernel_rfl⟩
theorem abM{n:Nat}{r:Int}{es:Es}{ups:List IL}{b:LL}(h:WT n r es ups b):cA aI aX 46 [.ptr 0 0 0] (tM r n es)=aA (xS (tM r n es) (aS (bT b))):=by
 have hl:=uh h;have hlen:(gn ups b).length=ups.length+1:=by simp[gn]
 have w:W .i64 (((gn ups b).length:Int) - 1)=((ups.length:Nat):Int):=by rw[hlen,bf (by omega)];omega
 have hg:(gn ups b)[ups.length]? = aA (aG (aS (bT b))):=by simp[gn]
 refine YF _ _ _ _ (o:=.doneM (.sl (aS (bT b))) (tM r n es++[aM 3 [] 0])) ?_ (.done (by kernel_rfl));unfold NG;rw[cY acR (abS h),cF,w,aQ (by simp),bi,cG hg,jD]
def iI(from0:Bs)(n:Int):List Pr->List Pr->List Pr
 |acc,[]=>acc
 |acc,x::r=>iI from0 n (if !(lt x.1 from0) && decide ((acc.length:Int) < n) then acc++[x] else acc) r
theorem Tk(f:Bs)(n:Int):∀(a b acc:List Pr),iI f n acc (a++b)=iI f n (iI f n acc a) b
 | [],_,_=>rfl
 |x::a,b,acc=>by rw[ew,iI,iI,Tk f n a b]
theorem Tm(f:Bs)(n:Int):∀(l acc:List Pr),(iI f n acc l).length<=acc.length+l.length
 | [],_=>c7 _
 |x::l,acc=>by
  have h:=Tm f n l (if !(lt x.1 f) && decide ((acc.length:Int) < n) then acc++[x] else acc);rw[iI,dp];grind
theorem Tl(f:Bs)(n:Int):∀(l acc:List Pr),n<=acc.length->iI f n acc l=acc
 | [],_,_=>rfl
 |x::l,acc,h=>by rw[iI,bp (by omega),gP];exact Tl f n l acc h
theorem KA(f:Bs)(n:Nat):∀(l acc:List Pr),acc.length<=n->iI f n acc l=acc++(l.filter fun x=>!(lt x.1 f)).take (n - acc.length)
 | [],acc,_=>by simp[iI]
 |x::l,acc,h=>by
  rw[iI];cases hx:lt x.1 f with
  |true =>
   rw[FJ (by grind)];exact KA f n l acc h
  |false =>
   rw[FK (by grind)]
   by_cases hn:acc.length < n
   ·rw[aW (by omega)];have:=KA f n l (acc++[x]) (by grind);refine this.trans ?_;obtain⟨k,hk⟩:∃k,n - acc.length=k+1:=⟨n - acc.length - 1,by omega⟩
    grind
   ·rw[bp (by omega)];have e:n - acc.length=0:=by omega
    rw[e,se,fh];exact Tl f n l acc (by omega)
theorem Tp{n:Nat}{r:Int}{es:Es}{f:Bs}{cnt:Int}{P:List V}{np i:Int}{prs:List Pr}(hp:prs.length<=1000){o:dR}:∀(l:List Pr) (j:Nat) (acc:List Pr),prs.drop j=l->j<=prs.length->acc.length+l.length<=10000000 ->
  Go qk aC 5 (fF 34) (.head 0 (zw f cnt P np (W .i64 (i+1)) r n (cX es) (cD n (br es)) (bn (iI f cnt acc l)))) o ->
  Go qk aC 5 (fF 34) (.head 1 (uH f cnt P np i (bn prs) (prs.length:Int) (j:Int) r n (cX es) (cD n (br es)) (bn acc))) o
 | [],j,acc,hd,hj,_,hg=>by
  have h1:=fT hd;refine S7 _ _ _ _ _ _ _ _ _ _ _ _ _ ?_ hg;unfold EO;rw[bp (by omega),aP];rfl
 |x::l,j,acc,hd,hj,hl,hg=>by
  obtain⟨h1,h2,h3⟩:=ej hd;have w:W .i64 ((j:Int)+1)=((j+1:Nat):Int):=by rw[bf (by omega)];omega
  simp only[dp]at hl;rw[iI]at hg
  have hs:EO f cnt P np i (bn prs) (prs.length:Int) (j:Int) r n (cX es) (cD n (br es)) (bn acc)=aA (.head 1 (uH f cnt P np i (bn prs) (prs.length:Int) ((j+1:Nat):Int) r n (cX es) (cD n (br es)) (bn (if !(lt x.1 f) && decide ((acc.length:Int) < cnt) then acc++[x] else acc)))):=by
   unfold EO;rw[aW (by omega),aZ,aQ (by simp),bi,fE h1,fN,w,dv];show(cond (!(lt x.1 f)) _ _)=_;cases lt x.1 f with
   |true=>rfl
   |false =>
    rw[gb,aZ,dL];cases decide ((acc.length:Int) < cnt)with
    |true =>
     rw[aZ,aQ (aW (by grind))];simp[bn]
    |false=>rfl
  refine S7 _ _ _ _ _ _ _ _ _ _ _ _ _ hs (Tp hp l (j+1) _ h2 (by omega) ?_ hg);grind
theorem Tn{n:Nat}{r:Int}{es:Es}(hS:cP n es){f:Bs}{cnt:Int}(P:List Int)(hP:P.length<=2000):∀(l:LL) (i:Nat) (acc:List Pr),P.drop i=bT l->(∀x∈l,∃m,okF x.2 m/\(x.1,dM x.2 m)∈es)->i<=P.length->acc.length+1000 * l.length<=5000000 ->
  Go qk aC 5 (fF 34) (.head 0 (zw f cnt (aS P) (P.length:Int) (i:Int) r n (cX es) (cD n (br es)) (bn acc))) (.doneM (.own 6) (tM r n es++[aM 41 [] 0,aM 41 (bn (iI f cnt acc (bP l))) 0]))
 | [],i,acc,hd,_,hi,_=>by
  have h1:=fT hd;refine S6 _ _ _ _ _ _ _ _ _ _ ?_ (.refl _);unfold Kn;rw[bp (by omega),aP];rfl
 |(q,prs,h)::l,i,acc,hd,bA,hi,hl=>by
  obtain⟨h1,h2,h3⟩:=ej hd;obtain⟨m,hr,hm⟩:=bA (q,prs,h) (by simp);have hge:=i9 hS.nd hm;have hr:cK ⟨prs,h,m⟩=true:=hr;have g:=lA hr;have g1:=g.len;have g2:=g.wt;simp only at g1 g2;have w:W .i64 ((i:Int)+1)=((i+1:Nat):Int):=by rw[bf (by omega)];omega
  simp only[dp]at hl;have hsl:=Tm f cnt prs acc;have ih:=Tn (r:=r) (f:=f) (cnt:=cnt) hS P hP l (i+1) (iI f cnt acc prs) h2 (fun y hy=>bA y (by grind)) (by omega) (by omega);rw[<-Tk,<-mJ q prs h,<-w]at ih;refine S6 _ _ _ _ _ _ _ _ _ _ ?_ (Tp (prs:=prs) (by omega) prs 0 acc rfl (by omega) (by omega) ih);unfold Kn;rw[aW (by omega),aZ,aQ (by simp),bi,f0 h1,bF,yl (l:=⟨prs,h,m⟩) hS hge hr,cF];show aA _=aA _;rw[dv];rfl
theorem afI{n:Nat}{r:Int}{es:Es}{ups:List IL}{b:LL}(h:WT n r es ups b)(f:Bs)(cnt:Int):cA aI aX 34 [.ptr 0 0 0,.str f,.int .i64 cnt] (tM r n es)=aA (xQ (tM r n es) (bn (iI f cnt [] (bP b)))):=by
 obtain⟨h1,h2⟩:=Ah h;obtain⟨h3,h4⟩:=Ab h;have hbl:(bT b).length=b.length:=by simp[bT]
 have:=Tn (r:=r) (f:=f) (cnt:=cnt) h.shf (bT b) (by omega) b 0 [] rfl (fun x hx=>by
  obtain⟨m,h1,h2⟩:=vr (f:=dM) h.okF x hx;exact⟨m,h1,h4 _ h2⟩) (by omega) (by grind)
 refine YA _ _ _ _ _ _ ?_ ⟨_,_,this,by kernel_rfl⟩;unfold NE;rw[cY acH (abM h),cF,cy];rfl
abbrev wF(l:List Pr):Prop:=l.Pairwise fun x y=>lt x.1 y.1=aC
theorem P6{x h z:Bs}(h1:lt x h=aC)(h2:lt z h=aD):lt x z=true:=by
 by_cases e:z=h
 ·rw[e];exact h1
 ·exact lt_trans h1 (nJ h2 e)
theorem xl:∀{b:LL} {n:Int},lm b->d0 okF b n->wF (bP b)/\∀x∈bP b,cg x.1=aC
 | [],_,_,_=>⟨.nil,fun _ h=>nomatch h⟩
 |(p,prs,h)::b,n,ho,hk=>by
  obtain⟨h1,h2⟩:=iL.1 ho;obtain⟨o,_,_⟩:=tv (show cK ⟨prs,h,cS b n⟩=aC from hk.1);obtain⟨i1,i2⟩:=xl h2 hk.2;rw[mJ];refine⟨fJ.2 ⟨o.ri,i1,?_⟩,?_⟩
  ·intro x hx y hy;obtain⟨z,hz,hy⟩:=jN.1 hy;obtain⟨q1,q2⟩:=h1 z hz;rcases o.hi with h0|⟨_,h0⟩
   ·exact gU h0 q1.1
   ·exact P6 (h0 x hx) (q2 y hy)
  ·intro x hx;rcases cz.1 hx with hx|hx
   ·exact(o.mem x hx).1
   ·exact i2 x hx
def xr(f t:Bs)(x:Pr):Bool:=!(lt x.1 f) && (t==[] ||lt x.1 t)
def eQ(f t l:Bs)(L:List Pr):List Pr:=L.filter fun x=>xr f t x && (l==[] ||lt l x.1)
def nx(t l:Bs):List Pr->Option Pr
 | []=>aF
 |x::r=>if !(t==[]) && !(lt x.1 t) then aF else if l==[] ||lt l x.1 then aA x else nx t l r
theorem PP{f t l:Bs}{L D:List Pr}{x:Pr}(hr:wF L)(hk:∀x∈L,cg x.1=aC)(h:eQ f t l L=x::D):eQ f t x.1 L=D:=by
 have hm:∀y∈x::D,y∈L:=fun y hy=>by rw[<-h]at hy;exact(mW.1 hy).1
 have hx:=hk x (hm x (by simp))
 have hxl:(l==[] ||lt l x.1)=true:=by
  have:x∈eQ f t l L:=by rw[h];simp
  have:=(mW.1 this).2;simp only[co]at this;exact this.2
 have hrs:wF (x::D):=by rw[<-h];exact hr.filter _
 have e:eQ f t x.1 L=(eQ f t l L).filter fun y=>lt x.1 y.1:=by
  unfold eQ;rw[List.filter_filter];refine List.filter_congr fun y hy=>?_
  have hne:(x.1==[])=false:=by simpa using pM hx
  rw[hne,gq];cases hxy:lt x.1 y.1 with
  |false=>simp
  |true =>
   have:(l==[] ||lt l y.1)=true:=by
    rcases nS _ _ ▸ hxl with q|q
    ·rw[q];rfl
    ·rw[lt_trans q hxy,mh]
   rw[this];simp
 rw[e,h,FJ (by rw[lE];simp)];exact Lk.2 fun y hy=>(iL.1 hrs).1 y hy
abbrev mx(f l:Bs):Bs:=if Op.bytesLess f l then l else f
theorem abN{f t l:Bs}{L:List Pr}:eQ f t l L=(L.filter fun x=>!(lt x.1 (mx f l))).filter fun x=>(t==[] ||lt x.1 t) && (l==[] ||lt l x.1):=by
 unfold eQ;rw[List.filter_filter];refine List.filter_congr fun x _=>?_
 unfold xr mx;cases hfl:Op.bytesLess f l with
 |false =>
  rw[aY (by simp)];cases !(lt x.1 f)<;>cases(t==[] ||lt x.1 t)<;>cases(l==[] ||lt l x.1)<;>rfl
 |true =>
  have hfl:lt f l=true:=hfl;rw[aU rfl]
  have hne:(l==[])=false:=by
   cases l with
   |nil=>cases f<;>cases hfl
   |cons _ _=>rfl
  rw[hne,gq];cases hlx:lt l x.1 with
  |false=>cases !(lt x.1 f)<;>cases(t==[] ||lt x.1 t)<;>cases !(lt x.1 l)<;>rfl
  |true =>
   have h1:=nI hlx;have h2:=nI (lt_trans hfl hlx);rw[h1,h2];cases(t==[] ||lt x.1 t)<;>rfl
theorem Oj{t l:Bs}{x:Pr}{r:List Pr}(hr:wF (x::r))(ht:(t==[] ||lt x.1 t)=aD):(x::r).filter (fun x=>(t==[] ||lt x.1 t) && (l==[] ||lt l x.1))=[]:=by
 rw[List.filter_eq_nil_iff];intro y hy
 have:(t==[] ||lt y.1 t)=false:=by
  rcases dE.1 hy with rfl|hy
  ·exact ht
  ·have hxy:=(iL.1 hr).1 y hy;simp only[qu]at ht |-
   refine⟨ht.1,?_⟩;cases hyt:lt y.1 t with
   |false=>rfl
   |true=>rw[lt_trans hxy hyt]at ht;cases ht.2
 rw[this];simp
theorem MA{t:Bs}{k:Bs}:(!(t==[]) && !(lt k t)) = !(t==[] ||lt k t):=by cases t==[]<;>cases lt k t<;>rfl
theorem ac7{f t l:Bs}{L:List Pr}(hr:wF L):nx t l ((L.filter fun x=>!(lt x.1 (mx f l))).take 2)=(eQ f t l L).head?:=by
 rw[abN];have hF:wF (L.filter fun x=>!(lt x.1 (mx f l))):=hr.filter _
 have hge:∀x∈L.filter (fun x=>!(lt x.1 (mx f l))),lt x.1 l=false:=by
  intro x hx;have:=(mW.1 hx).2;have this:lt x.1 (mx f l)=false:=by simpa using this
  unfold mx at this;split at this
  ·exact this
  ·rename_i hfl;have hfl:lt f l=false:=by simpa[lt]using hfl
   cases h2:lt x.1 l with
   |false=>rfl
   |true=>rw[P6 h2 hfl]at this;cases this
 generalize L.filter (fun x=>!(lt x.1 (mx f l)))=F at hF hge
 match F,hF,hge with
 | [],_,_=>rfl
 |x::r,hF,hge =>
  rw[o6,nx,MA];cases ht:(t==[] ||lt x.1 t)with
  |false=>rw[Oj hF ht];rfl
  |true =>
   rw[bK,aY (by simp)];cases hl:(l==[] ||lt l x.1)with
   |true=>rw[aU rfl,FK (by rw[ht,hl];rfl)];rfl
   |false =>
    rw[aY (by simp),FJ (by rw[hl];simp)]
    have hx:x.1=l:=by
     have h1:=hge x (by simp);have h2:lt l x.1=false:=(qu.1 hl).2;exact Classical.byContradiction fun e=>by rw[nJ h1 e]at h2;cases h2
    match r,hF with
    | [],_=>rfl
    |y::r,hF =>
     obtain⟨h1,h2⟩:=iL.1 hF;have hxy:=h1 y (by simp);rw[hx]at hxy;rw[o6,nx,MA];cases ht2:(t==[] ||lt y.1 t)with
     |false=>rw[Oj h2 ht2];rfl
     |true =>
      rw[bK,aY (by simp),hxy,mh,aU rfl,FK (by rw[ht2,hxy];simp)];rfl
abbrev cM(f t l:Bs)(r:Int)(n:Nat)(es:Es):List O:=cm f t l r (n:Int) (cX es) (cD n (br es))
def DR(f t l:Bs)(r:Int)(n:Nat)(es:Es):Option Pr->Bs × Bs × Bool × Bs × Bs × Bs × Int × Int × List (V × V) × List V
 |none=>([],[],aD,f,t,l,r,n,cX es,cD n (br es))
 |some x=>(x.1,x.2,aC,f,t,x.1,r,n,cX es,cD n (br es))
theorem Qt{f t l:Bs}{r:Int}{n:Nat}{es:Es}(S:List Pr)(hS:S.length<=1000):∀(q:List Pr) (i:Nat),S.drop i=q->i<=S.length ->
  ∃v m,Go qk aC 6 (fF 21) (.head 0 (wO (bn S) (S.length:Int) (i:Int) f t l r n (cX es) (cD n (br es)))) (.doneM v m)/\iP aX (cM f t l r n es) v m=vx (DR f t l r n es (nx t l q))
 | [],i,hd,hi=>by
  have h1:=fT hd;refine⟨.tup [.agg [.str [],.str []],.bool aD],cM f t l r n es++[aJ 41 (.agg [.str [],.str []]) aD],EK _ _ _ _ _ _ _ _ _ _ ?_ (.refl _),by kernel_rfl⟩;unfold EJ;rw[bp (by omega),aP]
 |x::q,i,hd,hi=>by
  obtain⟨h1,h2,h3⟩:=ej hd;have w:W .i64 ((i:Int)+1)=((i+1:Nat):Int):=by rw[bf (by omega)];omega
  have hs:EJ (bn S) (S.length:Int) (i:Int) f t l r n (cX es) (cD n (br es))=cond (!(t==[]) && !(lt x.1 t)) (aA (.doneM (.tup [.agg [.str [],.str []],.bool aD]) (cM f t l r n es++[aJ 41 (.agg [.str [],.str []]) aD])))
    (cond (l==[] ||lt l x.1) (aA (.doneM (.tup [.agg [.str x.1,.str x.2],.bool aC]) (cM f t x.1 r n es++[aJ 41 (.agg [.str x.1,.str x.2]) aD]))) (aA (.head 0 (wO (bn S) (S.length:Int) ((i+1:Nat):Int) f t l r n (cX es) (cD n (br es)))))):=by
   unfold EJ;rw[aW (by omega),aZ,aQ (by simp),bi,fE h1,fN,w,Iv x.1 l,Bool.not_not];show(cond (!(t==[])) (cond (!(lt x.1 t)) _ _) _)=_;cases t==[]<;>cases lt x.1 t<;>cases l==[]<;>cases lt l x.1<;>rfl
  rw[nx];cases hc:(!(t==[]) && !(lt x.1 t))with
  |true =>
   rw[hc,aZ]at hs;exact⟨_,_,EK _ _ _ _ _ _ _ _ _ _ hs (.refl _),by rw[aU rfl];kernel_rfl⟩
  |false =>
   rw[hc,aP]at hs;cases hl:(l==[] ||lt l x.1)with
   |true =>
    rw[hl,aZ]at hs;exact⟨_,_,EK _ _ _ _ _ _ _ _ _ _ hs (.refl _),by rw[aY (by simp),aU rfl];kernel_rfl⟩
   |false =>
    rw[hl,aP]at hs;obtain⟨v,m,g1,g2⟩:=Qt S hS q (i+1) h2 (by omega);exact⟨v,m,EK _ _ _ _ _ _ _ _ _ _ hs g1,by rw[aY (by simp),aY (by simp)];exact g2⟩
theorem Qu{n:Nat}{r:Int}{es:Es}{ups:List IL}{b:LL}(h:WT n r es ups b)(f t l:Bs):cA aI aX 21 [.ptr 0 0 0,.ptr 1 0 0] (cM f t l r n es)=aA (vx (DR f t l r n es (eQ f t l (bP b)).head?)):=by
 obtain⟨h1,h2⟩:=xl h.ord h.okF
 have hs:iI (mx f l) 2 [] (bP b)=((bP b).filter fun x=>!(lt x.1 (mx f l))).take 2:=by
  have:=KA (mx f l) 2 (bP b) [] (by simp);simpa using this
 have hlen:(iI (mx f l) 2 [] (bP b)).length<=1000:=by rw[hs,eC];omega
 obtain⟨v,m,g1,g2⟩:=Qt (f:=f) (t:=t) (l:=l) (r:=r) (n:=n) (es:=es) (iI (mx f l) 2 [] (bP b)) hlen (iI (mx f l) 2 [] (bP b)) 0 rfl (by omega);rw[hs,ac7 h1]at g2;refine Yk _ _ _ _ _ _ _ ?_ ⟨v,m,g1,g2⟩;unfold Nu;rw[cY acG (afI h (mx f l) 2),cF,dv];rfl
theorem Iu(l:Bs)(x:Pr)(D:List Pr):gm l (x::D)=gm x.1 D:=by
 unfold gm;cases D with
 |nil=>rfl
 |cons y D=>simp[y5]
theorem Qb{n:Nat}{r:Int}{es:Es}{ups:List IL}{b:LL}(h:WT n r es ups b)(f t:Bs)(m1:Int)(N:Nat)(hN:N<=100000):∀(d i:Nat) (l:Bs) (acc:List Pr),i+d=N->acc.length<=i ->
  ∃l',l'=gm l ((eQ f t l (bP b)).take d)/\eQ f t l' (bP b)=(eQ f t l (bP b)).drop d /\
   Go qk aC 8 (fF 112) (.head 0 (BS (N:Int) (i:Int) r m1 f t l n (cX es) (cD n (br es)) (bn acc))) (.doneM (.own 9) (mm r m1 f t l' n (cX es) (cD n (br es))++[aM 41 [] 0,aM 41 (bn (acc++(eQ f t l (bP b)).take d)) 0]))
 |0,i,l,acc,hi,ha=>by
  refine⟨l,rfl,rfl,JS _ _ _ _ _ _ _ _ _ _ _ ?_ (.refl _)⟩;unfold Eu;rw[bp (by omega),aP,se,fh]
 |d+1,i,l,acc,hi,ha=>by
  obtain⟨hr,hk⟩:=xl h.ord h.okF;have hn:=Qu h f t l;cases hD:eQ f t l (bP b)with
  |nil =>
   rw[hD]at hn;refine⟨l,by simp[gm],by rw[hD];simp,JS _ _ _ _ _ _ _ _ _ _ _ ?_ (.refl _)⟩;unfold Eu;rw[aW (by omega),aZ,cH DC hn];simp[DR]
  |cons x D =>
   rw[hD]at hn;have ht:=PP hr hk hD;have w:W .i64 ((i:Int)+1)=((i+1:Nat):Int):=by rw[bf (by omega)];omega
   obtain⟨l',g0,g1,g2⟩:=Qb h f t m1 N hN d (i+1) x.1 (acc++[x]) (by omega) (by simp;omega);rw[ht]at g0 g1 g2;have e:acc++(x::D).take (d+1)=acc++[x]++D.take d:=by rw[o6];simp
   rw[e];refine⟨l',by rw[g0,o6,Iu],by rw[g1];rfl,JS _ _ _ _ _ _ _ _ _ _ _ ?_ g2⟩;unfold Eu;rw[aW (by omega),aZ,cH DC hn];show(gd _ _)=_;rw[aQ (aW (by rw[dv];simp;omega)),w];simp[bn,DR]
theorem aen{n:Nat}{r:Int}{es:Es}{ups:List IL}{b:LL}(h:WT n r es ups b)(f t l:Bs)(N:Nat)(hN:N<=100000) :
  ∃l',l'=gm l ((eQ f t l (bP b)).take N)/\eQ f t l' (bP b)=(eQ f t l (bP b)).drop N /\
   cA aI aX 24 [.ptr 0 0 0,.ptr 1 0 0,.int .i64 (N:Int)] (cM f t l r n es)=aA (xO (bn ((eQ f t l (bP b)).take N),f,t,l',r,n,cX es,cD n (br es))):=by
 obtain⟨l',g0,g1,g2⟩:=Qb h f t (N:Int) N hN N 0 l [] (by omega) (by simp);refine⟨l',g0,g1,?_⟩
 have hm:cA aI aX 112 [.ptr 0 0 0,.ptr 1 0 0,.ptr 2 0 0] (mm r (N:Int) f t l n (cX es) (cD n (br es)))=aA (Al (bn ((eQ f t l (bP b)).take N),r,(N:Int),f,t,l',n,cX es,cD n (br es))):=by
  refine WR _ _ _ _ _ _ _ _ ?_ ⟨_,_,g2,by kernel_rfl⟩;unfold MV;have:(if 0 < (N:Int) then (N:Int) else 0)=(N:Int):=by split<;>omega
  rw[this];rfl
 refine Ys _ _ _ _ _ _ _ _ (o:=.doneM (.sl (bn ((eQ f t l (bP b)).take N))) (cM f t l' r n es++[aM 41 [] 0,aJ 3 (.int .i64 (N:Int)) aD,aJ 43 (.fn 2069 [.ptr 0 0 0]) aD])) ?_ (.done (by kernel_rfl));unfold NA;rw[cH acl hm]
abbrev gh:=Int × Bs × Bs × Int
def oI(o:gh):V:=.agg [.int .i64 o.1,.str o.2.1,.str o.2.2.1,.int .i64 o.2.2.2]
def jZ(l:List gh):List V:=l.map oI
theorem tL(l:List gh):(jZ l).length=l.length:=by simp[jZ]
theorem VB(n:Nat):(if 16 < (n:Int) then (16:Int) else (n:Int))=((min 16 n:Nat):Int):=by split<;>omega
theorem VC(n:Nat):(if 20 < (n:Int) then (20:Int) else (n:Int))=((min 20 n:Nat):Int):=by split<;>omega
theorem VD(n:Nat):(if 40 < (n:Int) then (40:Int) else (n:Int))=((min 40 n:Nat):Int):=by split<;>omega
theorem yP{α:Type}(l:List α)(c:Nat):l.take (min c l.length)=l.take c:=by
 rcases Nat.le_total c l.length with h|h
 ·rw[Nat.min_eq_left h]
 ·rw[Nat.min_eq_right h,iM,sd h]
def Gm(o:gh):gh:=(o.1,o.2.1.take 20,o.2.2.1.take 40,o.2.2.2)
def lr(N:Nat)(l:List gh):List gh:=(l.take N).map Gm
theorem QM(l:List gh):((jZ l).all fun x=>x.cells.all jw)=true:=by simp[jZ,oI,gT,jw]
theorem Mz(N:Nat)(hN:N<=1000)(S:List gh)(hS:S.length<=f8):∀(d i:Nat),i+d=min N S.length ->
  Go qk aD 0 (fF 14) (.head 0 (BZ (jZ S) (N:Int) (i:Int) (jZ (lr i S)))) (.done (.fr 38 (jZ (lr N S))))
 |0,i,hi=>by
  have e:lr i S=lr N S:=by
   unfold lr;have:i=min N S.length:=by omega
   rw[this,yP]
  refine SG _ _ _ _ ?_ (.refl _);unfold J3;rw[tL,e]
  by_cases h:i < S.length
  ·rw[aW (by omega),aZ,bp (by omega),aP,aQ (QM _)]
  ·rw[bp (by omega),aP,aQ (QM _)]
 |d+1,i,hi=>by
  have bd:i < S.length:=by omega
  have h1:(jZ S)[i]? = aA (oI S[i]):=by simp[jZ,cj bd]
  have w:W .i64 ((i:Int)+1)=((i+1:Nat):Int):=by rw[bf (by omega)];omega
  have e:lr (i+1) S=lr i S++[Gm S[i]]:=by
   unfold lr;rw[FO,cj bd,gA];rfl
  have hl:(jZ (lr i S)).length<=1000:=by rw[tL];simp[lr];omega
  have:=Mz N hN S hS d (i+1) (by omega);rw[e]at this;refine SG _ _ _ _ ?_ this;unfold J3
  rw[tL,aW (by omega),aZ,aW (by omega),aZ,aQ (by simp),bi,cG h1,oI,zN,VC,VD,aQ (by simp),bi,aQ (aW (by omega)),aQ (by simp),bi,aQ (aW (by omega)),yP,yP,
   aQ (aW (by simp only[dp,fc];omega)),w]
  simp[jZ,oI,Gm]
theorem QX(l:List Pr)(hl:l.length<=1000000):∀(q:List Pr) (i:Nat),l.drop i=q->i<=l.length ->
  Go qk aD 0 (fF 23) (.head 0 (B4 (bn l) (bn l) (i:Int))) (.done (.bool aC))
 | [],i,hd,hi=>by
  have h1:=fT hd;refine S1 _ _ _ ?_ (.refl _);unfold Kl;rw[dv,bp (by omega),aP]
 |x::q,i,hd,hi=>by
  obtain⟨h1,h2,h3⟩:=ej hd;have w:W .i64 ((i:Int)+1)=((i+1:Nat):Int):=by rw[bf (by omega)];omega
  refine S1 _ _ _ ?_ (QX l hl q (i+1) h2 (by omega));unfold Kl;rw[dv,aW (by omega),aZ,aQ (by simp),bi,fE h1,fN,aQ (by simp),fE h1,fN,w];simp
theorem adu(l:List Pr)(hl:l.length<=1000000):bJ aI 23 [.sl (bn l),.sl (bn l)]=aA (.bool aC):=by
 refine Yr _ _ ?_ (QX l hl l 0 rfl (by omega));unfold Nz;rw[dA rfl,aP];rfl
def mH:Es:=[(0,[76,0,0,0,0])]
theorem ag5{n:Nat}(h:WT n 0 mH [] [(0,[],[])]):WF n 0 mH [] [(0,[],[])]:=⟨h,fun q=>gU rfl q,fun l hl=>by cases hl⟩
theorem Gp(s:Bs):bJ aI 63 [.str s]=aA (.str (s.take 16)):=by
 refine YQ _ ?_;unfold Hp;rw[VB,aQ (by simp),bi,aQ (aW (by omega)),yP]
theorem wt0:WT 30 0 mH [] [(0,[],[])]:=by
 refine⟨⟨by omega,by simp[mH,bB],by simp[mH,bB]⟩,?_,.leaf [(0,[],[])],by simp,⟨by unfold okF;decide,trivial⟩,by simp[lm]⟩;have:dY []++bW dM [(0,([],[]))] 0=mH:=by decide +kernel
 rw[this]
theorem wf0:WF 30 0 mH [] [(0,[],[])]:=ag5 wt0
def CY:jL:=⟨15,[.int .i64 (30)],[],(.ptr 4 0 0,[.row 5 [.int .u8 (1),.int .u8 (0),.int .u8 (0),.int .u8 (0)] 0,.box 192 (.agg [.tail 0 0,.int .i64 (30)]) aC,.map [(.int .i64 (0),.str [76,0,0,0,0])],.box 140 (.agg [.ptr 1 0 0,.mp 2]) aD,.box 128 (.agg [.ptr 3 0 0,.int .i64 (0)]) aD])⟩
theorem ZN:jM aI CY:=oD (fun _ h=>nomatch h:∀x∈([]:List jL),jM aI x) (fun _ h=>nomatch h:∀x∈([]:List (bL × List V × V)),wE aI x) 100 (by kernel_rfl)
theorem Va:cA aI aX 15 [.int .i64 30] []=aA (qZ (0,((30:Nat):Int),cX mH,cD 30 (br mH))):=by
 have h:lY aI 15 [.int .i64 30] []=aA CY.res:=ZN;unfold cA;rw[h];have e:cD 30 (br mH)=[.int .u8 1,.int .u8 0,.int .u8 0,.int .u8 0]:=by kernel_rfl
 rw[e];show aA (iP aX [] CY.res.1 CY.res.2)=aA (qZ (0,((30:Nat):Int),cX mH,[.int .u8 1,.int .u8 0,.int .u8 0,.int .u8 0]));kernel_rfl
def hS(w:Bool)(h:Bs)(a:Su):Su:=a.dropLast++(a.getLast?.toList.map fun x=>(x.1,bif w then h else x.2))
theorem oz(w:Bool)(h:Bs)(a:Su)(z:Int)(hz:Bs):hS w h (a++[(z,hz)])=a++[(z,bif w then h else hz)]:=by simp[hS]
theorem t6{α:Type}{a:List α}(h:a≠[]):∃a' x,a=a'++[x]:=by
 rcases gg a with h'|⟨l,x,h'⟩
 all_goals grind
theorem aaG(w:Bool)(h:Bs)(a:Su){b:Su}(hb:b≠[]):hS w h (a++b)=a++hS w h b:=by
 obtain⟨b',⟨z,hz⟩,rfl⟩:=t6 hb;rw[<-cO,oz,oz,cO]
theorem aaI(w:Bool)(h:Bs){a:Su}(ha:a≠[]):hS w h a≠[]:=by
 obtain⟨a',⟨z,hz⟩,rfl⟩:=t6 ha;rw[oz];simp
theorem aaH(h:Bs)(a:Su):hS aD h a=a:=by
 rcases gg a with rfl|⟨a',⟨z,hz⟩,rfl⟩
 ·rfl
 ·rw[i4,oz];rfl
theorem H8(w:Bool)(h:Bs){a:Su}(ha:a≠[]):bG (hS w h a)=bif w then h else bG a:=by
 obtain⟨a',⟨z,hz⟩,rfl⟩:=t6 ha;rw[oz,ja _ (by simp),ja _ (by simp)];rfl
def hI(w:Bool)(h:Bs)(l:IL):IL:=l.dropLast++(l.getLast?.toList.map fun x=>(x.1,hS w h x.2))
theorem z8(w:Bool)(h:Bs)(l:IL)(z:Int)(ez:Su):hI w h (l++[(z,ez)])=l++[(z,hS w h ez)]:=by simp[hI]
theorem aby(w:Bool)(h:Bs){l:IL}(hn:∀x∈l,x.2≠[]):bR (hI w h l)=hS w h (bR l):=by
 rcases gg l with rfl|⟨l',⟨z,ez⟩,rfl⟩
 ·rfl
 ·rw[i4]at hn |-
  have hz:ez≠[]:=hn (z,ez) (by simp);have e:bR (l'++[(z,ez)])=bR l'++ez:=by simp[bR]
  rw[z8,e,aaG _ _ _ hz];simp[bR]
theorem agv(w:Bool)(h:Bs){l:IL}(hn:∀x∈l,x.2≠[]):cI (hI w h l)=hS w h (cI l):=by
 rcases gg l with rfl|⟨l',⟨z,ez⟩,rfl⟩
 ·rfl
 ·rw[i4]at hn |-
  have hz:ez≠[]:=hn (z,ez) (by simp);have e:cI (l'++[(z,ez)])=cI l'++[(z,bG ez)]:=by simp[cI]
  rw[z8,e,oz];simp[cI,H8 w h hz]
def hF(w:Bool)(h:Bs)(b:LL):LL:=b.dropLast++(b.getLast?.toList.map fun x=>(x.1,x.2.1,bif w then h else x.2.2))
theorem xp(w:Bool)(h:Bs)(b:LL)(z:Int)(prs:List Pr)(hz:Bs):hF w h (b++[(z,prs,hz)])=b++[(z,prs,bif w then h else hz)]:=by simp[hF]
theorem agu(w:Bool)(h:Bs)(b:LL):df (hF w h b)=hS w h (df b):=by
 rcases gg b with rfl|⟨b',⟨z,prs,hz⟩,rfl⟩
 ·rfl
 ·have e:df (b'++[(z,prs,hz)])=df b'++[(z,hz)]:=by simp[df]
  rw[i4,xp,e,oz];simp[df]
theorem aaa(w:Bool)(h:Bs)(b:LL):bP (hF w h b)=bP b:=by
 rcases gg b with rfl|⟨b',⟨z,prs,hz⟩,rfl⟩
 ·rfl
 ·rw[i4,xp,pD,pD];simp[bP]
def vN{α:Type}(a:List (Int × α)):List Int:=a.getLast?.toList.map (·.1)
theorem yf{α:Type}(a:List (Int × α))(x:Int × α):vN (a++[x])=[x.1]:=by simp[vN]
abbrev Nd:=Int × Su × Int
def vk(l:IL)(nx:Int):List Nd:=l.getLast?.toList.map fun x=>(x.1,x.2,nx)
theorem vl(l:IL)(z:Int)(ez:Su)(nx:Int):vk (l++[(z,ez)]) nx=[(z,ez,nx)]:=by simp[vk]
def dC(w:Bool)(h:Bs)(zo gs:List Nd):List Nd:=List.zipWith (fun o g=>(o.1,hS w h o.2.1,g.2.2)) zo gs
def cx(l:List Nd):Es:=l.map fun z=>(z.1,cd z.2.1 z.2.2)
inductive Rm(r:Int):List IL->Int->Bs->Su->Su->List bh->Bool->List IL->List Nd->List Nd->Nd->Nd->Prop
 |one {up:List IL} {q p:Int} {h:Bs} {pre post:IL} {sts:List bh} {w:Bool} {up':List IL} {gs zo:List Nd} {xo X:Nd} :
  Rm r up q h (cI pre) (cI post) sts w up' gs zo xo X ->
  Rm r ((pre++(q,[(p,h)])::post)::up) p h (bR pre) (bR post) ((q,[(p,h)],cS post 0,0)::sts) w ((hI w h pre++post)::up') ((q,[(p,h)],cS post 0)::gs) (vk pre (q+1)++zo) xo X
 |left {up:List IL} {q p y:Int} {h hy:Bs} {e1 e2:Su} {pre post:IL} {sts:List bh} :
  kG r up q (bG (e1++(y,hy)::(p,h)::e2)) (cI pre) (cI post) sts ->
  Rm r ((pre++(q,e1++(y,hy)::(p,h)::e2)::post)::up) p h (bR pre++(e1++[(y,hy)])) (e2++bR post) ((q,e1++(y,hy)::(p,h)::e2,cS post 0,e1.length+1)::sts) aC
   ((pre++(q,e1++(y,h)::e2)::post)::up) [] [] (q,e1++(y,hy)::(p,h)::e2,cS post 0) (q,e1++(y,h)::e2,cS post 0)
 |first {up:List IL} {q p:Int} {h:Bs} {x:Int × Bs} {e2:Su} {pre post:IL} {sts:List bh} :
  kG r up q (bG ((p,h)::x::e2)) (cI pre) (cI post) sts ->
  Rm r ((pre++(q,(p,h)::x::e2)::post)::up) p h (bR pre) (x::e2++bR post) ((q,(p,h)::x::e2,cS post 0,0)::sts) aD
   ((pre++(q,x::e2)::post)::up) [] [] (q,(p,h)::x::e2,cS post 0) (q,x::e2,cS post 0)
theorem aeJ{r:Int}{up:List IL}{p:Int}{h:Bs}{a c:Su}{sts:List bh}(hp:kG r up p h a c sts)(hm:∃s∈sts,2<=s.2.1.length):∃w up' gs zo xo X,Rm r up p h a c sts w up' gs zo xo X:=by
 induction hp with
 |top=>grind
 |@st up q e1 p h e2 pre post sts hup ih =>
  rcases gg e1 with rfl|⟨e1',⟨y,hy⟩,rfl⟩
  ·cases e2 with
   |nil =>
    obtain⟨w,up',gs,zo,xo,X,hr⟩:=ih (by
     grind)
    have e1:bR pre++[]=bR pre:=fh _;rw[e1];exact⟨w,_,_,_,xo,X,.one hr⟩
   |cons x e2 =>
    have e1:bR pre++[]=bR pre:=fh _;rw[e1];exact⟨_,_,_,_,_,_,.first hup⟩
  ·rw[i4]at hup |-
   have e:e1'++[(y,hy)]++(p,h)::e2=e1'++(y,hy)::(p,h)::e2:=by simp
   have el:(e1'++[(y,hy)]).length=e1'.length+1:=by simp
   rw[e]at hup;rw[e,el];exact⟨_,_,_,_,_,_,.left hup⟩
theorem H7(e1:Su)(y:Int)(hy:Bs)(p:Int)(h:Bs)(e2:Su):bG (e1++(y,h)::e2)=bG (e1++(y,hy)::(p,h)::e2):=by
 rw[ja _ (by simp),ja _ (by simp),mN (y,hy) (by simp)];cases e2 with
 |nil=>rfl
 |cons x e2=>rw[mN (y,h) (by simp),mN (p,h) (by simp)]
section
variable {r:Int}{up:List IL}{p:Int}{h:Bs}{a c:Su}{sts:List bh}{w:Bool}{up':List IL}{gs zo:List Nd}{xo X:Nd}
theorem aeI(hr:Rm r up p h a c sts w up' gs zo xo X):(∀l∈up,∀x∈l,x.2≠[])->∀{d:List IL} {b:LL},Dn (hS w h a++c) d b->Dn [(r,[])] (up'.reverse++d) b:=by
 induction hr with
 |@one up q p h pre post sts w up' gs zo xo X _ ih =>
  intro hn d b hd;have hnp:∀x∈pre,x.2≠[]:=fun x hx=>hn _ (er ..) x (by grind)
  have ek:hS w h (bR pre)++bR post=bR (hI w h pre++post):=by rw[<-aby w h hnp];simp[bR]
  have es:cI (hI w h pre++post)=hS w h (cI pre)++cI post:=by rw[<-agv w h hnp];simp[cI]
  rw[ek]at hd;have hd:=Dn.inn _ _ _ hd;grind
 |@left up q p y h hy e1 e2 pre post sts hup =>
  intro hn d b hd
  have ek:hS aC h (bR pre++(e1++[(y,hy)]))++(e2++bR post)=bR (pre++(q,e1++(y,h)::e2)::post):=by
   rw[<-cO (bR pre),oz];simp[bR]
  rw[ek]at hd;have hd:=Dn.inn _ _ _ hd
  have es:cI (pre++(q,e1++(y,h)::e2)::post)=cI pre++(q,bG (e1++(y,hy)::(p,h)::e2))::cI post:=by
   rw[<-H7 e1 y hy p h e2];simp[cI]
  rw[es]at hd;have:=I6 hup hd;grind
 |@first up q p h x e2 pre post sts hup =>
  intro hn d b hd
  have ek:hS aD h (bR pre)++(x::e2++bR post)=bR (pre++(q,x::e2)::post):=by
   rw[aaH];simp[bR]
  rw[ek]at hd;have hd:=Dn.inn _ _ _ hd
  have es:cI (pre++(q,x::e2)::post)=cI pre++(q,bG ((p,h)::x::e2))::cI post:=by
   rw[mN _ (by simp)];simp[cI]
  rw[es]at hd;have:=I6 hup hd;grind
theorem PD{l:IL}(hn:∀x∈l,x.2≠[])(h:bR l=[]):l=[]:=by
 cases l with
 |nil=>rfl
 |cons x l =>
  rw[bR,nZ,ww]at h;grind
theorem Eh(hr:Rm r up p h a c sts w up' gs zo xo X):(∀l∈up,∀x∈l,x.2≠[])->(a=[]->zo=[])/\(a≠[]->zo.length=gs.length):=by
 induction hr with
 |@one up q p h pre post sts w up' gs zo xo X _ ih =>
  intro hn;have hnp:∀x∈pre,x.2≠[]:=fun x hx=>hn _ (er ..) x (by grind)
  obtain⟨h1,h2⟩:=ih fun l hl=>hn l (by grind)
  constructor
  ·intro ha;have:=PD hnp ha;subst this;rw[h1 rfl];rfl
  ·intro ha;rcases gg pre with rfl|⟨l,⟨z,ez⟩,rfl⟩
   ·exact gU rfl ha
   ·rw[i4]at h2 |-
    rw[vl];have:=h2 (by simp[cI]);grind
 |left _=>grind
 |first _=>grind
end
def gX(e:Su):List Bs:=e.dropLast.map (·.2)
theorem Jw:∀{l:List Bs} {p:Bs},eY p l=aC↔(∀s∈l,cg s=aC/\lt p s=aC)/\l.Pairwise fun a b=>lt a b=aC
 | [],p=>by simp[eY]
 |s::l,p=>by
  rw[eY,co,co,Jw (l:=l) (p:=s),iL];constructor
  ·rintro⟨⟨h1,h2⟩,h3,h4⟩;refine⟨fun x hx=>?_,fun x hx=>(h3 x hx).2,h4⟩;rcases dE.1 hx with rfl|hx
   ·grind
   ·exact⟨(h3 x hx).1,lt_trans h2 (h3 x hx).2⟩
  grind
structure oX(e:Su)(h:Bs):Prop where
 ne:e≠[]
 pg:∀x∈e,d6 x.1=aC
 key:∀s∈gX e,cg s=aC
 ri:(gX e).Pairwise fun a b=>lt a b=aC
 hi:h=[]∨(cg h=aC/\∀s∈gX e,lt s h=aC)
 sz:23+cW (gX e)<=252
theorem abB{l:List Bs}{h:Bs}(hk:cg h=aC)(ha:∀x∈l,lt x h=aC):lt (l.getLastD []) h=true:=by
 rcases gg l with rfl|⟨a,x,rfl⟩
 ·exact qV hk
 grind
theorem aa2{e:Su}{nx:Int}:(e≠[]/\bZ (aV e nx)=aC)↔oX e (bG e)/\0<=nx/\nx<=1024:=by
 rw[tR,uW];constructor
 ·rintro⟨hne,h1,h2,h3,h4,h5,h6,h7⟩;obtain⟨q1,q2⟩:=Jw.1 h3;refine⟨⟨hne,fun x hx=>h2 x.1 (ib.2 ⟨x,hx,rfl⟩),fun s hs=>(q1 s hs).1,q2,?_,h7⟩,h5,h6⟩;simp only[gk,nS,co]at h4;rcases h4 with h4|⟨h4,h8⟩
  ·grind
  ·refine .inr ⟨h4,fun s hs=>?_⟩;have hs:s∈e.dropLast.map (·.2):=hs;have q2:(e.dropLast.map (·.2)).Pairwise fun a b=>lt a b=true:=q2
   have h8:lt ((e.dropLast.map (·.2)).getLastD []) (bG e)=true:=h8;show lt s (bG e)=aC;generalize e.dropLast.map (·.2)=l at hs h8 q2;rcases gg l with rfl|⟨a,y,rfl⟩
   ·grind
   ·have e:(a.concat y).getLastD []=y:=by simp
    rw[e]at h8;rw[i4]at hs q2;rcases cz.1 hs with hs|hs
    ·exact lt_trans ((fJ.1 q2).2.2 s hs y (by simp)) h8
    grind
 ·rintro⟨o,h5,h6⟩;refine⟨o.ne,?_,?_,?_,?_,h5,h6,o.sz⟩
  ·have:=uy.2 o.ne;grind
  ·intro k hk;obtain⟨x,hx,rfl⟩:=ib.1 hk;exact o.pg x hx
  ·exact Jw.2 ⟨fun s hs=>⟨o.key s hs,qV (o.key s hs)⟩,o.ri⟩
  ·show gk ((gX e).getLastD []) (bG e)=aC;unfold gk;rcases o.hi with h|⟨hk,ha⟩
   ·grind
   ·rw[hk,abB hk ha];simp
theorem vJ{e:Su}{nx:Int}:okI e nx↔oX e (bG e)/\0<=nx/\nx<=1024:=aa2
theorem agw{a b:List Bs}(h:a.Sublist b):cW a<=cW b:=by
 induction h with
 |slnil=>grind
 |cons x _ ih=>rw[cW];omega
 |cons_cons x _ ih=>rw[cW,cW];omega
theorem Pi{e e':Su}{h:Bs}(o:oX e h)(hne:e'≠[])(hp:∀x∈e',∃y∈e,y.1=x.1)(hs:(gX e').Sublist (gX e)):oX e' h:=by
 refine⟨hne,fun x hx=>?_,fun s h=>o.key s (hs.subset h),o.ri.sublist hs,?_,?_⟩
 ·obtain⟨y,hy,e⟩:=hp x hx;rw[<-e];exact o.pg y hy
 ·rcases o.hi with h|⟨h1,h2⟩
  all_goals grind
 ·have:=agw hs;have:=o.sz;omega
theorem EU(a:Su)(x:Int × Bs)(b:Su):gX (a++x::b)=a.map (·.2)++gX (x::b):=by
 unfold gX;grind
theorem EV(x y:Int × Bs)(b:Su):gX (x::y::b)=x.2::gX (y::b):=rfl
theorem Tq(w:Bool)(h:Bs)(e:Su):gX (hS w h e)=gX e:=by
 rcases gg e with rfl|⟨e',⟨z,hz⟩,rfl⟩
 ·rfl
 ·rw[i4,oz,EU,EU];rfl
theorem afL(e:Su):(gX e).Sublist (e.map (·.2)):=List.Sublist.map _ (List.dropLast_sublist _)
theorem aa1{e:Su}(o:oX e (bG e)){w:Bool}{h:Bs}(hk:h=[]∨cg h=aC)(hl:∀x∈e,bd x.2 h):oX (hS w h e) (bG (hS w h e)):=by
 have hs:=Tq w h e;refine⟨aaI w h o.ne,?_,by rw[hs];exact o.key,by rw[hs];exact o.ri,?_,by rw[hs];exact o.sz⟩
 ·intro x hx;obtain⟨e',⟨z,hz⟩,rfl⟩:=t6 o.ne;rw[oz]at hx;rcases cz.1 hx with hx|hx
  ·exact o.pg x (by grind)
  ·have:x=(z,bif w then h else hz):=by grind
   rw[this];exact o.pg (z,hz) (by simp)
 ·rw[hs,H8 w h o.ne];cases w with
  |false=>exact o.hi
  |true =>
   show h=[]∨(cg h=aC/\∀s∈gX e,lt s h=aC);rcases hk with hk|hk
   ·grind
   ·refine .inr ⟨hk,fun s hs=>?_⟩;obtain⟨x,hx,rfl⟩:=ib.1 ((afL e).subset hs);exact(hl x hx).2.resolve_left (pM hk)
theorem aa3{e1:Su}{y:Int}{hy:Bs}{p:Int}{h:Bs}{e2:Su}{g:Bs}(o:oX (e1++(y,hy)::(p,h)::e2) g):oX (e1++(y,h)::e2) g:=by
 refine Pi o (by simp) ?_ ?_
 ·intro x hx;rcases cz.1 hx with hx|hx
  ·grind
  ·rcases dE.1 hx with rfl|hx
   ·exact⟨(y,hy),by simp,rfl⟩
   grind
 ·rw[EU,EU,EV];refine List.Sublist.append_left ?_ _;cases e2 with
  |nil=>exact List.nil_sublist _
  |cons x e2=>rw[EV,EV];grind
theorem aa0{p:Int}{h:Bs}{x:Int × Bs}{e2:Su}{g:Bs}(o:oX ((p,h)::x::e2) g):oX (x::e2) g :=
 Pi o (by simp) (fun z hz=>⟨z,by grind,rfl⟩) (by rw[EV];grind)
theorem aeN{r:Int}{up:List IL}{p:Int}{h:Bs}{a c:Su}{sts:List bh}{w:Bool}{up':List IL}{gs zo:List Nd}{xo X:Nd}(hr:Rm r up p h a c sts w up' gs zo xo X) :
  (∀l∈up,d0 okI l 0)->HP (a++(p,h)::c)->(h=[]∨cg h=aC)->∀l∈up',d0 okI l 0:=by
 induction hr with
 |@one up q p h pre post sts w up' gs zo xo X _ ih =>
  intro hI hP hk l hl;have h0:=hI _ (er ..);obtain⟨ok1,⟨ok3,ok2⟩⟩:=(gV _ _ _).1 h0;have ok2:d0 okI post 0:=ok2;rcases dE.1 hl with rfl|hl
  ·refine(gV _ _ _).2 ⟨?_,ok2⟩;rcases gg pre with rfl|⟨l',⟨z,ez⟩,rfl⟩
   ·trivial
   ·rw[i4]at ok1 hP |-
    rw[z8];obtain⟨k1,k2,_⟩:=(gV _ _ _).1 ok1;refine(gV _ _ _).2 ⟨k1,?_,trivial⟩;have o:=(vJ.1 k2).1;have hx:=(vJ.1 ok3).2;refine vJ.2 ⟨aa1 o hk fun x hx=>?_,hx⟩;have e:bR (l'++[(z,ez)])=bR l'++ez:=by simp[bR]
    rw[e]at hP;exact(fJ.1 hP).2.2 x (by grind) (p,h) (by simp)
  ·have e0:bR pre++(p,h)::bR post=bR (pre++(q,[(p,h)])::post):=by simp[bR]
   rw[e0]at hP;have:=Dd (mP h0) hP;have e':cI (pre++(q,[(p,h)])::post)=cI pre++(q,h)::cI post:=by simp[cI,bG]
   grind
 |@left up q p y h hy e1 e2 pre post sts hup =>
  intro hI hP hk l hl;have h0:=hI _ (er ..);obtain⟨ok1,⟨ok3,ok2⟩⟩:=(gV _ _ _).1 h0;rcases dE.1 hl with rfl|hl
  ·refine(gV _ _ _).2 ⟨ok1,?_,ok2⟩;have o:=vJ.1 ok3;refine vJ.2 ⟨?_,o.2⟩;rw[H7 e1 y hy p h e2];exact aa3 o.1
  grind
 |@first up q p h x e2 pre post sts hup =>
  intro hI hP hk l hl;have h0:=hI _ (er ..);obtain⟨ok1,⟨ok3,ok2⟩⟩:=(gV _ _ _).1 h0;rcases dE.1 hl with rfl|hl
  ·refine(gV _ _ _).2 ⟨ok1,?_,ok2⟩;have o:=vJ.1 ok3;refine vJ.2 ⟨?_,o.2⟩;have:=aa0 o.1
   rwa [mN _ (by simp)]at this
  grind
def c1(x a:Int × Bs):Nat:=if a=x then 1 else 0
def cn(x:Int × Bs):Es->Nat
 | []=>0
 |a::l=>c1 x a+cn x l
theorem kK(x:Int × Bs):∀(a b:Es),cn x (a++b)=cn x a+cn x b
 | [],b=>by simp[cn]
 |y::a,b=>by rw[ew,cn,cn,kK x a b];omega
theorem Gf(x:Int × Bs):∀l:Es,cn x l=l.count x
 | []=>rfl
 |a::l=>by
  rw[cn,Gf x l,List.count_cons,c1];grind
theorem k7{a b:Es}:a.Perm b↔∀x,cn x a=cn x b:=by
 rw[List.perm_iff_count];exact forall_congr' fun x=>by rw[Gf,Gf]
theorem lT(x a:Int × Bs)(l:Es):cn x (a::l)=c1 x a+cn x l:=rfl
theorem pw(x:Int × Bs):cn x []=0:=rfl
theorem oo(x:Nd)(l:List Nd):cx (x::l)=(x.1,cd x.2.1 x.2.2)::cx l:=rfl
theorem aeP{r:Int}{up:List IL}{p:Int}{h:Bs}{a c:Su}{sts:List bh}{w:Bool}{up':List IL}{gs zo:List Nd}{xo X:Nd}(hr:Rm r up p h a c sts w up' gs zo xo X) :
  (∀l∈up,∀x∈l,x.2≠[])->∃R,(dY up).Perm (cx zo++(cx gs++(cx [xo]++R)))/\(dY up').Perm (cx (dC w h zo gs)++(cx [X]++R)):=by
 induction hr with
 |@one up q p h pre post sts w up' gs zo xo X hr ih =>
  intro hn;obtain⟨R,h1,h2⟩:=ih fun l hl=>hn l (by grind)
  rw[k7]at h1 h2;rcases gg pre with rfl|⟨l,⟨z,ez⟩,rfl⟩
  ·have hz:=(Eh hr fun l hl=>hn l (by grind)).1 rfl;subst hz;refine⟨bW cd post 0++R,k7.2 fun x=>?_,k7.2 fun x=>?_⟩
   ·have h1:=h1 x;have e:dY (([]++(q,[(p,h)])::post)::up)=(q,cd [(p,h)] (cS post 0))::bW cd post 0++dY up:=rfl;have e2:vk [] (q+1)=[]:=rfl;rw[e,e2];simp only[kK,lT,oo,eA]at h1 |-
    omega
   ·have h2:=h2 x;have e:dY ((hI w h []++post)::up')=bW cd post 0++dY up':=rfl;have e2:dC w h (vk [] (q+1)++[]) ((q,[(p,h)],cS post 0)::gs)=[]:=rfl;have e3:dC w h [] gs=[]:=rfl;rw[e,e2];rw[e3]at h2;simp only[kK,lT,oo,eA]at h2 |-
    omega
  ·rw[i4];refine⟨bW cd l (z+1)++bW cd post 0++R,k7.2 fun x=>?_,k7.2 fun x=>?_⟩
   ·have h1:=h1 x
    have e:dY ((l++[(z,ez)]++(q,[(p,h)])::post)::up)=bW cd l (z+1)++(z,cd ez (q+1))::(q,cd [(p,h)] (cS post 0))::bW cd post 0++dY up:=by
     rw[oh,cO,lx];rfl
    rw[e,vl];simp only[kK,lT,oo,eA,ew]at h1 |-
    omega
   ·have h2:=h2 x
    have e:dY ((hI w h (l++[(z,ez)])++post)::up')=bW cd l (z+1)++(z,cd (hS w h ez) (cS post 0))::bW cd post 0++dY up':=by
     rw[z8,oh,cO,lx];rfl
    have e2:dC w h (vk (l++[(z,ez)]) (q+1)++zo) ((q,[(p,h)],cS post 0)::gs)=(z,hS w h ez,cS post 0)::dC w h zo gs:=by rw[vl];rfl
    rw[e,e2];simp only[kK,lT,oo,eA,ew]at h2 |-
    omega
 |@left up q p y h hy e1 e2 pre post sts hup =>
  intro hn;refine⟨bW cd pre (q+1)++bW cd post 0++dY up,?_,?_⟩
  ·rw[oh,lx,bW];show((bW cd pre (q+1)++_::bW cd post 0)++dY up).Perm (_::(bW cd pre (q+1)++bW cd post 0++dY up));grind
  ·rw[oh,lx,bW];show((bW cd pre (q+1)++_::bW cd post 0)++dY up).Perm (_::(bW cd pre (q+1)++bW cd post 0++dY up));grind
 |@first up q p h x e2 pre post sts hup =>
  intro hn;refine⟨bW cd pre (q+1)++bW cd post 0++dY up,?_,?_⟩
  ·rw[oh,lx,bW];show((bW cd pre (q+1)++_::bW cd post 0)++dY up).Perm (_::(bW cd pre (q+1)++bW cd post 0++dY up));grind
  ·rw[oh,lx,bW];show((bW cd pre (q+1)++_::bW cd post 0)++dY up).Perm (_::(bW cd pre (q+1)++bW cd post 0++dY up));grind
abbrev pu(n r:Nat):Int:=W .u8 (((BitVec.ofInt (IntKind.bits .u8) (n:Int) &&& ~~~(BitVec.ofInt (IntKind.bits .u8) (r:Int))).toNat:Int))
theorem VO:∀b0 b1 b2 b3 b4 b5 b6 b7:Bool,
  pu (eu b0 b1 b2 b3 b4 b5 b6 b7) 1=(eu aD b1 b2 b3 b4 b5 b6 b7:Nat)/\pu (eu b0 b1 b2 b3 b4 b5 b6 b7) 2=(eu b0 aD b2 b3 b4 b5 b6 b7:Nat)/\pu (eu b0 b1 b2 b3 b4 b5 b6 b7) 4=(eu b0 b1 aD b3 b4 b5 b6 b7:Nat)/\pu (eu b0 b1 b2 b3 b4 b5 b6 b7) 8=(eu b0 b1 b2 aD b4 b5 b6 b7:Nat) /\
  pu (eu b0 b1 b2 b3 b4 b5 b6 b7) 16=(eu b0 b1 b2 b3 aD b5 b6 b7:Nat)/\pu (eu b0 b1 b2 b3 b4 b5 b6 b7) 32=(eu b0 b1 b2 b3 b4 aD b6 b7:Nat)/\pu (eu b0 b1 b2 b3 b4 b5 b6 b7) 64=(eu b0 b1 b2 b3 b4 b5 aD b7:Nat)/\pu (eu b0 b1 b2 b3 b4 b5 b6 b7) 128=(eu b0 b1 b2 b3 b4 b5 b6 false:Nat):=by decide +kernel
theorem Vp(f:Nat->Bool)(i:Nat):pu (mC f (i / 8)) (2 ^ (i % 8))=(mC (e9 f i aD) (i / 8):Nat):=by
 obtain⟨j,k,hk,e,e1,e2⟩:=IF i;rw[e1,e2,e];have h:=VO (f (8 * j)) (f (8 * j+1)) (f (8 * j+2)) (f (8 * j+3)) (f (8 * j+4)) (f (8 * j+5)) (f (8 * j+6)) (f (8 * j+7));obtain⟨h0,h1,h2,h3,h4,h5,h6,h7⟩:=h
 have u:∀m,e9 f (8 * j+k) aD (8 * j+m)=if m=k then aD else f (8 * j+m):=by
  intro m;unfold e9;grind
 have u0:=u 0;rw[fL]at u0;unfold mC;grind
theorem aaE(n:Nat)(hn:n<=1024)(f:Nat->Bool)(i:Nat)(hi:i < n)(hf:f i=aC):cA aI aX 174 [.ptr 0 0 0,.int .i64 (i:Int)] (bm n (cD n f))=aA (Ar (0,n,cD n (e9 f i aD))):=by
 refine XQ _ _ _ (o:=.doneM (.int .i64 0) (bm n (cD n (e9 f i aD)))) ?_ (.done (by kernel_rfl));unfold Nn;have his:kV n f (i:Int)=true:=by unfold kV;grind
 rw[aW (show(i:Int) ≥ 0 by omega),aZ,aW (show(i:Int) < (n:Int) by omega),bK,aP,cY xL (xx n hn f i),cF,his,bK,aP,
  KY i (by omega),bi,aQ (aW (by omega)),aQ (aW (by rw[wU];omega)),fY,cG (wT f (by omega)),bF,aN (F6 i),bF,aQ (aW (by omega)),aQ (aW (by rw[wU];omega)),cG (wT f (by omega)),bF]
 have:=Vp f i;simp only[pu]at this;rw[this,L5 f aD hi]
theorem MG{p:Int}:∀{es:Es},(bB es).Nodup->∀q,q∈bB (fO es p)↔q∈bB es/\q≠p
 | [],_,q=>by simp[fO,bB]
 |(a,x)::es,hn,q=>by
  have hn:=o5.1 hn;rw[fO]
  by_cases h:p=a
  ·subst h;rw[aU rfl];constructor
   ·intro hq;exact⟨y6 _ hq,fun e=>hn.1 (e ▸ hq)⟩
   ·rintro⟨h1,h2⟩;rcases dE.1 h1 with h1|h1
    ·grind
    ·exact h1
  ·rw[aY h];have ih:=MG (p:=p) hn.2 q;show q∈a::bB (fO es p)↔q∈a::bB es/\q≠p;grind
theorem Gt{p:Int}:∀{es:Es},(bB (fO es p)).Sublist (bB es)
 | []=>.slnil
 |(a,x)::es=>by
  rw[fO];split
  ·exact(List.Sublist.refl _).cons _
  ·exact(Gt (es:=es)).cons_cons _
theorem EW{n:Nat}{es:Es}(h:cP n es)(p:Int):cP n (fO es p) :=
 ⟨h.le,h.nd.sublist Gt,fun q hq=>h.rng q (Gt.subset hq)⟩
theorem OX{n:Nat}{es:Es}(h:cP n es){p:Int}(hp:p∈bB es):cA aI aX 127 [.ptr 0 0 0,.int .i64 p] (sM n es)=aA (xK (0,n,cX (fO es p),cD n (br (fO es p)))):=by
 have hr:=h.rng p hp;obtain⟨k,rfl⟩:∃k:Nat,p=(k:Int):=⟨p.toNat,by omega⟩
 have ht:br (fO es k)=e9 (br es) k false:=by
  funext j;unfold e9 br;have:=MG (p:=(k:Int)) h.nd (j:Int);grind
 rw[ht];refine Xd _ _ _ _ (o:=.doneM (.int .i64 0) (sm n (cX (fO es k)) (cD n (e9 (br es) k aD)))) ?_ (.done (by kernel_rfl));unfold M5;rw[cH acw (aaE n h.le (br es) k (by omega) (by unfold br;grind)),db rfl,aZ,Qc,iT]
inductive lR(n:Nat):Int->Es->Int->Es->Prop
 |leaf {r:Int} {es:Es} {l:Lf} (hs:cP n es) (hg:cT es r=aA (bq l)) (hr:cK l=aC):lR n r es r es
 |stop {r:Int} {es:Es} {e:Su} {nx:Int} (hs:cP n es) (hg:cT es r=aA (cv (aV e nx))) (hr:bZ (aV e nx)=aC) (h2:2<=e.length):lR n r es r es
 |one {r:Int} {es:Es} {k:Int} {h:Bs} {nx r':Int} {es':Es} (hs:cP n es) (hg:cT es r=aA (cv (aV [(k,h)] nx))) (hr:bZ (aV [(k,h)] nx)=aC):lR n k (fO es r) r' es'->lR n r es r' es'
theorem afU{n:Nat}{r:Int}{es:Es}{r':Int}{es':Es}(h:lR n r es r' es'):Go qk aC 5 (fF 128) (.head 0 (BU r n (cX es) (cD n (br es)))) (.doneM (.tup []) (tM r' n es')):=by
 induction h with
 |@leaf r es l hs hg hr =>
  refine JY _ _ _ _ ?_ (.refl _);unfold Ez;rw[yl hs hg hr,cF]
 |@stop r es e nx hs hg hr h2 =>
  refine JY _ _ _ _ ?_ (.refl _);unfold Ez;rw[vT hs hg hr,cF];show(cond (decide (((aS (e.map (·.1))).length:Int) > 1)) _ _)=_;rw[aW (by rw[cy,d9];omega),aZ]
 |@one r es k h nx r' es' hs hg hr _ ih =>
  refine JY _ _ _ _ ?_ ih;unfold Ez;rw[vT hs hg hr,cF,bp (by rw[cy];simp),aP,cH Qm (OX hs (fB hg))];rfl
theorem afT{n:Nat}{r:Int}{es:Es}{r':Int}{es':Es}(h:lR n r es r' es'):cA aI aX 128 [.ptr 0 0 0] (tM r n es)=aA (Am (r',n,cX es',cD n (br es'))) :=
 Xf _ _ _ _ rfl ⟨_,_,afU h,by kernel_rfl⟩
theorem Tx{n:Nat}:∀{ups:List IL} {r:Int} {es:Es} {b:LL},WT n r es ups b->(∀x∈b,x.2.1≠[])->∃r' es' ups',lR n r es r' es'/\WF n r' es' ups' b
 | [],r,es,b,h,hne=>by
  have e:=pz h.dn
  obtain⟨prs,rfl⟩:∃prs,b=[(r,prs,[])]:=by
   match b,e with
   | [(p,prs,hh)],e =>
    simp[df]at e;grind
   | [],e=>simp[df]at e
   |_::_::_,e=>simp[df]at e
  have hr:cK ⟨prs,[],0⟩=true:=h.okF.1;have hg:cT es r=aA (bq ⟨prs,[],0⟩):=i9 h.shf.nd (h.rep.mem_iff.2 (by simp[bW,dM,cS]));exact⟨r,es,[],.leaf h.shf hg hr,h,fun q=>gU rfl q,fun l hl=>by grind⟩
 |l::d,r,es,b,h,hne=>by
  obtain⟨e,hd⟩:=oc h.dn
  obtain⟨q,rfl,hq⟩:∃q,l=[(r,q)]/\bG q=[]:=by
   match l,e with
   | [(p,q)],e =>
    simp[cI]at e;grind
   | [],e=>simp[cI]at e
   |_::_::_,e=>simp[cI]at e
  have ho:=h.okI _ (er ..);obtain⟨hqn,hr⟩:okI q 0:=ho.1;have hat:es.Perm ((r,cd q 0)::(dY d++bW dM b 0)):=h.rep;have hg:cT es r=aA (cv (aV q 0)):=mL h.shf.nd hat
  by_cases h2:2<=q.length
  ·refine⟨r,es,_,.stop h.shf hg hr h2,h,fun _=>hne,?_⟩;intro l hl x hx;grind
  ·obtain⟨k,hk,rfl⟩:∃k hk,q=[(k,hk)]:=by
    match q,hqn,h2 with
    | [(k,hk)],_,_=>grind
    |_::_::_,_,h2=>grind
   have e0:hk=[]:=hq;subst e0;have hd':Dn [(k,[])] d b:=hd;have hw:WT n k (fO es r) d b:=⟨EW h.shf r,CC h.shf.nd hat,hd',fun l hl=>h.okI l (by grind),h.okF,h.ord⟩
   obtain⟨r',es',ups',h1,h3⟩:=Tx hw hne;exact⟨r',es',ups',.one h.shf hg hr h1,h3⟩
theorem Tw{α:Type}(a:List α)(x y:α)(b:List α){n:Nat}(h:n=a.length):(a++x::b).set n y=a++y::b:=by
 simp_all
theorem OW{α:Type}(a:List α)(x:α)(b:List α){n:Nat}(h:n=a.length):(a++x::b)[n]? = aA x:=by
 grind
theorem aeq:∀(d:Nat) (M A B:List Int),M.length<=d->A.length+M.length+B.length<=100000->∀{i j:Int},i=A.length->j=(A.length:Int)+M.length - 1 ->
  Go qk aC 1 (fF 169) (.head 0 (zr i j (aS (A++(M++B))))) (.doneM (.tup []) [aM 3 (aS (A++(M.reverse++B))) 0]):=by
 have fin:∀(M A B:List Int),M.length<=1->∀{i j:Int},i=A.length->j=(A.length:Int)+M.length - 1 ->
   Go qk aC 1 (fF 169) (.head 0 (zr i j (aS (A++(M++B))))) (.doneM (.tup []) [aM 3 (aS (A++(M.reverse++B))) 0]):=by
  intro M A B hM i j hi hj
  have e:M.reverse=M:=by
   match M,hM with
   | [],_=>rfl
   | [_],_=>rfl
  rw[e];refine SK _ _ _ ?_ (.refl _);unfold Ka;grind
 intro d
 induction d with
 |zero=>grind
 |succ d ih =>
  intro M A B hM hl i j hi hj
  by_cases h1:M.length<=1
  ·grind
  obtain⟨x,M1,rfl⟩:∃x M1,M=x::M1:=by
   match M,h1 with
   |x::M1,_=>grind
   | [],h=>grind
  have hne:M1≠[]:=by grind
  obtain⟨M2,y,rfl⟩:=t6 hne;simp only[dp,eV,fc]at hM hl hj h1;have eL:A++(x::(M2++[y])++B)=A++x::(M2++y::B):=by simp
  have eL2:A++x::(M2++y::B)=(A++x::M2)++y::B:=by simp
  have eR:A++((x::(M2++[y])).reverse++B)=(A++[y])++(M2.reverse++(x::B)):=by simp
  have eN:(A++[y])++(M2++(x::B))=A++y::(M2++x::B):=by simp
  have eN2:A++y::(M2++x::B)=(A++y::M2)++x::B:=by simp
  have eM2:A++y::(M2++y::B)=(A++y::M2)++y::B:=by simp
  have w1:W .i64 (i+1)=i+1:=bf (by omega);have w2:W .i64 (j - 1)=j - 1:=bf (by omega);have ih:=ih M2 (A++[y]) (x::B) (by omega) (by grind) (i:=i+1) (j:=j - 1) (by grind) (by grind);rw[eR,eL];rw[eN]at ih;refine SK _ _ _ ?_ ih;have hiN:i.toNat=A.length:=by omega
  have hjN:j.toNat=(A++x::M2).length:=by grind
  have hjN2:j.toNat=(A++y::M2).length:=by grind
  have g1:(A++x::(M2++y::B))[j.toNat]? = aA y:=by rw[eL2];exact OW _ _ _ hjN
  have g2:(A++x::(M2++y::B))[i.toNat]? = aA x:=OW _ _ _ hiN;have g3:(A++y::(M2++y::B))[j.toNat]? = aA y:=by grind
  have st1:(A++x::(M2++y::B)).set i.toNat y=A++y::(M2++y::B):=Tw _ _ _ _ hiN;have st2:(A++y::(M2++y::B)).set j.toNat x=A++y::(M2++x::B):=by rw[eM2,Tw _ _ _ _ hjN2,eN2]
  have l1:j.toNat < (aS (A++x::(M2++y::B))).length:=by rw[cy];grind
  have l2:i.toNat < (aS (A++x::(M2++y::B))).length:=by grind
  have l3:j.toNat < (aS (A++y::(M2++y::B))).length:=by rw[cy];grind
  unfold Ka
  rw[aW (by omega),aZ,aQ (aW (by omega)),aQ (aW l1),iq g1,bF,aQ (aW (by omega)),aQ (aW l2),iq g2,bF,aQ (aW (by omega)),aQ (aW l2),iq g2,bF,
   Pp,st1,aQ (aW (by omega)),aQ (aW l3),iq g3,bF,Pp,st2,w1,w2]
theorem aep(l:List Int)(hl:l.length<=100000):cA aI aX 169 [.own 0] [aM 3 (aS l) 0]=aA (Aq (aS l.reverse)):=by
 have w:W .i64 (((aS l).length:Int) - 1)=(l.length:Int) - 1:=by rw[cy,bf (by omega)]
 have:=aeq l.length l [] [] (c7 _) (by grind) (i:=0) (j:=(l.length:Int) - 1) rfl (by simp);simp only[eA,fh]at this;refine XP _ ?_ ⟨_,_,this,by kernel_rfl⟩;unfold Nm;rw[w]
inductive mg(es:Es):List bh->List Int->Prop
 |nil:mg es [] []
 |stop {q:Int} {e:Su} {nx:Int} {i:Nat} {sts:List bh} {y:Int} (hr:bZ (aV e nx)=aC) (hi:0 < i) (hy:(aV e nx).kids[i - 1]? = aA y):mg es ((q,e,nx,i)::sts) [y]
 |none {q:Int} {e:Su} {nx:Int} {sts:List bh}:mg es sts []->mg es ((q,e,nx,0)::sts) []
 |down {q:Int} {e:Su} {nx:Int} {sts:List bh} {z:Int} {zs:List Int} {ez:Su} {nz y:Int} {hy:Bs}:mg es sts (z::zs)->cT es z=aA (cv (aV (ez++[(y,hy)]) nz))->bZ (aV (ez++[(y,hy)]) nz)=aC->mg es ((q,e,nx,0)::sts) (y::z::zs)
theorem LJ{es:Es}{sts:List bh}{out:List Int}(h:mg es sts out):out.length<=sts.length:=by
 induction h with
 |nil=>simp
 |stop=>simp
 |none=>simp
 |down _ _ _ ih=>grind
theorem KU{Q D:List bh}{x:bh}{sts:List bh}(h:Q=(x::sts).reverse++D):(gz Q)[sts.length]? = aA (mf x):=by
 have:Q=sts.reverse++x::D:=by grind
 rw[this];unfold gz;grind
theorem qS{l:List V}{i:Nat}{x:bh}{k:V->R}(h:l[i]? = aA (mf x)):bl l i k=k (mf x):=cG h
section
variable {n:Nat}{r:Int}{es:Es}{lv:Int}
theorem LK(hS:cP n es)(Q:List bh)(hW:Q.length<=10000):∀(sts:List bh),mg es sts []->∀D,Q=sts.reverse++D ->
  Go qk aC 5 (fF 124) (.head 0 (zj (gz Q) lv ((sts.length:Int) - 1) r n (cX es) (cD n (br es)))) (.doneM (.own 6) (tM r n es++[aM 3 [] 0,aM 3 [] 0]))
 | [],_,D,_=>by
  refine Ey _ _ _ _ _ _ _ ?_ (.refl _);unfold AY;grind
 |x::sts,h,D,hd=>by
  cases h with
  |@none q e nx _ h =>
   have hst:mf (q,e,nx,0) = .agg [.int .i64 q,.sl (bg (aV e nx).seps),.sl (aS (aV e nx).kids),.str (bG e),.int .i64 nx,.int .i64 ((0:Nat):Int)]:=rfl;have hl:sts.length+1+D.length=Q.length:=by grind
   have hx:=KU hd;have w:W .i64 (((((q,e,nx,0)::sts:List bh)).length:Int) - 1 - 1)=(sts.length:Int) - 1:=by rw[bf (by grind)];simp
   have ih:=LK hS Q hW sts h ((q,e,nx,0)::D) (by grind);refine Ey _ _ _ _ _ _ _ ?_ ih;unfold AY;have ei:(((((q,e,nx,0)::sts:List bh)).length:Int) - 1).toNat=sts.length:=by simp
   rw[aW (by simp),aZ,aQ rfl,ei,qS hx,hst,oa,db (show((0:Nat):Int)=0 from rfl),aZ,w]
theorem LM(hS:cP n es)(Q:List bh)(hW:Q.length<=10000){o:dR}:∀(sts:List bh) (y:Int) (out:List Int),mg es sts (y::out)->∀D,Q=sts.reverse++D->∀m,m+sts.length=Q.length+out.length ->
  Go qk aC 5 (fF 124) (.head 1 (wH lv y (m:Int) (out.length:Int) r n (cX es) (cD n (br es)) (aS (y::out).reverse))) o ->
  Go qk aC 5 (fF 124) (.head 0 (zj (gz Q) lv ((sts.length:Int) - 1) r n (cX es) (cD n (br es)))) o
 |x::sts,y,out,h,D,hd,m,hm,hg=>by
  have hl:sts.length+1+D.length=Q.length:=by grind
  have hx:=KU hd;cases h with
  |@stop q e nx i _ _ hr hi hy =>
   have hst:mf (q,e,nx,i) = .agg [.int .i64 q,.sl (bg (aV e nx).seps),.sl (aS (aV e nx).kids),.str (bG e),.int .i64 nx,.int .i64 ((i:Nat):Int)]:=rfl;have w0:W .i64 (((gz Q).length:Int) - 1)=(Q.length:Int) - 1:=by rw[t8,bf (by omega)]
   have w1:W .i64 ((Q.length:Int) - 1 - (((((q,e,nx,i)::sts:List bh)).length:Int) - 1))=(m:Int):=by rw[bf (by grind)];grind
   have w2:W .i64 ((i:Int) - 1)=((i - 1:Nat):Int):=by
    have:=(bX.1 hy).1;have:=(gF hr).kids;rw[bf (by omega)];omega
   refine Ey _ _ _ _ _ _ _ ?_ hg;unfold AY;have ei:(((((q,e,nx,i)::sts:List bh)).length:Int) - 1).toNat=sts.length:=by simp
   rw[aW (by simp),aZ,aQ rfl,ei,qS hx,hst,oa,dH (by omega),aP,bp (by simp),aP,aQ rfl,qS hx,hst,oa,aQ rfl,qS hx,hst,oa,
    w2,aQ (by simp),bi,iq hy,bF,w0,w1]
   rfl
  |@down q e nx _ z zs ez nz _ hy h hg2 hr =>
   have hst:mf (q,e,nx,0) = .agg [.int .i64 q,.sl (bg (aV e nx).seps),.sl (aS (aV e nx).kids),.str (bG e),.int .i64 nx,.int .i64 ((0:Nat):Int)]:=rfl;have w:W .i64 (((((q,e,nx,0)::sts:List bh)).length:Int) - 1 - 1)=(sts.length:Int) - 1:=by rw[bf (by grind)];simp
   have hlen:=LJ h;simp only[dp]at hlen hm;have ih:=LM hS Q hW (o:=o) sts z zs h ((q,e,nx,0)::D) (by grind) m (by omega) ?_
   ·refine Ey _ _ _ _ _ _ _ ?_ ih;unfold AY;have ei:(((((q,e,nx,0)::sts:List bh)).length:Int) - 1).toNat=sts.length:=by simp
    rw[aW (by simp),aZ,aQ rfl,ei,qS hx,hst,oa,db (show((0:Nat):Int)=0 from rfl),aZ,w]
   ·have ek:(aV (ez++[(y,hy)]) nz).kids=ez.map (·.1)++[y]:=by simp
    have hkl:(aS (aV (ez++[(y,hy)]) nz).kids).length=ez.length+1:=by rw[ek,cy];simp
    have hez:ez.length<=1000:=by
     have:=(gF hr).kids;grind
    have w3:W .i64 (((ez.length+1:Nat):Int) - 1)=((ez.length:Nat):Int):=by rw[bf (by omega)];omega
    have w4:W .i64 ((zs.length:Int)+1)=((z::zs).length:Int):=by rw[bf (by omega)];simp
    have hyk:(aV (ez++[(y,hy)]) nz).kids[ez.length]? = aA y:=by grind
    refine SB _ _ _ _ _ _ _ _ _ ?_ hg;unfold JX;rw[aW (by omega),aZ,vT hS hg2 hr,cF,hkl,w3,aQ (by simp),bi,iq hyk,bF,aQ (aW (by rw[cy];grind)),w4];simp[aS]
end
theorem Vz{c m:List O}{id off len:Nat}{e:aO}{els:List V}{fz:Nat}(hm:m[id]? = aA (.row e els fz))(h:off+len<=els.length) :
  iP aX c (.win id off len) m=uN aX.row (dZ c) (List.range' (dZ c) (c.length - dZ c)) c c (.sl ((els.drop off).take len)) (freezeAll [id] m):=by
 unfold iP rH;simp[KG,A9,f9,dy,hm,aU h,v6,jb,s7]
theorem UP{n:Nat}{r:Int}{es:Es}(hS:cP n es)(Q:List bh)(hW:Q.length<=10000){out:List Int}(h:mg es Q.reverse out)(lv:Nat)(hlv:lv<=10000) :
  cA aI aX 124 [.ptr 0 0 0,.sl (gz Q),.int .i64 (lv:Int)] (tM r n es)=aA (xJ (tM r n es) (aS (out.take lv))):=by
 have w0:W .i64 (((gz Q).length:Int) - 1)=((Q.reverse.length:Nat):Int) - 1:=by rw[t8,bf (by omega)];simp
 have hol:=LJ h;rw[wy]at hol;cases out with
 |nil =>
  have:=LK (lv:=(lv:Int)) (r:=r) hS Q hW Q.reverse h [] (by simp);refine M4 _ _ _ _ _ _ ?_ ⟨_,_,this,by rw[List.take_nil];kernel_rfl⟩;unfold GK;rw[w0]
 |cons y out =>
  have hg:∃mm,Go qk aC 5 (fF 124) (.head 1 (wH lv y (out.length:Int) (out.length:Int) r n (cX es) (cD n (br es)) (aS (y::out).reverse))) (.doneM (V.win 6 0 (min (out.length+1) lv - 0)) mm)/\mm=tM r n es++[aM 3 [] 0,aM 3 (aS (y::out)) 0]:=by
   refine⟨_,SB _ _ _ _ _ _ _ _ _ ?_ (.refl _),rfl⟩;unfold JX;have:=aep (y::out).reverse (by grind);rw[BA]at this
   have em:(if (((y::out).length:Nat):Int) < (lv:Int) then (((y::out).length:Nat):Int) else (lv:Int))=((min (out.length+1) lv:Nat):Int):=by
    grind
   rw[bp (by omega),aP,cH acv this,aQ (mS _),cy,em,aQ (by simp),bi,aQ (aW (by grind))]
  obtain⟨mm,hg,rfl⟩:=hg;have:=LM hS Q hW (lv:=lv) (r:=r) Q.reverse y out h [] (by simp) out.length (by grind) hg
  have et:(y::out).take lv=((y::out).drop 0).take (min (out.length+1) lv - 0):=by
   grind
  have et2:aS ((y::out).take lv)=((aS (y::out)).drop 0).take (min (out.length+1) lv - 0):=by rw[et];simp[aS,List.map_take]
  rw[et2];refine M4 _ _ _ _ _ _ ?_ ⟨_,_,this,(Vz (e:=3) (els:=aS (y::out)) (fz:=0) rfl (by rw[cy,dp];omega)).trans (by kernel_rfl)⟩;unfold GK;rw[w0]
def dD(es:Es)(l:Es):Es:=l.foldl (fun e x=>bD e x.1 x.2) es
def oy(es:Es)(l:List Int):Es:=l.foldl fO es
theorem Fu:∀{L L':Es} {es R:Es},(bB es).Nodup->es.Perm (L++R)->bB L=bB L'->(dD es L').Perm (L'++R)/\(bB (dD es L')).Nodup
 | [],[],es,R,hn,h,_=>⟨h,hn⟩
 |(a,x)::L,[],_,_,_,_,e=>by simp[bB]at e
 | [],(a,x)::L,_,_,_,_,e=>by simp[bB]at e
 |(a,x)::L,(a',y)::L',es,R,hn,h,e=>by
  have e:a::bB L=a'::bB L':=e;obtain⟨rfl,e2⟩:=List.cons.inj e;have hp:=j6 (b':=y) hn h;have hk:bB (bD es a y)=bB es:=yj (gp h);have:=Fu (L:=L) (L':=L') (es:=bD es a y) (R:=(a,y)::R) (by grind) (hp.trans List.perm_middle.symm) e2;exact⟨this.1.trans y7,this.2⟩
theorem EY{n:Nat}:∀{L L':Es} {es R:Es},cP n es->es.Perm (L++R)->bB L=bB L'->cP n (dD es L')
 | [],[],es,R,hs,h,_=>hs
 |(a,x)::L,[],_,_,_,_,e=>by simp[bB]at e
 | [],(a,x)::L,_,_,_,_,e=>by simp[bB]at e
 |(a,x)::L,(a',y)::L',es,R,hs,h,e=>by
  have e:a::bB L=a'::bB L':=e;obtain⟨rfl,e2⟩:=List.cons.inj e;exact EY (L:=L) (L':=L') (es:=bD es a y) (R:=(a,y)::R) (iY hs (gp h)) ((j6 (b':=y) hs.nd h).trans List.perm_middle.symm) e2
theorem H3{n:Nat}:∀{G:Es} {es R:Es},cP n es->es.Perm (G++R)->(oy es (bB G)).Perm R/\cP n (oy es (bB G))
 | [],es,R,hs,h=>⟨h,hs⟩
 |(a,x)::G,es,R,hs,h=>H3 (G:=G) (es:=fO es a) (EW hs a) (CC hs.nd h)
theorem Wu(e1:Su)(y:Int)(hy:Bs)(p:Int)(h:Bs)(e2:Su)(nx:Int):sQ (aV (e1++(y,hy)::(p,h)::e2) nx) (e1.length+1)=aV (e1++(y,h)::e2) nx:=by
 unfold sQ aV;have hl:(e1.map (·.2)).length=e1.length:=by simp
 have hd:((e1++(y,hy)::(p,h)::e2).dropLast.map (·.2))=e1.map (·.2)++hy::gX ((p,h)::e2):=by
  rw[CG];simp[gX,List.dropLast]
 have hd2:((e1++(y,h)::e2).dropLast.map (·.2))=e1.map (·.2)++gX ((y,h)::e2):=by
  rw[CG];simp[gX]
 have hse:gX ((y,h)::e2)=gX ((p,h)::e2):=by
  simp_all
 have hk:(e1++(y,hy)::(p,h)::e2).map (·.1)=(e1.map (·.1)++[y])++p::e2.map (·.1):=by simp
 have hkl:(e1.map (·.1)++[y]).length=e1.length+1:=by simp
 refine congr (congr (congr (ef bV.mk ?_) ?_) (H7 e1 y hy p h e2).symm) rfl
 ·rw[hd,hd2,hse,Nat.add_sub_cancel,Bf _ _ hl,show e1.map (·.2)++hy::gX ((p,h)::e2)=(e1.map (·.2)++[hy])++gX ((p,h)::e2) by simp,CE _ _ (by simp)]
 ·rw[hk,Bf _ _ hkl,show(e1.map (·.1)++[y])++p::e2.map (·.1)=(e1.map (·.1)++[y,p])++e2.map (·.1) by simp,CE _ _ (by simp)];simp
theorem Wt(p:Int)(h:Bs)(x:Int × Bs)(e2:Su)(nx:Int):sQ (aV ((p,h)::x::e2) nx) 0=aV (x::e2) nx:=by
 unfold sQ aV;refine congr (congr (congr (ef bV.mk ?_) ?_) (mN (p,h) (by simp))) rfl
 all_goals grind
structure LB(sts:List bh)(w:Bool)(gs:List Nd)(xo X:Nd)(h:Bs)(ss:List bh)(xi:Nat)(rest:List bh):Prop where
 fst:sts=ss++(xo.1,xo.2.1,xo.2.2,xi)::rest
 fgs:gs=ss.map fun s=>(s.1,s.2.1,s.2.2.1)
 one:∀s∈ss,s.2.1.length=1
 hi:∀g∈gs,bG g.2.1=h
 two:2<=xo.2.1.length
 fw:w=decide ((xi:Int) > 0)
 pg:X.1=xo.1
 lti:xi < xo.2.1.length
 del:sQ (aV xo.2.1 xo.2.2) xi=aV X.2.1 X.2.2
theorem aeQ{r:Int}{up:List IL}{p:Int}{h:Bs}{a c:Su}{sts:List bh}{w:Bool}{up':List IL}{gs zo:List Nd}{xo X:Nd}(hr:Rm r up p h a c sts w up' gs zo xo X):∃ss xi rest,LB sts w gs xo X h ss xi rest:=by
 induction hr with
 |@one up q p h pre post sts w up' gs zo xo X _ ih =>
  obtain⟨ss,xi,rest,t⟩:=ih;refine⟨(q,[(p,h)],cS post 0,0)::ss,xi,rest,⟨by rw[t.fst];rfl,by rw[t.fgs];rfl,?_,?_,t.two,t.fw,t.pg,t.lti,t.del⟩⟩
  ·intro s hs;rcases dE.1 hs with rfl|hs
   ·rfl
   ·exact t.one s hs
  ·intro g hg;rcases dE.1 hg with rfl|hg
   ·rfl
   ·exact t.hi g hg
 |@left up q p y h hy e1 e2 pre post sts _ =>
  exact⟨[],e1.length+1,sts,⟨rfl,rfl,(by simp),(by simp),(by grind),(by simp),rfl,(by simp),Wu e1 y hy p h e2 _⟩⟩
 |@first up q p h x e2 pre post sts _ =>
  exact⟨[],0,sts,⟨rfl,rfl,(by simp),(by simp),(by simp),(by simp),rfl,(by simp),Wt p h x e2 _⟩⟩
theorem Ph{n:Nat}{es:Es}(hS:cP n es){pre post:IL}{q:Int}{e:Su}(h:qw cd es (pre++(q,e)::post)):cT es q=aA (cv (aV e (cS post 0))):=i9 hS.nd (h _ (IB (f:=cd) pre q e post 0))
theorem Ra{n:Nat}{es:Es}(hS:cP n es){r:Int}{up:List IL}{p:Int}{h:Bs}{a c:Su}{sts:List bh}(hp:kG r up p h a c sts):(∀l∈up,d0 okI l 0)->(∀l∈up,qw cd es l)->∃out,mg es sts out/\out.take 1=vN a:=by
 induction hp with
 |top=>intro _ _;exact⟨[],.nil,rfl⟩
 |@st up q e1 p h e2 pre post sts hup ih =>
  intro hI hE;have hl:=hI _ (er ..);have hIn:=hE _ (er ..);rcases gg e1 with rfl|⟨e1',⟨y,hy⟩,rfl⟩
  ·obtain⟨out,h1,h2⟩:=ih (fun l hl=>hI l (by grind)) (fun l hl=>hE l (by grind));have e0:bR pre++[]=bR pre:=fh _;rw[e0];rcases gg pre with rfl|⟨l,⟨z,ez⟩,rfl⟩
   ·have:out=[]:=by
     cases out with
     |nil=>rfl
     |cons z out=>simp[cI,vN]at h2
    subst this;exact⟨[],.none h1,rfl⟩
   ·rw[i4]at h2 hl hIn |-
    have e1:cI (l++[(z,ez)])=cI l++[(z,bG ez)]:=by simp[cI]
    rw[e1,yf]at h2;rw[cO]at hl hIn;obtain⟨hne,hr⟩:okI ez _:=nM hl;have hg:=Ph hS hIn;obtain⟨ez',⟨y,hy⟩,rfl⟩:=t6 hne;have e2:bR (l++[(z,ez'++[(y,hy)])])=(bR l++ez')++[(y,hy)]:=by simp[bR]
    rw[e2,yf]
    obtain⟨rest,rfl⟩:∃rest,out=z::rest:=by
     cases out with
     |nil=>grind
     |cons z' rest=>grind
    exact⟨_,.down h1 hg hr,rfl⟩
  ·rw[i4]at hl hIn hup |-
   obtain⟨hne,hr⟩:okI (e1'++[(y,hy)]++(p,h)::e2) (cS post 0):=nM hl;refine⟨[y],.stop hr (by simp) ?_,by rw[<-cO,yf];rfl⟩;simp
theorem aeH{n:Nat}{es:Es}(hS:cP n es){r:Int}{up:List IL}{p:Int}{h:Bs}{a c:Su}{sts:List bh}{w:Bool}{up':List IL}{gs zo:List Nd}{xo X:Nd}(hr:Rm r up p h a c sts w up' gs zo xo X) :
  (∀l∈up,d0 okI l 0)->(∀l∈up,qw cd es l)->∃out,mg es sts out/\out.take (gs.length+1)=vN a++zo.map (·.1):=by
 induction hr with
 |@one up q p h pre post sts w up' gs zo xo X hrm ih =>
  intro hI hE;have hl:=hI _ (er ..);have hIn:=hE _ (er ..);obtain⟨out,h1,h2⟩:=ih (fun l hl=>hI l (by grind)) (fun l hl=>hE l (by grind));rcases gg pre with rfl|⟨l,⟨z,ez⟩,rfl⟩
  ·have hz:=(Eh hrm fun l hl x hx=>mP (hI l (by grind)) x hx).1 rfl;subst hz
   have:out=[]:=by
    cases out with
    |nil=>rfl
    |cons z out=>simp[cI,vN]at h2
   subst this;exact⟨[],.none h1,by simp[vk,bR,vN]⟩
  ·rw[i4]at h2 hl hIn |-
   have e1:cI (l++[(z,ez)])=cI l++[(z,bG ez)]:=by simp[cI]
   rw[e1,yf]at h2;rw[cO]at hl hIn;obtain⟨hne,hr⟩:okI ez _:=nM hl;have hg:=Ph hS hIn;obtain⟨ez',⟨y,hy⟩,rfl⟩:=t6 hne;have e2:bR (l++[(z,ez'++[(y,hy)])])=(bR l++ez')++[(y,hy)]:=by simp[bR]
   rw[e2,yf,vl]
   obtain⟨rest,rfl⟩:∃rest,out=z::rest:=by
    cases out with
    |nil=>grind
    |cons z' rest =>
     grind
   refine⟨_,.down h1 hg hr,?_⟩;grind
 |@left up q p y h hy e1 e2 pre post sts hup =>
  intro hI hE;have e:e1++(y,hy)::(p,h)::e2=(e1++[(y,hy)])++(p,h)::e2:=by simp
  have el:(e1++[(y,hy)]).length=e1.length+1:=by simp
  rw[e]at hup hI hE |-
  have:=Ra hS (.st hup) hI hE;grind
 |@first up q p h x e2 pre post sts hup =>
  intro hI hE;have:=Ra hS (.st (e1:=[]) hup) hI hE;grind
abbrev Nl:=Int × Lf
def fZ(l:List Nl):Es:=l.map fun z=>(z.1,bq z.2)
def gw(w:Bool)(lf:Lf)(zl:List Nl):List Nl:=zl.map fun z=>(z.1,⟨z.2.prs,bif w then lf.high else z.2.high,lf.next⟩)
structure li(n:Nat)(es:Es)(ws:List bh)(pl:Int)(lf:Lf)(w:Bool)(zl:List Nl)(gs zo:List Nd)(xo X:Nd)(ss:List bh)(xi:Nat)(rest:List bh)(out:List Int)(R:Es):Prop where
 shf:cP n es
 len:ws.length<=1024
 x:LB ws.reverse w gs xo X lf.high ss xi rest
 ah:mg es ws.reverse out
 fout:out.take (gs.length+1)=zl.map (·.1)++zo.map (·.1)
 zl1:zl.length<=1
 zl0:zl=[]->zo=[]
 zo1:zl≠[]->zo.length=gs.length
 perm:es.Perm (fZ zl++(cx zo++((pl,bq lf)::(cx gs++(cx [xo]++R)))))
 rlf:cK lf=aC
 rzl:∀z∈zl,cK z.2=aC
 rzl':∀z∈gw w lf zl,cK z.2=aC
 rgs:∀g∈gs,bZ (aV g.2.1 g.2.2)=aC
 rzo:∀z∈zo,z.2.1≠[]/\bZ (aV z.2.1 z.2.2)=aC
 rzo':∀z∈dC w lf.high zo gs,bZ (aV z.2.1 z.2.2)=aC
 rxo:bZ (aV xo.2.1 xo.2.2)=aC
 rX:bZ (aV X.2.1 X.2.2)=aC
def mF(es:Es)(pl:Int)(lf:Lf)(w:Bool)(zl:List Nl)(gs zo:List Nd)(X:Nd):Es :=
 oy (bD (dD es (fZ (gw w lf zl)++cx (dC w lf.high zo gs))) X.1 (cd X.2.1 X.2.2)) (pl::gs.map (·.1))
theorem II(w:Bool)(h:Bs):∀(zo gs:List Nd),zo.length=gs.length->(dC w h zo gs).map (·.1)=zo.map (·.1)
 | [],[],_=>rfl
 |_::_,[],h=>by grind
 | [],_::_,h=>by grind
 |z::zo,g::gs,h=>by
  show z.1::(dC w _ zo gs).map (·.1)=_;rw[II w _ zo gs (by grind)];rfl
theorem xz(l:List Nd):bB (cx l)=l.map (·.1):=by simp[bB,cx]
theorem Py(l:List Nl):bB (fZ l)=l.map (·.1):=by simp[bB,fZ]
theorem Px(a b:Es):bB (a++b)=bB a++bB b:=by simp[bB]
section
variable {n:Nat}{es:Es}{ws:List bh}{pl:Int}{lf:Lf}{w:Bool}{zl:List Nl}{gs zo:List Nd}{xo X:Nd}{ss:List bh}{xi:Nat}{rest:List bh}{out:List Int}{R:Es}
theorem li.keys(d:li n es ws pl lf w zl gs zo xo X ss xi rest out R):bB (fZ zl++cx zo)=bB (fZ (gw w lf zl)++cx (dC w lf.high zo gs)):=by
 rw[Px,Px,Py,Py,xz,xz];have h1:(gw w lf zl).map (·.1)=zl.map (·.1):=by simp[gw]
 rw[h1]
 by_cases h:zl=[]
 ·rw[d.zl0 h];rfl
 ·rw[II _ _ _ _ (d.zo1 h)]
theorem li.left(d:li n es ws pl lf w zl gs zo xo X ss xi rest out R):(mF es pl lf w zl gs zo X).Perm (fZ (gw w lf zl)++(cx (dC w lf.high zo gs)++(cx [X]++R)))/\cP n (mF es pl lf w zl gs zo X):=by
 have hp:=d.perm;rw[<-cO]at hp;have h1:=Fu d.shf.nd hp d.keys;have hs1:=EY d.shf hp d.keys
 have hp2:(dD es (fZ (gw w lf zl)++cx (dC w lf.high zo gs))).Perm ((X.1,cd xo.2.1 xo.2.2)::((((pl,bq lf)::cx gs))++(fZ (gw w lf zl)++(cx (dC w lf.high zo gs)++R)))):=by
  refine h1.1.trans (k7.2 fun x=>?_);rw[d.x.pg];simp only[kK,lT,oo];simp only[cx,fX,pw];omega
 have hp3:=j6 (b':=cd X.2.1 X.2.2) hs1.nd hp2;have hs3:=iY hs1 (b:=cd X.2.1 X.2.2) (gp hp2)
 have hp4:(bD (dD es (fZ (gw w lf zl)++cx (dC w lf.high zo gs))) X.1 (cd X.2.1 X.2.2)).Perm (((pl,bq lf)::cx gs)++((X.1,cd X.2.1 X.2.2)::(fZ (gw w lf zl)++(cx (dC w lf.high zo gs)++R)))):=by
  grind
 have h5:=H3 hs3 hp4
 have hk:bB ((pl,bq lf)::cx gs)=pl::gs.map (·.1):=by
  show pl::bB (cx gs)=_;rw[xz]
 rw[hk]at h5;refine⟨h5.1.trans (k7.2 fun x=>?_),h5.2⟩;simp only[kK,lT,oo];simp only[cx,fX,pw];omega
end
theorem TG{Q D:List bh}{x:bh}{sts:List bh}{i:Int}(h:Q=(x::sts).reverse++D)(hi:i=(sts.length:Int)):(gz Q)[i.toNat]? = aA (mf x):=by
 subst hi;rw[bi];exact KU h
section
variable {n:Nat}{r:Int}{es:Es}{o:dR}
theorem O0(Q:List bh)(hQ:Q.length<=10000):∀(ss sts:List bh) (D:List bh) (G:List Int),Q=(ss++sts).reverse++D->(∀s∈ss,s.2.1.length=1)->G.length+ss.length<=20000 ->
  Go qk aC 5 (fF 81) (.head 0 (zz (gz Q) ((sts.length:Int) - 1) r n (cX es) (cD n (br es)) (aS (G++ss.map (·.1))))) o ->
  Go qk aC 5 (fF 81) (.head 0 (zz (gz Q) (((ss++sts).length:Int) - 1) r n (cX es) (cD n (br es)) (aS G))) o
 | [],sts,D,G,_,_,_,hg=>by grind
 |(q,e,nx,i)::ss,sts,D,G,hd,h1,hG,hg=>by
  have hl:ss.length+sts.length+1+D.length=Q.length:=by grind
  have ih:=O0 Q hQ ss sts ((q,e,nx,i)::D) (G++[q]) (by grind) (fun s hs=>h1 s (by grind)) (by grind) (by grind);have e1:=h1 (q,e,nx,i) (by simp);have hst:mf (q,e,nx,i) = .agg [.int .i64 q,.sl (bg (aV e nx).seps),.sl (aS (aV e nx).kids),.str (bG e),.int .i64 nx,.int .i64 ((i:Nat):Int)]:=rfl;have hx:=TG (i:=((((q,e,nx,i)::ss++sts:List bh)).length:Int) - 1) hd (by simp);have w:W .i64 (((((q,e,nx,i)::ss++sts:List bh)).length:Int) - 1 - 1)=(((ss++sts:List bh)).length:Int) - 1:=by rw[bf (by simp;omega)];simp
  refine Td _ _ _ _ _ _ _ ?_ ih;unfold Ks
  have hkl:((aS (aV e nx).kids).length:Int)=1:=by
   have:(aV e nx).kids.length=1:=by grind
   rw[cy,this];rfl
  rw[aQ (aW (by grind)),qS hx,hst,oa,db hkl,aZ,aQ (aW (by grind)),qS hx,hst,oa,aQ (aW (by rw[cy];simp at hG |-;omega)),w];simp[aS]
theorem OY:∀(ps:Es) (i:Nat) (G:List Int) (es R:Es),G.length<=20000->G.drop i=bB ps->i<=G.length->cP n es->es.Perm (ps++R) ->
  Go qk aC 5 (fF 81) (.head 2 (wQ (G.length:Int) (G.length:Int) r n (cX (oy es (bB ps))) (cD n (br (oy es (bB ps)))) (aS G))) o ->
  Go qk aC 5 (fF 81) (.head 2 (wQ (G.length:Int) (i:Int) r n (cX es) (cD n (br es)) (aS G))) o
 | [],i,G,es,R,_,hd,hi,_,_,hg=>by
  have h1:=fT hd;have e:i=G.length:=by omega
  subst e;exact hg
 |(p,b)::ps,i,G,es,R,hG,hd,hi,hS,hp,hg=>by
  obtain⟨h1,h2,h3⟩:=ej hd;have ih:=OY ps (i+1) G (fO es p) R hG h2 (by omega) (EW hS p) (CC hS.nd hp) hg;have w:W .i64 ((i:Int)+1)=((i+1:Nat):Int):=by rw[bf (by omega)];omega
  refine Te _ _ _ _ _ _ _ ?_ ih;unfold Ku;rw[aW (by omega),aZ,aQ (by simp),bi,aQ (aW (by rw[cy];omega)),iq h1,bF,cH Qm (OX hS (gp hp)),w]
end
theorem N2(w:Bool)(h:Bs)(ez:Su)(hne:ez≠[])(nz nq:Int):aH [aG (bg (aV ez nz).seps),aG (aS (aV ez nz).kids),aE (cond w h (aV ez nz).high),aB .i64 nq]=eI (aV (hS w h ez) nq):=by
 have h1:(aV ez nz).seps=(aV (hS w h ez) nq).seps:=(Tq w h ez).symm
 have h2:(aV ez nz).kids=(aV (hS w h ez) nq).kids:=by
  obtain⟨e',⟨z,hz⟩,rfl⟩:=t6 hne;show(e'++[(z,hz)]).map (·.1)=(hS w h (e'++[(z,hz)])).map (·.1);rw[oz];simp
 have h3:cond w h (aV ez nz).high=(aV (hS w h ez) nq).high:=(H8 w h hne).symm;grind
section
variable {n:Nat}{r:Int}{o:dR}
theorem O5(A G:List Int)(hA:A.length<=20000)(hGA:A.length<=G.length){x0:Int}{x1 x2:List V}{x3:List UInt8}{x4 x5:Int}{w:Bool}(hw:w=decide (x5 > 0))(h:Bs):∀(zo gs:List Nd) (i:Nat) (es R:Es),zo.length=gs.length->cP n es->es.Perm (cx zo++R)->(∀g∈gs,(g.1,cd g.2.1 g.2.2)∈R) ->
  (∀z∈zo,z.2.1≠[]/\bZ (aV z.2.1 z.2.2)=aC)->(∀g∈gs,bZ (aV g.2.1 g.2.2)=aC/\bG g.2.1=h)->(∀z∈dC w h zo gs,bZ (aV z.2.1 z.2.2)=aC)->A.drop i=zo.map (·.1)->(∃T,G.drop i=gs.map (·.1)++T)->i<=A.length ->
  Go qk aC 5 (fF 81) (.head 1 (pf (aS A) (A.length:Int) (A.length:Int) r n (cX (dD es (cx (dC w h zo gs)))) (cD n (br (dD es (cx (dC w h zo gs))))) (aS G) x0 x1 x2 x3 x4 x5)) o ->
  Go qk aC 5 (fF 81) (.head 1 (pf (aS A) (A.length:Int) (i:Int) r n (cX es) (cD n (br es)) (aS G) x0 x1 x2 x3 x4 x5)) o
 | [],[],i,es,R,_,_,_,_,_,_,_,hd,_,hi,hg=>by
  have h1:=fT hd;have e:i=A.length:=by omega
  subst e;exact hg
 | [],_::_,_,_,_,hl,_,_,_,_,_,_,_,_,_,_=>by grind
 |_::_,[],_,_,_,hl,_,_,_,_,_,_,_,_,_,_=>by grind
 |(z,ez,nz)::zo,(q,eq,nq)::gs,i,es,R,hl,hs,hp,hR,hz,hgs,hnew,hd,⟨T,hdG⟩,hi,hg=>by
  obtain⟨h1,h2,h3⟩:=ej hd;obtain⟨g1,g2,g3⟩:=ej (l:=G) (r:=gs.map (·.1)++T) (by rw[hdG];rfl);obtain⟨hne,hrz⟩:=hz (z,ez,nz) (by simp);obtain⟨hrq,hhq⟩:=hgs (q,eq,nq) (by simp);have hrn:bZ (aV (hS w h ez) nq)=true:=hnew (z,hS w h ez,nq) (by simp[dC]);have hgz:cT es z=aA (cv (aV ez nz)):=mL hs.nd hp;have hgq:cT es q=aA (cv (aV eq nq)):=i9 hs.nd (hp.mem_iff.2 (uz _ (hR (q,eq,nq) (by simp))));have hp2:=j6 (b':=cv (aV (hS w h ez) nq)) hs.nd hp;have hs2:=iY hs (b:=cv (aV (hS w h ez) nq)) (gp hp)
  have ih:=O5 A G hA hGA (x0:=x0) (x1:=x1) (x2:=x2) (x3:=x3) (x4:=x4) hw h zo gs (i+1) _ ((z,cv (aV (hS w h ez) nq))::R) (by grind) hs2 (hp2.trans List.perm_middle.symm) (fun g hg=>y6 _ (hR g (by grind))) (fun y hy=>hz y (by grind)) (fun y hy=>hgs y (by grind)) (fun y hy=>hnew y (by
   show y∈(z,hS w h ez,nq)::dC w h zo gs;grind)) h2 ⟨T,g2⟩ (by omega) hg
  have w1:W .i64 ((i:Int)+1)=((i+1:Nat):Int):=by rw[bf (by omega)];omega
  refine Kt _ _ _ _ _ _ _ _ _ _ _ _ _ _ ?_ ih;unfold ER;rw[aW (by omega),aZ,aQ (by simp),bi,iq h1,bF,vT hs hgz hrz,cF,aQ (by simp),aQ (aW (by rw[cy];omega)),iq g1,bF,vT hs hgq hrq,cF];show(bH aI _ _ _ [_,_,.ifc 150 (.agg [.sl (bg (aV ez nz).seps),.sl (aS (aV ez nz).kids),.str (cond (decide (x5 > 0)) (bG eq) (aV ez nz).high),.int .i64 nq])] (tM r n es) _)=_;rw[hhq,<-hw,N2 w h ez hne nz nq,cH k6 (ul hs hgz hrn),w1]
end
theorem Ur(xo:Nd)(xi:Nat):mf (xo.1,xo.2.1,xo.2.2,xi) = .agg [.int .i64 xo.1,.sl (bg (aV xo.2.1 xo.2.2).seps),.sl (aS (aV xo.2.1 xo.2.2).kids),.str (bG xo.2.1),.int .i64 xo.2.2,.int .i64 ((xi:Nat):Int)]:=rfl
section
variable {n:Nat}{r:Int}{es:Es}{ws:List bh}{pl:Int}{lf:Lf}{w:Bool}{zl:List Nl}{gs zo:List Nd}{xo X:Nd}{ss:List bh}{xi:Nat}{rest:List bh}{out:List Int}{R:Es}{r':Int}{es':Es}
theorem Wy(d:li n es ws pl lf w zl gs zo xo X ss xi rest out R)(hsk:lR n r (mF es pl lf w zl gs zo X) r' es')(A:List Int) :
  ∃m,Go qk aC 5 (fF 81) (.head 1 (pf (aS A) (A.length:Int) (A.length:Int) r n (cX (dD es (fZ (gw w lf zl)++cx (dC w lf.high zo gs)))) (cD n (br (dD es (fZ (gw w lf zl)++cx (dC w lf.high zo gs))))) (aS (pl::gs.map (·.1))) xo.1 (bg (aV xo.2.1 xo.2.2).seps) (aS (aV xo.2.1 xo.2.2).kids) (bG xo.2.1) xo.2.2 (xi:Int))) (.doneM (.tup []) m) /\
   ∀r0 n0 e0 b0,iP aX (tm r0 n0 e0 b0) (.tup []) m=xW (r',n,cX es',cD n (br es')):=by
 have hp:=d.perm;rw[<-cO]at hp;have h1:=Fu d.shf.nd hp d.keys;have hs1:=EY d.shf hp d.keys
 have hp2:(dD es (fZ (gw w lf zl)++cx (dC w lf.high zo gs))).Perm ((X.1,cd xo.2.1 xo.2.2)::((((pl,bq lf)::cx gs))++(fZ (gw w lf zl)++(cx (dC w lf.high zo gs)++R)))):=by
  refine h1.1.trans (k7.2 fun x=>?_);rw[d.x.pg];simp only[kK,lT,oo];simp only[cx,fX,pw];omega
 have hgx:=mL hs1.nd hp2;have hp3:=j6 (b':=cd X.2.1 X.2.2) hs1.nd hp2;have hs3:=iY hs1 (b:=cd X.2.1 X.2.2) (gp hp2)
 have hp4:(bD (dD es (fZ (gw w lf zl)++cx (dC w lf.high zo gs))) X.1 (cd X.2.1 X.2.2)).Perm (((pl,bq lf)::cx gs)++((X.1,cd X.2.1 X.2.2)::(fZ (gw w lf zl)++(cx (dC w lf.high zo gs)++R)))):=by
  grind
 have hk:bB ((pl,bq lf)::cx gs)=pl::gs.map (·.1):=by
  show pl::bB (cx gs)=_;rw[xz]
 have hgl:gs.length<=1024:=by
  have:=ef oZ d.x.fst;rw[d.x.fgs,d9];simp at this;have:=d.len;omega
 have hdel:gD (aV xo.2.1 xo.2.2) (xi:Int)=(aV X.2.1 X.2.2,0):=by
  unfold gD;have:=d.x.lti;have:=d.x.two;rw[aU ⟨d.rxo,by omega,by grind,by grind⟩,bi,d.x.del]
 have hdp:=Wk (aV xo.2.1 xo.2.2) (xi:Int) (gF d.rxo);rw[hdel]at hdp;obtain⟨E2,hE2⟩:∃E2,E2=bD (dD es (fZ (gw w lf zl)++cx (dC w lf.high zo gs))) X.1 (cd X.2.1 X.2.2):=⟨_,rfl⟩
 obtain⟨G,hG⟩:∃G,G=pl::gs.map (·.1):=⟨_,rfl⟩
 rw[<-hE2]at hs3 hp4;rw[<-hG]at hk |-
 have hGl:G.length<=20000:=by grind
 have hdr:mF es pl lf w zl gs zo X=oy E2 G:=by rw[hE2,hG];rfl
 rw[hdr]at hsk;refine⟨tM r' n es'++[aM 3 (aS G) 0],?_,fun r0 n0 e0 b0=>by kernel_rfl⟩
 have h3:Go qk aC 5 (fF 81) (.head 2 (wQ (G.length:Int) (G.length:Int) r n (cX (oy E2 G)) (cD n (br (oy E2 G))) (aS G))) (.doneM (.tup []) (tM r' n es'++[aM 3 (aS G) 0])):=by
  refine Te _ _ _ _ _ _ _ ?_ (.refl _);unfold Ku;rw[bp (by omega),aP,cH acn (afT hsk)]
 rw[<-hk]at h3;have h2:=OY ((pl,bq lf)::cx gs) 0 G E2 _ hGl (by grind) (by omega) hs3 hp4 (by rw[hk]at h3 |-;exact h3);refine Kt _ _ _ _ _ _ _ _ _ _ _ _ _ _ ?_ h2;unfold ER;rw[bp (by omega),aP];show(aL aI _ [eI (aV xo.2.1 xo.2.2),_] _)=_;rw[aN hdp,w6];show(bH aI _ _ _ [_,.int .i64 xo.1,.ifc 150 (eI (aV X.2.1 X.2.2))] (tM r n (dD es (fZ (gw w lf zl)++cx (dC w lf.high zo gs)))) _)=_;rw[<-d.x.pg,cH k6 (ul hs1 hgx d.rX),cy,hE2];rfl
theorem WA(d:li n es ws pl lf w zl gs zo xo X ss xi rest out R)(hsk:lR n r (mF es pl lf w zl gs zo X) r' es') :
  cA aI aX 81 [.ptr 0 0 0,.sl (gz ws),.int .i64 pl] (tM r n es)=aA (xW (r',n,cX es',cD n (br es'))):=by
 have hlen:=d.len
 have hsl:ss.length+rest.length+1=ws.length:=by
  have:=ef oZ d.x.fst;grind
 have hgs:gs.length=ss.length:=by rw[d.x.fgs,d9]
 have hgk:gs.map (·.1)=ss.map (·.1):=by rw[d.x.fgs,List.map_map];rfl
 obtain⟨A,hA⟩:∃A,A=zl.map (·.1)++zo.map (·.1):=⟨_,rfl⟩
 obtain⟨m,hE,hc⟩:=Wy d hsk A;have hQ:ws=(ss++(xo.1,xo.2.1,xo.2.2,xi)::rest).reverse++[]:=by rw[<-d.x.fst];simp
 have hQ2:ws=((xo.1,xo.2.1,xo.2.2,xi)::rest).reverse++ss.reverse:=by grind
 have w0:W .i64 (((gz ws).length:Int) - 1)=((ss++(xo.1,xo.2.1,xo.2.2,xi)::rest).length:Int) - 1:=by rw[t8,bf (by omega)];grind
 have hnd:2<=(aV xo.2.1 xo.2.2).kids.length:=by simpa using d.x.two
 have hloop:Go qk aC 5 (fF 81) (.head 1 (pf (aS A) (A.length:Int) ((0:Nat):Int) r n (cX es) (cD n (br es)) (aS (pl::gs.map (·.1))) xo.1 (bg (aV xo.2.1 xo.2.2).seps) (aS (aV xo.2.1 xo.2.2).kids) (bG xo.2.1) xo.2.2 (xi:Int))) (.doneM (.tup []) m):=by
  have hzl1:=d.zl1
  match hzl:zl,hzl1 with
  | [],_ =>
   have hzo:=d.zl0 rfl;subst hzo;have:A=[]:=by grind
   subst this;exact hE
  | [(z,l)],_ =>
   have hzo:=d.zo1 (by simp);have hp:=d.perm;have hp:es.Perm ((z,bq l)::(cx zo++((pl,bq lf)::(cx gs++(cx [xo]++R))))):=hp;have hgz:=mL d.shf.nd hp;have hrl:cK l=true:=d.rzl (z,l) (by simp);have hrn:cK ⟨l.prs,bif w then lf.high else l.high,lf.next⟩=true:=d.rzl' (z,⟨l.prs,bif w then lf.high else l.high,lf.next⟩) (by simp[gw]);have hgp:cT es pl=aA (bq lf):=i9 d.shf.nd (hp.mem_iff.2 (by simp));have hp2:=j6 (b':=bq ⟨l.prs,bif w then lf.high else l.high,lf.next⟩) d.shf.nd hp;have hs2:=iY d.shf (b:=bq ⟨l.prs,bif w then lf.high else l.high,lf.next⟩) (gp hp);have hA2:A=z::zo.map (·.1):=by grind
   have hAl:A.length<=gs.length+1:=by grind
   have hE2:=O5 A (pl::gs.map (·.1)) (by omega) (by grind) (x0:=xo.1) (x1:=bg (aV xo.2.1 xo.2.2).seps) (x2:=aS (aV xo.2.1 xo.2.2).kids) (x3:=bG xo.2.1) (x4:=xo.2.2) d.x.fw lf.high zo gs 1 _ ((z,bq ⟨l.prs,bif w then lf.high else l.high,lf.next⟩)::((pl,bq lf)::(cx gs++(cx [xo]++R)))) hzo hs2
    (hp2.trans List.perm_middle.symm) (fun g hg=>by
     refine y6 _ (y6 _ (Bv _ (ib.2 ⟨g,hg,rfl⟩)))) d.rzo (fun g hg=>⟨d.rgs g hg,d.x.hi g hg⟩) d.rzo' (by grind) ⟨[],by simp⟩ (by grind) hE
   have h1:A[0]? = aA z:=by grind
   have g1:(pl::gs.map (·.1))[0]? = aA pl:=rfl;have fw:=d.x.fw;refine Kt _ _ _ _ _ _ _ _ _ _ _ _ _ _ ?_ hE2;unfold ER;rw[aW (by grind),aZ,aQ (by simp),bi,iq h1,bF,yl d.shf hgz hrl,cF,aQ (by simp),aQ (aW (by rw[cy];simp)),iq g1,bF,yl d.shf hgp d.rlf,cF];show(bH aI _ _ _ [_,_,.ifc 120 (eL ⟨l.prs,cond (decide ((xi:Int) > 0)) lf.high l.high,lf.next⟩)] (tM r n es) _)=_;rw[<-fw,cH k6 (un d.shf hgz hrn)];rfl
 have hgone:=O0 (r:=r) (es:=es) (n:=n) (o:=.doneM (.tup []) m) ws (by omega) ss ((xo.1,xo.2.1,xo.2.2,xi)::rest) [] [pl] hQ d.x.one (by grind) (by
  have hx:=TG (i:=((((xo.1,xo.2.1,xo.2.2,xi)::rest:List bh)).length:Int) - 1) hQ2 (by simp);have hah:=UP (r:=r) d.shf ws (by omega) d.ah (gs.length+1) (by omega);rw[d.fout,<-hA]at hah;have hG:[pl]++ss.map (·.1)=pl::gs.map (·.1):=by simp_all
  have hGl:((aS (pl::gs.map (·.1))).length:Int)=((gs.length+1:Nat):Int):=by rw[cy];simp
  rw[hG];refine Td _ _ _ _ _ _ _ ?_ hloop;unfold Ks;rw[aQ (aW (by simp)),qS hx,Ur,oa,dH (by rw[cy];omega),aP,aQ (aW (by simp)),qS hx,Ur,oa,hGl,cY acm hah,cF,cy];rfl)
 refine Zi _ _ _ _ _ _ ?_ ⟨_,_,hgone,hc _ _ _ _⟩;unfold NP;rw[w0];rfl
end
theorem adF{r:Int}{up:List IL}{p:Int}{h:Bs}{a c:Su}{sts:List bh}(hp:kG r up p h a c sts)(h2:BK up)(hu:up≠[]):∃s∈sts,2<=s.2.1.length:=by
 induction hp with
 |top=>grind
 |@st up q e1 p h e2 pre post sts hup ih =>
  cases up with
  |nil=>exact⟨_,er ..,h2 _ rfl (q,e1++(p,h)::e2) (by simp)⟩
  |cons l up =>
   obtain⟨s,hs,h3⟩:=ih (fun l' hl=>h2 l' (by grind)) (by simp);grind
section
variable {r:Int}{up:List IL}{p:Int}{h:Bs}{a c:Su}{sts:List bh}{w:Bool}{up':List IL}{gs zo:List Nd}{xo X:Nd}
theorem aeO(hr:Rm r up p h a c sts w up' gs zo xo X):(∀l∈up,d0 okI l 0)->(∀g∈gs,bZ (aV g.2.1 g.2.2)=aC)/\(∀z∈zo,z.2.1≠[]/\bZ (aV z.2.1 z.2.2)=aC)/\bZ (aV xo.2.1 xo.2.2)=true:=by
 induction hr with
 |@one up q p h pre post sts w up' gs zo xo X _ ih =>
  intro hI;have hl:=hI _ (er ..);obtain⟨h1,h2,h3⟩:=ih fun l hl=>hI l (by grind)
  obtain⟨_,hr⟩:okI [(p,h)] (cS post 0):=nM hl;refine⟨?_,?_,h3⟩
  ·grind
  ·intro z hz;rcases cz.1 hz with hz|hz
   ·rcases gg pre with rfl|⟨l,⟨y,ey⟩,rfl⟩
    ·cases hz
    ·rw[i4]at hl hz;rw[vl]at hz;have:z=(y,ey,q+1):=by grind
     subst this;rw[cO]at hl;exact nM hl
   grind
 |@left up q p y h hy e1 e2 pre post sts hup=>intro hI;exact⟨by simp,by simp,(nM (hI _ (er ..))).2⟩
 |@first up q p h x e2 pre post sts hup=>intro hI;exact⟨by simp,by simp,(nM (hI _ (er ..))).2⟩
theorem aeM(hr:Rm r up p h a c sts w up' gs zo xo X):(∀l∈up,∀x∈l,x.2≠[])->(∀l∈up',d0 okI l 0)->(∀z∈dC w h zo gs,bZ (aV z.2.1 z.2.2)=aC)/\bZ (aV X.2.1 X.2.2)=true:=by
 induction hr with
 |@one up q p h pre post sts w up' gs zo xo X hrm ih =>
  intro hn hI;have hl:=hI _ (er ..);obtain⟨h1,h2⟩:=ih (fun l hl=>hn l (by grind)) fun l hl=>hI l (by grind)
  refine⟨?_,h2⟩;intro z hz;rcases gg pre with rfl|⟨l,⟨y,ey⟩,rfl⟩
  ·have:=(Eh hrm fun l hl=>hn l (by grind)).1 rfl;subst this;cases hz
  ·rw[i4]at hl hz;rw[z8,cO]at hl;rw[vl]at hz;have hz:z∈(y,hS w h ey,cS post 0)::dC w h zo gs:=hz;rcases dE.1 hz with rfl|hz
   ·exact(nM hl).2
   grind
 |@left up q p y h hy e1 e2 pre post sts hup=>intro _ hI;exact⟨by simp[dC],(nM (hI _ (er ..))).2⟩
 |@first up q p h x e2 pre post sts hup=>intro _ hI;exact⟨by simp[dC],(nM (hI _ (er ..))).2⟩
end
theorem adm{pre post:LL}{p:Int}{prs:List Pr}{h:Bs}{w:Bool}(ho:lm (pre++(p,prs,h)::post)):lm (hF w h pre++post):=by
 obtain⟨h1,h2,h3,h4,h5⟩:=vL ho;rcases gg pre with rfl|⟨l,⟨z,prz,hz⟩,rfl⟩
 ·exact h2
 ·rw[i4]at h1 h3 h5 |-
  rw[xp];obtain⟨q1,_,q3⟩:=fJ.1 h1;cases w with
  |false=>exact fJ.2 ⟨h1,h2,fun y hy z hz=>h5 y hy z hz⟩
  |true =>
   refine fJ.2 ⟨fJ.2 ⟨q1,by simp,?_⟩,h2,?_⟩
   ·intro y hy x hx;have:x=(z,prz,h):=by grind
    subst this;have h6:=q3 y hy (z,prz,hz) (by simp);grind
   ·intro y hy x hx;grind
theorem abT{prz prs:List Pr}{hz h:Bs}{w:Bool}(o:lP prz hz)(o2:lP prs h)(hl:bd hz h):lP prz (bif w then h else hz):=by
 cases w with
 |false=>exact o
 |true =>
  refine⟨o.ri,o.mem,?_,o.wt⟩;show h=[]∨_;rcases o2.hi with h1|⟨h1,_⟩
  ·grind
  ·refine .inr ⟨h1,fun x hx=>?_⟩;exact lt_trans ((o.hi.resolve_left hl.1).2 x hx) (hl.2.resolve_left (pM h1))
inductive mX:List (List Int)->List Int->List Int->Prop
 |nil:mX [] [] []
 |cons {A C:List Int} {z g:Int} {Ps:List (List Int)} {zs gs:List Int}:(A++z::g::C).Nodup->mX Ps zs gs->mX ((A++z::g::C)::Ps) (z::zs) (g::gs)
inductive mj:List (List Int)->List Int->Prop
 |nil:mj [] []
 |cons {C:List Int} {g:Int} {Ps:List (List Int)} {gs:List Int}:(g::C).Nodup->mj Ps gs->mj ((g::C)::Ps) (g::gs)
theorem ab8{n:Nat}{r:Int}{es:Es}{ups:List IL}{b:LL}(h:WT n r es ups b):(∀l∈ups,(bT l).Nodup)/\(bT b).Nodup:=by
 have hn:(bB (dY ups++bW dM b 0)).Nodup:=(List.Perm.nodup_iff (List.Perm.map (fun x:Int × Bs=>x.1) h.rep)).1 h.shf.nd;rw[bB,gA]at hn;obtain⟨h1,h2,_⟩:=uA.1 hn;have e2:(bW dM b 0).map (·.1)=bT b:=It b 0;rw[e2]at h2;refine⟨?_,h2⟩
 have:∀{u:List IL},((dY u).map (·.1)).Nodup->∀l∈u,(bT l).Nodup:=by
  intro u
  induction u with
  |nil=>grind
  |cons x u ih =>
   intro hu l hl;rw[oh,gA]at hu;obtain⟨a1,a2,_⟩:=uA.1 hu;have e3:(bW cd x 0).map (·.1)=bT x:=It x 0;grind
 grind
theorem aeK{r:Int}{up:List IL}{p:Int}{h:Bs}{a c:Su}{sts:List bh}{w:Bool}{up':List IL}{gs zo:List Nd}{xo X:Nd}(hr:Rm r up p h a c sts w up' gs zo xo X):(∀l∈up,∀x∈l,x.2≠[])->(∀l∈up,(bT l).Nodup) ->
  ∃Ps U,up.map bT=Ps++U/\Ps.length=gs.length/\(a≠[]->mX Ps (zo.map (·.1)) (gs.map (·.1)))/\(a=[]->mj Ps (gs.map (·.1))):=by
 induction hr with
 |@one up q p h pre post sts w up' gs zo xo X _ ih =>
  intro hn hd;have hnp:∀x∈pre,x.2≠[]:=fun x hx=>hn _ (er ..) x (by grind)
  have hd0:=hd _ (er ..);obtain⟨Ps,U,h1,h2,h3,h4⟩:=ih (fun l hl=>hn l (by grind)) fun l hl=>hd l (by grind)
  refine⟨bT (pre++(q,[(p,h)])::post)::Ps,U,by grind,by grind,?_,?_⟩
  ·intro ha;rcases gg pre with rfl|⟨l,⟨z,ez⟩,rfl⟩
   ·exact gU rfl ha
   ·rw[i4]at h3 hd0 |-
    have e:bT (l++[(z,ez)]++(q,[(p,h)])::post)=bT l++z::q::bT post:=by simp[bT]
    rw[e]at hd0 |-
    rw[vl];exact .cons hd0 (h3 (by simp[cI]))
  ·intro ha;have:=PD hnp ha;subst this;exact .cons hd0 (h4 rfl)
 |left _=>intro _ _;exact⟨[],_,rfl,rfl,fun _=>.nil,fun _=>.nil⟩
 |first _=>intro _ _;exact⟨[],_,rfl,rfl,fun _=>.nil,fun _=>.nil⟩
theorem MJ:∀{s:Su} {d:List IL} {b:LL},Dn s d b->(∀l∈d,(bT l).Nodup)->(bT b).Nodup->∀l∈d,(bT (bR l)).Nodup
 |_,[],_,_,_,_,l,hl=>by grind
 |_,x::d,b,hd,hn,hb,l,hl=>by
  obtain⟨_,hk⟩:=oc hd;rcases dE.1 hl with rfl|hl
  ·cases d with
   |nil=>rw[pz hk,I0];grind
   |cons y d=>rw[(oc hk).1,IZ];grind
  ·exact MJ hk (fun l hl=>hn l (by grind)) hb l hl
theorem aeL{r:Int}{up:List IL}{p:Int}{h:Bs}{a c:Su}{sts:List bh}{w:Bool}{up':List IL}{gs zo:List Nd}{xo X:Nd}(hr:Rm r up p h a c sts w up' gs zo xo X):(∀l∈up,(bT (bR l)).Nodup)->(bT xo.2.1).Nodup:=by
 have hs:∀(pre post:IL) (q:Int) (e:Su),(bT (bR (pre++(q,e)::post))).Nodup->(bT e).Nodup:=by
  intro pre post q e h;refine List.Nodup.sublist ?_ h;simp only[bT,bR,List.flatMap_append,nZ,gA];grind
 induction hr with
 |one _ ih=>grind
 |left _=>grind
 |first _=>grind
def Bn(n:Nat)(r:Int)(es:Es)(ws:List bh)(pl:Int)(zl:List Nl)(gs zo:List Nd)(xo:Nd):Prop :=
 ∃ups b Ps U A C,WT n r es ups b/\(bT xo.2.1).Nodup/\ups.length=ws.length/\ups.reverse.map bT=Ps++U/\Ps.length=gs.length/\bT b=A++pl::C/\(bT b).Nodup/\A.getLast?.toList=zl.map (·.1)/\(zl≠[]->mX Ps (zo.map (·.1)) (gs.map (·.1)))/\(zl=[]->mj Ps (gs.map (·.1)))
theorem Wz{n:Nat}{r:Int}{es:Es}{ups:List IL}{b:LL}(h:WF n r es ups b){p:Int}{h':Bs}{ws:List bh}{pre post:LL}{prs:List Pr}(hp:kG r ups.reverse p h' (df pre) (df post) ws.reverse)(hb:b=pre++(p,prs,h')::post)(hws:ws.length=ups.length)(hu:ups≠[]) :
  ∃w zl gs zo xo X ss xi rest out R up',li n es ws p ⟨prs,h',cS post 0⟩ w zl gs zo xo X ss xi rest out R/\Bn n r es ws p zl gs zo xo/\WT n r (mF es p ⟨prs,h',cS post 0⟩ w zl gs zo X) up' (hF w h' pre++post):=by
 have hul:=uh h.toWT;obtain⟨w,up',gs,zo,xo,X,hr⟩:=aeJ hp (adF hp h.rt (by simp_all));have hI:∀l∈ups.reverse,d0 okI l 0:=fun l hl=>h.okI l (by grind)
 have hn:∀l∈ups.reverse,∀x∈l,x.2≠[]:=fun l hl=>mP (hI l hl)
 obtain⟨hIn,hIf⟩:=Ab h.toWT;obtain⟨ss,xi,rest,hx⟩:=aeQ hr;obtain⟨out,ha1,ha2⟩:=aeH h.shf hr hI fun l hl=>hIn l (by grind)
 obtain⟨o1,o2,o3⟩:=aeO hr hI;obtain⟨z0,z1⟩:=Eh hr hn;obtain⟨R0,hp1,hp2⟩:=aeP hr hn;obtain⟨nd1,nd2⟩:=ab8 h.toWT;have ndx:=aeL hr fun l hl=>MJ h.dn nd1 nd2 l (by grind)
 obtain⟨Ps,U,lv1,lv2,lv3,lv4⟩:=aeK hr hn fun l hl=>nd1 l (by grind)
 have hF:=h.okF;rw[hb]at hF;obtain⟨ok1,ok3,ok2⟩:=(gV _ _ _).1 hF;have hrl:cK ⟨prs,h',cS post 0⟩=true:=ok3;obtain⟨lo,hx0,hx1⟩:=tv hrl;have hkh:h'=[]∨cg h'=true:=lo.hi.imp id fun q=>q.1
 have hord:=h.ord;rw[hb]at hord;have hP:=IT hord;have eS0:df (pre++(p,prs,h')::post)=df pre++(p,h')::df post:=by simp[df]
 rw[eS0]at hP;have hI':=aeN hr hI hP hkh;obtain⟨n1,n2⟩:=aeM hr hn hI'
 have hes:es.Perm (dY ups.reverse++bW dM (pre++(p,prs,h')::post) 0):=by
  have:=h.rep;rw[hb]at this;exact this.trans (List.Perm.append_right _ zX.symm)
 have hes:=hes.trans (List.Perm.append_right _ hp1)
 have hdn:Dn [(r,[])] up'.reverse (Proofs.YtlphgcjepphhcaaGreat.hF w h' pre++post):=by
  have e:df (Proofs.YtlphgcjepphhcaaGreat.hF w h' pre++post)=hS w h' (df pre)++df post:=by rw[<-agu];simp[df]
  have:=aeI hr hn (d:=[]) (b:=Proofs.YtlphgcjepphhcaaGreat.hF w h' pre++post) (by rw[<-e];exact .leaf _);grind
 have hod:=adm (w:=w) hord;rcases gg pre with rfl|⟨l,⟨z,prz,hz⟩,rfl⟩
 ·have hzo:=z0 rfl;subst hzo
  have d:li n es ws p ⟨prs,h',cS post 0⟩ w [] gs [] xo X ss xi rest out (R0++bW dM post 0):=by
   refine⟨h.shf,by omega,hx,ha1,ha2,by simp,fun _=>rfl,fun q=>gU rfl q,?_,hrl,by simp,by simp[gw],o1,o2,n1,o3,n2⟩;refine hes.trans (k7.2 fun x=>?_);rw[eA,bW];simp only[kK,lT,oo,fZ,cx,fX,pw,eA];have:c1 x (p,dM (prs,h') (cS post 0))=c1 x (p,bq ⟨prs,h',cS post 0⟩):=rfl;omega
  refine⟨w,[],gs,[],xo,X,ss,xi,rest,out,_,up'.reverse,d,⟨ups,b,Ps,U,[],bT post,h.toWT,ndx,hws.symm,lv1,lv2,by rw[hb];rfl,nd2,rfl,fun q=>gU rfl q,fun _=>lv4 rfl⟩,d.left.2,?_,hdn,fun l hl=>hI' l (by grind),ok2,hod⟩;refine d.left.1.trans ?_;refine List.Perm.trans ?_ (List.Perm.append_right _ (hp2.symm.trans zX.symm));show(fZ []++(cx (dC w h' [] gs)++(cx [X]++(R0++bW dM post 0)))).Perm (_++bW dM (Proofs.YtlphgcjepphhcaaGreat.hF w h' []++post) 0);have:Proofs.YtlphgcjepphhcaaGreat.hF w h' []++post=post:=rfl;rw[this];refine k7.2 fun x=>?_
  simp only[kK,fZ,fX,pw,eA];omega
 ·rw[i4]at *
  have e1:df (l++[(z,prz,hz)])=df l++[(z,hz)]:=by simp[df]
  rw[e1]at z1 ha2;rw[yf]at ha2;have hzl:=z1 (by simp);obtain⟨k1,k2,_⟩:=(gV _ _ _).1 ok1;have hrz:cK ⟨prz,hz,p+1⟩=true:=k2;obtain⟨zo',_,_⟩:=tv hrz;have hlt':=((vL hord).2.2.1 (z,prz,hz) (by simp)).1;have hnew:=rD (abT (w:=w) zo' lo hlt') hx0 hx1
  have d:li n es ws p ⟨prs,h',cS post 0⟩ w [(z,⟨prz,hz,p+1⟩)] gs zo xo X ss xi rest out (R0++(bW dM l (z+1)++bW dM post 0)):=by
   refine⟨h.shf,by omega,hx,ha1,ha2,by simp,fun q=>by grind,fun _=>hzl,?_,hrl,by grind,by simpa[gw]using hnew,o1,o2,n1,o3,n2⟩;refine hes.trans (k7.2 fun x=>?_)
   have E:bW dM (l++[(z,prz,hz)]++(p,prs,h')::post) 0=bW dM l (z+1)++(z,bq ⟨prz,hz,p+1⟩)::(p,bq ⟨prs,h',cS post 0⟩)::bW dM post 0:=by
    rw[cO,lx];rfl
   rw[E];simp only[kK,lT,oo,fZ,d8,fX,pw,eA];omega
  refine⟨w,[(z,⟨prz,hz,p+1⟩)],gs,zo,xo,X,ss,xi,rest,out,_,up'.reverse,d,⟨ups,b,Ps,U,bT (l++[(z,prz,hz)]),bT post,h.toWT,ndx,hws.symm,lv1,lv2,by rw[hb];simp[bT],nd2,by simp[bT],fun _=>lv3 (by simp_all),fun q=>by grind⟩,d.left.2,?_,hdn,fun l hl=>hI' l (by grind),?_,hod⟩
  ·refine d.left.1.trans ?_;refine List.Perm.trans ?_ (List.Perm.append_right _ (hp2.symm.trans zX.symm))
   have E:bW dM (l++[(z,prz,bif w then h' else hz)]++post) 0=bW dM l (z+1)++(z,bq ⟨prz,bif w then h' else hz,cS post 0⟩)::bW dM post 0:=by
    rw[cO,lx];rfl
   rw[xp,E];refine k7.2 fun x=>?_
   simp only[kK,lT,fZ,gw,d8,fX,pw,eA];omega
  ·rw[xp,cO];exact(gV _ _ _).2 ⟨k1,hnew,ok2⟩
inductive uq(n:Nat)(r:Int)(es:Es)(k:Bs):Int->Int->Es->Prop
 |arg (h:cg k=aD):uq n r es k 1 r es
 |no {ws:List bh} {pl:Int} {l:Lf} (hs:cP n es) (hk:cg k=aC) (hw:jy es k r ws pl l) (hl:ws.length<=1024) (hr0:cK l=aC) (hh:c9 (bw l.prs) k=aD):uq n r es k 7 r es
 |put {ws:List bh} {pl:Int} {l:Lf} (hs:cP n es) (hk:cg k=aC) (hw:jy es k r ws pl l) (hl:ws.length<=1024) (hg:cT es pl=aA (bq l)) (hr0:cK l=aC) (hh:c9 (bw l.prs) k=aC) (hd:gi l.prs k≠[]∨ws=[]) (hr:cK ⟨gi l.prs k,l.high,l.next⟩=aC) :
  uq n r es k 0 r (bD es pl (bq ⟨gi l.prs k,l.high,l.next⟩))
 |drop {ws:List bh} {pl:Int} {l:Lf} {w:Bool} {zl:List Nl} {gs zo:List Nd} {xo X:Nd} {ss:List bh} {xi:Nat} {rest:List bh} {out:List Int} {R:Es} {r':Int} {es':Es} (hk:cg k=aC) (hw:jy es k r ws pl l) (hr0:cK l=aC) (hh:c9 (bw l.prs) k=aC) (hd:gi l.prs k=[]) (hw0:ws≠[])
  (d:li n es ws pl l w zl gs zo xo X ss xi rest out R) (hsk:lR n r (mF es pl l w zl gs zo X) r' es') (hdl:Bn n r es ws pl zl gs zo xo):uq n r es k 0 r' es'
theorem zO{k:Bs}{r n:Int}{es:List (V × V)}{bs:List V}{m:List O}{v0:V}{L:Int × Int × Int × List (V × V) × List V}(h:uT k r n es bs=aA (.doneM v0 m))(hc:iP aX (tm r n es bs) v0 m=tH L) :
  cA aI aX 33 [.ptr 0 0 0,.str k] (tm r n es bs)=aA (tH L):=Yz _ _ _ _ _ h (.done hc)
theorem Ws{n:Nat}{r:Int}{es:Es}{k:Bs}{e r':Int}{es':Es}(h:uq n r es k e r' es'):cA aI aX 33 [.ptr 0 0 0,.str k] (tM r n es)=aA (tH (e,r',n,cX es',cD n (br es'))):=by
 cases h with
 |arg h =>
  refine zO (v0:=.int .i64 1) (m:=tM r n es) ?_ (by kernel_rfl);unfold uT;rw[aN (lC k),bI,h];rfl
 |@no ws pl l hs hk hw hl hr0 hh =>
  have hdl:=Gr l hr0 k;rw[hh]at hdl;apply zO
  case h =>
   unfold uT;rw[aN (lC k),bI,hk,bK,aP,cY vE (wj hs hw (by omega)),cF];show(aL aI _ [eL l,_] _)=_;rw[aN hdl];show(qN (aT [eL kW,aB .i64 7]) _)=_;rw[n8,fP (by decide),aZ]
  case hc=>kernel_rfl
 |@put ws pl l hs hk hw hl hg hr0 hh hd hr =>
  have hdl:=Gr l hr0 k;rw[hh,aU rfl]at hdl
  by_cases h0:gi l.prs k=[]
  ·have hw0:=hd.resolve_left fun q=>q h0
   subst hw0;apply zO
   case h =>
    unfold uT;rw[aN (lC k),bI,hk,bK,aP,cY vE (wj hs hw (by omega)),cF];show(aL aI _ [eL l,_] _)=_;rw[aN hdl,n8,dA rfl,aP,bp (by rw[dv,h0];simp),aP,db (by rfl),aZ];show(bH aI _ _ _ [_,_,.ifc 120 (eL ⟨gi l.prs k,l.high,l.next⟩)] (tM r n es) _)=_;rw[cH k6 (un hs hg hr)]
   case hc=>kernel_rfl
  ·apply zO
   case h =>
    unfold uT;rw[aN (lC k),bI,hk,bK,aP,cY vE (wj hs hw (by omega)),cF];show(aL aI _ [eL l,_] _)=_;rw[aN hdl,n8,dA rfl,aP,aW (show((bn (gi l.prs k)).length:Int) > 0 by rw[dv];have:=uy.2 h0;omega),aZ];show(bH aI _ _ _ [_,_,.ifc 120 (eL ⟨gi l.prs k,l.high,l.next⟩)] (tM r n es) _)=_;rw[cH k6 (un hs hg hr)]
   case hc=>kernel_rfl
 |@drop ws pl l w zl gs zo xo X ss xi rest out R r' es' hk hw hr0 hh hd hw0 d hsk _ =>
  have hdl:=Gr l hr0 k;rw[hh,aU rfl]at hdl;have hlen:=d.len;apply zO
  case h =>
   unfold uT;rw[aN (lC k),bI,hk,bK,aP,cY vE (wj d.shf hw (by omega)),cF];show(aL aI _ [eL l,_] _)=_;rw[aN hdl,n8,dA rfl,aP,bp (by rw[dv,hd];simp),aP,dH (by rw[t8];simp_all),aP,cH acN (WA d hsk)]
  case hc=>kernel_rfl
theorem Wm{prs:List Pr}{h k:Bs}(o:lP prs h)(hh:c9 (bw prs) k=aC):lP (gi prs k) h:=by
 have hs:(gi prs k).Sublist prs:=by rw[Gq o.ri hh];simp_all
 refine⟨o.ri.sublist hs,fun x hx=>o.mem x (hs.subset hx),o.hi.imp id fun q=>⟨q.1,fun x hx=>q.2 x (hs.subset hx)⟩,?_⟩;have h1:=yV prs (bY (bw prs) k);have h2:=yV (prs.drop (bY (bw prs) k)) 1;rw[uu]at h2;have:=o.wt;unfold gi;rw[yU];omega
def DK(k:Bs)(l:List Pr):List Pr:=l.filter fun x=>!(x.1==k)
theorem Qy{k:Bs}{l:List Pr}(h:∀x∈l,lt x.1 k=aC∨lt k x.1=aC):DK k l=l:=u4 (p:=fun x:Pr=>!(x.1==k)) fun x hx=>by
 by_cases he:x.1=k
 ·have:=h x hx;rw[he,lE]at this;grind
 grind
def Le(n:Nat)(r:Int)(es:Es)(ups:List IL)(b:LL)(k:Bs)(e r':Int)(es':Es)(ups':List IL)(b':LL):Prop :=
 (e=0/\cg k=aC/\c9 (bw (bP b)) k=aC/\bP b'=DK k (bP b)) ∨
 (r'=r/\es'=es/\ups'=ups/\b'=b/\((e=1/\cg k=aD)∨(e=7/\cg k=aC/\c9 (bw (bP b)) k=aD)))
theorem Wq{n:Nat}{r:Int}{es:Es}{ups:List IL}{b:LL}(h:WF n r es ups b)(k:Bs) :
  ∃e r' es' ups' b',WF n r' es' ups' b'/\uq n r es k e r' es'/\Le n r es ups b k e r' es' ups' b':=by
 cases hk:cg k with
 |false=>exact⟨1,r,es,ups,b,h,.arg hk,.inr ⟨rfl,rfl,rfl,rfl,.inl ⟨rfl,hk⟩⟩⟩
 |true =>
  obtain⟨p,h',ws,pre,prs,post,q1,q2,q3,q4,q5,q6⟩:=Uj h.toWT hk;have hF:=h.okF;rw[q2]at hF;have hr:cK ⟨prs,h',cS post 0⟩=true:=IM hF;obtain⟨o,hx0,hx1⟩:=tv hr;have hul:=uh h.toWT;obtain⟨hgp,_⟩:=Fo q6;have hord:=h.ord;rw[q2]at hord;have hpre:=(vL hord).2.2.1;obtain⟨hca,hcc⟩:=Uh hord hF q3 q4;have hris:=HU hord hF;have efl:bP (pre++(p,prs,h')::post)=bP pre++(prs++bP post):=by rw[pD,mJ]
  rw[efl]at hris;have hhas:=O4 hca hcc hris;have hfb:bP b=bP pre++(prs++bP post):=by grind
  cases hh:c9 (bw prs) k with
  |false=>exact⟨7,r,es,ups,b,h,.no h.shf hk q6 (by omega) hr hh,.inr ⟨rfl,rfl,rfl,rfl,.inr ⟨rfl,hk,by grind⟩⟩⟩
  |true =>
   have o2:=Wm o hh;have hr2:=rD o2 hx0 hx1
   have hfl:DK k (bP b)=bP pre++(gi prs k++bP post):=by
    rw[hfb];show(bP pre++(prs++bP post)).filter _=_;rw[qz,qz,Gq o.ri hh];have e1:=Qy (k:=k) (l:=bP pre) fun x hx=>.inl (hca x hx)
    have e2:=Qy (k:=k) (l:=bP post) fun x hx=>.inr (hcc x hx)
    unfold DK at e1 e2;grind
   have hin:c9 (bw (bP b)) k=true:=by grind
   by_cases hd:gi prs k≠[]∨ws=[]
   ·have hat:=h.rep;rw[q2]at hat;have hat:=Dt hat;have hpm:=j6 (b':=bq ⟨gi prs k,h',cS post 0⟩) h.shf.nd hat;obtain⟨ok1,ok3,ok2⟩:=(gV _ _ _).1 hF;have hne:=Ay h q2;refine⟨0,r,bD es p (bq ⟨gi prs k,h',cS post 0⟩),ups,pre++(p,gi prs k,h')::post,⟨⟨iY h.shf (gp hat),hpm.trans (PO (U:=dY ups) (pre:=pre) (post:=post) (p:=p) (x:=(gi prs k,h'))),?_,h.okI,(gV _ _ _).2 ⟨ok1,hr2,ok2⟩,QO hord ?_⟩,?_,h.rt⟩,.put h.shf hk q6 (by omega) hgp hr hh hd hr2,.inl ⟨rfl,hk,hin,?_⟩⟩
    ·have e:df (pre++(p,gi prs k,h')::post)=df b:=by rw[q2];simp[df]
     exact Gw e h.dn
    ·intro y hy x hx;refine(hpre y hy).2 x ?_;rw[Gq o.ri hh]at hx;grind
    ·grind
    ·rw[hfl,pD,mJ]
   ·have hd0:gi prs k=[]:=Classical.byContradiction fun q=>hd (.inl q)
    have hw0:ws≠[]:=fun q=>hd (.inr q)
    have hu:ups≠[]:=by
     grind
    obtain⟨w,zl,gs,zo,xo,X,ss,xi,rest,out,R,up',d,hdl,hwt⟩:=Wz h q1 q2 q5 hu;have hne:=Ay h q2
    obtain⟨r',es',ups',h1,h2⟩:=Tx hwt (by
     intro x hx;rcases cz.1 hx with hx|hx
     ·rcases gg pre with rfl|⟨l,⟨z,prz,hz⟩,rfl⟩
      ·cases hx
      ·rw[i4]at hx hne;rw[xp]at hx;rcases cz.1 hx with hx|hx
       ·grind
       ·have:x=(z,prz,bif w then h' else hz):=by grind
        rw[this];exact hne (z,prz,hz) (.inl (by simp))
     grind)
    refine⟨0,r',es',ups',_,h2,.drop hk q6 hr hh hd0 hw0 d h1 hdl,.inl ⟨rfl,hk,hin,?_⟩⟩;rw[hfl,pD,aaa,hd0];simp
theorem afd(l:Lf)(h:ju l):∀(r:List Pr) (k a:Nat),l.prs.drop k=r->a<=2000+2002 * k ->
  Go qk aD 0 (fF 197) (.head 0 (B3 (a:Int) (k:Int) (bn l.prs) l.high l.next)) (.done (.int .i64 ((a+bz r:Nat):Int))):=by
 have hl:=h.prs;intro r
 induction r with
 |nil =>
  intro k a hr _;have h1:=fT hr;refine SX _ _ _ _ _ ?_ (.refl _);unfold Kg;rw[dv,bp (by omega),aP];rfl
 |cons x r ih =>
  intro k a hr ha;obtain⟨h1,h2,h3⟩:=ej hr;have hx:=h.pr x (dx h1);have w:W .i64 ((k:Int)+1)=((k+1:Nat):Int):=by rw[bf (by omega)];omega
  have w1:W .i64 ((a:Int)+2)=((a+2:Nat):Int):=by rw[bf (by omega)];omega
  have w2:W .i64 (((a+2:Nat):Int)+(x.1.length:Int))=((a+2+x.1.length:Nat):Int):=by rw[bf (by omega)];omega
  have w3:W .i64 (((a+2+x.1.length:Nat):Int)+(x.2.length:Int))=((a+2+x.1.length+x.2.length:Nat):Int):=by rw[bf (by omega)];omega
  have e:a+bz (x::r)=a+2+x.1.length+x.2.length+bz r:=by rw[bz];omega
  rw[e];refine SX _ _ _ _ _ ?_ (ih (k+1) (a+2+x.1.length+x.2.length) h2 (by omega));unfold Kg;rw[dv,aW (by omega),aZ,aQ (by simp),bi,fE h1,fN,aQ (by simp),fE h1,fN,w,w1,w2,w3]
theorem afa(l:Lf)(h:ju l):bJ aI 197 [eL l]=aA (.int .i64 (ix l:Int)):=by
 have hh:=h.high;have w:W .i64 (5+(l.high.length:Int))=((5+l.high.length:Nat):Int):=by rw[bf (by omega)];omega
 refine X1 _ _ _ ?_ (afd l h l.prs 0 _ rfl (by omega));unfold Nr;grind
theorem Eo(ps:List Pr)(hl:ps.length<=1000)(hp:∀p∈ps,p.1.length<=1000/\p.2.length<=1000):bJ aI 144 [.sl (bn ps)]=aA (.int .i64 (bz ps:Int)):=by
 have hs:ju ⟨ps,[],0⟩:=⟨hl,hp,by simp⟩
 have:=KE hs
 have w:W .i64 (((ix ⟨ps,[],0⟩:Nat):Int) - 5)=((bz ps:Nat):Int):=by
  have e:ix ⟨ps,[],0⟩=5+bz ps:=rfl;rw[bf (by omega),e];omega
 refine Xm _ ?_;unfold GM;show(aL aI _ [eL ⟨ps,[],0⟩] _)=_;rw[aN (afa _ hs),bF,w]
def Be(l:Lf):Bool:=decide (l.high.length<=16) && (decide (0<=l.next) && (decide (l.next<=1024) && decide (bz l.prs<=231)))
theorem ae2(l:Lf)(h:ju l){k:Nat}(hk:l.prs.length<=k):yv (k:Int) (bn l.prs) l.high l.next=aA (.done (.bool (Be l))):=by
 unfold yv Be;rw[dv,bp (by omega),aP,aN (Eo l.prs h.prs h.pr),bF,show decide (((l.high.length:Nat):Int)<=16)=decide (l.high.length<=16) from lW.2 (by omega),show decide (((bz l.prs:Nat):Int)<=231)=decide (bz l.prs<=231) from lW.2 (by omega)];grind
theorem yR(s:Bs):bJ aI 48 [.str s]=aA (.bool (eH s)):=by
 refine YI _ ?_;unfold Hn eH;rw[lW.2 (show(s.length:Int)<=32↔s.length<=32 by omega)]
theorem ab3{k:Bs}(h:cg k=aC):lt [] k=true:=by
 cases k with
 |nil=>cases h
 |cons a k=>rfl
theorem ae3(l:Lf)(h:ju l):∀(r:List Pr) (k:Nat) (p:Bs),l.prs.drop k=r->(k=0/\p=[]∨∃v,0 < k/\l.prs[k - 1]? = aA (p,v)) ->
  Go qk aD 0 (fF 101) (.head 0 (qE (k:Int) (bn l.prs) l.high l.next)) (.done (.bool (iW p r && ((l.high==[] ||r.all fun x=>lt x.1 l.high) && Be l)))):=by
 have hl:=h.prs;have hh:=h.high;intro r
 induction r with
 |nil =>
  intro k p hr _;have h1:=fT hr;refine vY _ _ _ _ ?_ (.refl _);rw[ae2 l h h1];simp[iW]
 |cons x r ih =>
  intro k p hr hp;obtain⟨h1,h2,h3⟩:=ej hr;have hx:=h.pr x (dx h1);have w:W .i64 ((k:Int)+1)=((k+1:Nat):Int):=by rw[bf (by omega)];omega
  have e0:cg x.1=aC->yv (k:Int) (bn l.prs) l.high l.next=cond (!eH x.2) (aA (.done (bc aD))) (cond (!lt p x.1) (aA (.done (bc aD))) (cond (!(l.high==[])) (cond (!lt x.1 l.high) (aA (.done (bc aD))) (aA (.head 0 (qE ((k+1:Nat):Int) (bn l.prs) l.high l.next)))) (aA (.head 0 (qE ((k+1:Nat):Int) (bn l.prs) l.high l.next))))):=by
   intro hk;unfold yv;rw[dv,aW (by omega),aZ,aQ (by simp),bi,fE h1,fN,aN (kq x.1),bI,hk,bK,aP,aQ (by simp),fE h1,fN,aN (yR x.2),bI];rcases hp with⟨rfl,rfl⟩|⟨v,hk0,hkp⟩
   ·rw[ab3 hk,bK,aP,bp (by omega),aP,aQ (by simp),fE h1,fN,aN (kX x.1 l.high (by omega)),bI,w]
   ·have w2:W .i64 ((k:Int) - 1)=((k - 1:Nat):Int):=by rw[bf (by omega)];omega
    rw[aW (by omega),aZ,w2,aQ (by simp),bi,fE hkp,fN,aQ (by simp),fE h1,fN,aN (kX p x.1 (by omega)),bI,aQ (by simp),fE h1,fN,aN (kX x.1 l.high (by omega)),bI,w]
  rw[iW];cases q1:cg x.1 with
  |false =>
   refine vY _ _ _ _ ?_ (.refl _);unfold yv;rw[dv,aW (by omega),aZ,aQ (by simp),bi,fE h1,fN,aN (kq x.1),bI,q1];rfl
  |true =>
   have e0:=e0 q1;cases q2:eH x.2 with
   |false=>exact vY _ _ _ _ (e0.trans (by grind)) (.refl _)
   |true =>
    cases q3:lt p x.1 with
    |false=>exact vY _ _ _ _ (e0.trans (by grind)) (.refl _)
    |true =>
     have hn:=ih (k+1) x.1 h2 (.inr ⟨x.2,by omega,by grind⟩);cases q4:(l.high==[])with
     |true =>
      rw[q4]at hn;refine vY _ _ _ _ (e0.trans (by rw[q2,q3,q4];rfl)) ?_;grind
     |false =>
      rw[q4]at hn;cases q5:lt x.1 l.high with
      |false =>
       refine vY _ _ _ _ (e0.trans (by rw[q2,q3,q4,q5];rfl)) ?_;rw[oY,q5];simp only[iZ,gP,j9];exact .refl _
      |true =>
       refine vY _ _ _ _ (e0.trans (by rw[q2,q3,q4,q5];rfl)) ?_;grind
theorem RH{h:Bs}:∀(r:List Pr) (p:Bs),iW p r=aC->lt (gm p r) h=(lt p h && r.all fun x=>lt x.1 h)
 | [],p,_=>by simp[gm]
 |x::r,p,hr=>by
  rw[iW]at hr;simp only[co]at hr;have ih:=RH (h:=h) r x.1 hr.2;have e:gm p (x::r)=gm x.1 r:=by unfold gm;grind
  rw[e,ih,oY];cases hx:lt x.1 h with
  |false=>simp
  |true=>rw[lt_trans hr.1.2 hx];rfl
theorem ae5(l:Lf):(iW [] l.prs && ((l.high==[] ||l.prs.all fun x=>lt x.1 l.high) && Be l))=cK l:=by
 unfold cK sV u9 Be gk;cases hr:iW [] l.prs with
 |false=>rfl
 |true =>
  rw[show decide (21+bz l.prs<=252)=decide (bz l.prs<=231) from lW.2 (by omega),RH l.prs [] hr];cases hh:l.high with
  |nil=>grind
  |cons a t =>
   have e:lt [] (a::t)=true:=rfl;rw[e];simp only[cg,show((a::t:Bs)==[])=aD from rfl,gq,gb,dL]
   all_goals grind
theorem tU(l:Lf)(h:ju l):bJ aI 101 [eL l]=aA (.bool (cK l)):=by
 have:=ae3 l h l.prs 0 [] rfl (.inl ⟨rfl,rfl⟩);rw[ae5]at this;exact WE _ _ _ rfl this
theorem JB(s:Bs)(h:s.length<=255):bJ aI 102 [.str s]=aA (.str (bN s)):=by
 refine WG _ ?_;unfold Gy;have w1:W .u8 ((s.length:Int))=((s.length:Nat):Int):=by rw[mr];omega
 rw[w1,bi,aQ (by grind)];rfl
theorem aek(l:Lf)(hl:l.prs.length<=1000):∀(r:List Pr) (k:Nat) (d:Bs),l.prs.drop k=r->(∀x∈r,x.1.length<=255/\x.2.length<=255)->d.length+bz r<=100000 ->
  Go qk aD 0 (fF 62) (.head 0 (B6 d (k:Int) (bn l.prs) l.high l.next)) (.done (.str (d++eZ r))):=by
 intro r
 induction r with
 |nil =>
  intro k d hr _ _;have h1:=fT hr;refine Ta _ _ _ _ _ ?_ (.refl _);unfold Ko;rw[dv,bp (by omega),aP,eZ,fh]
 |cons x r ih =>
  intro k d hr h hd;obtain⟨h1,h2,h3⟩:=ej hr;obtain⟨hx1,hx2⟩:=h x (by simp);have w:W .i64 ((k:Int)+1)=((k+1:Nat):Int):=by rw[bf (by omega)];omega
  rw[bz]at hd;have:=ih (k+1) (d++(bN x.1++bN x.2)) h2 (fun y hy=>h y (by grind)) (by grind);rw[eZ,<-cO];refine Ta _ _ _ _ _ ?_ this;unfold Ko;rw[dv,aW (by omega),aZ,aQ (by simp),bi,fE h1,fN,aN (JB x.1 hx1),cR,aQ (by simp),fE h1,fN,aN (JB x.2 hx2),cR,aQ (by grind),aQ (by grind),w]
theorem Jq(l:Lf)(hs:ju l):bJ aI 62 [eL l]=aA (.str (if cK l then bq l else [])):=by
 cases h:cK l with
 |false =>
  refine NL _ _ _ ?_ (.refl _);unfold Ho;rw[aN (tU l hs),bI,h];rfl
 |true =>
  obtain⟨h1,h2,h3,h4,h5⟩:=nN.1 h;have hm:=tT h1;have hg:=wm fun x hx=>(hm x hx).1
  have hh:=tc h2;obtain⟨nn,hnn⟩:∃nn:Nat,l.next=(nn:Int):=⟨l.next.toNat,by omega⟩
  have hps:∀x∈l.prs,x.1.length<=255/\x.2.length<=255:=fun x hx=>by
   have q1:=(fm (hm x hx).1).2;have q2:=(hm x hx).2;simp only[eH,iR]at q2;omega
  have hl:=aek l hs.prs l.prs 0 ([76,UInt8.ofNat l.prs.length]++cN 2 nn++bN l.high) rfl hps (by simp[eP];omega)
  have hfin:[76,UInt8.ofNat l.prs.length]++cN 2 nn++bN l.high++eZ l.prs=bq l:=by
   unfold bq sH;grind
  rw[hfin]at hl;rw[aU rfl];refine NL _ _ _ ?_ hl;have w1:W .u8 ((l.prs.length:Int))=((l.prs.length:Nat):Int):=by rw[mr];omega
  have w2:W .u8 (((nn:Int)).tmod 256)=((nn % 256:Nat):Int):=by
   rw[show((nn:Int)).tmod 256=((nn % 256:Nat):Int) from rfl,mr];omega
  have w3:W .u8 (W .i64 (((nn:Int)).tdiv 256))=((nn / 256 % 256:Nat):Int):=by
   rw[show((nn:Int)).tdiv 256=((nn / 256:Nat):Int) from rfl,bf (by omega),mr]
  unfold Ho;rw[aN (tU l hs),bI,h,bK,aP,aQ (by simp),aN (JB l.high (by omega)),cR,aQ (by grind),dv,hnn,w1,w2,w3,bi,bi,bi];rfl
theorem qa(l:Lf)(h:cK l=aC):bJ aI 62 [eL l]=aA (.str (bq l)):=by
 have:=Jq l (tQ h);grind
abbrev zL:V:=.tup [eL kW,.int .i64 4]
theorem QW(s:Bs)(hs:s.length<=252):iU s (s.length:Int)=(s,0):=by
 unfold iU;rw[aY (by omega),aY (by omega),bi,qC,List.replicate_zero,fh]
theorem ad6{s:Bs}(hs:s.length<=252){l:Lf}(h:cK l=aC)(he:s=bq l)(hp:l.prs≠[]):EC s 0 l.high l.next (bn l.prs)=aA (.done (.tup [eL l,.int .i64 0])):=by
 subst he;unfold EC;show(aL aI _ [eL l] _)=_;rw[aN (qa l h),cR,aN (DX _ _ (by grind)),jA,QW _ hs];show(cond ((0:Int) != 0) _ (cond ((0:Int) != 0) _ (cond (!(bq l==bq l)) _ (aL aI _ [eL l] _))))=_;rw[fj,aN (tU l (tQ h)),bI,h];rfl
theorem ad7{s:Bs}(hs:s.length<=252){h':Bs}{nx:Int}(h:cK ⟨[],h',nx⟩=aC)(he:s=bq ⟨[],h',nx⟩):EB s 0 h' nx=aA (.done (.tup [eL ⟨[],h',nx⟩,.int .i64 0])):=by
 subst he;unfold EB;show(aL aI _ [eL ⟨[],h',nx⟩] _)=_;rw[aN (qa _ h),cR,aN (DX _ _ (by grind)),jA,QW _ hs];show(cond ((0:Int) != 0) _ (cond ((0:Int) != 0) _ (cond (!(bq ⟨[],h',nx⟩==bq ⟨[],h',nx⟩)) _ (aL aI _ [eL ⟨[],h',nx⟩] _))))=_;rw[fj,aN (tU _ (tQ h)),bI,h];rfl
theorem N7{l:Lf}(h:cK l=aC):5<=(bq l).length/\(bq l).length<=252:=by
 obtain⟨h1,h2,h3,h4,h5⟩:=nN.1 h;have hh:=tc h2;rw[zV];unfold ix;omega
theorem ad8(l:Lf)(h:cK l=aC)(c:UInt8)(hc:(bq l)[1]? = aA c)(hcn:c.toNat=l.prs.length):∀(r dn:List Pr) (A:Bs),bq l=A++eZ r->l.prs=dn++r->dn≠[] ->
  Go qk aD 0 (fF 146) (.head 0 (wJ (bq l) (A.length:Int) 0 (dn.length:Int) l.high l.next (bn dn))) (.done (.tup [eL l,.int .i64 0])):=by
 obtain⟨q1,q2⟩:=N7 h;have hss:dk (bq l):=by grind
 have hm:=tT (nN.1 h).1;have hll:=(tQ h).prs;have wc:W .i64 ((c.toNat:Int))=((l.prs.length:Nat):Int):=by rw[hcn,bf (by omega)]
 intro r
 induction r with
 |nil =>
  intro dn A hA hd hne;rw[fh]at hd
  have e:tY (bq l) (A.length:Int) 0 (dn.length:Int) l.high l.next (bn dn)=aA (.head 1 (zn (bq l) 0 l.high l.next (bn dn))):=by
   unfold tY;rw[cG hc,wc,hd,bp (by omega),aP]
  refine yy _ _ _ _ _ _ _ e (SE _ _ _ _ _ ?_ (.refl _));rw[<-hd];exact ad6 q2 h rfl (by grind)
 |cons x r ih =>
  intro dn A hA hd hne;have hx:=hm x (by grind);have hx1:=(fm hx.1).2;have hx2:x.2.length<=32:=by have:=hx.2;simpa[eH]using this
  have hlen:=ef oZ hd;simp only[eV,dp]at hlen
  have e1:dW (bq l) (A.length:Nat)=(x.1,(((A++bN x.1).length:Nat):Int),0):=by
   rw[hA,eZ,cO,mR A x.1 _ (by omega)];grind
  have e2:dW (bq l) (((A++bN x.1).length:Nat):Int)=(x.2,(((A++bN x.1++bN x.2).length:Nat):Int),0):=by
   rw[hA,eZ,cO,<-cO A,mR (A++bN x.1) x.2 _ (by omega)];grind
  have w:W .i64 ((dn.length:Int)+1)=(((dn++[x]).length:Nat):Int):=by rw[bf (by omega)];simp
  have ih:=ih (dn++[x]) (A++bN x.1++bN x.2) (by rw[hA,eZ];simp) (by grind) (by simp);refine yy _ _ _ _ _ _ _ ?_ ih;unfold tY;rw[cG hc,wc,aW (by omega),aZ,db rfl,aZ,aN (iz e1 hss),d5,dA rfl,aP,aN (iz e2 hss),d5,aQ (aW (by rw[dv];grind)),w];simp[bn]
theorem aea(l:Lf)(h:cK l=aC):bJ aI 146 [.str (bq l)]=aA (.tup [eL l,.int .i64 0]):=by
 obtain⟨q1,q2⟩:=N7 h;obtain⟨h1,h2,h3,h4,h5⟩:=nN.1 h;have hm:=tT h1;have hg:=wm fun x hx=>(hm x hx).1
 have hh:=tc h2;have hss:dk (bq l):=by grind
 obtain⟨nn,hnn⟩:∃nn:Nat,l.next=(nn:Int):=⟨l.next.toNat,by omega⟩
 have i1:(bq l)[1]? = aA (UInt8.ofNat l.prs.length):=rfl;have i2:(bq l)[2]? = aA (UInt8.ofNat (nn % 256)):=by unfold bq sH;rw[hnn];rfl
 have i3:(bq l)[3]? = aA (UInt8.ofNat (nn / 256 % 256)):=by unfold bq sH;rw[hnn];rfl
 have c1:(UInt8.ofNat l.prs.length).toNat=l.prs.length:=by simp;omega
 have c2:(UInt8.ofNat (nn % 256)).toNat=nn % 256:=by simp
 have c3:(UInt8.ofNat (nn / 256 % 256)).toNat=nn / 256:=by simp;omega
 have hA:bq l=[76,UInt8.ofNat l.prs.length,UInt8.ofNat (nn % 256),UInt8.ofNat (nn / 256 % 256)]++(bN l.high++eZ l.prs):=by
  unfold bq sH;rw[hnn];rfl
 have t4:dW (bq l) 4=(l.high,((5+l.high.length:Nat):Int),0):=by
  have:=mR [76,UInt8.ofNat l.prs.length,UInt8.ofNat (nn % 256),UInt8.ofNat (nn / 256 % 256)] l.high (eZ l.prs) (by omega);grind
 have w2:W .i64 ((nn % 256:Nat):Int)=((nn % 256:Nat):Int):=bf (by omega);have w3:W .i64 ((nn / 256:Nat):Int)=((nn / 256:Nat):Int):=bf (by omega);have w4:W .i64 (256 * ((nn / 256:Nat):Int))=256 * ((nn / 256:Nat):Int):=bf (by omega);have w5:W .i64 (((nn % 256:Nat):Int)+256 * ((nn / 256:Nat):Int))=l.next:=by rw[bf (by omega),hnn];omega
 have he:CJ (bq l)=aA (.head 0 (BX (bq l) ((5+l.high.length:Nat):Int) 0 l.high l.next)):=by
  unfold CJ;rw[bp (by omega),aP,bp (by omega),aP,cG i2,cG i3,aN (iz t4 hss),d5,c2,c3,w2,w3,w4,w5]
 refine Nb _ he ?_;have wc:W .i64 (((UInt8.ofNat l.prs.length).toNat:Int))=((l.prs.length:Nat):Int):=by rw[c1,bf (by omega)]
 cases hp:l.prs with
 |nil =>
  have el:l=⟨[],l.high,l.next⟩:=by rw[<-hp]
  have hz:rG (bq l) ((5+l.high.length:Nat):Int) 0 l.high l.next=aA (.head 1 (zm (bq l) 0 l.high l.next)):=by
   unfold rG;rw[cG i1,wc,hp,bp (by simp),aP]
  refine yx _ _ _ _ _ hz (SD _ _ _ _ ?_ (.refl _));have:=ad7 (s:=bq l) q2 (h':=l.high) (nx:=l.next) (by grind) (by grind);grind
 |cons x r =>
  have hx:=hm x (by grind);have hx1:=(fm hx.1).2;have hx2:x.2.length<=32:=by have:=hx.2;simpa[eH]using this
  have hB:bq l=([76,UInt8.ofNat l.prs.length,UInt8.ofNat (nn % 256),UInt8.ofNat (nn / 256 % 256)]++bN l.high)++eZ (x::r):=by grind
  obtain⟨B,hBe⟩:∃B:Bs,B=[76,UInt8.ofNat l.prs.length,UInt8.ofNat (nn % 256),UInt8.ofNat (nn / 256 % 256)]++bN l.high:=⟨_,rfl⟩
  have hBl:B.length=5+l.high.length:=by grind
  rw[<-hBe]at hB
  have e1:dW (bq l) (B.length:Nat)=(x.1,(((B++bN x.1).length:Nat):Int),0):=by
   rw[hB,eZ,cO,mR B x.1 _ (by omega)];grind
  have e2:dW (bq l) (((B++bN x.1).length:Nat):Int)=(x.2,(((B++bN x.1++bN x.2).length:Nat):Int),0):=by
   rw[hB,eZ,cO,<-cO B,mR (B++bN x.1) x.2 _ (by omega)];grind
  have hz:rG (bq l) ((5+l.high.length:Nat):Int) 0 l.high l.next=aA (.head 0 (wJ (bq l) ((B++bN x.1++bN x.2).length:Nat) 0 (([x]:List Pr).length:Int) l.high l.next (bn [x]))):=by
   unfold rG;rw[cG i1,wc,aW (by grind),aZ,db rfl,aZ,<-hBl,aN (iz e1 hss),d5,dA rfl,aP,aN (iz e2 hss),d5,aQ (by simp)];rfl
  exact yx _ _ _ _ _ hz (ad8 l h _ i1 c1 r [x] _ (by rw[hB,eZ];simp) (by grind) (by simp))
theorem Bg(s:Bs)(n:Int):(dW s n).1.length<=255:=by
 unfold dW;split
 ·split
  ·simp
  ·split
   ·simp
   ·rename_i c r _ _;have:=c.toNat_lt;grind
 ·simp
theorem Rq{s:Bs}(hs:s.length<=252)(h5:5<=s.length)(h0:s[0]? = aA 78)(l:Lf)(hl:ju l):∃p pe,bJ aI 195 [.str (if cK l then bq l else []),.int .i64 (s.length:Int)]=aA (.tup [.str p,.int .i64 pe])/\(pe=0->(p==s)=aD):=by
 have hsz:=KE hl;refine⟨_,_,DX _ _ ?_,?_⟩
 ·split
  ·simp only[dk];rw[zV];omega
  grind
 ·intro hp;refine Bool.eq_false_iff.2 fun e=>?_
  have e:=eq_of_beq e;have h1:((iU (if cK l then bq l else []) (s.length:Int)).1)[0]? = aA 78:=by grind
  generalize hx:(if cK l then bq l else [])=x at h1
  have hx0:x[0]?≠aA 78:=by
   rw[<-hx];cases cK l with
   |false=>simp
   |true=>rw[aU rfl];unfold bq;simp
  unfold iU at h1;grind
theorem ad9{s:Bs}(hs:s.length<=252)(h5:5<=s.length)(h0:s[0]? = aA 78):bJ aI 146 [.str s]=aA zL:=by
 have hss:dk s:=by grind
 obtain⟨c,hc⟩:∃c,s[1]? = aA c:=⟨_,cj (by omega)⟩
 obtain⟨c2,hc2⟩:∃c,s[2]? = aA c:=⟨_,cj (by omega)⟩
 obtain⟨c3,hc3⟩:∃c,s[3]? = aA c:=⟨_,cj (by omega)⟩
 have hcl:=c.toNat_lt;have wc:W .i64 ((c.toNat:Int))=((c.toNat:Nat):Int):=bf (by omega)
 have loop:∀(d i:Nat) (at0 e:Int) (hi:Bs) (nx:Int) (dn:List Pr),i+d=c.toNat->hi.length<=255->dn.length=i->(∀p∈dn,p.1.length<=1000/\p.2.length<=1000) ->
   Go qk aD 0 (fF 146) (.head 0 (wJ s at0 e (i:Int) hi nx (bn dn))) (.done zL):=by
  have fin:∀(e:Int) (hi:Bs) (nx:Int) (dn:List Pr),hi.length<=255->dn.length<=256->(∀p∈dn,p.1.length<=1000/\p.2.length<=1000)->Go qk aD 0 (fF 146) (.head 1 (zn s e hi nx (bn dn))) (.done zL):=by
   intro e hi nx dn h1 h2 h3;have hsm:ju ⟨dn,hi,nx⟩:=⟨(show dn.length<=1000 by omega),h3,(show hi.length<=1000 by omega)⟩
   obtain⟨p,pe,q1,q2⟩:=Rq hs h5 h0 ⟨dn,hi,nx⟩ hsm;refine SE _ _ _ _ _ ?_ (.refl _);unfold EC;show(aL aI _ [eL ⟨dn,hi,nx⟩] _)=_;rw[aN (Jq _ hsm),cR,aN q1,jA]
   by_cases he:e=0
   ·by_cases hpe:pe=0
    ·rw[dA he,aP,dA hpe,aP,q2 hpe];rfl
    ·rw[dA he,aP,fP hpe];rfl
   ·rw[fP he];rfl
  intro d
  induction d with
  |zero =>
   intro i at0 e hi nx dn hid h1 h2 h3;refine yy _ _ _ _ _ _ _ ?_ (fin e hi nx dn h1 (by omega) h3);unfold tY;rw[cG hc,wc,bp (by omega),aP]
  |succ d ih =>
   intro i at0 e hi nx dn hid h1 h2 h3
   by_cases he:e=0
   ·obtain⟨t1,m1,e1,q1⟩:∃t m e,dW s at0=(t,m,e):=⟨_,_,_,rfl⟩
    obtain⟨t2,m2,e2,q2⟩:∃t m' e,dW s m1=(t,m',e):=⟨_,_,_,rfl⟩
    have l1:=Bg s at0;have l2:=Bg s m1;rw[q1]at l1;rw[q2]at l2;simp only at l1 l2
    by_cases he1:e1=0
    ·have w:W .i64 ((i:Int)+1)=((i+1:Nat):Int):=by rw[bf (by omega)];omega
     have:=ih (i+1) m2 e2 hi nx (dn++[(t1,t2)]) (by omega) h1 (by grind) (fun p hp=>by
      grind)
     refine yy _ _ _ _ _ _ _ ?_ this;unfold tY;rw[cG hc,wc,aW (by omega),aZ,db he,aZ,aN (iz q1 hss),d5,dA he1,aP,aN (iz q2 hss),d5,aQ (aW (by rw[dv];grind)),w];simp[bn]
    ·refine yy _ _ _ _ _ _ _ ?_ (.refl _);unfold tY;rw[cG hc,wc,aW (by omega),aZ,db he,aZ,aN (iz q1 hss),d5,fP he1];rfl
   ·refine yy _ _ _ _ _ _ _ ?_ (fin e hi nx dn h1 (by omega) h3);unfold tY;rw[cG hc,wc,aW (by omega),aZ,dH he,aP]
 obtain⟨t,m,e,q⟩:∃t m e,dW s 4=(t,m,e):=⟨_,_,_,rfl⟩
 have lt0:=Bg s 4;rw[q]at lt0;simp only at lt0;refine Nb _ (o:=.head 0 (BX s m e t (W .i64 (W .i64 (c2.toNat:Int)+W .i64 (256 * W .i64 (c3.toNat:Int)))))) ?_ ?_
 ·unfold CJ;rw[bp (by omega),aP,bp (by omega),aP,cG hc2,cG hc3,aN (iz q hss),d5]
 ·generalize W .i64 (W .i64 (c2.toNat:Int)+W .i64 (256 * W .i64 (c3.toNat:Int)))=nx
  have fin0:Go qk aD 0 (fF 146) (.head 1 (zm s e t nx)) (.done zL):=by
   have hsm:ju ⟨[],t,nx⟩:=⟨jQ _,(fun p hp=>nomatch hp),(show t.length<=1000 by omega)⟩
   obtain⟨p,pe,q1,q2⟩:=Rq hs h5 h0 ⟨[],t,nx⟩ hsm;refine SD _ _ _ _ ?_ (.refl _);unfold EB;show(aL aI _ [eL ⟨[],t,nx⟩] _)=_;rw[aN (Jq _ hsm),cR,aN q1,jA]
   by_cases he:e=0
   ·by_cases hpe:pe=0
    ·rw[dA he,aP,dA hpe,aP,q2 hpe];rfl
    ·rw[dA he,aP,fP hpe];rfl
   ·rw[fP he];rfl
  by_cases h1:c.toNat=0
  ·refine yx _ _ _ _ _ ?_ fin0;unfold rG;rw[cG hc,wc,bp (by omega),aP]
  ·by_cases he:e=0
   ·obtain⟨t1,m1,e1,q1⟩:∃t m' e,dW s m=(t,m',e):=⟨_,_,_,rfl⟩
    obtain⟨t2,m2,e2,q2⟩:∃t m' e,dW s m1=(t,m',e):=⟨_,_,_,rfl⟩
    have l1:=Bg s m;have l2:=Bg s m1;rw[q1]at l1;rw[q2]at l2;simp only at l1 l2
    by_cases he1:e1=0
    ·have:=loop (c.toNat - 1) 1 m2 e2 t nx [(t1,t2)] (by omega) lt0 rfl (fun p hp=>by grind);refine yx _ _ _ _ _ ?_ this;unfold rG;rw[cG hc,wc,aW (by omega),aZ,db he,aZ,aN (iz q1 hss),d5,dA he1,aP,aN (iz q2 hss),d5,aQ (by simp)];rfl
    ·refine yx _ _ _ _ _ ?_ (.refl _);unfold rG;rw[cG hc,wc,aW (by omega),aZ,db he,aZ,aN (iz q1 hss),d5,fP he1];rfl
   ·refine yx _ _ _ _ _ ?_ fin0;unfold rG;rw[cG hc,wc,aW (by omega),aZ,dH he,aP]
theorem Rw(l:Lf)(hl:l.prs.length<=1000)(hp:∀p∈l.prs,p.1.length<=1000)(k:Bs)(hk:k.length<=1000):∀(r:List Pr) (i:Nat),l.prs.drop i=r->i+bY (bw r) k=bY (bw l.prs) k ->
  Go qk aD 0 (fF 147) (.head 0 (BY k (i:Int) (bn l.prs) l.high l.next)) (.done (.tup [.int .i64 (bY (bw l.prs) k),.bool (c9 (bw l.prs) k)]))
 | [],i,hd,he=>by
  have h1:=fT hd;have e:bY (bw l.prs) k=i:=by rw[<-he];rfl
  have h2:c9 (bw l.prs) k=false:=by
   unfold c9;rw[e,rY (by rw[lZ];grind)]
  refine J1 _ _ _ _ _ ?_ (.refl _);unfold ED;rw[dv,bp (by omega),aP,aP,e,h2]
 |x::r,i,hd,he=>by
  obtain⟨h1,h2,h3⟩:=ej hd;have w:W .i64 ((i:Int)+1)=((i+1:Nat):Int):=by rw[bf (by omega)];omega
  rw[bw,d8,Ag]at he;cases hx:lt x.1 k with
  |true =>
   rw[aU hx]at he;refine J1 _ _ _ _ _ ?_ (Rw l hl hp k hk r (i+1) h2 (by rw[<-he,bw];omega));unfold ED;rw[dv,aW (by omega),aZ,aQ (by simp),bi,fE h1,fN,aN (kX x.1 k (by omega)),bI,hx,aZ,w]
  |false =>
   rw[aY (by grind)]at he
   have h4:c9 (bw l.prs) k=(x.1==k):=by
    unfold c9;rw[<-he,fL,tl h1]
   refine J1 _ _ _ _ _ ?_ (.refl _);unfold ED;rw[dv,aW (by omega),aZ,aQ (by simp),bi,fE h1,fN,aN (kX x.1 k (by omega)),bI,hx,aP,aZ,aQ (by simp),fE h1,fN,<-he,h4,fL]
theorem Jt(l:Lf)(h:ju l)(k:Bs)(hk:k.length<=1000):bJ aI 147 [eL l,.str k]=aA (.tup [.int .i64 (bY (bw l.prs) k),.bool (c9 (bw l.prs) k)]) :=
 Xp _ _ _ _ rfl (Rw l h.prs (fun p hp=>(h.pr p hp).1) k hk l.prs 0 rfl (by omega))
theorem aer(l:Lf)(h:cK l=aC)(k:Bs)(hk:k.length<=1000):bJ aI 105 [eL l,.str k]=aA (if c9 (bw l.prs) k then .tup [.str (C6 l.prs k),.int .i64 0] else .tup [.str [],.int .i64 7]):=by
 have g:=lA h;refine WJ _ _ _ _ ?_;unfold GA;rw[aN (tU l g.sm),bI,h,bK,aP,aN (Jt l g.sm k hk),sN];cases hh:c9 (bw l.prs) k with
 |false=>rfl
 |true =>
  obtain⟨h2,_⟩:=qK hh;rw[lZ]at h2;have h3:l.prs[bY (bw l.prs) k]? = aA l.prs[bY (bw l.prs) k]:=cj h2;rw[bK,aP,aQ (by simp),bi,fE h3,fN,aU rfl,C6,h3];rfl
theorem ae0(l:Lf)(h:cK l=aC)(k v:Bs)(hk:cg k=aC)(hv:eH v=aC)(x:Nat)(hx:x=if c9 (bw l.prs) k then bY (bw l.prs) k+1 else bY (bw l.prs) k) :
  JJ (x:Int) (bn l.prs) l.high l.next ((bn l.prs).take (bY (bw l.prs) k)++[aH [aE k,aE v]])=aA (.done (kw l k v)):=by
 have g:=lA h;have g1:=g.len;have g2:=g.wt;have hle:bY (bw l.prs) k<=l.prs.length:=by rw[<-lZ];exact vm _ k
 have hxl:x<=l.prs.length:=by
  rw[hx];split
  ·rename_i hh;obtain⟨h2,_⟩:=qK hh;rw[lZ]at h2;omega
  grind
 have e1:(bn l.prs).take (bY (bw l.prs) k)++[aH [aE k,aE v]]=bn (l.prs.take (bY (bw l.prs) k)++[(k,v)]):=by rw[vP];simp[bn]
 have e2:((bn l.prs).take (bn l.prs).length).drop x=bn (l.prs.drop x):=by rw[iM,D4]
 have e3:bn (l.prs.take (bY (bw l.prs) k)++[(k,v)])++bn (l.prs.drop x)=bn (dm l.prs k v):=by
  rw[AF,hx];rfl
 have hlen:=Ja l.prs k v
 have hw:=Eo (dm l.prs k v) (by omega) (fun p hp=>by
  rcases ru hp with rfl|hp
  ·have:=(fm hk).2;simp only[eH,iR]at hv;grind
  ·exact g.sm.pr p hp)
 have hl2:(l.prs.take (bY (bw l.prs) k)++[(k,v)]).length<=1001:=by grind
 unfold JJ;rw[aQ (jI _),aQ (by simp),bi,aQ (aW (by rw[dv];grind)),e2,aQ (jI _),e1,aQ (aW (by rw[dv,dv,fD];omega)),e3,aN hw,bF];unfold kw
 by_cases hz:bz (dm l.prs k v)<=231
 ·grind
 ·rw[aY hz,aW (by omega),aZ];rfl
theorem AQ(l:Lf)(h:cK l=aC)(k v:Bs)(hk:cg k=aC)(hv:eH v=aC)(hh:l.high=[]∨lt k l.high=aC):bJ aI 106 [eL l,.str k,.str v]=aA (kw l k v):=by
 have g:=lA h;have g1:=g.len;have g2:=g.wt;have hk2:=(fm hk).2;have hhl:=g.sm.high;have hle:bY (bw l.prs) k<=l.prs.length:=by rw[<-lZ];exact vm _ k
 have w:W .i64 (((bY (bw l.prs) k:Nat):Int)+1)=((bY (bw l.prs) k+1:Nat):Int):=by rw[bf (by omega)];omega
 have e1:((bn l.prs).take (bY (bw l.prs) k)).length<=1000:=by grind
 have hs:JI k v (bn l.prs) l.high l.next=aA (.head 1 (BO ((if c9 (bw l.prs) k then bY (bw l.prs) k+1 else bY (bw l.prs) k:Nat):Int) (bn l.prs) l.high l.next ((bn l.prs).take (bY (bw l.prs) k)++[aH [aE k,aE v]]))):=by
  unfold JI;show(aL aI _ [eL l,_] _)=_;rw[aN (Jt l g.sm k (by omega)),sN,aQ (jI _),aQ (by simp),bi,aQ (aW (by rw[dv];grind)),aQ (by rw[vP];exact jI _),aQ (aW (by omega)),aQ (aW (by grind)),w]
  all_goals grind
 refine WL _ _ _ _ _ (o:=.head 0 (BN k v (bn l.prs) l.high l.next)) ?_ (afn _ _ _ _ _ hs (afo _ _ _ _ _ (ae0 l h k v hk hv _ rfl) (.refl _)));unfold MQ;show(aL aI _ [eL l] _)=_;rw[aN (tU l g.sm),bI,h,bK,aP,aN (kq k),bI,hk,bK,aP,aN (yR v),bI,hv,bK,aP,aN (kX k l.high (by omega)),bI];grind
theorem Jn(l:Lf)(h:cK l=aC)(k:Bs)(hk:k.length<=1000):bJ aI 110 [eL l,.str k]=aA (if c9 (bw l.prs) k then .tup [eL ⟨gi l.prs k,l.high,l.next⟩,.int .i64 0] else .tup [eL kW,.int .i64 7]):=by
 have g:=lA h;have g1:=g.len;have g2:=g.wt;refine WO _ _ _ _ ?_;unfold GC;rw[aN (tU l g.sm),bI,h,bK,aP,aN (Jt l g.sm k hk),sN];cases hh:c9 (bw l.prs) k with
 |false=>rfl
 |true =>
  obtain⟨h2,_⟩:=qK hh;rw[lZ]at h2;have w:W .i64 (((bY (bw l.prs) k:Nat):Int)+1)=((bY (bw l.prs) k+1:Nat):Int):=by rw[bf (by omega)];omega
  have e2:((bn l.prs).take (bn l.prs).length).drop (bY (bw l.prs) k+1)=bn (l.prs.drop (bY (bw l.prs) k+1)):=by rw[iM,D4]
  rw[bK,aP,aQ (jI _),aQ (by simp),bi,aQ (aW (by rw[dv];omega)),vP,aQ (jI _),aQ (aW (by rw[dv,eC];omega)),aQ (jI _),w,aQ (aW (by omega)),bi,aQ (aW (by rw[dv];omega)),e2,aQ (jI _),aQ (aW (by rw[dv,dv,eC,fD];omega)),AF];rfl
theorem Uq{l:List Pr}(h:∀p∈l,p.1.length<=1000/\p.2.length<=1000)(n:Nat):∀p∈l.take n,p.1.length<=1000/\p.2.length<=1000:=fun p hp=>h p (o4 hp)
theorem Se(l:Lf)(hl:l.prs.length<=1000)(pg:Int)(hp:0<=pg/\pg < 1024)(n:Nat)(hn:n < l.prs.length):JM pg (n:Int) (bn l.prs) l.high l.next=aA (.done (qi l pg n)):=by
 have h1:l.prs[n]? = aA l.prs[n]:=cj hn;have e2:((bn l.prs).take (bn l.prs).length).drop n=bn (l.prs.drop n):=by rw[iM,D4]
 have h2:(l.prs.drop n)[0]? = aA l.prs[n]:=by grind
 unfold JM;rw[aQ (jI _),aQ (by simp),bi,aQ (aW (by rw[dv];omega)),vP,aQ (jI _),aQ (aW (by rw[dv,eC];omega)),aQ (jI _),aQ (by simp),aQ (aW (by rw[dv];omega)),e2,aQ (jI _),aQ (aW (by rw[dv,fD];omega)),fE h2,fN,bf (by omega)];unfold qi;grind
theorem afb(l:Lf)(hl:l.prs.length<=1000)(hs:∀p∈l.prs,p.1.length<=1000/\p.2.length<=1000)(pg:Int)(hp:0<=pg/\pg < 1024):∀(r:List Pr) (n had:Nat),l.prs.drop n=r->r≠[]->0 < n->had=bz (l.prs.take n) ->
  Go qk aD 0 (fF 108) (.head 0 (zc pg (n:Int) (bn l.prs) l.high l.next)) (.done (qi l pg (n+lU (bz l.prs) had r))):=by
 intro r
 induction r with
 |nil=>grind
 |cons x r ih =>
  intro n had hr _ hn hhad;obtain⟨h1,h2,h3⟩:=ej hr;have w1:W .i64 (((bn l.prs).length:Int) - 1)=((l.prs.length - 1:Nat):Int):=by rw[dv,bf (by omega)];omega
  have hrl:r.length+n+1=l.prs.length:=by
   grind
  have hwl:=Fv hs;have hwt:=Fv (Uq hs n);have htl:(l.prs.take n).length<=1000:=by grind
  have w2:W .i64 (2 * ((bz (l.prs.take n):Nat):Int))=((2 * had:Nat):Int):=by rw[bf (by omega),hhad];omega
  cases hrr:r with
  |nil =>
   subst hrr;simp only[fc]at hrl
   have hz:AT pg (n:Int) (bn l.prs) l.high l.next=aA (.head 1 (zd pg (n:Int) (bn l.prs) l.high l.next)):=by
    unfold AT;grind
   exact JL _ _ _ _ _ hz (Ss _ _ _ _ _ (Se l hl pg hp n (by omega)) (.refl _))
  |cons y t =>
   have hrt:r.length=t.length+1:=by grind
   unfold lU
   have e0:AT pg (n:Int) (bn l.prs) l.high l.next=cond (decide (2 * had < bz l.prs)) (aA (.head 0 (zc pg ((n+1:Nat):Int) (bn l.prs) l.high l.next))) (aA (.head 1 (zd pg (n:Int) (bn l.prs) l.high l.next))):=by
    have w3:W .i64 ((n:Int)+1)=((n+1:Nat):Int):=by rw[bf (by omega)];omega
    unfold AT;rw[w1,aW (by omega),aZ,aQ (jI _),aQ (by simp),bi,aQ (aW (by rw[dv];omega)),vP,aN (Eo _ htl (Uq hs n)),bF,aN (Eo _ hl hs),bF,w2,w3,lW.2 (show((2 * had:Nat):Int) < (bz l.prs:Int)↔2 * had < bz l.prs by omega)]
   by_cases hA:2 * had < bz l.prs
   ·rw[aU hA];have:=ih (n+1) (had+bz [x]) h2 (by grind) (by omega) (by rw[FO,h1,yU,hhad];rfl);rw[hrr,jP]at this;exact JL _ _ _ _ _ (e0.trans (by grind)) this
   ·rw[aY hA];exact JL _ _ _ _ _ (e0.trans (by grind)) (Ss _ _ _ _ _ (Se l hl pg hp n (by omega)) (.refl _))
theorem afc(l:Lf)(h:cK l=aC)(h2:2<=l.prs.length)(pg:Int)(hp:0<=pg/\pg < 1024):bJ aI 108 [eL l,.int .i64 pg]=aA (qi l pg (dK l.prs)):=by
 have g:=lA h;have g1:=g.len;have g2:=g.wt
 obtain⟨x,y,r,hx⟩:∃x y r,l.prs=x::y::r:=by
  match hl:l.prs,h2 with
  |x::y::r,_=>grind
 have hd:l.prs.drop 1=y::r:=by grind
 have:=afb l (by omega) g.sm.pr pg hp (y::r) 1 (bz [x]) hd (by simp) (by omega) (by grind);have eh:dK l.prs=1+lU (bz l.prs) (bz [x]) (y::r):=by rw[hx];rfl
 rw[<-eh]at this;refine WN _ _ _ _ ?_ this;unfold MS;rw[aN (tU l g.sm),bI,h,bK,aP,dv,bp (by omega),aP,bp (by omega),aP,bp (by omega),aP];rfl
def cU(n:Nat)(f:Nat->Bool):List V:=(fK n).map fun j=>bc (f j)
theorem nf(n:Nat)(f:Nat->Bool):(cU n f).length=n:=by simp[cU]
theorem n7{n i:Nat}(f:Nat->Bool)(h:i < n):(cU n f)[i]? = aA (.bool (f i)):=by simp[cU,rZ h]
theorem L8{n i:Nat}(f:Nat->Bool)(b:Bool)(h:i < n):(cU n f).set i (.bool b)=cU n (e9 f i b):=by
 apply uw;intro j
 by_cases hj:j < n
 ·rw[n7 _ hj,FL]
  by_cases e:i=j
  ·subst e;rw[aU rfl,aU (by rw[nf];grind),e9,aU rfl]
  ·rw[aY e,n7 _ hj,e9,aY fun q=>e q.symm]
 ·rw[rY (by rw[gS,nf];omega),rY (by rw[nf];omega)]
theorem aeE(n:Nat)(hn:n<=1024)(f:Nat->Bool)(i:Int):cA aI aX 143 [.ptr 0 0 0,.int .i64 i] (rb (cU n f))=aA (xM (rb (cU n f)) (kV n f i)):=by
 refine Xl _ _ (o:=.doneM (.bool (kV n f i)) (rb (cU n f))) ?_ (.done (by kernel_rfl));unfold Na kV
 by_cases h0:0<=i
 ·rw[aW (show i ≥ 0 from h0),aZ,nf]
  by_cases h1:i < (n:Int)
  ·obtain⟨j,rfl⟩:∃j:Nat,i=(j:Int):=⟨i.toNat,by omega⟩
   rw[aW h1,aZ,aQ (by simp),bi,aQ (aW (by omega)),fY,cG (n7 f (by omega)),bI,aW (by omega),dL]
  grind
 grind
theorem afe(n:Nat)(hn:n<=1024)(f:Nat->Bool)(i:Nat)(hi:i < n)(hf:f i=aD):cA aI aX 142 [.ptr 0 0 0,.int .i64 (i:Int)] (rb (cU n f))=aA (Ao (0,cU n (e9 f i aC))):=by
 refine Xk _ _ (o:=.doneM (.int .i64 0) (rb (cU n (e9 f i aC)))) ?_ (.done (by kernel_rfl));unfold M9;rw[aW (by omega),aZ,nf,aW (by omega),bK,aP,aQ (by simp),bi,aQ (aW hi),fY,cG (n7 f hi),bI,hf,aP,aQ (by simp),aQ (aW hi),cG (n7 f hi),bI,L8 f aC hi]
theorem aes(n:Nat)(hn:n<=1024)(f:Nat->Bool)(i:Nat)(hi:i < n)(hf:f i=aC):cA aI aX 202 [.ptr 0 0 0,.int .i64 (i:Int)] (rb (cU n f))=aA (Av (0,cU n (e9 f i aD))):=by
 refine X9 _ _ (o:=.doneM (.int .i64 0) (rb (cU n (e9 f i aD)))) ?_ (.done (by kernel_rfl));unfold Nt;rw[aW (by omega),aZ,nf,aW (by omega),bK,aP,aQ (by simp),bi,aQ (aW hi),fY,cG (n7 f hi),bI,hf,bK,aP,aQ (by simp),aQ (aW hi),cG (n7 f hi),bI,L8 f aD hi]
theorem Sf(n:Nat)(hn:n<=1024)(f:Nat->Bool)(k:Nat)(hk:k < n)(hfk:f k=aD)(ha:∀j,j < k->f j=aC):∀(d i:Nat),i+d=k ->
  Go qk aC 2 (fF 99) (.head 0 (zD 0 (i:Int) (cU n f))) (.doneM (.tup [.int .i64 (k:Int),.int .i64 0]) (rb (cU n (e9 f k aC))))
 |0,i,hi=>by
  obtain rfl:i=k:=by omega
  refine Tg _ _ _ ?_ (.refl _);unfold Ky;rw[nf,aW (by omega),aZ,aQ (by simp),bi,aQ (aW hk),fY,cG (n7 f hk),bI,hfk,gb,aZ,cH acp (afe n hn f i hk hfk)]
 |d+1,i,hi=>by
  have w:W .i64 ((i:Int)+1)=((i+1:Nat):Int):=by rw[bf (by omega)];omega
  refine Tg _ _ _ ?_ (Sf n hn f k hk hfk ha d (i+1) (by omega));unfold Ky;rw[nf,aW (by omega),aZ,aQ (by simp),bi,aQ (aW (by omega)),fY,cG (n7 f (by omega)),bI,ha i (by omega),bK,aP,w]
theorem aff(n:Nat)(hn:n<=1024)(f:Nat->Bool)(k:Nat)(hk:mI n f=aA k):cA aI aX 99 [.ptr 0 0 0,.int .i64 0] (rb (cU n f))=aA (Ax (k,0,cU n (e9 f k aC))):=by
 unfold mI at hk;obtain⟨h1,h2,h3⟩:=List.find?_range_eq_some.1 hk;have hkn:k < n:=by grind
 refine Zr _ _ (o:=.head 0 (zD 0 ((0:Nat):Int) (cU n f))) ?_ ⟨_,_,Sf n hn f k hkn (by grind) (fun j hj=>by grind) k 0 (by omega),by kernel_rfl⟩;unfold NW;rw[aW (show(0:Int) ≥ 0 by omega),aZ,nf,aW (show(0:Int) < (n:Int) by omega)];rfl
theorem Sg(n:Nat)(hn:n<=1024)(f:Nat->Bool):∀(d i:Nat),i+d=n ->
  Go qk aC 2 (fF 93) (.head 0 (zC (i:Int) (cU n f) (aS (kC i f)))) (.doneM (.own 3) (rb (cU n f)++[aM 3 [] 0,aM 3 (aS (kC n f)) 0]))
 |0,i,hi=>by
  obtain rfl:i=n:=by omega
  refine Kx _ _ _ ?_ (.refl _);unfold ET;rw[nf,bp (by omega),aP]
 |d+1,i,hi=>by
  have w:W .i64 ((i:Int)+1)=((i+1:Nat):Int):=by rw[bf (by omega)];omega
  have hl:=KX i f;have ih:=Sg n hn f d (i+1) (by omega)
  have e:kC (i+1) f=if f i=aC then kC i f++[(i:Int)] else kC i f:=by
   unfold kC;rw[List.range_succ,qz,gA];grind
  rw[e]at ih;cases hf:f i with
  |true =>
   rw[hf,aU rfl]at ih;refine Kx _ _ _ ?_ ih;unfold ET;rw[nf,aW (by omega),aZ,aQ (by simp),bi,aQ (aW (by omega)),fY,cG (n7 f (by omega)),bI,hf,aZ,aQ (aW (by rw[cy];grind)),w];simp[aS,iV]
  |false =>
   rw[hf,aY (by simp)]at ih;refine Kx _ _ _ ?_ ih;unfold ET;rw[nf,aW (by omega),aZ,aQ (by simp),bi,aQ (aW (by omega)),fY,cG (n7 f (by omega)),bI,hf,aP,w]
theorem afg(n:Nat)(hn:n<=1024)(f:Nat->Bool):cA aI aX 93 [.ptr 0 0 0] (rb (cU n f))=aA (ya (rb (cU n f)) (aS (kC n f))) :=
 Zp _ rfl ⟨_,_,Sg n hn f n 0 (by omega),by kernel_rfl⟩
structure dq(n:Nat)(es:Es)(Ls:List Bs):Prop where
 len:Ls.length=n
 at_:∀p b,cT es p=aA b->Ls[p.toNat]? = aA b
abbrev jH(n:Nat)(es:Es)(Ls:List Bs):List O:=rs (bg Ls) (cU n (br es))
abbrev rM(r:Int)(n:Nat)(es:Es)(Ls:List Bs):List O:=rm r (bg Ls) (cU n (br es))
section
variable {n:Nat}{es:Es}{Ls:List Bs}{p:Int}
theorem abg(hS:cP n es)(hp:p∈bB es):kV n (br es) p=true:=by
 have hr:=hS.rng p hp;unfold kV br;grind
theorem Rp(hS:cP n es)(hL:dq n es Ls)(hp:p∈bB es):cA aI aX 100 [.ptr 0 0 0,.int .i64 p] (jH n es Ls)=aA (vu (jH n es Ls) 0):=by
 have hr:=hS.rng p hp;refine WB _ _ _ (o:=.doneM (.int .i64 0) (jH n es Ls)) ?_ (.done (by kernel_rfl));unfold MN;rw[bp (by omega),aP,d7,hL.len,bp (by omega),aP,cY acr (aeE n hS.le (br es) p),cF,abg hS hp,bK,aP]
theorem El(hS:cP n es)(hL:dq n es Ls){b:Bs}(hg:cT es p=aA b):cA aI aX 94 [.ptr 0 0 0,.int .i64 p] (jH n es Ls)=aA (vH (jH n es Ls) (b,0)):=by
 have hp:=fB hg;have hr:=hS.rng p hp;have hb:=hL.at_ p b hg;refine Zq _ _ _ (o:=.doneM (.tup [.str b,.int .i64 0]) (jH n es Ls)) ?_ (.done (by kernel_rfl));unfold NU;rw[cY Qh (Rp hS hL hp),cF,dA rfl,aP,aQ (aW hr.1),aQ (aW (by rw[d7,hL.len];omega)),fY,jC hb,cR]
theorem ku(hS:cP n es)(hL:dq n es Ls)(hp:0<=p/\p < (n:Int))(b:Bs):dq n (bD es p b) (Ls.set p.toNat b):=by
 refine⟨by rw[gS];exact hL.len,fun q c hq=>?_⟩;rw[C8]at hq;rw[FL];split at hq
 ·rename_i e;cases hq;rw[aU (by rw[e]),aU (by rw[hL.len];omega)]
 ·rename_i e;have hq2:=hS.rng q (fB hq);rw[aY (by omega)];exact hL.at_ q c hq
theorem agK(hp:p∈bB es)(b:Bs):br (bD es p b)=br es:=KZ fun q=>by rw[yj hp]
theorem lJ(hS:cP n es)(hL:dq n es Ls)(hp:p∈bB es){b:Bs}(hb:b.length<=252):cA aI aX 61 [.ptr 0 0 0,.int .i64 p,.str b] (jH n es Ls)=aA (jF (0,bg (Ls.set p.toNat b),cU n (br (bD es p b)))):=by
 have hr:=hS.rng p hp;obtain⟨c,hc⟩:∃c,Ls[p.toNat]? = aA c:=⟨_,cj (by rw[hL.len];omega)⟩
 have e:(bg Ls).set p.toNat (aE b)=bg (Ls.set p.toNat b):=by simp[bg]
 rw[agK hp];refine YP _ _ _ _ (o:=.doneM (.int .i64 0) (rs (bg (Ls.set p.toNat b)) (cU n (br es)))) ?_ (.done (by kernel_rfl));unfold NK;rw[cY Qh (Rp hS hL hp),cF,db rfl,aZ,bp (by omega),aP,aZ,aQ (aW hr.1),aQ (aW (by rw[d7,hL.len];omega)),fY,jC hc,cR,e]
theorem Em(hS:cP n es)(hL:dq n es Ls){j:Nat}(hf:mI n (br es)=aA j)(hj:j < n)(hq:(j:Int)∉bB es):cA aI aX 60 [.ptr 0 0 0] (jH n es Ls)=aA (tI ((j:Int),0,bg (Ls.set j []),cU n (br (bD es j [])))):=by
 obtain⟨c,hc⟩:∃c,Ls[j]? = aA c:=⟨_,cj (by rw[hL.len];omega)⟩
 have e:(bg Ls).set j (aE [])=bg (Ls.set j []):=by simp[bg]
 have ht:e9 (br es) j aC=br (bD es j []):=by
  funext k;unfold e9 br;rw[xA hq];grind
 have h1:=aff n hS.le (br es) j hf;rw[ht]at h1;refine YO _ _ (o:=.doneM (.tup [.int .i64 (j:Int),.int .i64 0]) (rs (bg (Ls.set j [])) (cU n (br (bD es j []))))) ?_ (.done (by kernel_rfl));unfold NJ;rw[cH acV h1,db rfl,aZ,aQ (by simp),bi,aQ (aW (by rw[d7,hL.len];omega)),fY,jC hc,cR,e]
theorem Rx(hS:cP n es)(hL:dq n es Ls):cA aI aX 107 [.ptr 0 0 0] (jH n es Ls)=aA (xG (jH n es Ls) ((n - es.length:Nat):Int)):=by
 have hn:=hS.le;have hl:=tu hS
 have w:W .i64 (((bg Ls).length:Int) - ((aS (kC n (br es))).length:Int))=((n - es.length:Nat):Int):=by
  rw[d7,hL.len,cy,Ff hS,bf (by omega)];omega
 refine WM _ _ (o:=.doneM (.int .i64 ((n - es.length:Nat):Int)) (jH n es Ls)) ?_ (.done (by kernel_rfl));unfold MR;rw[cY acU (afg n hn (br es)),cF,w]
theorem Pv(hn:(bB es).Nodup)(hp:p∈bB es):∀q,q∈bB (fO es p)↔q∈bB es/\q≠p:=by
 intro q;obtain⟨⟨a,b⟩,hm,rfl⟩:=ib.1 hp;obtain⟨A,B,rfl⟩:=List.append_of_mem hm
 have hA:a∉bB A:=by
  intro h;rw[bB,gA,d8]at hn;exact(uA.1 hn).2.2 a h a (by simp) rfl
 have hB:a∉bB B:=by
  intro h;rw[bB,gA,d8]at hn;exact(o5.1 (uA.1 hn).2.1).1 h
 rw[Gs hA];simp only[bB,gA,d8,cz,dE];constructor
 ·rintro(h|h)
  ·exact⟨.inl h,fun e=>hA (e ▸ h)⟩
  ·exact⟨.inr (.inr h),fun e=>hB (e ▸ h)⟩
 grind
theorem OU{q:Int}{b:Bs}:∀{es:Es},(bB es).Nodup->cT (fO es p) q=aA b->cT es q=aA b
 | [],_,h=>h
 |(a,x)::es,hn,h=>by
  rw[bB,d8]at hn;obtain⟨h1,h2⟩:=o5.1 hn;unfold fO at h;split at h
  ·rw[cT]
   by_cases e:q=a
   ·exact gU (e ▸ fB h) h1
   grind
  ·rw[cT]at h |-
   split
   ·grind
   ·rename_i e;rw[aY e]at h;exact OU h2 h
theorem P1(hS:cP n es)(hL:dq n es Ls):dq n (fO es p) Ls:=⟨hL.len,fun q b hq=>hL.at_ q b (OU hS.nd hq)⟩
theorem Ry(hS:cP n es)(hL:dq n es Ls)(hp:p∈bB es):cA aI aX 153 [.ptr 0 0 0,.int .i64 p] (jH n es Ls)=aA (xN (0,bg Ls,cU n (br (fO es p)))):=by
 have hr:=hS.rng p hp;obtain⟨j,rfl⟩:∃j:Nat,p=(j:Int):=⟨p.toNat,by omega⟩
 have ht:e9 (br es) j aD=br (fO es j):=by
  funext k;unfold e9 br
  by_cases e:k=j
  ·subst e;rw[aU rfl,bp];rw[Pv hS.nd hp];simp
  ·rw[aY e];refine lW.2 ?_;rw[Pv hS.nd hp];grind
 have h1:=aes n hS.le (br es) j (by omega) (aW hp);rw[ht]at h1;refine Xy _ _ _ (o:=.doneM (.int .i64 0) (rs (bg Ls) (cU n (br (fO es j))))) ?_ (.done (by kernel_rfl));unfold Ng;rw[cH acy h1]
end
section
variable {r:Int}{n:Nat}{es:Es}{Ls:List Bs}{p:Int}
theorem qd(hS:cP n es)(hL:dq n es Ls){l:Lf}(hg:cT es p=aA (bq l))(hr:cK l=aC):cA aI aX 104 [.ptr 0 0 0,.int .i64 p] (rM r n es Ls)=aA (oG (rM r n es Ls) (bn l.prs,l.high,l.next,aC)):=by
 apply MP
 ·unfold Gz;rw[cY DI (El hS hL hg),cF,aN (aea l hr),n9,db rfl,aZ]
 ·exact .done (by kernel_rfl)
theorem RP(hS:cP n es)(hL:dq n es Ls){m:bV}(hg:cT es p=aA (cv m))(hr:bZ m=aC):cA aI aX 104 [.ptr 0 0 0,.int .i64 p] (rM r n es Ls)=aA (oG (rM r n es Ls) ([],[],0,aD)):=by
 have h5:5<=(cv m).length:=by rw[uV hr];unfold ff;omega
 apply MP
 ·unfold Gz;rw[cY DI (El hS hL hg),cF,aN (ad9 (nv hr) h5 (N6 hr))];show(nr (aT [aH [aG [],aE [],aB .i64 0],aB .i64 4]) _)=_;rw[n9,db rfl,aZ]
 ·exact .done (by kernel_rfl)
theorem qc(hS:cP n es)(hL:dq n es Ls){m:bV}(hg:cT es p=aA (cv m))(hr:bZ m=aC):cA aI aX 95 [.ptr 0 0 0,.int .i64 p] (rM r n es Ls)=aA (jY (rM r n es Ls) (bg m.seps,aS m.kids,m.high,m.next,aC)):=by
 have hb:=nv hr
 have hd:bJ aI 138 [.str (cv m)]=aA (.tup [eI m,.int .i64 0]):=by
  have:=QY hr 0 (by rw[<-uV hr];omega);rw[show fR 0=[] from rfl,fh]at this;rw[MD _ (by grind),this];rfl
 apply NV
 ·unfold HC;rw[cY DI (El hS hL hg),cF,aN hd,uQ,db rfl,aZ]
 ·exact .done (by kernel_rfl)
theorem AL(hS:cP n es)(hL:dq n es Ls){l:Lf}(hg:cT es p=aA (bq l))(hr:cK l=aC):cA aI aX 95 [.ptr 0 0 0,.int .i64 p] (rM r n es Ls)=aA (jY (rM r n es Ls) ([],[],[],0,aD)):=by
 have hd:bJ aI 138 [.str (bq l)]=aA (.tup [.agg [.sl [],.sl [],.str [],.int .i64 0],.int .i64 4]):=by
  have hp:kv (bq l)=none:=by
   unfold kv;rw[aU (.inr (.inr (by simp[bq])))]
  rw[MD _ (by rw[dk];have:=pA hr;omega),hp];rfl
 apply NV
 ·unfold HC;rw[cY DI (El hS hL hg),cF,aN hd,uQ,db rfl,aZ]
 ·exact .done (by kernel_rfl)
end
def dX(ws:List bh)(pl:Int):List Int:=ws.map (·.1)++[pl]
abbrev agZ(r:Int)(n:Nat)(es:Es)(Ls:List Bs)(l:List Int):dR:=.doneM (.own 6) (rM r n es Ls++[aM 3 [] 0,aM 3 (aS l) 0,aJ 152 (aH [aG [],aG [],aE [],aB .i64 0]) aD])
theorem afm{r:Int}{n:Nat}{es:Es}{Ls:List Bs}(hS:cP n es)(hL:dq n es Ls){k:Bs}(hk:k.length<=1000){p:Int}{ws:List bh}{pl:Int}{l:Lf}(h:jy es k p ws pl l):∀(acc:List Int),acc.length+ws.length<=10000 ->
  ∃i:List V × List V × Bs × Int × Bool,cA aI aX 95 [.ptr 0 0 0,.int .i64 p] (rM r n es Ls)=aA (jY (rM r n es Ls) i) /\
   Go qk aC 5 (fF 103) (.head 0 (BM k i.2.2.2.2 r (bg Ls) (cU n (br es)) (aS (acc++[p])) i.1 i.2.1 i.2.2.1 i.2.2.2.1)) (agZ r n es Ls (acc++dX ws pl)):=by
 induction h with
 |@leaf p l hg hr =>
  intro acc _;refine⟨_,AL hS hL hg hr,Sr _ _ _ _ _ _ _ _ _ _ ?_ (.refl _)⟩;unfold JH;rfl
 |@inn p e nx i p' sts pl l hg hr hf hi hw ih =>
  intro acc ha;simp only[dp]at ha;obtain⟨i2,h1,h2⟩:=ih (acc++[p]) (by grind);have e2:acc++[p]++dX sts pl=acc++dX ((p,e,nx,i)::sts) pl:=by simp[dX]
  rw[e2]at h2;refine⟨_,qc hS hL hg hr,Sr _ _ _ _ _ _ _ _ _ _ ?_ h2⟩;have hfd:=Oo (aV e nx) k (gF hr) hk;rw[hf]at hfd;unfold JH;rw[aZ];show(aL aI _ [eI (aV e nx),_] _)=_;rw[aN hfd,Ct,dA rfl,aP,aQ (by simp),bi,iq hi,bF,aQ (aW (by rw[cy];grind)),aQ (by simp),iq hi,bF,cY l9 h1,cF];simp[aS,iV]
theorem vX{r:Int}{n:Nat}{es:Es}{Ls:List Bs}(hS:cP n es)(hL:dq n es Ls){k:Bs}(hk:k.length<=1000){ws:List bh}{pl:Int}{l:Lf}(h:jy es k r ws pl l)(hw:ws.length<=10000) :
  cA aI aX 103 [.ptr 0 0 0,.str k] (rM r n es Ls)=aA (vv (rM r n es Ls) (aS (dX ws pl))):=by
 obtain⟨i,h1,h2⟩:=afm (r:=r) hS hL hk h [] (by grind);refine WI _ _ _ _ ?_ ⟨_,_,h2,by kernel_rfl⟩;unfold MO;rw[cY l9 h1,cF];rfl
theorem oU(ws:List bh)(pl:Int):(aS (dX ws pl)).length=ws.length+1:=by rw[cy];simp[dX]
theorem ag2(ws:List bh)(pl:Int):(dX ws pl)[ws.length]? = aA pl:=by unfold dX;grind
theorem DV(m:bV)(e:Int):vM (m,e)=aT [eI m,aB .i64 e]:=rfl
theorem afl{n:Nat}{r:Int}{es:Es}{sts:List bh}{k:Bs}{p to r':Int}{es':Es}(h:pi n r es sts k p to r' es'):cg k=aC->sts.length<=10000->∀Ls,dq n es Ls ->
  ∃Ls',dq n es' Ls'/\cA aI aX 109 [.ptr 0 0 0,.sl (aS (sts.map (·.1)).reverse),.str k,.int .i64 p,.int .i64 to] (rM r n es Ls)=aA (xH (r',bg Ls',cU n (br es'))):=by
 induction h with
 |@top es k p to j hs hf hj hq hr =>
  intro _ _ Ls hL;have hs1:=qh hs (b:=[]) hj hq;have hL1:=ku hs hL (p:=(j:Int)) (by omega) [];rw[bi]at hL1;have hL2:=ku hs1 hL1 (p:=(j:Int)) (by omega) (cv (aV [(p,k),(to,[])] 0));refine⟨_,hL2,?_⟩;apply GB
  ·unfold CH;rw[db (by simp[aS]),aZ,cH DF (Em hs hL hf hj hq)];show(aL aI _ [eI (aV [(p,k),(to,[])] 0)] _)=_;rw[aN (sU _ (gF hr)),cR];show(bH aI _ _ _ _ (jH n (bD es j []) (Ls.set j [])) _)=_;rw[cH lF (lJ hs1 hL1 (fB xn) (nv hr))]
  ·exact .done (by kernel_rfl)
 |@room es sts k p to q e nx i e' hs hg hr hk hp hr' =>
  intro _ hl Ls hL;simp only[dp]at hl;have hr0:=hs.rng q (fB hg);have hk2:=(fm hk).2;have hL2:=ku hs hL hr0 (cv (aV e' nx));have w:W .i64 (((aS ((((q,e,nx,i)::sts).map (·.1)).reverse)).length:Int) - 1)=((sts.length:Nat):Int):=by rw[cy,wy,d9,dp,bf (by omega)];omega
  have hi:(((q,e,nx,i)::sts).map (·.1)).reverse[sts.length]? = aA q:=by grind
  have hput:=D6 (aV e nx) k to (gF hr) (by omega);rw[hp]at hput;refine⟨_,hL2,?_⟩;apply GB
  ·unfold CH;rw[dH (by rw[cy];grind),aP,w,aQ (by simp),bi,iq hi,bF,cY l9 (qc hs hL hg hr),cF];show(aL aI _ [eI (aV e nx),_,_] _)=_;rw[aN hput,DV,uQ,db rfl,aZ];show(aL aI _ [eI (aV e' nx)] _)=_;rw[aN (sU _ (gF hr')),cR,cH lF (lJ hs hL (fB hg) (nv hr'))]
  ·exact .done (by kernel_rfl)
 |@two es sts k p to q e nx i j ea eb fa fb r' es' hs hg hr hk hp hf hj hq hra hrb rfa rfb hspl hcase hup ih =>
  intro _ hl Ls hL;simp only[dp]at hl;have hr0:=hs.rng q (fB hg);have hk2:=(fm hk).2;have hs1:=qh hs (b:=[]) hj hq;have hL1:=ku hs hL (p:=(j:Int)) (by omega) [];rw[bi]at hL1;have hqj:q≠(j:Int):=fun e=>hq (e ▸ fB hg)
  have hg1:cT (bD es j []) q=aA _:=(s8 hqj).trans hg;have hs2:=iY hs1 (b:=cv (aV fa ((j:Int)+1))) (fB hg1);have hL2:=ku hs1 hL1 hr0 (cv (aV fa ((j:Int)+1)));have hg2:cT (bD (bD es j []) q (cv (aV fa ((j:Int)+1)))) j=aA []:=(s8 hqj.symm).trans xn;have hL3:=ku hs2 hL2 (p:=(j:Int)) (by omega) (cv (aV fb nx));rw[bi]at hL3
  have hmid:cg (bG fa)=true:=by
   obtain⟨f1,_,f3,_⟩:=k8 hr;unfold rK at hspl;grind
  have hml:=(fm hmid).2;obtain⟨Ls',hL',hrec⟩:=ih hmid (by omega) _ hL3;have w:W .i64 (((aS ((((q,e,nx,i)::sts).map (·.1)).reverse)).length:Int) - 1)=((sts.length:Nat):Int):=by rw[cy,wy,d9,dp,bf (by omega)];omega
  have hi:(((q,e,nx,i)::sts).map (·.1)).reverse[sts.length]? = aA q:=by grind
  have hput:=D6 (aV e nx) k to (gF hr) (by omega);rw[hp]at hput;have hsp:=aga (aV e nx) j (gF hr);rw[hspl]at hsp
  have htk:(aS ((((q,e,nx,i)::sts).map (·.1)).reverse)).take sts.length=aS (sts.map (·.1)).reverse:=by
   rw[d8,Bz,<-pK];exact Bf _ _ (by rw[cy];simp)
  have h0:JN (aS ((((q,e,nx,i)::sts).map (·.1)).reverse)) q (j:Int) (bG fa) r (bg (Ls.set j [])) (cU n (br (bD es j []))) (bg (aV fa ((j:Int)+1)).seps) (aS (aV fa ((j:Int)+1)).kids) (bG fa) ((j:Int)+1) (bg (aV fb nx).seps) (aS (aV fb nx).kids) (bG fb) nx =
    aA (.doneM (.tup []) (rm r' (bg Ls') (cU n (br es'))++[aJ 152 (eI (aV fa ((j:Int)+1))) aD,aJ 152 (eI (aV fb nx)) aD])):=by
   unfold JN;show(aL aI _ [eI (aV fa ((j:Int)+1))] _)=_;rw[aN (sU _ (gF rfa)),cR];show(bH aI _ _ _ _ (jH n (bD es j []) (Ls.set j [])) _)=_;rw[cH lF (lJ hs1 hL1 (fB hg1) (nv rfa))];show(aL aI _ [eI (aV fb nx)] _)=_;rw[aN (sU _ (gF rfb)),cR];have hw2:=lJ hs2 hL2 (fB hg2) (nv rfb);rw[bi]at hw2;show(bH aI _ _ _ _ (jH n (bD (bD es j []) q (cv (aV fa ((j:Int)+1)))) ((Ls.set j []).set q.toNat (cv (aV fa ((j:Int)+1))))) _)=_;rw[cH lF hw2,aQ (mS _),w,aQ (by simp),bi,aQ (aW (by rw[cy];simp)),htk];show(bH aI _ _ _ _ (rM r n (bD (bD (bD es j []) q (cv (aV fa ((j:Int)+1)))) j (cv (aV fb nx))) _) _)=_;rw[cH Qj hrec]
  refine⟨Ls',hL',GB _ _ _ _ _ _ _ (o:=.head 0 (BP (aS ((((q,e,nx,i)::sts).map (·.1)).reverse)) q (j:Int) (bG fa) r (bg (Ls.set j [])) (cU n (br (bD es j []))) (bg (aV fa ((j:Int)+1)).seps) (aS (aV fa ((j:Int)+1)).kids) (bG fa) ((j:Int)+1) (bg (aV fb nx).seps) (aS (aV fb nx).kids) (bG fb) nx)) ?_ ⟨_,_,afp _ _ _ _ _ _ _ _ _ _ _ _ _ _ _ h0 (.refl _),by kernel_rfl⟩⟩;unfold CH;rw[dH (by rw[cy];grind),aP,w,aQ (by simp),bi,iq hi,bF,cY l9 (qc hs hL hg hr),cF];show(aL aI _ [eI (aV e nx),_,_] _)=_;rw[aN hput,DV,uQ,dH (by decide),aP,cH DF (Em hs hL hf hj hq)];show(aL aI _ [eI (aV e nx),_] _)=_;rw[aN hsp];show(zK (aT [eI (aV ea ((j:Int)+1)),eI (aV eb nx),aE (bG fa),aB .i64 0]) _)=_;rw[Wc,aN (kX k (bG fa) (by omega)),bI];rcases hcase with⟨c1,c2,rfl⟩|⟨c1,rfl,c2⟩
  ·have hp2:=D6 (aV ea ((j:Int)+1)) k to (gF hra) (by omega);rw[c2]at hp2;rw[c1,aZ];show(aL aI _ [eI (aV ea ((j:Int)+1)),_,_] _)=_;rw[aN hp2,DV,uQ]
  ·have hp2:=D6 (aV eb nx) k to (gF hrb) (by omega);rw[c2]at hp2;rw[c1,aP];show(aL aI _ [eI (aV eb nx),_,_] _)=_;rw[aN hp2,DV,uQ]
theorem Ju(l:Lf)(h:cK l=aC)(k:Bs)(hk:k.length<=1000):∃g,bJ aI 105 [eL l,.str k]=aA (.tup [.str g,.int .i64 (bif c9 (bw l.prs) k then 0 else 7)]):=by
 rw[aer l h k hk];cases c9 (bw l.prs) k with
 |true=>grind
 |false=>grind
theorem wl(ws:List bh)(pl:Int):(aS (dX ws pl))[ws.length]? = aA (.int .i64 pl):=by simp[aS,iV,ag2]
theorem ag4(ws:List bh)(pl:Int):(aS (dX ws pl)).take ws.length=aS (ws.map (·.1)):=by
 unfold dX;rw[<-pK];exact Bf _ _ (by rw[cy];simp)
theorem ae1{n:Nat}{r:Int}{es:Es}{k v:Bs}{ok:Bool}{e r':Int}{es':Es}(h:uE n r es k v ok e r' es')(Ls:List Bs)(hL:dq n es Ls) :
  ∃Ls',dq n es' Ls'/\cA aI aX 65 [.ptr 0 0 0,.str k,.str v] (rM r n es Ls)=aA (Aw (ok,e,r',bg Ls',cU n (br es'))):=by
 cases h with
 |arg h =>
  refine⟨Ls,hL,?_⟩;refine CP _ _ _ _ _ (o:=.doneM (.tup [.bool aD,.int .i64 1]) (rM r n es Ls)) ?_ (.done (by kernel_rfl));unfold zS;rw[aN (kq k),bI];cases hk:cg k with
  |false=>rfl
  |true =>
   rw[hk,dL]at h;rw[bK,aP,aN (yR v),bI,h];rfl
 |@put ws pl l hs hk hv hw hl hg hr0 hh hz hr =>
  have hk2:=(fm hk).2;obtain⟨g,hget⟩:=Ju l hr0 k (by omega);have hput:=AQ l hr0 k v hk hv hh;unfold kw at hput;rw[aU hz]at hput;have w:W .i64 (((aS (dX ws pl)).length:Int) - 1)=((ws.length:Nat):Int):=by rw[oU,bf (by omega)];omega
  have hr1:=hs.rng pl (fB hg);refine⟨_,ku hs hL hr1 (bq ⟨dm l.prs k v,l.high,l.next⟩),?_⟩;apply CP
  ·unfold zS;rw[aN (kq k),bI,hk,bK,aP,aN (yR v),bI,hv,bK,aP,cY vw (vX hs hL (by omega) hw (by omega)),cF,w,aQ (by simp),bi,cG (wl ws pl),bF,cY nL (qd hs hL hg hr0),cF];show(aL aI _ [eL l,_] _)=_;rw[aN hget,jA];show(aL aI _ [eL l,_,_] _)=_;rw[aN hput,n9,db rfl,aZ];show(aL aI _ [eL ⟨dm l.prs k v,l.high,l.next⟩] _)=_;rw[aN (qa _ hr),cR,cH lF (lJ hs hL (fB hg) (pA hr)),Da]
  ·exact .done (by kernel_rfl)
 |@full ws pl l hs hk hv hw hl hg hr0 hh hz hf =>
  have hk2:=(fm hk).2;obtain⟨g,hget⟩:=Ju l hr0 k (by omega);have hput:=AQ l hr0 k v hk hv hh;unfold kw at hput;rw[aY hz]at hput;have hll:=tu hs;have hn:=hs.le;have w:W .i64 (((aS (dX ws pl)).length:Int) - 1)=((ws.length:Nat):Int):=by rw[oU,bf (by omega)];omega
  have w1:W .i64 (((aS (dX ws pl)).length:Int)+1)=((ws.length+2:Nat):Int):=by rw[oU,bf (by omega)];omega
  refine⟨Ls,hL,?_⟩;apply CP
  ·unfold zS;rw[aN (kq k),bI,hk,bK,aP,aN (yR v),bI,hv,bK,aP,cY vw (vX hs hL (by omega) hw (by omega)),cF,w,aQ (by simp),bi,cG (wl ws pl),bF,cY nL (qd hs hL hg hr0),cF];show(aL aI _ [eL l,_] _)=_;rw[aN hget,jA];show(aL aI _ [eL l,_,_] _)=_;rw[aN hput];show(nr (aT [eL kW,aB .i64 6]) _)=_;rw[n9,dH (by decide),aP,cY Qi (Rx hs hL),cF,w1,aW (by omega),aZ]
  ·exact .done (by kernel_rfl)
 |@split ws pl l j x A B r' es' hs hk hv hw hl hg hr0 hh hz hf hfj hj hq h2 hx rA0 rB0 rA rB hc hu =>
  have hk2:=(fm hk).2;obtain⟨g,hget⟩:=Ju l hr0 k (by omega);have hput:=AQ l hr0 k v hk hv hh;unfold kw at hput;rw[aY hz]at hput;have hll:=tu hs;have hn:=hs.le;have w:W .i64 (((aS (dX ws pl)).length:Int) - 1)=((ws.length:Nat):Int):=by rw[oU,bf (by omega)];omega
  have w1:W .i64 (((aS (dX ws pl)).length:Int)+1)=((ws.length+2:Nat):Int):=by rw[oU,bf (by omega)];omega
  have hspl:=afc l hr0 h2 j (by omega);simp only[qi]at hspl;rw[hx]at hspl;simp only[uC]at hspl;have hs1:=qh hs (b:=[]) hj hq;have hpj:pl≠(j:Int):=fun e=>hq (e ▸ fB hg)
  have hg1:cT (bD es j []) pl=aA _:=(s8 hpj).trans hg;have hs2:=iY hs1 (b:=bq ⟨A,x.1,(j:Int)+1⟩) (fB hg1);have hg2:cT (bD (bD es j []) pl (bq ⟨A,x.1,(j:Int)+1⟩)) j=aA []:=(s8 hpj.symm).trans xn;have hr1:=hs.rng pl (fB hg);have hL1:=ku hs hL (p:=(j:Int)) (by omega) [];rw[bi]at hL1;have hL2:=ku hs1 hL1 hr1 (bq ⟨A,x.1,(j:Int)+1⟩);have hL3:=ku hs2 hL2 (p:=(j:Int)) (by omega) (bq ⟨B,l.high,l.next⟩);rw[bi]at hL3;have hxk:cg x.1=true:=((lA hr0).mem x (dx hx)).1;have hxl:=(fm hxk).2;obtain⟨Ls',hL',hup⟩:=afl hu hxk (by grind) _ hL3;rw[wz,BA]at hup;refine⟨Ls',hL',?_⟩
  have h0:Kp (aS (dX ws pl)) pl (bif c9 (bw l.prs) k then 0 else 7) (j:Int) r (bg (Ls.set j [])) (cU n (br (bD es j []))) (bn A) x.1 ((j:Int)+1) (bn B) l.high l.next =
    aA (.doneM (.tup [.bool (!c9 (bw l.prs) k),.int .i64 0]) (rm r' (bg Ls') (cU n (br es'))++[aJ 108 (eL ⟨A,x.1,(j:Int)+1⟩) aD,aJ 108 (eL ⟨B,l.high,l.next⟩) aD])):=by
   unfold Kp;show(aL aI _ [eL ⟨A,x.1,(j:Int)+1⟩] _)=_;rw[aN (qa _ rA),cR];show(bH aI _ _ _ _ (jH n (bD es j []) (Ls.set j [])) _)=_;rw[cH lF (lJ hs1 hL1 (fB hg1) (pA rA))];show(aL aI _ [eL ⟨B,l.high,l.next⟩] _)=_;rw[aN (qa _ rB),cR];have hw2:=lJ hs2 hL2 (fB hg2) (pA rB);rw[bi]at hw2;show(bH aI _ _ _ _ (jH n (bD (bD es j []) pl (bq ⟨A,x.1,(j:Int)+1⟩)) ((Ls.set j []).set pl.toNat (bq ⟨A,x.1,(j:Int)+1⟩))) _)=_;rw[cH lF hw2,aQ (mS _),w,aQ (by simp),bi,aQ (aW (by rw[oU];omega)),ag4];show(bH aI _ _ _ _ (rM r n (bD (bD (bD es j []) pl (bq ⟨A,x.1,(j:Int)+1⟩)) j (bq ⟨B,l.high,l.next⟩)) _) _)=_;rw[cH Qj hup,Da]
  refine CP _ _ _ _ _ (o:=.head 0 (B7 (aS (dX ws pl)) pl (bif c9 (bw l.prs) k then 0 else 7) (j:Int) r (bg (Ls.set j [])) (cU n (br (bD es j []))) (bn A) x.1 ((j:Int)+1) (bn B) l.high l.next)) ?_ ⟨_,_,afD _ _ _ _ _ _ _ _ _ _ _ _ _ h0 (.refl _),by kernel_rfl⟩;unfold zS;rw[aN (kq k),bI,hk,bK,aP,aN (yR v),bI,hv,bK,aP,cY vw (vX hs hL (by omega) hw (by omega)),cF,w,aQ (by simp),bi,cG (wl ws pl),bF,cY nL (qd hs hL hg hr0),cF];show(aL aI _ [eL l,_] _)=_;rw[aN hget,jA];show(aL aI _ [eL l,_,_] _)=_;rw[aN hput];show(nr (aT [eL kW,aB .i64 6]) _)=_;rw[n9,dH (by decide),aP,cY Qi (Rx hs hL),cF,w1,bp (by omega),aP,cH DF (Em hs hL hfj hj hq)];show(aL aI _ [eL l,_] _)=_;rw[aN hspl,Wb,aN (kX k x.1 (by omega)),bI];rcases hc with⟨hkx,rfl,hwA,rfl⟩|⟨hkx,rfl,rfl,hwB⟩
  ·have hput:=AQ _ rA0 k v hk hv (.inr hkx);unfold kw at hput;rw[aU hwA]at hput;rw[hkx,aZ];show(aL aI _ [eL ⟨l.prs.take (dK l.prs),x.1,(j:Int)+1⟩,_,_] _)=_;rw[aN hput,n9]
  ·have hput:=AQ _ rB0 k v hk hv hh;unfold kw at hput;rw[aU hwB]at hput;rw[hkx,aP];show(aL aI _ [eL ⟨l.prs.drop (dK l.prs),l.high,l.next⟩,_,_] _)=_;rw[aN hput,n9]
end Go.Proofs.YtlphgcjepphhcaaGreat
