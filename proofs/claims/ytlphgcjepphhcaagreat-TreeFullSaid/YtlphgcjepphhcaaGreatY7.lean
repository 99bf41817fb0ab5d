/-
  Texts that the last one stands on.
-/
import Derived.Test.YtlphgcjepphhcaaGreatY6
import Derived.Shelf.Spec.SlicesInsert
import Derived.Lib.SliceRun
import Derived.RangeFuncNested
import Derived.RangeFuncBound
import Derived.RangeFuncCalls
import Derived.RangeFuncLeaves
import Derived.Shelf.Abstract
import Derived.Shelf.RegionOpen
import Derived.WalkKit
import Derived.OwnWalkIn
import Derived.TacticsInMore
import Derived.LoopNIn
import Derived.LoopIn
import Derived.Stop.RegionWithIn
import Derived.Test.YtlphgcjepphhcaaGreatProg
import Derived.Shelf.SortM.Plain
import Derived.Shelf.SortM.SortNone
import Derived.KernelRfl
import Derived.Shelf.SlMaps.Clone
open Nat renaming add_zero->dK,zero_add->dZ,le_refl->bG,sub_self->iX,add_comm->py,min_eq_left->vZ,le_trans->lD,mul_one->jW,zero_le->iE,add_assoc->gT
open Bool renaming not_true->bR,not_false->jq
open List renaming nodup_cons->tN,mem_cons_of_mem->jT,mem_cons->bP,length_map->dO,mem_cons_self->cB,reverse_cons->mF,set_append_right->BO,getElem?_append_right->cY,length_cons->cL,length_append->c8,length_nil->fR,nil_append->dU,append_nil->dA,map_append->gJ,map_cons->dj,getElem?_eq_some_iff->bj,length_reverse->yo,reverse_reverse->BN,drop_zero->pu,take_of_length_le->kE,perm_middle->n4,eq_nil_or_concat->d9,concat_eq_append->gH,append_assoc->bu,take_succ_cons->vX,map_nil->iW,mem_append_right->mC,length->nY,mem_append_left->jS,mem_map->dP,mem_append->bp,pairwise_append->dJ,length_pos_iff->js,drop_drop->nW,filter_append->nX,mem_filter->mD,eq_nil_of_length_eq_zero->pw,range->dl,filter_eq_self->Hc,length_range->yn,mem_singleton->eZ,dropLast_cons_of_ne_nil->mA,flatMap_cons->iD,exists_cons_of_ne_nil->mB,append_eq_nil_iff->po,map_eq_nil_iff->Hg,replicate->bE,size_toArray->tO,push_toArray->Hk,append_toArray->Ha,cons_append->dv,all_eq_true->di,mem_of_getElem?->cG,getElem?_eq_getElem->bC,getElem?_map->dB,getElem?_range->rm
open Option renaming bind_some->aJ
open Array renaming replicate_succ->G2,replicate_zero->G3
namespace Go.Proofs.YtlphgcjepphhcaaGreat
open Go Go.Lite
set_option linter.unusedSimpArgs false
set_option linter.unusedVariables false
set_option maxRecDepth 100000
abbrev mR (n r:Nat):Int:=W .u8 (((BitVec.ofInt (IntKind.bits .u8) (n:Int) &&& ~~~(BitVec.ofInt (IntKind.bits .u8) (r:Int))).toNat:Int))
theorem Qd:∀b0 b1 b2 b3 b4 b5 b6 b7:Bool,
  mR (c9 b0 b1 b2 b3 b4 b5 b6 b7) 1=(c9 false b1 b2 b3 b4 b5 b6 b7:Nat)/\mR (c9 b0 b1 b2 b3 b4 b5 b6 b7) 2=(c9 b0 false b2 b3 b4 b5 b6 b7:Nat)/\mR (c9 b0 b1 b2 b3 b4 b5 b6 b7) 4=(c9 b0 b1 false b3 b4 b5 b6 b7:Nat)/\mR (c9 b0 b1 b2 b3 b4 b5 b6 b7) 8=(c9 b0 b1 b2 false b4 b5 b6 b7:Nat) /\
  mR (c9 b0 b1 b2 b3 b4 b5 b6 b7) 16=(c9 b0 b1 b2 b3 false b5 b6 b7:Nat)/\mR (c9 b0 b1 b2 b3 b4 b5 b6 b7) 32=(c9 b0 b1 b2 b3 b4 false b6 b7:Nat)/\mR (c9 b0 b1 b2 b3 b4 b5 b6 b7) 64=(c9 b0 b1 b2 b3 b4 b5 false b7:Nat)/\mR (c9 b0 b1 b2 b3 b4 b5 b6 b7) 128=(c9 b0 b1 b2 b3 b4 b5 b6 false:Nat):=by decide +kernel
theorem PN (f:Nat->Bool) (i:Nat):mR (j7 f (i / 8)) (2 ^ (i % 8))=(j7 (eA f i false) (i / 8):Nat):=by
 obtain ⟨j,k,hk,e,e1,e2⟩:=EH i
 rw [e1,e2,e]
 have h:=Qd (f (8 * j)) (f (8 * j+1)) (f (8 * j+2)) (f (8 * j+3)) (f (8 * j+4)) (f (8 * j+5)) (f (8 * j+6)) (f (8 * j+7))
 obtain ⟨h0,h1,h2,h3,h4,h5,h6,h7⟩:=h
 have u:∀m,eA f (8 * j+k) false (8 * j+m)=if m=k then false else f (8 * j+m):=by
  intro m
  unfold eA
  by_cases e:m=k
  ·rw [if_pos (by omega),if_pos e]
  ·rw [if_neg (by omega),if_neg e]
 have u0:=u 0
 rw [dK] at u0
 unfold j7
 rw [u0,u 1,u 2,u 3,u 4,u 5,u 6,u 7]
 rcases AF hk with rfl | rfl | rfl | rfl | rfl | rfl | rfl | rfl<;>assumption
theorem TU (n:Nat) (hn:n<=1024) (f:Nat->Bool) (i:Nat) (hi:i < n) (hf:f i=true):bN aA aH 174 [.ptr 0 0 0,.int .i64 (i:Int)] (bm n (aL n f))=some (sJ (0,n,aL n (eA f i false))):=by
 refine RJ _ _ _ (o:=.doneM (.int .i64 0) (bm n (aL n (eA f i false)))) ?_ (.done (by kernel_rfl))
 unfold I2
 have his:lX n f (i:Int)=true:=by unfold lX;rw [bl,hf,decide_eq_true (by omega)];rfl
 rw [decide_eq_true (show (i:Int) ≥ 0 by omega),cond_true,decide_eq_true (show (i:Int) < (n:Int) by omega),bR,cond_false,cU uY (uP n hn f i),bY,his,bR,cond_false,
  GK i (by omega),bl,aG (decide_eq_true (by omega)),aG (decide_eq_true (by rw [uq];omega)),dZ,dk (uo f (by omega)),bU,aK (B5 i),bU,aG (decide_eq_true (by omega)),aG (decide_eq_true (by rw [uq];omega)),dk (uo f (by omega)),bU]
 have:=PN f i
 simp only [mR] at this
 rw [this,HX f false hi]
theorem Iy {p:Int}:∀{es:Es},(aM es).Nodup->∀q,q∈aM (fo es p)↔q∈aM es/\q≠p
 | [],_,q=>by simp [fo,aM]
 |(a,x)::es,hn,q=>by
  have hn:=tN.1 hn
  rw [fo]
  by_cases h:p=a
  ·subst h
   rw [if_pos rfl]
   constructor
   ·intro hq
    exact ⟨jT _ hq,fun e=>hn.1 (e ▸ hq)⟩
   ·rintro ⟨h1,h2⟩
    rcases bP.1 h1 with h1 | h1
    ·exact absurd h1 h2
    ·exact h1
  ·rw [if_neg h]
   have ih:=Iy (p:=p) hn.2 q
   show q∈a::aM (fo es p)↔q∈a::aM es/\q≠p
   rw [bP,bP,ih]
   constructor
   ·rintro (rfl | ⟨h1,h2⟩)
    ·exact ⟨.inl rfl,fun e=>h e.symm⟩
    ·exact ⟨.inr h1,h2⟩
   ·rintro ⟨rfl | h1,h2⟩
    ·exact .inl rfl
    ·exact .inr ⟨h1,h2⟩
theorem Cq {p:Int}:∀{es:Es},(aM (fo es p)).Sublist (aM es)
 | []=>.slnil
 |(a,x)::es=>by
  rw [fo]
  split
  ·exact (List.Sublist.refl _).cons _
  ·exact (Cq (es:=es)).cons_cons _
theorem Gj {n:Nat} {es:Es} (h:bX n es) (p:Int):bX n (fo es p) :=
 ⟨h.le,h.nd.sublist Cq,fun q hq=>h.rng q (Cq.subset hq)⟩
theorem J9 {n:Nat} {es:Es} (h:bX n es) {p:Int} (hp:p∈aM es):bN aA aH 127 [.ptr 0 0 0,.int .i64 p] (sM n es)=some (qw (0,n,aZ (fo es p),aL n (aN (fo es p)))):=by
 have hr:=h.rng p hp
 obtain ⟨k,rfl⟩:∃k:Nat,p=(k:Int):=⟨p.toNat,by omega⟩
 have ht:aN (fo es k)=eA (aN es) k false:=by
  funext j
  unfold eA aN
  have:=Iy (p:=(k:Int)) h.nd (j:Int)
  by_cases e:j=k
  ·rw [if_pos e,decide_eq_false]
   rw [this]
   rintro ⟨_,h2⟩
   exact h2 (by rw [e])
  ·rw [if_neg e]
   by_cases hj:(j:Int)∈aM es
   ·rw [decide_eq_true hj,decide_eq_true (this.2 ⟨hj,by omega⟩)]
   ·rw [decide_eq_false hj,decide_eq_false fun q=>hj (this.1 q).1]
 rw [ht]
 refine Rc _ _ _ _ (o:=.doneM (.int .i64 0) (sm n (aZ (fo es k)) (aL n (eA (aN es) k false)))) ?_ (.done (by kernel_rfl))
 unfold IQ
 rw [cz VT (TU n h.le (aN es) k (by omega) (by unfold aN;exact decide_eq_true hp)),dV rfl,cond_true,Lc,iy]
inductive lF (n:Nat):Int->Es->Int->Es->Prop
 | leaf {r:Int} {es:Es} {l:Lf} (hs:bX n es) (hg:cF es r=some (bA l)) (hr:cE l=true):lF n r es r es
 | stop {r:Int} {es:Es} {e:Su} {nx:Int} (hs:bX n es) (hg:cF es r=some (cD (aD e nx))) (hr:bL (aD e nx)=true) (h2:2<=e.length):lF n r es r es
 | one {r:Int} {es:Es} {k:Int} {h:Bs} {nx r':Int} {es':Es} (hs:bX n es) (hg:cF es r=some (cD (aD [(k,h)] nx))) (hr:bL (aD [(k,h)] nx)=true):lF n k (fo es r) r' es'->lF n r es r' es'
theorem YL {n:Nat} {r:Int} {es:Es} {r':Int} {es':Es} (h:lF n r es r' es'):Go qk true 5 (fF 128) (.head 0 (yD r n (aZ es) (aL n (aN es)))) (.doneM (.tup []) (tM r' n es')):=by
 induction h with
 | @leaf r es l hs hg hr =>
  refine FG _ _ _ _ ?_ (.refl _)
  unfold AW
  rw [qK hs hg hr,bY]
 | @stop r es e nx hs hg hr h2 =>
  refine FG _ _ _ _ ?_ (.refl _)
  unfold AW
  rw [oU hs hg hr,bY]
  show (cond (decide (((aB (e.map (·.1))).length:Int) > 1)) _ _)=_
  rw [decide_eq_true (by rw [bZ,dO];omega),cond_true]
 | @one r es k h nx r' es' hs hg hr _ ih =>
  refine FG _ _ _ _ ?_ ih
  unfold AW
  rw [oU hs hg hr,bY,decide_eq_false (by rw [bZ];simp),cond_false,cz Lj (J9 hs (wZ hg))]
  rfl
theorem YK {n:Nat} {r:Int} {es:Es} {r':Int} {es':Es} (h:lF n r es r' es'):bN aA aH 128 [.ptr 0 0 0] (tM r n es)=some (sH (r',n,aZ es',aL n (aN es'))) :=
 Rf _ _ _ _ rfl ⟨_,_,YL h,by kernel_rfl⟩
theorem NF {n:Nat}:∀{ups:List IL} {r:Int} {es:Es} {b:LL},WT n r es ups b->(∀x∈b,x.2.1≠[])->∃r' es' ups',lF n r es r' es'/\WF n r' es' ups' b
 | [],r,es,b,h,hne=>by
  have e:=iL h.dn
  obtain ⟨prs,rfl⟩:∃prs,b=[(r,prs,[])]:=by
   match b,e with
   | [(p,prs,hh)],e =>
    simp [bS] at e
    obtain ⟨rfl,rfl⟩:=e
    exact ⟨prs,rfl⟩
   | [],e=>simp [bS] at e
   | _::_::_,e=>simp [bS] at e
  have hr:cE ⟨prs,[],0⟩=true:=h.okF.1
  have hg:cF es r=some (bA ⟨prs,[],0⟩):=ja h.shf.nd (h.rep.mem_iff.2 (by simp [bg,cI,aW]))
  exact ⟨r,es,[],.leaf h.shf hg hr,h,fun q=>absurd rfl q,fun l hl=>by cases hl⟩
 | l::d,r,es,b,h,hne=>by
  obtain ⟨e,hd⟩:=gk h.dn
  obtain ⟨q,rfl,hq⟩:∃q,l=[(r,q)]/\aP q=[]:=by
   match l,e with
   | [(p,q)],e =>
    simp [bw] at e
    obtain ⟨rfl,e⟩:=e
    exact ⟨q,rfl,e⟩
   | [],e=>simp [bw] at e
   | _::_::_,e=>simp [bw] at e
  have ho:=h.okI _ (cB ..)
  obtain ⟨hqn,hr⟩:okI q 0:=ho.1
  have hat:es.Perm ((r,br q 0)::(cP d++bg cI b 0)):=h.rep
  have hg:cF es r=some (cD (aD q 0)):=mY h.shf.nd hat
  by_cases h2:2<=q.length
  ·refine ⟨r,es,_,.stop h.shf hg hr h2,h,fun _=>hne,?_⟩
   intro l hl x hx
   rw [mF,List.getLast?_append] at hl
   have:l=[(r,q)]:=by simpa using hl.symm
   rw [this] at hx
   have:x=(r,q):=by simpa using hx
   rw [this];exact h2
  ·obtain ⟨k,hk,rfl⟩:∃k hk,q=[(k,hk)]:=by
    match q,hqn,h2 with
    | [(k,hk)],_,_=>exact ⟨k,hk,rfl⟩
    | _::_::_,_,h2=>simp at h2
   have e0:hk=[]:=hq
   subst e0
   have hd':Dn [(k,[])] d b:=hd
   have hw:WT n k (fo es r) d b:=⟨Gj h.shf r,Cp h.shf.nd hat,hd',fun l hl=>h.okI l (by simp [hl]),h.okF,h.ord⟩
   obtain ⟨r',es',ups',h1,h3⟩:=NF hw hne
   exact ⟨r',es',ups',.one h.shf hg hr h1,h3⟩
theorem NE {α:Type} (a:List α) (x y:α) (b:List α) {n:Nat} (h:n=a.length):(a++x::b).set n y=a++y::b:=by
 subst h
 rw [BO _ _ (bG _),iX];rfl
theorem w6 {α:Type} (a:List α) (x:α) (b:List α) {n:Nat} (h:n=a.length):(a++x::b)[n]? = some x:=by
 subst h
 rw [cY (bG _),iX];rfl
theorem XG:∀(d:Nat) (M A B:List Int),M.length<=d->A.length+M.length+B.length<=100000->∀{i j:Int},i=A.length->j=(A.length:Int)+M.length - 1 ->
  Go qk true 1 (fF 169) (.head 0 (wu i j (aB (A++(M++B))))) (.doneM (.tup []) [O.row 3 (aB (A++(M.reverse++B))) 0]):=by
 have fin:∀(M A B:List Int),M.length<=1->∀{i j:Int},i=A.length->j=(A.length:Int)+M.length - 1 ->
   Go qk true 1 (fF 169) (.head 0 (wu i j (aB (A++(M++B))))) (.doneM (.tup []) [O.row 3 (aB (A++(M.reverse++B))) 0]):=by
  intro M A B hM i j hi hj
  have e:M.reverse=M:=by
   match M,hM with
   | [],_=>rfl
   | [_],_=>rfl
  rw [e]
  refine M3 _ _ _ ?_ (.refl _)
  unfold FQ
  rw [decide_eq_false (by omega),cond_false]
 intro d
 induction d with
 | zero=>intro M A B hM _ i j hi hj;exact fin M A B (by omega) hi hj
 | succ d ih =>
  intro M A B hM hl i j hi hj
  by_cases h1:M.length<=1
  ·exact fin M A B h1 hi hj
  obtain ⟨x,M1,rfl⟩:∃x M1,M=x::M1:=by
   match M,h1 with
   | x::M1,_=>exact ⟨x,M1,rfl⟩
   | [],h=>simp at h
  have hne:M1≠[]:=by rintro rfl;simp at h1
  obtain ⟨M2,y,rfl⟩:=qS hne
  simp only [cL,c8,fR] at hM hl hj h1
  have eL:A++(x::(M2++[y])++B)=A++x::(M2++y::B):=by simp
  have eL2:A++x::(M2++y::B)=(A++x::M2)++y::B:=by simp
  have eR:A++((x::(M2++[y])).reverse++B)=(A++[y])++(M2.reverse++(x::B)):=by simp
  have eN:(A++[y])++(M2++(x::B))=A++y::(M2++x::B):=by simp
  have eN2:A++y::(M2++x::B)=(A++y::M2)++x::B:=by simp
  have eM2:A++y::(M2++y::B)=(A++y::M2)++y::B:=by simp
  have w1:W .i64 (i+1)=i+1:=aX (by omega)
  have w2:W .i64 (j - 1)=j - 1:=aX (by omega)
  have ih:=ih M2 (A++[y]) (x::B) (by omega) (by simp;omega) (i:=i+1) (j:=j - 1) (by simp;omega) (by simp;omega)
  rw [eR,eL]
  rw [eN] at ih
  refine M3 _ _ _ ?_ ih
  have hiN:i.toNat=A.length:=by omega
  have hjN:j.toNat=(A++x::M2).length:=by simp;omega
  have hjN2:j.toNat=(A++y::M2).length:=by simp;omega
  have g1:(A++x::(M2++y::B))[j.toNat]? = some y:=by rw [eL2];exact w6 _ _ _ hjN
  have g2:(A++x::(M2++y::B))[i.toNat]? = some x:=w6 _ _ _ hiN
  have g3:(A++y::(M2++y::B))[j.toNat]? = some y:=by rw [eM2];exact w6 _ _ _ hjN2
  have st1:(A++x::(M2++y::B)).set i.toNat y=A++y::(M2++y::B):=NE _ _ _ _ hiN
  have st2:(A++y::(M2++y::B)).set j.toNat x=A++y::(M2++x::B):=by rw [eM2,NE _ _ _ _ hjN2,eN2]
  have l1:j.toNat < (aB (A++x::(M2++y::B))).length:=by rw [bZ];simp;omega
  have l2:i.toNat < (aB (A++x::(M2++y::B))).length:=by rw [bZ];simp;omega
  have l3:j.toNat < (aB (A++y::(M2++y::B))).length:=by rw [bZ];simp;omega
  unfold FQ
  rw [decide_eq_true (by omega),cond_true,aG (decide_eq_true (by omega)),aG (decide_eq_true l1),eg g1,bU,aG (decide_eq_true (by omega)),aG (decide_eq_true l2),eg g2,bU,aG (decide_eq_true (by omega)),aG (decide_eq_true l2),eg g2,bU,
   z7,st1,aG (decide_eq_true (by omega)),aG (decide_eq_true l3),eg g3,bU,z7,st2,w1,w2]
theorem XF (l:List Int) (hl:l.length<=100000):bN aA aH 169 [.own 0] [O.row 3 (aB l) 0]=some (sI (aB l.reverse)):=by
 have w:W .i64 (((aB l).length:Int) - 1)=(l.length:Int) - 1:=by rw [bZ,aX (by omega)]
 have:=XG l.length l [] [] (bG _) (by simpa using hl) (i:=0) (j:=(l.length:Int) - 1) rfl (by simp)
 simp only [dU,dA] at this
 refine RI _ ?_ ⟨_,_,this,by kernel_rfl⟩
 unfold I1
 rw [w]
inductive jP (es:Es):List aI->List Int->Prop
 | nil:jP es [] []
 | stop {q:Int} {e:Su} {nx:Int} {i:Nat} {sts:List aI} {y:Int} (hr:bL (aD e nx)=true) (hi:0 < i) (hy:(aD e nx).kids[i - 1]? = some y):jP es ((q,e,nx,i)::sts) [y]
 | none {q:Int} {e:Su} {nx:Int} {sts:List aI}:jP es sts []->jP es ((q,e,nx,0)::sts) []
 | down {q:Int} {e:Su} {nx:Int} {sts:List aI} {z:Int} {zs:List Int} {ez:Su} {nz y:Int} {hy:Bs}:jP es sts (z::zs)->cF es z=some (cD (aD (ez++[(y,hy)]) nz))->bL (aD (ez++[(y,hy)]) nz)=true->jP es ((q,e,nx,0)::sts) (y::z::zs)
theorem HE {es:Es} {sts:List aI} {out:List Int} (h:jP es sts out):out.length<=sts.length:=by
 induction h with
 | nil=>simp
 | stop=>simp
 | none=>simp
 | down _ _ _ ih=>simp at ih |-;omega
theorem GC {Q D:List aI} {x:aI} {sts:List aI} (h:Q=(x::sts).reverse++D):(eu Q)[sts.length]? = some (jO x):=by
 have:Q=sts.reverse++x::D:=by rw [h];simp
 rw [this]
 unfold eu
 rw [gJ,dj]
 exact w6 _ _ _ (by simp)
theorem oy {l:List V} {i:Nat} {x:aI} {k:V->R} (h:l[i]? = some (jO x)):aY l i k=k (jO x):=dk h
section
variable {n:Nat} {r:Int} {es:Es} {lv:Int}
theorem HF (hS:bX n es) (Q:List aI) (hW:Q.length<=10000):∀(sts:List aI),jP es sts []->∀D,Q=sts.reverse++D ->
  Go qk true 5 (fF 124) (.head 0 (wi (eu Q) lv ((sts.length:Int) - 1) r n (aZ es) (aL n (aN es)))) (.doneM (.own 6) (tM r n es++[O.row 3 [] 0,O.row 3 [] 0]))
 | [],_,D,_=>by
  refine AV _ _ _ _ _ _ _ ?_ (.refl _)
  unfold xL
  rw [decide_eq_false (by simp),cond_false,decide_eq_true (by simp),cond_true]
 | x::sts,h,D,hd=>by
  cases h with
  | @none q e nx _ h =>
   have hst:jO (q,e,nx,0) = .agg [.int .i64 q,.sl (aV (aD e nx).seps),.sl (aB (aD e nx).kids),.str (aP e),.int .i64 nx,.int .i64 ((0:Nat):Int)]:=rfl
   have hl:sts.length+1+D.length=Q.length:=by rw [hd];simp;omega
   have hx:=GC hd
   have w:W .i64 (((((q,e,nx,0)::sts:List aI)).length:Int) - 1 - 1)=(sts.length:Int) - 1:=by rw [aX (by simp;omega)];simp
   have ih:=HF hS Q hW sts h ((q,e,nx,0)::D) (by rw [hd];simp)
   refine AV _ _ _ _ _ _ _ ?_ ih
   unfold xL
   have ei:(((((q,e,nx,0)::sts:List aI)).length:Int) - 1).toNat=sts.length:=by simp
   rw [decide_eq_true (by simp),cond_true,aG rfl,ei,oy hx,hst,lL,dV (show ((0:Nat):Int)=0 from rfl),cond_true,w]
theorem HG (hS:bX n es) (Q:List aI) (hW:Q.length<=10000) {o:cW}:∀(sts:List aI) (y:Int) (out:List Int),jP es sts (y::out)->∀D,Q=sts.reverse++D->∀m,m+sts.length=Q.length+out.length ->
  Go qk true 5 (fF 124) (.head 1 (tW lv y (m:Int) (out.length:Int) r n (aZ es) (aL n (aN es)) (aB (y::out).reverse))) o ->
  Go qk true 5 (fF 124) (.head 0 (wi (eu Q) lv ((sts.length:Int) - 1) r n (aZ es) (aL n (aN es)))) o
 | x::sts,y,out,h,D,hd,m,hm,hg=>by
  have hl:sts.length+1+D.length=Q.length:=by rw [hd];simp;omega
  have hx:=GC hd
  cases h with
  | @stop q e nx i _ _ hr hi hy =>
   have hst:jO (q,e,nx,i) = .agg [.int .i64 q,.sl (aV (aD e nx).seps),.sl (aB (aD e nx).kids),.str (aP e),.int .i64 nx,.int .i64 ((i:Nat):Int)]:=rfl
   have w0:W .i64 (((eu Q).length:Int) - 1)=(Q.length:Int) - 1:=by rw [qU,aX (by omega)]
   have w1:W .i64 ((Q.length:Int) - 1 - (((((q,e,nx,i)::sts:List aI)).length:Int) - 1))=(m:Int):=by rw [aX (by simp;omega)];simp at hm |-;omega
   have w2:W .i64 ((i:Int) - 1)=((i - 1:Nat):Int):=by
    have:=(bj.1 hy).1
    have:=(me hr).kids
    rw [aX (by omega)];omega
   refine AV _ _ _ _ _ _ _ ?_ hg
   unfold xL
   have ei:(((((q,e,nx,i)::sts:List aI)).length:Int) - 1).toNat=sts.length:=by simp
   rw [decide_eq_true (by simp),cond_true,aG rfl,ei,oy hx,hst,lL,eK (by omega),cond_false,decide_eq_false (by simp),cond_false,aG rfl,oy hx,hst,lL,aG rfl,oy hx,hst,lL,
    w2,aG (by simp),bl,eg hy,bU,w0,w1]
   rfl
  | @down q e nx _ z zs ez nz _ hy h hg2 hr =>
   have hst:jO (q,e,nx,0) = .agg [.int .i64 q,.sl (aV (aD e nx).seps),.sl (aB (aD e nx).kids),.str (aP e),.int .i64 nx,.int .i64 ((0:Nat):Int)]:=rfl
   have w:W .i64 (((((q,e,nx,0)::sts:List aI)).length:Int) - 1 - 1)=(sts.length:Int) - 1:=by rw [aX (by simp;omega)];simp
   have hlen:=HE h
   simp only [cL] at hlen hm
   have ih:=HG hS Q hW (o:=o) sts z zs h ((q,e,nx,0)::D) (by rw [hd];simp) m (by omega) ?_
   ·refine AV _ _ _ _ _ _ _ ?_ ih
    unfold xL
    have ei:(((((q,e,nx,0)::sts:List aI)).length:Int) - 1).toNat=sts.length:=by simp
    rw [decide_eq_true (by simp),cond_true,aG rfl,ei,oy hx,hst,lL,dV (show ((0:Nat):Int)=0 from rfl),cond_true,w]
   ·have ek:(aD (ez++[(y,hy)]) nz).kids=ez.map (·.1)++[y]:=by simp
    have hkl:(aB (aD (ez++[(y,hy)]) nz).kids).length=ez.length+1:=by rw [ek,bZ];simp
    have hez:ez.length<=1000:=by
     have:=(me hr).kids
     rw [ek] at this
     simp at this
     omega
    have w3:W .i64 (((ez.length+1:Nat):Int) - 1)=((ez.length:Nat):Int):=by rw [aX (by omega)];omega
    have w4:W .i64 ((zs.length:Int)+1)=((z::zs).length:Int):=by rw [aX (by omega)];simp
    have hyk:(aD (ez++[(y,hy)]) nz).kids[ez.length]? = some y:=by rw [ek];exact w6 _ _ [] (by simp)
    refine MS _ _ _ _ _ _ _ _ _ ?_ hg
    unfold FF
    rw [decide_eq_true (by omega),cond_true,oU hS hg2 hr,bY,hkl,w3,aG (by simp),bl,eg hyk,bU,aG (decide_eq_true (by rw [bZ];simp;omega)),w4]
    simp [aB]
end
theorem PY {c m:List O} {id off len:Nat} {e:TypeId} {els:List V} {fz:Nat} (hm:m[id]? = some (.row e els fz)) (h:off+len<=els.length) :
  gV aH c (.win id off len) m=rG aH.row (cX c) (List.range' (cX c) (c.length - cX c)) c c (.sl ((els.drop off).take len)) (freezeAll [id] m):=by
 unfold gV o5
 simp [Gn,xU,dX,cy,hm,if_pos h,tl,gx,p8]
theorem O7 {n:Nat} {r:Int} {es:Es} (hS:bX n es) (Q:List aI) (hW:Q.length<=10000) {out:List Int} (h:jP es Q.reverse out) (lv:Nat) (hlv:lv<=10000) :
  bN aA aH 124 [.ptr 0 0 0,.sl (eu Q),.int .i64 (lv:Int)] (tM r n es)=some (qv (tM r n es) (aB (out.take lv))):=by
 have w0:W .i64 (((eu Q).length:Int) - 1)=((Q.reverse.length:Nat):Int) - 1:=by rw [qU,aX (by omega)];simp
 have hol:=HE h
 rw [yo] at hol
 cases out with
 | nil =>
  have:=HF (lv:=(lv:Int)) (r:=r) hS Q hW Q.reverse h [] (by simp)
  refine IP _ _ _ _ _ _ ?_ ⟨_,_,this,by rw [List.take_nil];kernel_rfl⟩
  unfold CE
  rw [w0]
 | cons y out =>
  have hg:∃mm,Go qk true 5 (fF 124) (.head 1 (tW lv y (out.length:Int) (out.length:Int) r n (aZ es) (aL n (aN es)) (aB (y::out).reverse))) (.doneM (V.win 6 0 (min (out.length+1) lv - 0)) mm)/\mm=tM r n es++[O.row 3 [] 0,O.row 3 (aB (y::out)) 0]:=by
   refine ⟨_,MS _ _ _ _ _ _ _ _ _ ?_ (.refl _),rfl⟩
   unfold FF
   have:=XF (y::out).reverse (by simp at hol |-;omega)
   rw [BN] at this
   have em:(if (((y::out).length:Nat):Int) < (lv:Int) then (((y::out).length:Nat):Int) else (lv:Int))=((min (out.length+1) lv:Nat):Int):=by
    simp only [cL]
    split<;>omega
   rw [decide_eq_false (by omega),cond_false,cz VS this,aG (o9 _),bZ,em,aG (by simp),bl,aG (decide_eq_true (by simp only [cL];omega))]
  obtain ⟨mm,hg,rfl⟩:=hg
  have:=HG hS Q hW (lv:=lv) (r:=r) Q.reverse y out h [] (by simp) out.length (by rw [yo,py]) hg
  have et:(y::out).take lv=((y::out).drop 0).take (min (out.length+1) lv - 0):=by
   rw [Nat.sub_zero,pu]
   by_cases aC:lv<=out.length+1
   ·rw [Nat.min_eq_right aC]
   ·rw [vZ (by omega),kE (by simp;omega),kE (by simp)]
  have et2:aB ((y::out).take lv)=((aB (y::out)).drop 0).take (min (out.length+1) lv - 0):=by rw [et];simp [aB,List.map_take]
  rw [et2]
  refine IP _ _ _ _ _ _ ?_ ⟨_,_,this,(PY (e:=3) (els:=aB (y::out)) (fz:=0) rfl (by rw [bZ,cL];omega)).trans (by kernel_rfl)⟩
  unfold CE
  rw [w0]
def cV (es:Es) (l:Es):Es:=l.foldl (fun e x=>bk e x.1 x.2) es
def qb (es:Es) (l:List Int):Es:=l.foldl fo es
theorem GX:∀{L L':Es} {es R:Es},(aM es).Nodup->es.Perm (L++R)->aM L=aM L'->(cV es L').Perm (L'++R)/\(aM (cV es L')).Nodup
 | [],[],es,R,hn,h,_=>⟨h,hn⟩
 |(a,x)::L,[],_,_,_,_,e=>by simp [aM] at e
 | [],(a,x)::L,_,_,_,_,e=>by simp [aM] at e
 |(a,x)::L,(a',y)::L',es,R,hn,h,e=>by
  have e:a::aM L=a'::aM L':=e
  obtain ⟨rfl,e2⟩:=List.cons.inj e
  have hp:=jI (b':=y) hn h
  have hk:aM (bk es a y)=aM es:=nF (gz h)
  have:=GX (L:=L) (L':=L') (es:=bk es a y) (R:=(a,y)::R) (by rw [hk];exact hn) (hp.trans List.perm_middle.symm) e2
  exact ⟨this.1.trans n4,this.2⟩
theorem Gk {n:Nat}:∀{L L':Es} {es R:Es},bX n es->es.Perm (L++R)->aM L=aM L'->bX n (cV es L')
 | [],[],es,R,hs,h,_=>hs
 |(a,x)::L,[],_,_,_,_,e=>by simp [aM] at e
 | [],(a,x)::L,_,_,_,_,e=>by simp [aM] at e
 |(a,x)::L,(a',y)::L',es,R,hs,h,e=>by
  have e:a::aM L=a'::aM L':=e
  obtain ⟨rfl,e2⟩:=List.cons.inj e
  exact Gk (L:=L) (L':=L') (es:=bk es a y) (R:=(a,y)::R) (jl hs (gz h)) ((jI (b':=y) hs.nd h).trans List.perm_middle.symm) e2
theorem Kd {n:Nat}:∀{G:Es} {es R:Es},bX n es->es.Perm (G++R)->(qb es (aM G)).Perm R/\bX n (qb es (aM G))
 | [],es,R,hs,h=>⟨h,hs⟩
 |(a,x)::G,es,R,hs,h=>Kd (G:=G) (es:=fo es a) (Gj hs a) (Cp hs.nd h)
theorem QM (e1:Su) (y:Int) (hy:Bs) (p:Int) (h:Bs) (e2:Su) (nx:Int):rL (aD (e1++(y,hy)::(p,h)::e2) nx) (e1.length+1)=aD (e1++(y,h)::e2) nx:=by
 unfold rL aD
 have hl:(e1.map (·.2)).length=e1.length:=by simp
 have hd:((e1++(y,hy)::(p,h)::e2).dropLast.map (·.2))=e1.map (·.2)++hy::fC ((p,h)::e2):=by
  rw [pS];simp [fC,List.dropLast]
 have hd2:((e1++(y,h)::e2).dropLast.map (·.2))=e1.map (·.2)++fC ((y,h)::e2):=by
  rw [pS];simp [fC]
 have hse:fC ((y,h)::e2)=fC ((p,h)::e2):=by
  cases e2 with
  | nil=>rfl
  | cons x e2=>rfl
 have hk:(e1++(y,hy)::(p,h)::e2).map (·.1)=(e1.map (·.1)++[y])++p::e2.map (·.1):=by simp
 have hkl:(e1.map (·.1)++[y]).length=e1.length+1:=by simp
 refine congr (congr (congr (congrArg bJ.mk ?_) ?_) (DV e1 y hy p h e2).symm) rfl
 ·rw [hd,hd2,hse,Nat.add_sub_cancel,mi _ _ hl,show e1.map (·.2)++hy::fC ((p,h)::e2)=(e1.map (·.2)++[hy])++fC ((p,h)::e2) by simp,pR _ _ (by simp)]
 ·rw [hk,mi _ _ hkl,show (e1.map (·.1)++[y])++p::e2.map (·.1)=(e1.map (·.1)++[y,p])++e2.map (·.1) by simp,pR _ _ (by simp)]
  simp
theorem QL (p:Int) (h:Bs) (x:Int × Bs) (e2:Su) (nx:Int):rL (aD ((p,h)::x::e2) nx) 0=aD (x::e2) nx:=by
 unfold rL aD
 refine congr (congr (congr (congrArg bJ.mk ?_) ?_) (kq (p,h) (by simp))) rfl
 ·simp [List.dropLast]
 ·simp
structure Hv (sts:List aI) (w:Bool) (gs:List Nd) (xo X:Nd) (h:Bs) (ss:List aI) (xi:Nat) (rest:List aI):Prop where
 fst:sts=ss++(xo.1,xo.2.1,xo.2.2,xi)::rest
 fgs:gs=ss.map fun s=>(s.1,s.2.1,s.2.2.1)
 one:∀s∈ss,s.2.1.length=1
 hi:∀g∈gs,aP g.2.1=h
 two:2<=xo.2.1.length
 fw:w=decide ((xi:Int) > 0)
 pg:X.1=xo.1
 lti:xi < xo.2.1.length
 del:rL (aD xo.2.1 xo.2.2) xi=aD X.2.1 X.2.2
theorem XT {r:Int} {up:List IL} {p:Int} {h:Bs} {a c:Su} {sts:List aI} {w:Bool} {up':List IL} {gs zo:List Nd} {xo X:Nd} (hr:Rm r up p h a c sts w up' gs zo xo X):∃ss xi rest,Hv sts w gs xo X h ss xi rest:=by
 induction hr with
 | @one up q p h pre post sts w up' gs zo xo X _ ih =>
  obtain ⟨ss,xi,rest,t⟩:=ih
  refine ⟨(q,[(p,h)],aW post 0,0)::ss,xi,rest,⟨by rw [t.fst];rfl,by rw [t.fgs];rfl,?_,?_,t.two,t.fw,t.pg,t.lti,t.del⟩⟩
  ·intro s hs
   rcases bP.1 hs with rfl | hs
   ·rfl
   ·exact t.one s hs
  ·intro g hg
   rcases bP.1 hg with rfl | hg
   ·rfl
   ·exact t.hi g hg
 | @left up q p y h hy e1 e2 pre post sts _ =>
  exact ⟨[],e1.length+1,sts,⟨rfl,rfl,(by simp),(by simp),(by simp;omega),(by simp),rfl,(by simp),QM e1 y hy p h e2 _⟩⟩
 | @first up q p h x e2 pre post sts _ =>
  exact ⟨[],0,sts,⟨rfl,rfl,(by simp),(by simp),(by simp),(by simp),rfl,(by simp),QL p h x e2 _⟩⟩
theorem Kp {n:Nat} {es:Es} (hS:bX n es) {pre post:IL} {q:Int} {e:Su} (h:kC br es (pre++(q,e)::post)):cF es q=some (cD (aD e (aW post 0))):=ja hS.nd (h _ (EC (f:=br) pre q e post 0))
theorem Md {n:Nat} {es:Es} (hS:bX n es) {r:Int} {up:List IL} {p:Int} {h:Bs} {a c:Su} {sts:List aI} (hp:iF r up p h a c sts):(∀l∈up,cH okI l 0)->(∀l∈up,kC br es l)->∃out,jP es sts out/\out.take 1=sW a:=by
 induction hp with
 | top=>intro _ _;exact ⟨[],.nil,rfl⟩
 | @st up q e1 p h e2 pre post sts hup ih =>
  intro hI hE
  have hl:=hI _ (cB ..)
  have hIn:=hE _ (cB ..)
  rcases d9 e1 with rfl | ⟨e1',⟨y,hy⟩,rfl⟩
  ·obtain ⟨out,h1,h2⟩:=ih (fun l hl=>hI l (by simp [hl])) (fun l hl=>hE l (by simp [hl]))
   have e0:bc pre++[]=bc pre:=dA _
   rw [e0]
   rcases d9 pre with rfl | ⟨l,⟨z,ez⟩,rfl⟩
   ·have:out=[]:=by
     cases out with
     | nil=>rfl
     | cons z out=>simp [bw,sW] at h2
    subst this
    exact ⟨[],.none h1,rfl⟩
   ·rw [gH] at h2 hl hIn |-
    have e1:bw (l++[(z,ez)])=bw l++[(z,aP ez)]:=by simp [bw]
    rw [e1,vd] at h2
    rw [bu] at hl hIn
    obtain ⟨hne,hr⟩:okI ez _:=lx hl
    have hg:=Kp hS hIn
    obtain ⟨ez',⟨y,hy⟩,rfl⟩:=qS hne
    have e2:bc (l++[(z,ez'++[(y,hy)])])=(bc l++ez')++[(y,hy)]:=by simp [bc]
    rw [e2,vd]
    obtain ⟨rest,rfl⟩:∃rest,out=z::rest:=by
     cases out with
     | nil=>simp at h2
     | cons z' rest=>simp at h2;exact ⟨rest,by rw [h2]⟩
    exact ⟨_,.down h1 hg hr,rfl⟩
  ·rw [gH] at hl hIn hup |-
   obtain ⟨hne,hr⟩:okI (e1'++[(y,hy)]++(p,h)::e2) (aW post 0):=lx hl
   refine ⟨[y],.stop hr (by simp) ?_,by rw [<-bu,vd];rfl⟩
   simp
theorem XM {n:Nat} {es:Es} (hS:bX n es) {r:Int} {up:List IL} {p:Int} {h:Bs} {a c:Su} {sts:List aI} {w:Bool} {up':List IL} {gs zo:List Nd} {xo X:Nd} (hr:Rm r up p h a c sts w up' gs zo xo X) :
  (∀l∈up,cH okI l 0)->(∀l∈up,kC br es l)->∃out,jP es sts out/\out.take (gs.length+1)=sW a++zo.map (·.1):=by
 induction hr with
 | @one up q p h pre post sts w up' gs zo xo X hrm ih =>
  intro hI hE
  have hl:=hI _ (cB ..)
  have hIn:=hE _ (cB ..)
  obtain ⟨out,h1,h2⟩:=ih (fun l hl=>hI l (by simp [hl])) (fun l hl=>hE l (by simp [hl]))
  rcases d9 pre with rfl | ⟨l,⟨z,ez⟩,rfl⟩
  ·have hz:=(AQ hrm fun l hl x hx=>ia (hI l (by simp [hl])) x hx).1 rfl
   subst hz
   have:out=[]:=by
    cases out with
    | nil=>rfl
    | cons z out=>simp [bw,sW] at h2
   subst this
   exact ⟨[],.none h1,by simp [sy,bc,sW]⟩
  ·rw [gH] at h2 hl hIn |-
   have e1:bw (l++[(z,ez)])=bw l++[(z,aP ez)]:=by simp [bw]
   rw [e1,vd] at h2
   rw [bu] at hl hIn
   obtain ⟨hne,hr⟩:okI ez _:=lx hl
   have hg:=Kp hS hIn
   obtain ⟨ez',⟨y,hy⟩,rfl⟩:=qS hne
   have e2:bc (l++[(z,ez'++[(y,hy)])])=(bc l++ez')++[(y,hy)]:=by simp [bc]
   rw [e2,vd,uS]
   obtain ⟨rest,rfl⟩:∃rest,out=z::rest:=by
    cases out with
    | nil=>simp at h2
    | cons z' rest =>
     have:z'=z:=by simpa using congrArg List.head? h2
     exact ⟨rest,by rw [this]⟩
   refine ⟨_,.down h1 hg hr,?_⟩
   rw [cL,vX,h2]
   rfl
 | @left up q p y h hy e1 e2 pre post sts hup =>
  intro hI hE
  have e:e1++(y,hy)::(p,h)::e2=(e1++[(y,hy)])++(p,h)::e2:=by simp
  have el:(e1++[(y,hy)]).length=e1.length+1:=by simp
  rw [e] at hup hI hE |-
  have:=Md hS (.st hup) hI hE
  rw [el] at this
  simpa using this
 | @first up q p h x e2 pre post sts hup =>
  intro hI hE
  have:=Md hS (.st (e1:=[]) hup) hI hE
  simpa using this
abbrev Nl:=Int × Lf
def eH (l:List Nl):Es:=l.map fun z=>(z.1,bA z.2)
def fL (w:Bool) (lf:Lf) (zl:List Nl):List Nl:=zl.map fun z=>(z.1,⟨z.2.prs,bif w then lf.high else z.2.high,lf.next⟩)
structure mw (n:Nat) (es:Es) (ws:List aI) (pl:Int) (lf:Lf) (w:Bool) (zl:List Nl) (gs zo:List Nd) (xo X:Nd) (ss:List aI) (xi:Nat) (rest:List aI) (out:List Int) (R:Es):Prop where
 shf:bX n es
 len:ws.length<=1024
 x:Hv ws.reverse w gs xo X lf.high ss xi rest
 ah:jP es ws.reverse out
 fout:out.take (gs.length+1)=zl.map (·.1)++zo.map (·.1)
 zl1:zl.length<=1
 zl0:zl=[]->zo=[]
 zo1:zl≠[]->zo.length=gs.length
 perm:es.Perm (eH zl++(cj zo++((pl,bA lf)::(cj gs++(cj [xo]++R)))))
 rlf:cE lf=true
 rzl:∀z∈zl,cE z.2=true
 rzl':∀z∈fL w lf zl,cE z.2=true
 rgs:∀g∈gs,bL (aD g.2.1 g.2.2)=true
 rzo:∀z∈zo,z.2.1≠[]/\bL (aD z.2.1 z.2.2)=true
 rzo':∀z∈dx w lf.high zo gs,bL (aD z.2.1 z.2.2)=true
 rxo:bL (aD xo.2.1 xo.2.2)=true
 rX:bL (aD X.2.1 X.2.2)=true
def rM (es:Es) (pl:Int) (lf:Lf) (w:Bool) (zl:List Nl) (gs zo:List Nd) (X:Nd):Es :=
 qb (bk (cV es (eH (fL w lf zl)++cj (dx w lf.high zo gs))) X.1 (br X.2.1 X.2.2)) (pl::gs.map (·.1))
theorem Lv (w:Bool) (h:Bs):∀(zo gs:List Nd),zo.length=gs.length->(dx w h zo gs).map (·.1)=zo.map (·.1)
 | [],[],_=>rfl
 | _::_,[],h=>by simp at h
 | [],_::_,h=>by simp at h
 | z::zo,g::gs,h=>by
  show z.1::(dx w _ zo gs).map (·.1)=_
  rw [Lv w _ zo gs (by simpa using h)];rfl
theorem uR (l:List Nd):aM (cj l)=l.map (·.1):=by simp [aM,cj]
theorem KB (l:List Nl):aM (eH l)=l.map (·.1):=by simp [aM,eH]
theorem l6 (a b:Es):aM (a++b)=aM a++aM b:=by simp [aM]
section
variable {n:Nat} {es:Es} {ws:List aI} {pl:Int} {lf:Lf} {w:Bool} {zl:List Nl} {gs zo:List Nd} {xo X:Nd} {ss:List aI} {xi:Nat} {rest:List aI} {out:List Int} {R:Es}
theorem mw.keys (d:mw n es ws pl lf w zl gs zo xo X ss xi rest out R):aM (eH zl++cj zo)=aM (eH (fL w lf zl)++cj (dx w lf.high zo gs)):=by
 rw [l6,l6,KB,KB,uR,uR]
 have h1:(fL w lf zl).map (·.1)=zl.map (·.1):=by simp [fL]
 rw [h1]
 by_cases h:zl=[]
 ·rw [d.zl0 h];rfl
 ·rw [Lv _ _ _ _ (d.zo1 h)]
theorem mw.left (d:mw n es ws pl lf w zl gs zo xo X ss xi rest out R):(rM es pl lf w zl gs zo X).Perm (eH (fL w lf zl)++(cj (dx w lf.high zo gs)++(cj [X]++R)))/\bX n (rM es pl lf w zl gs zo X):=by
 have hp:=d.perm
 rw [<-bu] at hp
 have h1:=GX d.shf.nd hp d.keys
 have hs1:=Gk d.shf hp d.keys
 have hp2:(cV es (eH (fL w lf zl)++cj (dx w lf.high zo gs))).Perm ((X.1,br xo.2.1 xo.2.2)::((((pl,bA lf)::cj gs))++(eH (fL w lf zl)++(cj (dx w lf.high zo gs)++R)))):=by
  refine h1.1.trans (jH.2 fun x=>?_)
  rw [d.x.pg]
  simp only [jy,kR,ou]
  simp only [cj,iW,rJ]
  omega
 have hp3:=jI (b':=br X.2.1 X.2.2) hs1.nd hp2
 have hs3:=jl hs1 (b:=br X.2.1 X.2.2) (gz hp2)
 have hp4:(bk (cV es (eH (fL w lf zl)++cj (dx w lf.high zo gs))) X.1 (br X.2.1 X.2.2)).Perm (((pl,bA lf)::cj gs)++((X.1,br X.2.1 X.2.2)::(eH (fL w lf zl)++(cj (dx w lf.high zo gs)++R)))):=by
  refine hp3.trans (jH.2 fun x=>?_)
  simp only [jy,kR]
  omega
 have h5:=Kd hs3 hp4
 have hk:aM ((pl,bA lf)::cj gs)=pl::gs.map (·.1):=by
  show pl::aM (cj gs)=_
  rw [uR]
 rw [hk] at h5
 refine ⟨h5.1.trans (jH.2 fun x=>?_),h5.2⟩
 simp only [jy,kR,ou]
 simp only [cj,iW,rJ]
 omega
end
theorem NO {Q D:List aI} {x:aI} {sts:List aI} {i:Int} (h:Q=(x::sts).reverse++D) (hi:i=(sts.length:Int)):(eu Q)[i.toNat]? = some (jO x):=by
 subst hi
 rw [bl]
 exact GC h
section
variable {n:Nat} {r:Int} {es:Es} {o:cW}
theorem Kc (Q:List aI) (hQ:Q.length<=10000):∀(ss sts:List aI) (D:List aI) (G:List Int),Q=(ss++sts).reverse++D->(∀s∈ss,s.2.1.length=1)->G.length+ss.length<=20000 ->
  Go qk true 5 (fF 81) (.head 0 (wy (eu Q) ((sts.length:Int) - 1) r n (aZ es) (aL n (aN es)) (aB (G++ss.map (·.1))))) o ->
  Go qk true 5 (fF 81) (.head 0 (wy (eu Q) (((ss++sts).length:Int) - 1) r n (aZ es) (aL n (aN es)) (aB G))) o
 | [],sts,D,G,_,_,_,hg=>by simpa using hg
 |(q,e,nx,i)::ss,sts,D,G,hd,h1,hG,hg=>by
  have hl:ss.length+sts.length+1+D.length=Q.length:=by rw [hd];simp;omega
  have ih:=Kc Q hQ ss sts ((q,e,nx,i)::D) (G++[q]) (by rw [hd];simp) (fun s hs=>h1 s (by simp [hs])) (by simp at hG |-;omega) (by simpa using hg)
  have e1:=h1 (q,e,nx,i) (by simp)
  have hst:jO (q,e,nx,i) = .agg [.int .i64 q,.sl (aV (aD e nx).seps),.sl (aB (aD e nx).kids),.str (aP e),.int .i64 nx,.int .i64 ((i:Nat):Int)]:=rfl
  have hx:=NO (i:=((((q,e,nx,i)::ss++sts:List aI)).length:Int) - 1) hd (by simp)
  have w:W .i64 (((((q,e,nx,i)::ss++sts:List aI)).length:Int) - 1 - 1)=(((ss++sts:List aI)).length:Int) - 1:=by rw [aX (by simp;omega)];simp
  refine Nm _ _ _ _ _ _ _ ?_ ih
  unfold F4
  have hkl:((aB (aD e nx).kids).length:Int)=1:=by
   have:(aD e nx).kids.length=1:=by simpa using e1
   rw [bZ,this];rfl
  rw [aG (decide_eq_true (by simp;omega)),oy hx,hst,lL,dV hkl,cond_true,aG (decide_eq_true (by simp;omega)),oy hx,hst,lL,aG (decide_eq_true (by rw [bZ];simp at hG |-;omega)),w]
  simp [aB]
theorem Ka:∀(ps:Es) (i:Nat) (G:List Int) (es R:Es),G.length<=20000->G.drop i=aM ps->i<=G.length->bX n es->es.Perm (ps++R) ->
  Go qk true 5 (fF 81) (.head 2 (t7 (G.length:Int) (G.length:Int) r n (aZ (qb es (aM ps))) (aL n (aN (qb es (aM ps)))) (aB G))) o ->
  Go qk true 5 (fF 81) (.head 2 (t7 (G.length:Int) (i:Int) r n (aZ es) (aL n (aN es)) (aB G))) o
 | [],i,G,es,R,_,hd,hi,_,_,hg=>by
  have h1:=drop_nil hd
  have e:i=G.length:=by omega
  subst e
  exact hg
 |(p,b)::ps,i,G,es,R,hG,hd,hi,hS,hp,hg=>by
  obtain ⟨h1,h2,h3⟩:=gl hd
  have ih:=Ka ps (i+1) G (fo es p) R hG h2 (by omega) (Gj hS p) (Cp hS.nd hp) hg
  have w:W .i64 ((i:Int)+1)=((i+1:Nat):Int):=by rw [aX (by omega)];omega
  refine Nn _ _ _ _ _ _ _ ?_ ih
  unfold F6
  rw [decide_eq_true (by omega),cond_true,aG (by simp),bl,aG (decide_eq_true (by rw [bZ];omega)),eg h1,bU,cz Lj (J9 hS (gz hp)),w]
end
theorem SQ (w:Bool) (h:Bs) (ez:Su) (hne:ez≠[]) (nz nq:Int):V.agg [V.sl (aV (aD ez nz).seps),V.sl (aB (aD ez nz).kids),V.str (cond w h (aD ez nz).high),V.int .i64 nq]=eI (aD (hS w h ez) nq):=by
 have h1:(aD ez nz).seps=(aD (hS w h ez) nq).seps:=(NA w h ez).symm
 have h2:(aD ez nz).kids=(aD (hS w h ez) nq).kids:=by
  obtain ⟨e',⟨z,hz⟩,rfl⟩:=qS hne
  show (e'++[(z,hz)]).map (·.1)=(hS w h (e'++[(z,hz)])).map (·.1)
  rw [lT];simp
 have h3:cond w h (aD ez nz).high=(aD (hS w h ez) nq).high:=(DW w h hne).symm
 rw [h1,h2,h3]
section
variable {n:Nat} {r:Int} {o:cW}
theorem Ki (A G:List Int) (hA:A.length<=20000) (hGA:A.length<=G.length) {x0:Int} {x1 x2:List V} {x3:List UInt8} {x4 x5:Int} {w:Bool} (hw:w=decide (x5 > 0)) (h:Bs):∀(zo gs:List Nd) (i:Nat) (es R:Es),zo.length=gs.length->bX n es->es.Perm (cj zo++R)->(∀g∈gs,(g.1,br g.2.1 g.2.2)∈R) ->
  (∀z∈zo,z.2.1≠[]/\bL (aD z.2.1 z.2.2)=true)->(∀g∈gs,bL (aD g.2.1 g.2.2)=true/\aP g.2.1=h)->(∀z∈dx w h zo gs,bL (aD z.2.1 z.2.2)=true)->A.drop i=zo.map (·.1)->(∃T,G.drop i=gs.map (·.1)++T)->i<=A.length ->
  Go qk true 5 (fF 81) (.head 1 (mK (aB A) (A.length:Int) (A.length:Int) r n (aZ (cV es (cj (dx w h zo gs)))) (aL n (aN (cV es (cj (dx w h zo gs))))) (aB G) x0 x1 x2 x3 x4 x5)) o ->
  Go qk true 5 (fF 81) (.head 1 (mK (aB A) (A.length:Int) (i:Int) r n (aZ es) (aL n (aN es)) (aB G) x0 x1 x2 x3 x4 x5)) o
 | [],[],i,es,R,_,_,_,_,_,_,_,hd,_,hi,hg=>by
  have h1:=drop_nil hd
  have e:i=A.length:=by omega
  subst e
  exact hg
 | [],_::_,_,_,_,hl,_,_,_,_,_,_,_,_,_,_=>by simp at hl
 | _::_,[],_,_,_,hl,_,_,_,_,_,_,_,_,_,_=>by simp at hl
 |(z,ez,nz)::zo,(q,eq,nq)::gs,i,es,R,hl,hs,hp,hR,hz,hgs,hnew,hd,⟨T,hdG⟩,hi,hg=>by
  obtain ⟨h1,h2,h3⟩:=gl hd
  obtain ⟨g1,g2,g3⟩:=gl (l:=G) (r:=gs.map (·.1)++T) (by rw [hdG];rfl)
  obtain ⟨hne,hrz⟩:=hz (z,ez,nz) (by simp)
  obtain ⟨hrq,hhq⟩:=hgs (q,eq,nq) (by simp)
  have hrn:bL (aD (hS w h ez) nq)=true:=hnew (z,hS w h ez,nq) (by simp [dx])
  have hgz:cF es z=some (cD (aD ez nz)):=mY hs.nd hp
  have hgq:cF es q=some (cD (aD eq nq)):=ja hs.nd (hp.mem_iff.2 (mC _ (hR (q,eq,nq) (by simp))))
  have hp2:=jI (b':=cD (aD (hS w h ez) nq)) hs.nd hp
  have hs2:=jl hs (b:=cD (aD (hS w h ez) nq)) (gz hp)
  have ih:=Ki A G hA hGA (x0:=x0) (x1:=x1) (x2:=x2) (x3:=x3) (x4:=x4) hw h zo gs (i+1) _ ((z,cD (aD (hS w h ez) nq))::R) (by simpa using hl) hs2 (hp2.trans List.perm_middle.symm) (fun g hg=>jT _ (hR g (by simp [hg]))) (fun y hy=>hz y (by simp [hy])) (fun y hy=>hgs y (by simp [hy])) (fun y hy=>hnew y (by
   show y∈(z,hS w h ez,nq)::dx w h zo gs
   simp [hy])) h2 ⟨T,g2⟩ (by omega) hg
  have w1:W .i64 ((i:Int)+1)=((i+1:Nat):Int):=by rw [aX (by omega)];omega
  refine F5 _ _ _ _ _ _ _ _ _ _ _ _ _ _ ?_ ih
  unfold A7
  rw [decide_eq_true (by omega),cond_true,aG (by simp),bl,eg h1,bU,oU hs hgz hrz,bY,aG (by simp),aG (decide_eq_true (by rw [bZ];omega)),eg g1,bU,oU hs hgq hrq,bY]
  show (aT aA _ _ _ [_,_,.ifc 150 (.agg [.sl (aV (aD ez nz).seps),.sl (aB (aD ez nz).kids),.str (cond (decide (x5 > 0)) (aP eq) (aD ez nz).high),.int .i64 nq])] (tM r n es) _)=_
  rw [hhq,<-hw,SQ w h ez hne nz nq,cz hX (qZ hs hgz hrn),w1]
end
theorem OC (xo:Nd) (xi:Nat):jO (xo.1,xo.2.1,xo.2.2,xi) = .agg [.int .i64 xo.1,.sl (aV (aD xo.2.1 xo.2.2).seps),.sl (aB (aD xo.2.1 xo.2.2).kids),.str (aP xo.2.1),.int .i64 xo.2.2,.int .i64 ((xi:Nat):Int)]:=rfl
section
variable {n:Nat} {r:Int} {es:Es} {ws:List aI} {pl:Int} {lf:Lf} {w:Bool} {zl:List Nl} {gs zo:List Nd} {xo X:Nd} {ss:List aI} {xi:Nat} {rest:List aI} {out:List Int} {R:Es} {r':Int} {es':Es}
theorem QS (d:mw n es ws pl lf w zl gs zo xo X ss xi rest out R) (hsk:lF n r (rM es pl lf w zl gs zo X) r' es') (A:List Int) :
  ∃m,Go qk true 5 (fF 81) (.head 1 (mK (aB A) (A.length:Int) (A.length:Int) r n (aZ (cV es (eH (fL w lf zl)++cj (dx w lf.high zo gs)))) (aL n (aN (cV es (eH (fL w lf zl)++cj (dx w lf.high zo gs))))) (aB (pl::gs.map (·.1))) xo.1 (aV (aD xo.2.1 xo.2.2).seps) (aB (aD xo.2.1 xo.2.2).kids) (aP xo.2.1) xo.2.2 (xi:Int))) (.doneM (.tup []) m) /\
   ∀r0 n0 e0 b0,gV aH (tm r0 n0 e0 b0) (.tup []) m=qB (r',n,aZ es',aL n (aN es')):=by
 have hp:=d.perm
 rw [<-bu] at hp
 have h1:=GX d.shf.nd hp d.keys
 have hs1:=Gk d.shf hp d.keys
 have hp2:(cV es (eH (fL w lf zl)++cj (dx w lf.high zo gs))).Perm ((X.1,br xo.2.1 xo.2.2)::((((pl,bA lf)::cj gs))++(eH (fL w lf zl)++(cj (dx w lf.high zo gs)++R)))):=by
  refine h1.1.trans (jH.2 fun x=>?_)
  rw [d.x.pg]
  simp only [jy,kR,ou]
  simp only [cj,iW,rJ]
  omega
 have hgx:=mY hs1.nd hp2
 have hp3:=jI (b':=br X.2.1 X.2.2) hs1.nd hp2
 have hs3:=jl hs1 (b:=br X.2.1 X.2.2) (gz hp2)
 have hp4:(bk (cV es (eH (fL w lf zl)++cj (dx w lf.high zo gs))) X.1 (br X.2.1 X.2.2)).Perm (((pl,bA lf)::cj gs)++((X.1,br X.2.1 X.2.2)::(eH (fL w lf zl)++(cj (dx w lf.high zo gs)++R)))):=by
  refine hp3.trans (jH.2 fun x=>?_)
  simp only [jy,kR]
  omega
 have hk:aM ((pl,bA lf)::cj gs)=pl::gs.map (·.1):=by
  show pl::aM (cj gs)=_
  rw [uR]
 have hgl:gs.length<=1024:=by
  have:=congrArg nY d.x.fst
  rw [d.x.fgs,dO]
  simp at this
  have:=d.len
  omega
 have hdel:kg (aD xo.2.1 xo.2.2) (xi:Int)=(aD X.2.1 X.2.2,0):=by
  unfold kg
  have:=d.x.lti
  have:=d.x.two
  rw [if_pos ⟨d.rxo,by omega,by simp;omega,by simp;omega⟩,bl,d.x.del]
 have hdp:=QF (aD xo.2.1 xo.2.2) (xi:Int) (me d.rxo)
 rw [hdel] at hdp
 obtain ⟨E2,hE2⟩:∃E2,E2=bk (cV es (eH (fL w lf zl)++cj (dx w lf.high zo gs))) X.1 (br X.2.1 X.2.2):=⟨_,rfl⟩
 obtain ⟨G,hG⟩:∃G,G=pl::gs.map (·.1):=⟨_,rfl⟩
 rw [<-hE2] at hs3 hp4
 rw [<-hG] at hk |-
 have hGl:G.length<=20000:=by rw [hG];simp;omega
 have hdr:rM es pl lf w zl gs zo X=qb E2 G:=by rw [hE2,hG];rfl
 rw [hdr] at hsk
 refine ⟨tM r' n es'++[O.row 3 (aB G) 0],?_,fun r0 n0 e0 b0=>by kernel_rfl⟩
 have h3:Go qk true 5 (fF 81) (.head 2 (t7 (G.length:Int) (G.length:Int) r n (aZ (qb E2 G)) (aL n (aN (qb E2 G))) (aB G))) (.doneM (.tup []) (tM r' n es'++[O.row 3 (aB G) 0])):=by
  refine Nn _ _ _ _ _ _ _ ?_ (.refl _)
  unfold F6
  rw [decide_eq_false (by omega),cond_false,cz VP (YK hsk)]
 rw [<-hk] at h3
 have h2:=Ka ((pl,bA lf)::cj gs) 0 G E2 _ hGl (by rw [hk];rfl) (by omega) hs3 hp4 (by rw [hk] at h3 |-;exact h3)
 refine F5 _ _ _ _ _ _ _ _ _ _ _ _ _ _ ?_ h2
 unfold A7
 rw [decide_eq_false (by omega),cond_false]
 show (aE aA _ [eI (aD xo.2.1 xo.2.2),_] _)=_
 rw [aK hdp,uy]
 show (aT aA _ _ _ [_,.int .i64 xo.1,.ifc 150 (eI (aD X.2.1 X.2.2))] (tM r n (cV es (eH (fL w lf zl)++cj (dx w lf.high zo gs)))) _)=_
 rw [<-d.x.pg,cz hX (qZ hs1 hgx d.rX),bZ,hE2]
 rfl
theorem QU (d:mw n es ws pl lf w zl gs zo xo X ss xi rest out R) (hsk:lF n r (rM es pl lf w zl gs zo X) r' es') :
  bN aA aH 81 [.ptr 0 0 0,.sl (eu ws),.int .i64 pl] (tM r n es)=some (qB (r',n,aZ es',aL n (aN es'))):=by
 have hlen:=d.len
 have hsl:ss.length+rest.length+1=ws.length:=by
  have:=congrArg nY d.x.fst
  simp at this
  omega
 have hgs:gs.length=ss.length:=by rw [d.x.fgs,dO]
 have hgk:gs.map (·.1)=ss.map (·.1):=by rw [d.x.fgs,List.map_map];rfl
 obtain ⟨A,hA⟩:∃A,A=zl.map (·.1)++zo.map (·.1):=⟨_,rfl⟩
 obtain ⟨m,hE,hc⟩:=QS d hsk A
 have hQ:ws=(ss++(xo.1,xo.2.1,xo.2.2,xi)::rest).reverse++[]:=by rw [<-d.x.fst];simp
 have hQ2:ws=((xo.1,xo.2.1,xo.2.2,xi)::rest).reverse++ss.reverse:=by rw [hQ];simp
 have w0:W .i64 (((eu ws).length:Int) - 1)=((ss++(xo.1,xo.2.1,xo.2.2,xi)::rest).length:Int) - 1:=by rw [qU,aX (by omega)];simp;omega
 have hnd:2<=(aD xo.2.1 xo.2.2).kids.length:=by simpa using d.x.two
 have hloop:Go qk true 5 (fF 81) (.head 1 (mK (aB A) (A.length:Int) ((0:Nat):Int) r n (aZ es) (aL n (aN es)) (aB (pl::gs.map (·.1))) xo.1 (aV (aD xo.2.1 xo.2.2).seps) (aB (aD xo.2.1 xo.2.2).kids) (aP xo.2.1) xo.2.2 (xi:Int))) (.doneM (.tup []) m):=by
  have hzl1:=d.zl1
  match hzl:zl,hzl1 with
  | [],_ =>
   have hzo:=d.zl0 rfl
   subst hzo
   have:A=[]:=by rw [hA];rfl
   subst this
   exact hE
  | [(z,l)],_ =>
   have hzo:=d.zo1 (by simp)
   have hp:=d.perm
   have hp:es.Perm ((z,bA l)::(cj zo++((pl,bA lf)::(cj gs++(cj [xo]++R))))):=hp
   have hgz:=mY d.shf.nd hp
   have hrl:cE l=true:=d.rzl (z,l) (by simp)
   have hrn:cE ⟨l.prs,bif w then lf.high else l.high,lf.next⟩=true:=d.rzl' (z,⟨l.prs,bif w then lf.high else l.high,lf.next⟩) (by simp [fL])
   have hgp:cF es pl=some (bA lf):=ja d.shf.nd (hp.mem_iff.2 (by simp))
   have hp2:=jI (b':=bA ⟨l.prs,bif w then lf.high else l.high,lf.next⟩) d.shf.nd hp
   have hs2:=jl d.shf (b:=bA ⟨l.prs,bif w then lf.high else l.high,lf.next⟩) (gz hp)
   have hA2:A=z::zo.map (·.1):=by rw [hA];rfl
   have hAl:A.length<=gs.length+1:=by rw [hA2];simp;omega
   have hE2:=Ki A (pl::gs.map (·.1)) (by omega) (by simp;omega) (x0:=xo.1) (x1:=aV (aD xo.2.1 xo.2.2).seps) (x2:=aB (aD xo.2.1 xo.2.2).kids) (x3:=aP xo.2.1) (x4:=xo.2.2) d.x.fw lf.high zo gs 1 _ ((z,bA ⟨l.prs,bif w then lf.high else l.high,lf.next⟩)::((pl,bA lf)::(cj gs++(cj [xo]++R)))) hzo hs2
    (hp2.trans List.perm_middle.symm) (fun g hg=>by
     refine jT _ (jT _ (jS _ (dP.2 ⟨g,hg,rfl⟩)))) d.rzo (fun g hg=>⟨d.rgs g hg,d.x.hi g hg⟩) d.rzo' (by rw [hA2];rfl) ⟨[],by simp⟩ (by rw [hA2];simp) hE
   have h1:A[0]? = some z:=by rw [hA2];rfl
   have g1:(pl::gs.map (·.1))[0]? = some pl:=rfl
   have fw:=d.x.fw
   refine F5 _ _ _ _ _ _ _ _ _ _ _ _ _ _ ?_ hE2
   unfold A7
   rw [decide_eq_true (by rw [hA2];simp),cond_true,aG (by simp),bl,eg h1,bU,qK d.shf hgz hrl,bY,aG (by simp),aG (decide_eq_true (by rw [bZ];simp)),eg g1,bU,qK d.shf hgp d.rlf,bY]
   show (aT aA _ _ _ [_,_,.ifc 120 (eL ⟨l.prs,cond (decide ((xi:Int) > 0)) lf.high l.high,lf.next⟩)] (tM r n es) _)=_
   rw [<-fw,cz hX (pf d.shf hgz hrn)]
   rfl
 have hgone:=Kc (r:=r) (es:=es) (n:=n) (o:=.doneM (.tup []) m) ws (by omega) ss ((xo.1,xo.2.1,xo.2.2,xi)::rest) [] [pl] hQ d.x.one (by simp;omega) (by
  have hx:=NO (i:=((((xo.1,xo.2.1,xo.2.2,xi)::rest:List aI)).length:Int) - 1) hQ2 (by simp)
  have hah:=O7 (r:=r) d.shf ws (by omega) d.ah (gs.length+1) (by omega)
  rw [d.fout,<-hA] at hah
  have hG:[pl]++ss.map (·.1)=pl::gs.map (·.1):=by rw [hgk];rfl
  have hGl:((aB (pl::gs.map (·.1))).length:Int)=((gs.length+1:Nat):Int):=by rw [bZ];simp
  rw [hG]
  refine Nm _ _ _ _ _ _ _ ?_ hloop
  unfold F4
  rw [aG (decide_eq_true (by simp)),oy hx,OC,lL,eK (by rw [bZ];omega),cond_false,aG (decide_eq_true (by simp)),oy hx,OC,lL,hGl,cU VO hah,bY,bZ]
  rfl)
 refine SG _ _ _ _ _ _ ?_ ⟨_,_,hgone,hc _ _ _ _⟩
 unfold Jk
 rw [w0]
 rfl
end
theorem W8 {r:Int} {up:List IL} {p:Int} {h:Bs} {a c:Su} {sts:List aI} (hp:iF r up p h a c sts) (h2:yB up) (hu:up≠[]):∃s∈sts,2<=s.2.1.length:=by
 induction hp with
 | top=>exact absurd rfl hu
 | @st up q e1 p h e2 pre post sts hup ih =>
  cases up with
  | nil=>exact ⟨_,cB ..,h2 _ rfl (q,e1++(p,h)::e2) (by simp)⟩
  | cons l up =>
   obtain ⟨s,hs,h3⟩:=ih (fun l' hl=>h2 l' (by rw [List.getLast?_cons_cons];exact hl)) (by simp)
   exact ⟨s,jT _ hs,h3⟩
section
variable {r:Int} {up:List IL} {p:Int} {h:Bs} {a c:Su} {sts:List aI} {w:Bool} {up':List IL} {gs zo:List Nd} {xo X:Nd}
theorem XR (hr:Rm r up p h a c sts w up' gs zo xo X):(∀l∈up,cH okI l 0)->(∀g∈gs,bL (aD g.2.1 g.2.2)=true)/\(∀z∈zo,z.2.1≠[]/\bL (aD z.2.1 z.2.2)=true)/\bL (aD xo.2.1 xo.2.2)=true:=by
 induction hr with
 | @one up q p h pre post sts w up' gs zo xo X _ ih =>
  intro hI
  have hl:=hI _ (cB ..)
  obtain ⟨h1,h2,h3⟩:=ih fun l hl=>hI l (by simp [hl])
  obtain ⟨_,hr⟩:okI [(p,h)] (aW post 0):=lx hl
  refine ⟨?_,?_,h3⟩
  ·intro g hg
   rcases bP.1 hg with rfl | hg
   ·exact hr
   ·exact h1 g hg
  ·intro z hz
   rcases bp.1 hz with hz | hz
   ·rcases d9 pre with rfl | ⟨l,⟨y,ey⟩,rfl⟩
    ·cases hz
    ·rw [gH] at hl hz
     rw [uS] at hz
     have:z=(y,ey,q+1):=by simpa using hz
     subst this
     rw [bu] at hl
     exact lx hl
   ·exact h2 z hz
 | @left up q p y h hy e1 e2 pre post sts hup=>intro hI;exact ⟨by simp,by simp,(lx (hI _ (cB ..))).2⟩
 | @first up q p h x e2 pre post sts hup=>intro hI;exact ⟨by simp,by simp,(lx (hI _ (cB ..))).2⟩
theorem XP (hr:Rm r up p h a c sts w up' gs zo xo X):(∀l∈up,∀x∈l,x.2≠[])->(∀l∈up',cH okI l 0)->(∀z∈dx w h zo gs,bL (aD z.2.1 z.2.2)=true)/\bL (aD X.2.1 X.2.2)=true:=by
 induction hr with
 | @one up q p h pre post sts w up' gs zo xo X hrm ih =>
  intro hn hI
  have hl:=hI _ (cB ..)
  obtain ⟨h1,h2⟩:=ih (fun l hl=>hn l (by simp [hl])) fun l hl=>hI l (by simp [hl])
  refine ⟨?_,h2⟩
  intro z hz
  rcases d9 pre with rfl | ⟨l,⟨y,ey⟩,rfl⟩
  ·have:=(AQ hrm fun l hl=>hn l (by simp [hl])).1 rfl
   subst this
   cases hz
  ·rw [gH] at hl hz
   rw [w7,bu] at hl
   rw [uS] at hz
   have hz:z∈(y,hS w h ey,aW post 0)::dx w h zo gs:=hz
   rcases bP.1 hz with rfl | hz
   ·exact (lx hl).2
   ·exact h1 z hz
 | @left up q p y h hy e1 e2 pre post sts hup=>intro _ hI;exact ⟨by simp [dx],(lx (hI _ (cB ..))).2⟩
 | @first up q p h x e2 pre post sts hup=>intro _ hI;exact ⟨by simp [dx],(lx (hI _ (cB ..))).2⟩
end
theorem WA {pre post:LL} {p:Int} {prs:List Pr} {h:Bs} {w:Bool} (ho:iY (pre++(p,prs,h)::post)):iY (hF w h pre++post):=by
 obtain ⟨h1,h2,h3,h4,h5⟩:=sV ho
 rcases d9 pre with rfl | ⟨l,⟨z,prz,hz⟩,rfl⟩
 ·exact h2
 ·rw [gH] at h1 h3 h5 |-
  rw [uL]
  obtain ⟨q1,_,q3⟩:=dJ.1 h1
  cases w with
  | false=>exact dJ.2 ⟨h1,h2,fun y hy z hz=>h5 y hy z hz⟩
  | true =>
   refine dJ.2 ⟨dJ.2 ⟨q1,by simp,?_⟩,h2,?_⟩
   ·intro y hy x hx
    have:x=(z,prz,h):=by simpa using hx
    subst this
    have h6:=q3 y hy (z,prz,hz) (by simp)
    exact ⟨DZ h6.1 (h3 (z,prz,hz) (by simp)).1,h6.2⟩
   ·intro y hy x hx
    rcases bp.1 hy with hy | hy
    ·exact h5 y (by simp [hy]) x hx
    ·have:y=(z,prz,h):=by simpa using hy
     subst this
     exact h4 x hx
theorem Vf {prz prs:List Pr} {hz h:Bs} {w:Bool} (o:jr prz hz) (o2:jr prs h) (hl:aC hz h):jr prz (bif w then h else hz):=by
 cases w with
 | false=>exact o
 | true =>
  refine ⟨o.ri,o.mem,?_,o.wt⟩
  show h=[]∨_
  rcases o2.hi with h1 | ⟨h1,_⟩
  ·exact .inl h1
  ·refine .inr ⟨h1,fun x hx=>?_⟩
   exact lt_trans ((o.hi.resolve_left hl.1).2 x hx) (hl.2.resolve_left (oE h1))
theorem QT {n:Nat} {r:Int} {es:Es} {ups:List IL} {b:LL} (h:WF n r es ups b) {p:Int} {h':Bs} {ws:List aI} {pre post:LL} {prs:List Pr} (hp:iF r ups.reverse p h' (bS pre) (bS post) ws.reverse) (hb:b=pre++(p,prs,h')::post) (hws:ws.length=ups.length) (hu:ups≠[]) :
  ∃w zl gs zo xo X ss xi rest out R up',mw n es ws p ⟨prs,h',aW post 0⟩ w zl gs zo xo X ss xi rest out R/\WT n r (rM es p ⟨prs,h',aW post 0⟩ w zl gs zo X) up' (hF w h' pre++post):=by
 have hul:=mo h.toWT
 obtain ⟨w,up',gs,zo,xo,X,hr⟩:=XO hp (W8 hp h.rt (by simpa using hu))
 have hI:∀l∈ups.reverse,cH okI l 0:=fun l hl=>h.okI l (by simpa using hl)
 have hn:∀l∈ups.reverse,∀x∈l,x.2≠[]:=fun l hl=>ia (hI l hl)
 obtain ⟨hIn,hIf⟩:=si h.toWT
 obtain ⟨ss,xi,rest,hx⟩:=XT hr
 obtain ⟨out,ha1,ha2⟩:=XM h.shf hr hI fun l hl=>hIn l (by simpa using hl)
 obtain ⟨o1,o2,o3⟩:=XR hr hI
 obtain ⟨z0,z1⟩:=AQ hr hn
 obtain ⟨R0,hp1,hp2⟩:=XS hr hn
 have hF:=h.okF
 rw [hb] at hF
 obtain ⟨ok1,ok3,ok2⟩:=(fA _ _ _).1 hF
 have hrl:cE ⟨prs,h',aW post 0⟩=true:=ok3
 obtain ⟨lo,hx0,hx1⟩:=qm hrl
 have hkh:h'=[]∨bF h'=true:=lo.hi.imp id fun q=>q.1
 have hord:=h.ord
 rw [hb] at hord
 have hP:=AA hord
 have eS0:bS (pre++(p,prs,h')::post)=bS pre++(p,h')::bS post:=by simp [bS]
 rw [eS0] at hP
 have hI':=XQ hr hI hP hkh
 obtain ⟨n1,n2⟩:=XP hr hn hI'
 have hes:es.Perm (cP ups.reverse++bg cI (pre++(p,prs,h')::post) 0):=by
  have:=h.rep
  rw [hb] at this
  exact this.trans (List.Perm.append_right _ wO.symm)
 have hes:=hes.trans (List.Perm.append_right _ hp1)
 have hdn:Dn [(r,[])] up'.reverse (Proofs.YtlphgcjepphhcaaGreat.hF w h' pre++post):=by
  have e:bS (Proofs.YtlphgcjepphhcaaGreat.hF w h' pre++post)=hS w h' (bS pre)++bS post:=by rw [<-Zt];simp [bS]
  have:=XN hr hn (d:=[]) (b:=Proofs.YtlphgcjepphhcaaGreat.hF w h' pre++post) (by rw [<-e];exact .leaf _)
  rwa [dA] at this
 have hod:=WA (w:=w) hord
 rcases d9 pre with rfl | ⟨l,⟨z,prz,hz⟩,rfl⟩
 ·have hzo:=z0 rfl
  subst hzo
  have d:mw n es ws p ⟨prs,h',aW post 0⟩ w [] gs [] xo X ss xi rest out (R0++bg cI post 0):=by
   refine ⟨h.shf,by omega,hx,ha1,ha2,by simp,fun _=>rfl,fun q=>absurd rfl q,?_,hrl,by simp,by simp [fL],o1,o2,n1,o3,n2⟩
   refine hes.trans (jH.2 fun x=>?_)
   rw [dU,bg]
   simp only [jy,kR,ou,eH,cj,iW,rJ,dU]
   have:c1 x (p,cI (prs,h') (aW post 0))=c1 x (p,bA ⟨prs,h',aW post 0⟩):=rfl
   omega
  refine ⟨w,[],gs,[],xo,X,ss,xi,rest,out,_,up'.reverse,d,d.left.2,?_,hdn,fun l hl=>hI' l (by simpa using hl),ok2,hod⟩
  refine d.left.1.trans ?_
  refine List.Perm.trans ?_ (List.Perm.append_right _ (hp2.symm.trans wO.symm))
  show (eH []++(cj (dx w h' [] gs)++(cj [X]++(R0++bg cI post 0)))).Perm (_++bg cI (Proofs.YtlphgcjepphhcaaGreat.hF w h' []++post) 0)
  have:Proofs.YtlphgcjepphhcaaGreat.hF w h' []++post=post:=rfl
  rw [this]
  refine jH.2 fun x=>?_
  simp only [jy,eH,iW,rJ,dU]
  omega
 ·rw [gH] at *
  have e1:bS (l++[(z,prz,hz)])=bS l++[(z,hz)]:=by simp [bS]
  rw [e1] at z1 ha2
  rw [vd] at ha2
  have hzl:=z1 (by simp)
  obtain ⟨k1,k2,_⟩:=(fA _ _ _).1 ok1
  have hrz:cE ⟨prz,hz,p+1⟩=true:=k2
  obtain ⟨zo',_,_⟩:=qm hrz
  have hlt':=((sV hord).2.2.1 (z,prz,hz) (by simp)).1
  have hnew:=oY (Vf (w:=w) zo' lo hlt') hx0 hx1
  have d:mw n es ws p ⟨prs,h',aW post 0⟩ w [(z,⟨prz,hz,p+1⟩)] gs zo xo X ss xi rest out (R0++(bg cI l (z+1)++bg cI post 0)):=by
   refine ⟨h.shf,by omega,hx,ha1,ha2,by simp,fun q=>by simp at q,fun _=>hzl,?_,hrl,by simpa using hrz,by simpa [fL] using hnew,o1,o2,n1,o3,n2⟩
   refine hes.trans (jH.2 fun x=>?_)
   have E:bg cI (l++[(z,prz,hz)]++(p,prs,h')::post) 0=bg cI l (z+1)++(z,bA ⟨prz,hz,p+1⟩)::(p,bA ⟨prs,h',aW post 0⟩)::bg cI post 0:=by
    rw [bu,i6];rfl
   rw [E]
   simp only [jy,kR,ou,eH,dj,iW,rJ,dU]
   omega
  refine ⟨w,[(z,⟨prz,hz,p+1⟩)],gs,zo,xo,X,ss,xi,rest,out,_,up'.reverse,d,d.left.2,?_,hdn,fun l hl=>hI' l (by simpa using hl),?_,hod⟩
  ·refine d.left.1.trans ?_
   refine List.Perm.trans ?_ (List.Perm.append_right _ (hp2.symm.trans wO.symm))
   have E:bg cI (l++[(z,prz,bif w then h' else hz)]++post) 0=bg cI l (z+1)++(z,bA ⟨prz,bif w then h' else hz,aW post 0⟩)::bg cI post 0:=by
    rw [bu,i6];rfl
   rw [uL,E]
   refine jH.2 fun x=>?_
   simp only [jy,kR,eH,fL,dj,iW,rJ,dU]
   omega
  ·rw [uL,bu]
   exact (fA _ _ _).2 ⟨k1,hnew,ok2⟩
inductive pj (n:Nat) (r:Int) (es:Es) (k:Bs):Int->Int->Es->Prop
 | arg (h:bF k=false):pj n r es k 1 r es
 | no {ws:List aI} {pl:Int} {l:Lf} (hs:bX n es) (hk:bF k=true) (hw:ju es k r ws pl l) (hl:ws.length<=1024) (hr0:cE l=true) (hh:co (aU l.prs) k=false):pj n r es k 7 r es
 | put {ws:List aI} {pl:Int} {l:Lf} (hs:bX n es) (hk:bF k=true) (hw:ju es k r ws pl l) (hl:ws.length<=1024) (hg:cF es pl=some (bA l)) (hr0:cE l=true) (hh:co (aU l.prs) k=true) (hd:fT l.prs k≠[]∨ws=[]) (hr:cE ⟨fT l.prs k,l.high,l.next⟩=true) :
  pj n r es k 0 r (bk es pl (bA ⟨fT l.prs k,l.high,l.next⟩))
 | drop {ws:List aI} {pl:Int} {l:Lf} {w:Bool} {zl:List Nl} {gs zo:List Nd} {xo X:Nd} {ss:List aI} {xi:Nat} {rest:List aI} {out:List Int} {R:Es} {r':Int} {es':Es} (hk:bF k=true) (hw:ju es k r ws pl l) (hr0:cE l=true) (hh:co (aU l.prs) k=true) (hd:fT l.prs k=[]) (hw0:ws≠[])
  (d:mw n es ws pl l w zl gs zo xo X ss xi rest out R) (hsk:lF n r (rM es pl l w zl gs zo X) r' es'):pj n r es k 0 r' es'
theorem wL {k:Bs} {r n:Int} {es:List (V × V)} {bs:List V} {m:List O} {v0:V} {L:Int × Int × Int × List (V × V) × List V} (h:rN k r n es bs=some (.doneM v0 m)) (hc:gV aH (tm r n es bs) v0 m=kx L) :
  bN aA aH 33 [.ptr 0 0 0,.str k] (tm r n es bs)=some (kx L):=Sa _ _ _ _ _ h (.done hc)
theorem zk {n:Nat} {r:Int} {es:Es} {k:Bs} {e r':Int} {es':Es} (h:pj n r es k e r' es'):bN aA aH 33 [.ptr 0 0 0,.str k] (tM r n es)=some (kx (e,r',n,aZ es',aL n (aN es'))):=by
 cases h with
 | arg h =>
  refine wL (v0:=.int .i64 1) (m:=tM r n es) ?_ (by kernel_rfl)
  unfold rN
  rw [aK (iv k),cR,h];rfl
 | @no ws pl l hs hk hw hl hr0 hh =>
  have hdl:=Cn l hr0 k
  rw [hh] at hdl
  apply wL
  case h =>
   unfold rN
   rw [aK (iv k),cR,hk,bR,cond_false,cU qA (qY hs hw (by omega)),bY]
   show (aE aA _ [eL l,_] _)=_
   rw [aK hdl]
   show (oo (V.tup [eL sw,V.int .i64 7]) _)=_
   rw [lK,lU (by decide),cond_true]
  case hc=>kernel_rfl
 | @put ws pl l hs hk hw hl hg hr0 hh hd hr =>
  have hdl:=Cn l hr0 k
  rw [hh,if_pos rfl] at hdl
  by_cases h0:fT l.prs k=[]
  ·have hw0:=hd.resolve_left fun q=>q h0
   subst hw0
   apply wL
   case h =>
    unfold rN
    rw [aK (iv k),cR,hk,bR,cond_false,cU qA (qY hs hw (by omega)),bY]
    show (aE aA _ [eL l,_] _)=_
    rw [aK hdl,lK,d0 rfl,cond_false,decide_eq_false (by rw [fN,h0];simp),cond_false,dV (by rfl),cond_true]
    show (aT aA _ _ _ [_,_,.ifc 120 (eL ⟨fT l.prs k,l.high,l.next⟩)] (tM r n es) _)=_
    rw [cz hX (pf hs hg hr)]
   case hc=>kernel_rfl
  ·apply wL
   case h =>
    unfold rN
    rw [aK (iv k),cR,hk,bR,cond_false,cU qA (qY hs hw (by omega)),bY]
    show (aE aA _ [eL l,_] _)=_
    rw [aK hdl,lK,d0 rfl,cond_false,decide_eq_true (show ((bq (fT l.prs k)).length:Int) > 0 by rw [fN];have:=js.2 h0;omega),cond_true]
    show (aT aA _ _ _ [_,_,.ifc 120 (eL ⟨fT l.prs k,l.high,l.next⟩)] (tM r n es) _)=_
    rw [cz hX (pf hs hg hr)]
   case hc=>kernel_rfl
 | @drop ws pl l w zl gs zo xo X ss xi rest out R r' es' hk hw hr0 hh hd hw0 d hsk =>
  have hdl:=Cn l hr0 k
  rw [hh,if_pos rfl] at hdl
  have hlen:=d.len
  apply wL
  case h =>
   unfold rN
   rw [aK (iv k),cR,hk,bR,cond_false,cU qA (qY d.shf hw (by omega)),bY]
   show (aE aA _ [eL l,_] _)=_
   rw [aK hdl,lK,d0 rfl,cond_false,decide_eq_false (by rw [fN,hd];simp),cond_false,eK (by rw [qU];have:=js.2 hw0;omega),cond_false,cz VZ (QU d hsk)]
  case hc=>kernel_rfl
theorem QG {prs:List Pr} {h k:Bs} (o:jr prs h) (hh:co (aU prs) k=true):jr (fT prs k) h:=by
 have hs:(fT prs k).Sublist prs:=by rw [Cm o.ri hh];exact List.filter_sublist
 refine ⟨o.ri.sublist hs,fun x hx=>o.mem x (hs.subset hx),o.hi.imp id fun q=>⟨q.1,fun x hx=>q.2 x (hs.subset hx)⟩,?_⟩
 have h1:=vN prs (bI (aU prs) k)
 have h2:=vN (prs.drop (bI (aU prs) k)) 1
 rw [nW] at h2
 have:=o.wt
 unfold fT
 rw [vM]
 omega
def sQ (k:Bs) (l:List Pr):List Pr:=l.filter fun x=>!(x.1==k)
theorem Lz {k:Bs} {l:List Pr} (h:∀x∈l,lt x.1 k=true∨lt k x.1=true):sQ k l=l:=rU (p:=fun x:Pr=>!(x.1==k)) fun x hx=>by
 by_cases he:x.1=k
 ·have:=h x hx
  rw [he,iw] at this;simp at this
 ·simpa using he
def OH (n:Nat) (r:Int) (es:Es) (ups:List IL) (b:LL) (k:Bs) (e r':Int) (es':Es) (ups':List IL) (b':LL):Prop :=
 (e=0/\bF k=true/\co (aU (bM b)) k=true/\bM b'=sQ k (bM b)) ∨
 (r'=r/\es'=es/\ups'=ups/\b'=b/\((e=1/\bF k=false)∨(e=7/\bF k=true/\co (aU (bM b)) k=false)))
theorem Co {n:Nat} {r:Int} {es:Es} {ups:List IL} {b:LL} (h:WF n r es ups b) (k:Bs) :
  ∃e r' es' ups' b',WF n r' es' ups' b'/\pj n r es k e r' es'/\OH n r es ups b k e r' es' ups' b':=by
 cases hk:bF k with
 | false=>exact ⟨1,r,es,ups,b,h,.arg hk,.inr ⟨rfl,rfl,rfl,rfl,.inl ⟨rfl,hk⟩⟩⟩
 | true =>
  obtain ⟨p,h',ws,pre,prs,post,q1,q2,q3,q4,q5,q6⟩:=GR h.toWT hk
  have hF:=h.okF
  rw [q2] at hF
  have hr:cE ⟨prs,h',aW post 0⟩=true:=Ax hF
  obtain ⟨o,hx0,hx1⟩:=qm hr
  have hul:=mo h.toWT
  obtain ⟨hgp,_⟩:=On q6
  have hord:=h.ord
  rw [q2] at hord
  have hpre:=(sV hord).2.2.1
  obtain ⟨hca,hcc⟩:=GQ hord hF q3 q4
  have hris:=zH hord hF
  have efl:bM (pre++(p,prs,h')::post)=bM pre++(prs++bM post):=by rw [lc,gY]
  rw [efl] at hris
  have hhas:=Kh hca hcc hris
  have hfb:bM b=bM pre++(prs++bM post):=by rw [q2,efl]
  cases hh:co (aU prs) k with
  | false=>exact ⟨7,r,es,ups,b,h,.no h.shf hk q6 (by omega) hr hh,.inr ⟨rfl,rfl,rfl,rfl,.inr ⟨rfl,hk,by rw [hfb,hhas,hh]⟩⟩⟩
  | true =>
   have o2:=QG o hh
   have hr2:=oY o2 hx0 hx1
   have hfl:sQ k (bM b)=bM pre++(fT prs k++bM post):=by
    rw [hfb]
    show (bM pre++(prs++bM post)).filter _=_
    rw [nX,nX,Cm o.ri hh]
    have e1:=Lz (k:=k) (l:=bM pre) fun x hx=>.inl (hca x hx)
    have e2:=Lz (k:=k) (l:=bM post) fun x hx=>.inr (hcc x hx)
    unfold sQ at e1 e2
    rw [e1,e2]
   have hin:co (aU (bM b)) k=true:=by rw [hfb,hhas,hh]
   by_cases hd:fT prs k≠[]∨ws=[]
   ·have hat:=h.rep
    rw [q2] at hat
    have hat:=Ag hat
    have hpm:=jI (b':=bA ⟨fT prs k,h',aW post 0⟩) h.shf.nd hat
    obtain ⟨ok1,ok3,ok2⟩:=(fA _ _ _).1 hF
    have hne:=xn h q2
    refine ⟨0,r,bk es p (bA ⟨fT prs k,h',aW post 0⟩),ups,pre++(p,fT prs k,h')::post,⟨⟨jl h.shf (gz hat),hpm.trans (KN (U:=cP ups) (pre:=pre) (post:=post) (p:=p) (x:=(fT prs k,h'))),?_,h.okI,(fA _ _ _).2 ⟨ok1,hr2,ok2⟩,LS hord ?_⟩,?_,h.rt⟩,.put h.shf hk q6 (by omega) hgp hr hh hd hr2,.inl ⟨rfl,hk,hin,?_⟩⟩
    ·have e:bS (pre++(p,fT prs k,h')::post)=bS b:=by rw [q2];simp [bS]
     exact Ct e h.dn
    ·intro y hy x hx
     refine (hpre y hy).2 x ?_
     rw [Cm o.ri hh] at hx
     exact (mD.1 hx).1
    ·intro hu x hx
     rcases bp.1 hx with hx | hx
     ·exact hne x (.inl hx)
     ·rcases bP.1 hx with rfl | hx
      ·rcases hd with hd | hd
       ·exact hd
       ·rw [hd] at q5
        exact absurd (pw q5.symm) hu
      ·exact hne x (.inr hx)
    ·rw [hfl,lc,gY]
   ·have hd0:fT prs k=[]:=Classical.byContradiction fun q=>hd (.inl q)
    have hw0:ws≠[]:=fun q=>hd (.inr q)
    have hu:ups≠[]:=by
     intro e
     rw [e] at q5
     exact hw0 (pw q5)
    obtain ⟨w,zl,gs,zo,xo,X,ss,xi,rest,out,R,up',d,hwt⟩:=QT h q1 q2 q5 hu
    have hne:=xn h q2
    obtain ⟨r',es',ups',h1,h2⟩:=NF hwt (by
     intro x hx
     rcases bp.1 hx with hx | hx
     ·rcases d9 pre with rfl | ⟨l,⟨z,prz,hz⟩,rfl⟩
      ·cases hx
      ·rw [gH] at hx hne
       rw [uL] at hx
       rcases bp.1 hx with hx | hx
       ·exact hne x (.inl (by simp [hx]))
       ·have:x=(z,prz,bif w then h' else hz):=by simpa using hx
        rw [this]
        exact hne (z,prz,hz) (.inl (by simp))
     ·exact hne x (.inr hx))
    refine ⟨0,r',es',ups',_,h2,.drop hk q6 hr hh hd0 hw0 d h1,.inl ⟨rfl,hk,hin,?_⟩⟩
    rw [hfl,lc,Tl,hd0]
    simp
theorem Tj {n:Nat} {es:Es} (h:bX n es) {j:Nat} (hj:k8 n (aN es)=some j):j<=es.length:=by
 unfold k8 at hj
 obtain ⟨_,h2,h3⟩:=List.find?_range_eq_some.1 hj
 have hjn:j < n:=by simpa using h2
 have hl:=tA h
 unfold ew at hl
 rw [dO] at hl
 obtain ⟨m,rfl⟩:∃m,n=j+m:=⟨n - j,by omega⟩
 rw [List.range_add,nX,c8] at hl
 have hf:(dl j).filter (aN es)=dl j:=Hc.2 fun i hi=>by
  have:=h3 i (by simpa using hi)
  simpa using this
 rw [hf,yn] at hl
 omega
theorem UV {es:Es} {p q:Int} {b:Bs} (h:q∈aM (bk es p b)):q∈aM es∨q=p:=by
 by_cases hp:p∈aM es
 ·rw [nF hp] at h;exact .inl h
 ·rw [qh hp] at h
  rcases bp.1 h with h | h
  ·exact .inl h
  ·exact .inr (eZ.1 h)
theorem KQ (es:Es) (p:Int) (b:Bs):es.length<=(bk es p b).length:=by
 by_cases hp:p∈aM es
 ·rw [xz hp];exact bG _
 ·rw [AJ hp];omega
def px (es es':Es):Prop:=es.length<=es'.length/\∀q∈aM es',q∈aM es∨q < (es'.length:Int)
theorem K7 (es:Es):px es es:=⟨bG _,fun q h=>.inl h⟩
theorem sF {a b c:Es} (h1:px a b) (h2:px b c):px a c:=⟨lD h1.1 h2.1,fun q hq=>by
 rcases h2.2 q hq with h | h
 ·rcases h1.2 q h with h | h
  ·exact .inl h
  ·have:=h2.1;exact .inr (by omega)
 ·exact .inr h⟩
theorem sE {es:Es} {p:Int} {b:Bs} (hp:p∈aM es):px es (bk es p b):=⟨KQ _ _ _,fun q hq=>by rw [nF hp] at hq;exact .inl hq⟩
theorem Ew {n:Nat} {es:Es} (h:bX n es) {j:Nat} (hj:k8 n (aN es)=some j) (hq:(j:Int)∉aM es) {b:Bs}:px es (bk es j b):=by
 have:=Tj h hj
 refine ⟨KQ _ _ _,fun q hq'=>?_⟩
 rcases UV hq' with h | h
 ·exact .inl h
 ·rw [AJ hq];exact .inr (by omega)
theorem wX {es:Es} {p:Int} {b:Bs} (h:cF es p=some b):p∈aM es:=Classical.byContradiction fun q=>by rw [se.2 q] at h;cases h
theorem AI {es:Es} {p q:Int} {b:Bs} (h:p∈aM es):p∈aM (bk es q b):=by
 by_cases hq:q∈aM es
 ·rw [nF hq];exact h
 ·rw [qh hq];exact jS _ h
theorem Fa {es:Es} {p:Int} {b:Bs}:p∈aM (bk es p b):=by
 by_cases hq:p∈aM es
 ·rw [nF hq];exact hq
 ·rw [qh hq];simp
theorem ZX {n:Nat} {r:Int} {es:Es} {sts:List aI} {k:Bs} {p to r':Int} {es':Es} (h:mL n r es sts k p to r' es'):px es es':=by
 induction h with
 | @top es k p to j hs hf hj hq hr=>exact sF (Ew hs hf hq) (sE Fa)
 | @room es sts k p to q e nx i e' hs hg hr hk hp hr'=>exact sE (wX hg)
 | @two es sts k p to q e nx i j ea eb fa fb r' es' hs hg hr hk hp hf hj hq hra hrb rfa rfb hspl hcase hup ih =>
  exact sF (sF (sF (Ew hs hf hq) (sE (AI (wX hg)))) (sE (AI Fa))) ih
theorem Mh {n:Nat} {r:Int} {es:Es} {k v:Bs} {ok:Bool} {e r':Int} {es':Es} (h:n8 n r es k v ok e r' es'):px es es':=by
 cases h with
 | arg h=>exact K7 _
 | put hs hk hv hw hl hg hr0 hh hz hr=>exact sE (wX hg)
 | full=>exact K7 _
 | split hs hk hv hw hl hg hr0 hh hz hf hfj hj hq h2 hx rA0 rB0 rA rB hc hu =>
  exact sF (sF (sF (Ew hs hfj hq) (sE (AI (wX hg)))) (sE (AI Fa))) (ZX hu)
theorem UT {es:Es} {p q:Int} (h:q∈aM (fo es p)):q∈aM es:=by
 induction es with
 | nil=>exact h
 | cons x es ih =>
  obtain ⟨a,y⟩:=x
  unfold fo at h
  split at h
  ·exact jT _ h
  ·rcases bP.1 h with h | h
   ·rw [h];exact cB ..
   ·exact jT _ (ih h)
theorem YJ {n:Nat} {r:Int} {es:Es} {r':Int} {es':Es} (h:lF n r es r' es'):∀q∈aM es',q∈aM es:=by
 induction h with
 | leaf=>exact fun _ h=>h
 | stop=>exact fun _ h=>h
 | one hs hg hr _ ih=>exact fun q hq=>UT (ih q hq)
theorem QH {n:Nat} {r:Int} {es:Es} {k:Bs} {e r':Int} {es':Es} (h:pj n r es k e r' es'):∀q∈aM es',q∈aM es:=by
 cases h with
 | arg=>exact fun _ h=>h
 | no=>exact fun _ h=>h
 | put hs hk hw hl hg hr0 hh hd hr=>exact fun q hq=>by rwa [nF (wX hg)] at hq
 | @drop ws pl l w zl gs zo xo X ss xi rest out R r' es' hk hw hr0 hh hd hw0 d hsk =>
  intro q hq
  have h1:=YJ hsk q hq
  have hp:=d.left.1
  have h2:q∈aM (eH (fL w l zl)++(cj (dx w l.high zo gs)++(cj [X]++R))):=(hp.map (·.1)).mem_iff.1 h1
  have h3:q∈aM (eH zl++(cj zo++((pl,bA l)::(cj gs++(cj [xo]++R))))):=by
   rw [<-bu,l6,<-d.keys] at h2
   rcases bp.1 h2 with h2 | h2
   ·rw [<-bu,l6];exact jS _ h2
   ·rw [l6] at h2
    rcases bp.1 h2 with h2 | h2
    ·have e1:aM (cj [X])=aM (cj [xo]):=by rw [uR,uR];simp [d.x.pg]
     rw [e1] at h2
     rw [<-bu,l6]
     refine mC _ (jT _ ?_)
     show q∈aM (cj gs++(cj [xo]++R))
     rw [l6,l6]
     exact mC _ (jS _ h2)
    ·rw [<-bu,l6]
     refine mC _ (jT _ ?_)
     show q∈aM (cj gs++(cj [xo]++R))
     rw [l6,l6]
     exact mC _ (mC _ h2)
  exact (d.perm.map (·.1)).mem_iff.2 h3
theorem Et:∀{l:IL},(∀x∈l,x.2≠[])->(∀x∈l.dropLast,15<=x.2.length)->l≠[]->15 * (l.length - 1)+1<=(bc l).length
 | [],_,_,h=>absurd rfl h
 | [x],h,_,_=>by
  have:=js.2 (h x (by simp))
  simp [bc]
  omega
 | x::y::t,h,hf,_=>by
  have ih:=Et (l:=y::t) (fun z hz=>h z (by simp [hz])) (fun z hz=>hf z (by rw [mA (by simp)];simp [hz])) (by simp)
  have h1:=hf x (by rw [mA (by simp)];simp)
  rw [bc,iD,c8]
  rw [bc] at ih
  simp only [cL] at ih |-
  omega
theorem zn {s:Su} {b:LL} (h:Dn s [] b):s.length=b.length:=by rw [iL h];simp [bS]
theorem Cu {s:Su} {l:IL} {d:List IL} {b:LL} (h:Dn s (l::d) b):s.length=l.length:=by
 have e:=congrArg nY (gk h).1
 rw [e];simp [bw]
theorem IF:∀{d:List IL} {s:Su} {b:LL},Dn s d b->(∀l∈d,cH okI l 0)->Ft d->s≠[]->s.length<=b.length/\∀l∈d,l.length<=b.length
 | [],s,b,h,_,_,_=>⟨by rw [zn h];exact bG _,fun l hl=>(nomatch hl)⟩
 | l::d,s,b,h,hI,hF,hs=>by
  have hl:=Cu h
  obtain ⟨e,hk⟩:=gk h
  have hlne:l≠[]:=by rintro rfl;exact hs e
  have hne:=ia (hI _ (cB ..))
  have hkl:=Et hne (hF _ (cB ..)) hlne
  have hpos:=js.2 hlne
  obtain ⟨i1,i2⟩:=IF hk (fun x hx=>hI x (by simp [hx])) (fun x hx=>hF x (by simp [hx])) (Aa hlne hne)
  refine ⟨by omega,fun l' hl'=>?_⟩
  rcases bP.1 hl' with rfl | hl'
  ·omega
  ·exact i2 l' hl'
theorem QP {l:IL} {d:List IL} {s:Su} {b:LL} (h:Dn s (l::d) b) (hI:∀l'∈l::d,cH okI l' 0) (hF:Ft (l::d)) (h2:2<=s.length):16<=b.length:=by
 have hl:=Cu h
 obtain ⟨e,hk⟩:=gk h
 have hlne:l≠[]:=by rintro rfl;rw [hl] at h2;simp at h2
 have hne:=ia (hI _ (cB ..))
 have hkl:=Et hne (hF _ (cB ..)) hlne
 have:=(IF hk (fun x hx=>hI x (by simp [hx])) (fun x hx=>hF x (by simp [hx])) (Aa hlne hne)).1
 omega
theorem Mw {n:Nat} {r:Int} {es:Es} {l:IL} {d:List IL} {b:LL} (h:WF n r es (l::d) b):l.length=1/\2<=(bc l).length:=by
 obtain ⟨e0,_⟩:=gk h.dn
 obtain ⟨e,rfl⟩:=Mx e0
 have:=h.rt [(r,e)] (by simp) (r,e) (eZ.2 rfl)
 simp [bc]
 exact this
theorem IB {n:Nat} {r:Int} {es:Es} {ups:List IL} {b:LL} (h:WF n r es ups b) (hr:Rs ups b) (hb:b.length<=15):ups.length<=1/\es.length<=b.length+1:=by
 have hl:es.length=(eQ ups b).length:=by rw [<-(vg h.toWT).length_eq];simp [aM]
 cases ups with
 | nil=>exact ⟨by simp,by rw [hl];simp [eQ,cw]⟩
 | cons l d =>
  obtain ⟨h1,h2⟩:=Mw h
  cases d with
  | nil =>
   refine ⟨by simp,?_⟩
   rw [hl]
   simp [eQ,cw,h1]
   omega
  | cons l2 d =>
   have:=QP (gk h.dn).2 (fun x hx=>h.okI x (by simp only [bP] at hx |-;exact .inr hx)) (fun x hx=>hr.ft x (by simp only [bP] at hx |-;exact .inr hx)) h2
   omega
theorem Dw:∀{b:LL},(∀x∈b.dropLast,2<=x.2.1.length)->b≠[]->2 * (b.length - 1)<=(bM b).length
 | [],_,h=>absurd rfl h
 | [x],_,_=>by simp
 | x::y::t,hf,_=>by
  have ih:=Dw (b:=y::t) (fun z hz=>hf z (by rw [mA (by simp)];simp [hz])) (by simp)
  have h1:=hf x (by rw [mA (by simp)];simp)
  obtain ⟨p,prs,hh⟩:=x
  rw [gY,c8]
  simp only [cL] at ih |-
  simp only at h1
  omega
theorem J0:∀{b:LL} {n:Int},cH okF b n->aS (bM b)<=231 * b.length
 | [],_,_=>by simp [bM,aS]
 |(p,prs,h)::b,n,hF=>by
  have ih:=J0 (b:=b) hF.2
  obtain ⟨o,_,_⟩:=qm (show cE ⟨prs,h,aW b n⟩=true from hF.1)
  have:=o.wt
  rw [gY,vM,cL]
  omega
theorem X3:Rs [] [(0,[],[])]:=⟨fun l hl=>(nomatch hl),fun x hx=>(nomatch hx),fun x hx=>by rw [eZ.1 hx];simp,fun x hx=>by simp [bM] at hx⟩
theorem Oo {n:Nat} {r:Int} {es:Es} {ups:List IL} {b:LL} (h:WF n r es ups b) (h0:bM b=[]):ups=[]/\b=[(r,[],[])]/\es.length=1/\aM es=[r]:=by
 have hb:=uA h.dn h.okI (by simp)
 have hu:ups=[]:=by
  by_cases hu:ups=[]
  ·exact hu
  ·obtain ⟨x,t,rfl⟩:=mB hb
   have:=h.ne hu x (by simp)
   obtain ⟨p,prs,hh⟩:=x
   rw [gY] at h0
   exact absurd (po.1 h0).1 this
 subst hu
 have e:=iL h.dn
 obtain ⟨x,t,rfl⟩:=mB hb
 obtain ⟨p,prs,hh⟩:=x
 rw [bS,dj] at e
 obtain ⟨e1,e2⟩:=List.cons.inj e
 obtain ⟨rfl,rfl⟩:=Prod.mk.inj e1
 have ht:t=[]:=Hg.1 e2.symm
 subst ht
 have hp:prs=[]:=by rw [gY] at h0;exact (po.1 h0).1
 subst hp
 have hk:aM es=[r]:=List.perm_singleton.1 (vg h.toWT)
 refine ⟨rfl,rfl,?_,hk⟩
 have:=congrArg nY hk
 simpa [aM] using this
theorem WU {n:Nat} {r:Int} {es:Es} {ups:List IL} {b:LL} (h:WT n r es ups b):es.length=(ups.flatMap cw).length+b.length:=by
 have:=(vg h).length_eq
 rw [eQ,c8] at this
 simpa [aM,cw] using this
theorem U9 {n:Nat} {r:Int} {es:Es} {ups:List IL} {b:LL} (h:WF n r es ups b):b.length<=1∨b.length<=(bM b).length:=by
 by_cases hu:ups=[]
 ·left
  subst hu
  have:=zn h.dn
  simp at this
  omega
 ·right
  have key:∀(l:LL),(∀x∈l,x.2.1≠[])->l.length<=(bM l).length:=by
   intro l
   induction l with
   | nil=>exact fun _=>bG _
   | cons x l ih =>
    intro hd
    have:=ih fun y hy=>hd y (by simp [hy])
    have h1:=js.2 (hd x (by simp))
    obtain ⟨p,prs,hh⟩:=x
    rw [gY,c8,cL]
    simp only at h1
    omega
  exact key b (h.ne hu)
theorem ID:∀{d:List IL} {s:Su} {b:LL},Dn s d b->(∀l∈d,cH okI l 0)->s.length<=b.length
 | [],s,b,h,_=>by rw [zn h];exact bG _
 | l::d,s,b,h,hI=>by
  have hl:=Cu h
  obtain ⟨e,hk⟩:=gk h
  have ih:=ID hk fun x hx=>hI x (by simp [hx])
  have hne:=ia (hI _ (cB ..))
  have key:∀(l:IL),(∀x∈l,x.2≠[])->l.length<=(bc l).length:=by
   intro l
   induction l with
   | nil=>exact fun _=>bG _
   | cons x l ih =>
    intro hd
    have:=ih fun y hy=>hd y (by simp [hy])
    have h1:=js.2 (hd x (by simp))
    rw [bc,iD,c8,cL]
    rw [bc] at this
    omega
  have:=key l hne
  omega
theorem Wn {n:Nat} {r:Int} {es:Es} {ups:List IL} {b:LL} (h:WF n r es ups b) (hp:(bM b).length<=1):ups=[]/\es.length=1:=by
 have h1:=U9 h
 have hb:=js.2 (uA h.dn h.okI (by simp))
 have hu:ups=[]:=by
  cases ups with
  | nil=>rfl
  | cons l d =>
   obtain ⟨r1,r2⟩:=Mw h
   have:=ID (gk h.dn).2 fun x hx=>h.okI x (by simp [hx])
   omega
 subst hu
 have:=WU h.toWT
 simp at this
 exact ⟨rfl,by omega⟩
theorem X4 (r:Int):Rs [] [(r,[],[])]:=⟨fun l hl=>(nomatch hl),fun x hx=>(nomatch hx),fun x hx=>by rw [eZ.1 hx];simp,fun x hx=>by simp [bM] at hx⟩
def gn (m:Nat):Bs:=[UInt8.ofNat (97+m)]
def jf:Bs:=(dl 31).map fun i=>UInt8.ofNat (48+i % 10)
def jU (m:Nat):List Pr:=(dl m).map fun i=>(gn i,jf)
theorem Ey:∀m,m < 26->(∀x∈jU m,lt x.1 (gn m)=true)/\cv (jU m) (gn m) jf=jU (m+1)/\co (aU (jU m)) (gn m)=false/\bF (gn m)=true/\aS (jU (m+1))=34 * (m+1):=by decide +kernel
theorem Vx:∀m,m < 26->sQ (gn m) ((jU 26).drop m)=(jU 26).drop (m+1)/\co (aU ((jU 26).drop m)) (gn m)=true:=by decide +kernel
theorem Vy (m:Nat):aS [(gn m,jf)]=34/\(gn m).length=1/\dS jf=true:=⟨rfl,rfl,by decide +kernel⟩
structure Jf (r:Int) (es:Es) (ups:List IL) (b:LL) (L:List Pr):Prop where
 wf:WF 40 r es ups b
 rs:Rs ups b
 fl:bM b=L
 lo:∀q∈aM es,q < 30
theorem Jf.dep {r:Int} {es:Es} {ups:List IL} {b:LL} {L:List Pr} (h:Jf r es ups b L) (hL:L.length<=26):ups.length<=1/\es.length<=b.length+1/\b.length<=14:=by
 have hb:=uA h.wf.dn h.wf.okI (by simp)
 have h2:=Dw h.rs.f2 hb
 rw [h.fl] at h2
 obtain ⟨h3,h4⟩:=IB h.wf h.rs (by omega)
 exact ⟨h3,h4,by omega⟩
theorem J2 {r:Int} {es:Es} {ups:List IL} {b:LL} {L:List Pr} (h:Jf r es ups b L) (hL:L.length<=25) {k v:Bs} (hk:bF k=true) (hv:dS v=true) (h1:∀x∈L,lt x.1 k=true) (h5:k.length<=5) (hw:aS [(k,v)]<=40) :
  ∃r' es' ups' b',Jf r' es' ups' b' (cv L k v)/\n8 40 r es k v (!co (aU L) k) 0 r' es':=by
 obtain ⟨d1,d2,d3⟩:=h.dep (by omega)
 obtain ⟨ok,e,r',es',ups',b',w1,w2,w3⟩:=E8 h.wf k v
 rcases w3 with ⟨rfl,_,_,q1,q2,q3,_⟩ | ⟨_,_,_,_,_,q | q⟩
 ·rw [h.fl] at q1 q2
  subst q2
  have hrs:=q3 (by rw [h.fl];exact h1) h5 hw h.rs
  have hb':=uA w1.dn w1.okI (by simp)
  have hfl:(bM b').length<=26:=by rw [q1];have:=Mg L k v;omega
  have h2:=Dw hrs.f2 hb'
  obtain ⟨h3,h4⟩:=IB w1 hrs (by omega)
  refine ⟨r',es',ups',b',⟨w1,hrs,q1,fun q hq=>?_⟩,w2⟩
  rcases (Mh w2).2 q hq with hq | hq
  ·exact h.lo q hq
  ·omega
 ·rw [hk,hv] at q;exact absurd q.2 (by decide)
 ·have:=q.2.2.2;omega
theorem JN {r:Int} {es:Es} {ups:List IL} {b:LL} {L:List Pr} (h:WF 40 r es ups b) (hf:bM b=L) (hl:∀q∈aM es,q < 30) {k:Bs} (hk:co (aU L) k=true) (hkk:bF k=true) :
  ∃r' es' ups' b',(WF 40 r' es' ups' b'/\bM b'=sQ k L/\∀q∈aM es',q < 30)/\pj 40 r es k 0 r' es':=by
 obtain ⟨e,r',es',ups',b',w1,w2,w3⟩:=Co h k
 rcases w3 with ⟨rfl,_,_,q⟩ | ⟨_,_,_,_,q | q⟩
 ·rw [hf] at q
  exact ⟨r',es',ups',b',⟨w1,q,fun q hq=>hl q (QH w2 q hq)⟩,w2⟩
 ·rw [hkk] at q;exact absurd q.2 (by decide)
 ·rw [hf,hk] at q;exact absurd q.2.2 (by decide)
def yJ (a:Bool) (b:Int) (c:Bool) (d:Int) (e:List UInt8) (f g h i j k l m:Int) (n:List (V × V)) (o:List V): S:=⟨[V.bool false,V.ptr 0 0 0,V.junk,V.ptr 1 0 0,V.junk,V.bool a,V.int .i64 b,V.bool c,V.int .i64 d,V.str e,V.int .i64 f,V.int .i64 g,V.junk,V.int .i64 h,V.junk,V.int .i64 i,V.int .i64 j,V.str [48,49,50,51,52,53,54,55,56,57,48,49,50,51,52,53,54,55,56,57,48,49,50,51,52,53,54,55,56,57,48],V.int .u8 k]++(JU 187),(wm l m n o)⟩
def yK (a:Bool) (b:Int) (c:Bool) (d:Int) (e:List UInt8) (f g h i j k l m:Int) (n:List V) (o p q:Int) (r:List (V × V)) (s:List V): S:=⟨[V.bool false,V.ptr 0 0 0,V.junk,V.ptr 1 0 0,V.junk,V.bool a,V.int .i64 b,V.bool c,V.int .i64 d,V.str e,V.int .i64 f,V.int .i64 g,V.junk,V.int .i64 h,V.junk,V.int .i64 i,V.int .i64 j,V.str [48,49,50,51,52,53,54,55,56,57,48,49,50,51,52,53,54,55,56,57,48,49,50,51,52,53,54,55,56,57,48],V.junk,V.junk,V.junk,V.int .i64 k,V.int .i64 l,V.int .i64 m,V.sl n,V.int .u8 o]++(JU 180),(wm p q r s)⟩
noncomputable def Jb: R :=
 gd (decide (0<=W .i64 (((47:Int).tdiv 8)))) <|
 gd (decide (W .i64 (((47:Int).tdiv 8))<=W .i64 (((47:Int).tdiv 8)))) <|
 gd (decide ((W .i64 (((47:Int).tdiv 8))).toNat<=16777216)) <|
 aT aA aH lw 84 [V.ptr 0 0 0] [O.box 140 (V.agg [V.ptr 1 0 0,V.mp 2]) false,O.box 192 (V.agg [V.tail 3 0,V.int .i64 40]) false,O.map [],O.row 5 (bE ((W .i64 (((47:Int).tdiv 8))).toNat) (V.int .u8 0)) 0] fun c =>
 cond (c.2.1 != (0:Int))
 (some (.done (V.bool false)))
 (aT aA aH eo 78 [V.ptr 0 0 0,V.int .i64 c.1,V.ifc 120 (V.agg [V.sl [],V.str [],V.int .i64 0])] (tm c.1 c.2.2.1 c.2.2.2.1 c.2.2.2.2) fun g =>
  aT aA aH kw 32 [V.ptr 0 0 0,V.str [97],V.str [120]] (tm g.1 g.2.1 g.2.2.1 g.2.2.2) fun d =>
  aT aA aH kw 32 [V.ptr 0 0 0,V.str [97],V.str [121]] (tm d.2.2.1 d.2.2.2.1 d.2.2.2.2.1 d.2.2.2.2.2) fun a =>
  c7 aA aH lu 39 [V.ptr 0 0 0,V.str [97]] (tm a.2.2.1 a.2.2.2.1 a.2.2.2.2.1 a.2.2.2.2.2) fun h =>
  bT [O.row 5 a.2.2.2.2.2 0,O.box 192 (V.agg [V.tail 0 0,V.int .i64 a.2.2.2.1]) true,O.map a.2.2.2.2.1,O.box 140 (V.agg [V.ptr 1 0 0,V.mp 2]) false,O.box 128 (V.agg [V.ptr 3 0 0,V.int .i64 a.2.2.1]) false] <|
  aT aA aH kx 33 [V.ptr 0 0 0,V.str [97]] (tm a.2.2.1 a.2.2.2.1 a.2.2.2.2.1 a.2.2.2.2.2) fun b =>
  c7 aA aH lu 39 [V.ptr 0 0 0,V.str [97]] (tm b.2.1 b.2.2.1 b.2.2.2.1 b.2.2.2.2) fun i =>
  bT [O.row 5 b.2.2.2.2 0,O.box 192 (V.agg [V.tail 0 0,V.int .i64 b.2.2.1]) true,O.map b.2.2.2.1,O.box 140 (V.agg [V.ptr 1 0 0,V.mp 2]) false,O.box 128 (V.agg [V.ptr 3 0 0,V.int .i64 b.2.1]) false] <|
  aT aA aH kw 32 [V.ptr 0 0 0,V.str [],V.str [120]] (tm b.2.1 b.2.2.1 b.2.2.2.1 b.2.2.2.2) fun e =>
  aT aA aH kx 33 [V.ptr 0 0 0,V.str [97]] (tm e.2.2.1 e.2.2.2.1 e.2.2.2.2.1 e.2.2.2.2.2) fun f =>
  some (.head 0 (yJ d.1 d.2.1 a.1 a.2.1 h.1 h.2 b.1 i.2 e.2.1 f.1 97 f.2.1 f.2.2.1 f.2.2.2.1 f.2.2.2.2)))
theorem Sg: Ep 45 [] (Jb ):=ep (by kernel_rfl) (by kernel_rfl)
noncomputable def FZ (g:Bool) (h:Int) (i:Bool) (j:Int) (k:List UInt8) (l m n o p f a b:Int) (c:List (V × V)) (d:List V): R :=
 cond (decide (f<=122))
 (aT aA aH kw 32 [V.ptr 0 0 0,V.str [UInt8.ofNat f.toNat],V.str [48,49,50,51,52,53,54,55,56,57,48,49,50,51,52,53,54,55,56,57,48,49,50,51,52,53,54,55,56,57,48]] (tm a b c d) fun e =>
  cond (e.2.1 != (0:Int))
 (some (.done (V.bool false)))
 (some (.head 0 (yJ g h i j k l m n o p (W .u8 (f+1)) e.2.2.1 e.2.2.2.1 e.2.2.2.2.1 e.2.2.2.2.2))))
 (c7 aA aH ng 43 [V.ptr 0 0 0] (tm a b c d) fun q =>
  bT (wm a b c d) <|
  c7 aA aH oK 46 [V.ptr 0 0 0] (tm a b c d) fun r =>
  bT (wm a b c d) <|
  c7 aA aH l9 40 [V.ptr 0 0 0] (tm a b c d) fun s =>
  bT (wm a b c d) <|
  c7 aA aH qy 34 [V.ptr 0 0 0,V.str [120],V.int .i64 9] (tm a b c d) fun t =>
  bT (wm a b c d) <|
  some (.head 1 (yK g h i j k l m n o p q (r.length:Int) s t 97 a b c d)))
theorem Ni (a b c d e f g h i j k l m n o): Rd false 0 45 0 (yJ a b c d e f g h i j k l m n o) (FZ a b c d e f g h i j k l m n o):=rd (by kernel_rfl)
noncomputable def F0 (h:Bool) (i:Int) (j:Bool) (k:Int) (l:List UInt8) (m n o p q r s t:Int) (f:List V) (g d a:Int) (b:List (V × V)) (c:List V): R :=
 cond (decide (g<=122))
 (aT aA aH kx 33 [V.ptr 0 0 0,V.str [UInt8.ofNat g.toNat]] (tm d a b c) fun e =>
  cond (e.1 != (0:Int))
 (some (.done (V.bool false)))
 (some (.head 1 (yK h i j k l m n o p q r s t f (W .u8 (g+1)) e.2.1 e.2.2.1 e.2.2.2.1 e.2.2.2.2))))
 (cond h
 (cond (i==(0:Int))
 (cond (!j)
 (cond (k==(0:Int))
 (cond (l==[121])
 (cond (m==(0:Int))
 (cond (n==(0:Int))
 (cond (o==(7:Int))
 (cond (p==(1:Int))
 (cond (q==(7:Int))
 (cond (r==(1:Int))
 (cond (decide (s > 3))
 (cond (t==(0:Int))
 (cond ((f.length:Int)==(3:Int))
 (aY f 0 fun u =>
  gX u fun v ad =>
  cond (v==[120])
 (aY f 0 fun w =>
  gX w fun ae x =>
  cond (x==[48,49,50,51,52,53,54,55,56,57,48,49,50,51,52,53,54,55,56,57,48,49,50,51,52,53,54,55,56,57,48])
 (c7 aA aH ng 43 [V.ptr 0 0 0] (tm d a b c) fun y =>
  bT (wm d a b c) <|
  cond (y==(0:Int))
 (c7 aA aH qz 42 [V.ptr 0 0 0] (tm d a b c) fun z =>
  bT (wm d a b c) <|
  cond ((z.length:Int)==(1:Int))
 (c7 aA aH ni 44 [V.ptr 0 0 0] (sm a b c) fun aa =>
  bT (wm d a b c) <|
  cond (aa==(39:Int))
 (c7 aA aH l9 40 [V.ptr 0 0 0] (tm d a b c) fun ab =>
  bT (wm d a b c) <|
  cond (ab==(0:Int))
 (c7 aA aH l9 40 [V.ptr 0 0 0] (tm 39 a b c) fun ac =>
  bT (wm d a b c++[O.box 128 (V.agg [V.ptr 0 0 0,V.int .i64 39]) false]) <|
  some (.done (V.bool (ac==(4:Int)))))
 (some (.done (V.bool false))))
 (some (.done (V.bool false))))
 (some (.done (V.bool false))))
 (some (.done (V.bool false))))
 (some (.done (V.bool false))))
 (some (.done (V.bool false))))
 (some (.done (V.bool false))))
 (some (.done (V.bool false))))
 (some (.done (V.bool false))))
 (some (.done (V.bool false))))
 (some (.done (V.bool false))))
 (some (.done (V.bool false))))
 (some (.done (V.bool false))))
 (some (.done (V.bool false))))
 (some (.done (V.bool false))))
 (some (.done (V.bool false))))
 (some (.done (V.bool false))))
 (some (.done (V.bool false))))
 (some (.done (V.bool false))))
 (some (.done (V.bool false))))
theorem Nj (a b c d e f g h i j k l m n o p q r s): Rd false 0 45 1 (yK a b c d e f g h i j k l m n o p q r s) (F0 a b c d e f g h i j k l m n o p q r s):=rd (by kernel_rfl)
theorem P4 {n:Nat} {r:Int} {es:Es} (h:bX n es) (h0:0<=r) (h1:r < (n:Int)) (hr:r∉aM es):bN aA aH 40 [.ptr 0 0 0] (tM r n es)=some (l9 (tM r n es) 4):=by
 have hm:en (aZ es) (.int .i64 r)=some none:=by rw [ED,se.2 hr];rfl
 have hread:bN aA aH 58 [.ptr 0 0 0,.int .i64 r] (sM n es)=some (ky (sM n es) ([],7)):=by
  refine Jh _ _ _ _ (o:=.doneM (.tup [.str [],.int .i64 7]) (sM n es)) ?_ (.done (by kernel_rfl))
  unfold C2 kv
  rw [decide_eq_false (by omega),cond_false,decide_eq_false (by omega),cond_false,hm]
 have hrt:bN aA aH 82 [.ptr 0 0 0,.int .i64 r] (tM r n es)=some (fK (tM r n es) ()):=by
  refine C9 _ _ _ _ _ (o:=.doneM .nilI (tM r n es)) ?_ (.done (by kernel_rfl))
  unfold zw
  rw [cU oL hread,bY,lU (by decide),cond_true]
 have hl:bN aA wG 85 [.ptr 0 0 0,.ptr 1 0 0,.int .i64 r,.str [],.str []] (lM r n es [] [] [])=some (nr (0,false,r,dh [r],(n:Int),aZ es,aL n (aN es),[],[])):=by
  have hs0:tg r [] [] r (dh []) (aB []) (aV []) (n:Int) (aZ es) (aL n (aN es))=some (.doneM (.tup [.int .i64 0,.bool false]) (lm r (dh [r]) [] [] (n:Int) (aZ es) (aL n (aN es)))):=by
   unfold tg
   rw [Ar (sn:=[]) (by simp),iy,cU oL hread,bY,Uf (V4 _) (V5 _) (V6 _) hrt,bY]
   rfl
  refine Da _ _ _ _ _ _ _ _ _ _ (o:=.head 0 (t8 r [] [] r (dh []) (aB []) (aV []) (n:Int) (aZ es) (aL n (aN es)))) ?_ ⟨_,_,F7 _ _ _ _ _ _ _ _ _ _ hs0 (.refl _),by kernel_rfl⟩
  unfold zx kv
  rw [An (sn:=[]) (by simp)]
 refine I8 _ _ _ _ (o:=.head 0 (ru false (0:Int) (0:Int) r (n:Int) (aZ es) (aL n (aN es)) [])) ?_ ⟨_,_,FX _ _ _ _ _ _ _ _ (o:=.doneM (.int .i64 4) (tM r n es++[O.row 3 [] 0])) ?_ (.refl _),by kernel_rfl⟩
 ·unfold C0
  have h5:bN aA wG 85 [.ptr 0 0 0,.ptr 1 0 0,.int .i64 r,.str [],.str []] (lm r [] [] [] (n:Int) (aZ es) (aL n (aN es)))=_:=hl
  rw [cz Aq h5]
  rfl
 ·unfold A5
  rfl
theorem Tv {r:Int} {es:Es} {ups:List IL} {b:LL} {L:List Pr} (h:Jf r es ups b L) (hL:L.length<=25) {k v:Bs} (hk:bF k=true) (hv:dS v=true) (h1:(cv L k v).length<=1) :
  ∃r' es' ups' b',(WF 40 r' es' ups' b'/\bM b'=cv L k v/\∀q∈aM es',q < 30)/\n8 40 r es k v (!co (aU L) k) 0 r' es':=by
 obtain ⟨d1,d2,d3⟩:=h.dep (by omega)
 obtain ⟨ok,e,r',es',ups',b',w1,w2,w3⟩:=E8 h.wf k v
 rcases w3 with ⟨rfl,_,_,q1,q2,q3,_⟩ | ⟨_,_,_,_,_,q | q⟩
 ·rw [h.fl] at q1 q2
  subst q2
  have:=(Wn w1 (by rw [q1];exact h1)).2
  refine ⟨r',es',ups',b',⟨w1,q1,fun q hq=>?_⟩,w2⟩
  rcases (Mh w2).2 q hq with hq | hq
  ·exact h.lo q hq
  ·omega
 ·rw [hk,hv] at q;exact absurd q.2 (by decide)
 ·have:=q.2.2.2;omega
theorem K1:jf=[48,49,50,51,52,53,54,55,56,57,48,49,50,51,52,53,54,55,56,57,48,49,50,51,52,53,54,55,56,57,48]:=by decide +kernel
theorem Oe (m:Nat) (hm:m < 26):([UInt8.ofNat (((97+m:Nat):Int)).toNat]:Bs)=gn m:=by rw [bl];rfl
theorem J5:∀(d m:Nat),m+d=26->∀(r:Int) (es:Es) (ups:List IL) (b:LL),WF 40 r es ups b->bM b=(jU 26).drop m->(∀q∈aM es,q < 30)->∀(lv:Nat),3 < lv ->
  Go qk false 0 (fF 45) (.head 1 (yK true 0 false 0 [121] 0 0 7 1 7 1 (lv:Int) 0 (bq [(gn 23,jf),(gn 24,jf),(gn 25,jf)]) ((97+m:Nat):Int) r ((40:Nat):Int) (aZ es) (aL 40 (aN es)))) (.done (.bool true))
 | 0,m,hm,r,es,ups,b,h,hf,hl,lv,hlv=>by
  obtain rfl:m=26:=by omega
  have h0:bM b=[]:=hf.trans (by decide +kernel)
  obtain ⟨rfl,rfl,e1,e2⟩:=Oo h h0
  have hd:=Cs h.toWT
  have hp:=WL h.toWT
  have hfr:=zL h.shf
  have hc:=Ie h
  have hr30:r < 30:=hl r (by rw [e2];simp)
  have hn:=P4 (r:=39) h.shf (by omega) (by omega) (by rw [e2];simp;omega)
  have htl:=tA h.shf
  refine Nj _ _ _ _ _ _ _ _ _ _ _ _ _ _ _ _ _ _ _ ?_ (.refl _)
  unfold F0
  have i0:(bq [(gn 23,jf),(gn 24,jf),(gn 25,jf)])[0]? = some (.agg [.str (gn 23),.str jf]):=rfl
  rw [decide_eq_false (by omega),cond_false]
  simp only [beq_self_eq_true,cond_true,jq]
  rw [decide_eq_true (by omega),cond_true,dV (by rw [fN];rfl),cond_true,
   dk i0,j9,show (gn 23==[120])=true from rfl,cond_true,dk i0,j9,<-K1,beq_self_eq_true,cond_true,
   cU EF hd,bY,dV (by simp),cond_true,cU VW hp,bY,dV (by rw [bZ,htl,e1];rfl),cond_true,cU Ap hfr,bY,dV (by rw [e1];rfl),cond_true,
   cU EE hc,bY,dV rfl,cond_true,cU EE hn,bY]
  rfl
 | d+1,m,hm,r,es,ups,b,h,hf,hl,lv,hlv=>by
  have hm26:m < 26:=by omega
  obtain ⟨l1,l2⟩:=Vx m hm26
  obtain ⟨r',es',ups',b',⟨w1,w2,w3⟩,w4⟩:=JN h hf hl l2 (Ey m hm26).2.2.2.1
  rw [l1] at w2
  have w:W .u8 (((97+m:Nat):Int)+1)=((97+(m+1):Nat):Int):=by
   have:((97+m:Nat):Int)+1=((97+(m+1):Nat):Int):=by omega
   rw [this]
   unfold W
   have:∀j,j < 27->IntKind.u8.wrap ((97+j:Nat):Int)=((97+j:Nat):Int):=by decide +kernel
   exact this _ (by omega)
  refine Nj _ _ _ _ _ _ _ _ _ _ _ _ _ _ _ _ _ _ _ ?_ (J5 d (m+1) (by omega) r' es' ups' b' w1 w2 w3 lv hlv)
  unfold F0
  rw [decide_eq_true (by omega),cond_true,Oe m hm26,cz Ao (zk w4),d0 rfl,cond_false,w]
theorem J6:∀(d m:Nat),m+d=26->∀(r:Int) (es:Es) (ups:List IL) (b:LL),Jf r es ups b (jU m) ->
  Go qk false 0 (fF 45) (.head 0 (yJ true 0 false 0 [121] 0 0 7 1 7 ((97+m:Nat):Int) r ((40:Nat):Int) (aZ es) (aL 40 (aN es)))) (.done (.bool true))
 | 0,m,hm,r,es,ups,b,h=>by
  obtain rfl:m=26:=by omega
  obtain ⟨d1,d2,d3⟩:=h.dep (by decide)
  have hw:=J0 h.wf.okF
  rw [h.fl,(Ey 25 (by omega)).2.2.2.2] at hw
  have hu:ups.length=1:=by
   cases ups with
   | nil=>have:=zn h.wf.dn;simp at this;omega
   | cons x t=>simp at d1 |-;omega
  have hd:=Cs h.wf.toWT
  rw [hu] at hd
  have hle:=KO h.wf.toWT
  have hc:=Ie h.wf
  have hs:=Yw h.wf.toWT [120] 9
  rw [h.fl,show jM [120] 9 [] (jU 26)=[(gn 23,jf),(gn 24,jf),(gn 25,jf)] by decide +kernel] at hs
  have hb:(aB (cw b)).length=b.length:=by rw [bZ];simp [cw]
  have:=J5 26 0 rfl r es ups b h.wf h.fl h.lo b.length (by omega)
  refine Ni _ _ _ _ _ _ _ _ _ _ _ _ _ _ _ ?_ this
  unfold FZ
  rw [decide_eq_false (by omega),cond_false,cU EF hd,bY,cU Lp hle,bY,cU EE hc,bY,cU VV hs,bY,hb]
  rfl
 | d+1,m,hm,r,es,ups,b,h=>by
  have hm26:m < 26:=by omega
  obtain ⟨l1,l2,l3,l4,l5⟩:=Ey m hm26
  obtain ⟨o1,o2,o3⟩:=Vy m
  obtain ⟨r',es',ups',b',w1,w2⟩:=J2 h (by simp [jU];omega) l4 o3 l1 (by omega) (by omega)
  rw [l2] at w1
  have w:W .u8 (((97+m:Nat):Int)+1)=((97+(m+1):Nat):Int):=by
   have:((97+m:Nat):Int)+1=((97+(m+1):Nat):Int):=by omega
   rw [this]
   unfold W
   have:∀j,j < 27->IntKind.u8.wrap ((97+j:Nat):Int)=((97+j:Nat):Int):=by decide +kernel
   exact this _ (by omega)
  refine Ni _ _ _ _ _ _ _ _ _ _ _ _ _ _ _ ?_ (J6 d (m+1) (by omega) r' es' ups' b' w1)
  unfold FZ
  rw [decide_eq_true (by omega),cond_true,Oe m hm26,<-K1,cz xm (xA w2),d0 rfl,cond_false,w]
theorem Tk:bK aA 45 []=some (.bool true):=by
 have h0:Jf 0 i7 [] [(0,[],[])] []:=⟨Oq (Oz (by omega) (by omega)),X3,rfl,fun q hq=>by simp [i7,aM] at hq;omega⟩
 obtain ⟨r1,e1,u1,b1,j1,p1⟩:=J2 (k:=[97]) (v:=[120]) h0 (by simp) (by decide +kernel) (by decide +kernel) (fun x hx=>nomatch hx) (by simp) (by decide +kernel)
 rw [show cv [] [97] [120]=[(([97]:Bs),([120]:Bs))] by decide +kernel] at j1
 obtain ⟨r2,e2,u2,b2,⟨w2,f2,k2⟩,p2⟩:=Tv (k:=[97]) (v:=[121]) j1 (by simp) (by decide +kernel) (by decide +kernel) (by decide +kernel)
 rw [show cv [(([97]:Bs),([120]:Bs))] [97] [121]=[([97],[121])] by decide +kernel] at f2
 have g2:bN aA aH 39 [.ptr 0 0 0,.str [97]] (tM r2 40 e2)=some (lu (tM r2 40 e2) ([121],0)):=by
  obtain ⟨v,e,g,q | ⟨_,q | q⟩⟩:=J8 w2.toWT [97]
  ·obtain ⟨rfl,_,hm⟩:=q
   rw [f2,eZ] at hm
   obtain ⟨_,rfl⟩:=Prod.mk.inj hm
   exact g
  ·exact absurd q.2 (by decide)
  ·exact absurd rfl (q.2.2 ([97],[121]) (by rw [f2];simp))
 obtain ⟨r3,e3,u3,b3,⟨w3,f3,k3⟩,p3⟩:=JN (k:=[97]) w2 f2 k2 (by decide +kernel) (by decide +kernel)
 rw [show sQ [97] [(([97]:Bs),([121]:Bs))]=[] by decide +kernel] at f3
 have g3:bN aA aH 39 [.ptr 0 0 0,.str [97]] (tM r3 40 e3)=some (lu (tM r3 40 e3) ([],7)):=by
  obtain ⟨v,e,g,q | ⟨rfl,q | q⟩⟩:=J8 w3.toWT [97]
  ·obtain ⟨rfl,_,hm⟩:=q
   rw [f3] at hm;cases hm
  ·exact absurd q.2 (by decide)
  ·obtain ⟨rfl,_⟩:=q;exact g
 have p4:=xA (n:=40) (r:=r3) (es:=e3) (k:=[]) (v:=[120]) (.arg (by decide +kernel))
 have p5:bN aA aH 33 [.ptr 0 0 0,.str [97]] (tM r3 40 e3)=some (kx (7,r3,((40:Nat):Int),aZ e3,aL 40 (aN e3))):=by
  obtain ⟨e,r',es',ups',b',y1,y2,y3⟩:=Co w3 [97]
  rcases y3 with ⟨_,_,q,_⟩ | ⟨rfl,rfl,_,_,q | q⟩
  ·rw [f3] at q;exact absurd q (by decide +kernel)
  ·exact absurd q.2 (by decide)
  ·obtain ⟨rfl,_⟩:=q;exact zk y2
 have hend:Jf r3 e3 u3 b3 (jU 0):=by
  obtain ⟨rfl,rfl,_,_⟩:=Oo w3 f3
  exact ⟨w3,X4 _,f3,k3⟩
 have hT:=N1 (n:=40) (by omega) (by omega)
 have hW:=Ow (n:=40) (by omega) (by omega)
 refine Sg ?_ (J6 26 0 rfl r3 e3 u3 b3 hend)
 unfold Jb
 rw [aG (by decide +kernel),aG (by decide +kernel),aG (by decide +kernel)]
 show (aT aA _ _ _ _ (nM 40) _)=_
 rw [cz uZ hT,d0 rfl,cond_false]
 show (aT aA _ _ _ _ (tm 0 ((40:Nat):Int) (aZ [(0,[])]) (aL 40 (aN [(0,[])]))) _)=_
 rw [cz hX hW]
 show (aT aA _ _ _ _ (tM 0 40 i7) _)=_
 rw [cz xm (xA p1)]
 show (aT aA _ _ _ _ (tM r1 40 e1) _)=_
 rw [cz xm (xA p2)]
 show (c7 aA _ _ _ _ (tM r2 40 e2) _)=_
 rw [cU Ln g2,bY]
 show (aT aA _ _ _ _ (tM r2 40 e2) _)=_
 rw [cz Ao (zk p3)]
 show (c7 aA _ _ _ _ (tM r3 40 e3) _)=_
 rw [cU Ln g3,bY]
 show (aT aA _ _ _ _ (tM r3 40 e3) _)=_
 rw [cz xm p4]
 show (aT aA _ _ _ _ (tM r3 40 e3) _)=_
 rw [cz Ao p5]
 rfl
theorem B0 {P:Program} {w:World} {tx e:TypeId} {A:Option Addr} {c sz:Nat} (ht:P.underlying tx=some (.slice e)):gS P w tx (.slice A 0 c) sz 0 []:=by
 refine ⟨.inr ⟨e,ht⟩,fun w2=>rfl,by simp,fun n w2 hn _=>?_,by simp⟩
 have:n=0:=by omega
 subst this
 cases A<;>simp [Builtin.firstCells,loadCells,loadCellsFrom]
set_option maxHeartbeats 4000000 in
set_option maxRecDepth 100000 in
theorem UA:BH Tryz.prog 212 225 100 9 3 .i64:=by
 have hce:Tryz.prog.cellsOf 9=1:=by kernel_rfl
 have mixed:Tryz.prog.follows .mixedOrders=true:=by kernel_rfl
 have t22:Tryz.prog.underlying 100=some (.slice 9):=by kernel_rfl
 refine ⟨t22,by kernel_rfl,by kernel_rfl,?_,?_,?_,?_⟩
 ·intro w g g2 o m c2 lb cb us us2 hne hg hg2 hus
  rw [run_callFunc_extern (P:=Tryz.prog) (f:=225) (fn:=Tryz.f225) (by kernel_rfl) (by kernel_rfl) (by kernel_rfl) (by kernel_rfl) (e:=Extern.SlicesOverlaps.overlaps #[100,100] #[4]) (by kernel_rfl),
   Lib.run_overlaps_apart w 100 4 9 t22 1 (fun w=>by kernel_rfl) ⟨g2,0,none⟩ ⟨g,o,none⟩ m c2 lb cb hne 9 9 us2.size us.size (by simp [World.shape?,hg2]) (by simp [World.shape?,hg]) (by omega) (by simp [World.frozen?,hg2]) (by simp [World.frozen?,hg2])]
  rfl
 ·intro g n c i g2 m c2 w w2 w3 k1 k2 hi hm hroom hc63 hov hcp1 hcp2
  rw [hce] at hcp1 hcp2
  simp only [jW] at hcp1 hcp2
  have hz1:¬((m:Int)=0):=by omega
  have hz2:¬((i:Int)=(n:Int)):=by omega
  have hw1:IntKind.i64.wrap ((i:Int)+(m:Int))=(i:Int)+(m:Int):=by rw [IntKind.wrap_i64];omega
  have hw2:IntKind.i64.wrap ((n:Int)+(m:Int))=(n:Int)+(m:Int):=by rw [IntKind.wrap_i64];omega
  have hb1:(0:Int)<=(i:Int)+(m:Int):=by omega
  have hin:i<=n:=by omega
  have htn:((i:Int)+(m:Int)).toNat=i+m:=by omega
  have hb2:¬(c=i+m):=by omega
  have hb3:(i:Int)<=(n:Int)+(m:Int):=by omega
  have hb4:¬(c=i):=by omega
  go_enter Tryz.func212,Tryz.ntmps212
  go_wp2_with (simp only [hov])
  go_region_law_o (refine step_copy_runI rfl _ _ 100 100 rfl _ _ (by simp [Act.eval,Act.put]) (by simp [Act.eval,Act.put]) (hcp1 _ _ _) ?_)
  go_wp2_with (at_builtin;refine wpList_copy_runI _ rfl _ _ 100 100 rfl _ _ rfl rfl (hcp2 _ _) ?_)
  go_ret
  exact ⟨rfl,rfl⟩
 ·intro A A2 n c m c2 w w1 r hm hnc hc63 hA0 hA1 hr
  have hz1:¬((m:Int)=0):=by omega
  cases A with
  | none =>
   obtain ⟨rfl,rfl⟩:=hA0 rfl
   go_enter Tryz.func212,Tryz.ntmps212
   go_wp2_with (at_builtin;refine Lib.wpList_append_run _ rfl _ _ _ _ rfl _ _ rfl rfl _ _ (hr _) ?_)
   all_goals (go_ret;exact ⟨rfl,rfl⟩)
  | some a =>
   obtain ⟨g,rfl⟩:=hA1 a rfl
   go_enter Tryz.func212,Tryz.ntmps212
   go_wp2_with (at_builtin;refine Lib.wpList_append_run _ rfl _ _ _ _ rfl _ _ rfl rfl _ _ (hr _) ?_)
   all_goals (go_ret;exact ⟨rfl,rfl⟩)
 ·intro g n c i g2 m c2 N G w w1 w2 w3 k1 k2 hi hm hnc hgr hlen hGn hG63 hap hcp1 hcp2
  rw [hce] at hcp1 hcp2
  simp only [jW] at hcp1 hcp2
  have hz1:¬((m:Int)=0):=by omega
  have hz2:¬((i:Int)=(n:Int)):=by omega
  have hz3:(c:Int) < (n:Int)+(m:Int):=by omega
  have hw1:IntKind.i64.wrap ((i:Int)+(m:Int))=(i:Int)+(m:Int):=by rw [IntKind.wrap_i64];omega
  have hw2:IntKind.i64.wrap ((n:Int)+(m:Int))=(n:Int)+(m:Int):=by rw [IntKind.wrap_i64];omega
  have hw3:IntKind.i64.wrap ((n:Int)+(m:Int) - (i:Int))=(n:Int)+(m:Int) - (i:Int):=by rw [IntKind.wrap_i64];omega
  have hb1:(0:Int)<=(i:Int)+(m:Int):=by omega
  have hin:i<=n:=by omega
  have htn:((i:Int)+(m:Int)).toNat=i+m:=by omega
  have hGi:¬(G=i):=by omega
  have hGim:¬(G=i+m):=by omega
  have hci:¬(c=i):=by omega
  have hb3:(i:Int)<=(n:Int):=by omega
  go_enter Tryz.func212,Tryz.ntmps212
  go_wp2_with (first
   |(at_builtin;refine Lib.wpList_append_run _ rfl _ _ _ _ rfl _ _ rfl rfl _ _ (hap _) ?_)
   |(at_builtin;refine wpList_copy_runI _ rfl _ _ 100 100 rfl _ _ rfl rfl (hcp1 _ _) ?_))
  go_region_law_o (refine step_copy_runI rfl _ _ 100 100 rfl (.slice (some ⟨N,(i+m),none⟩) (n+m - (i+m)) (G - (i+m))) (.slice (some ⟨g,i,none⟩) (n - i) (c - i)) (by simp [Act.eval,Act.put]) (by simp [Act.eval,Act.put]) (hcp2 3 (G - (i+m)) (c - i)) ?_)
  go_wp2
  go_ret
  exact ⟨rfl,rfl⟩
set_option maxHeartbeats 4000000 in
set_option maxRecDepth 100000 in
theorem QJ:BF Tryz.prog 170 100 9:=by
 have hce:Tryz.prog.cellsOf 9=1:=by kernel_rfl
 have mixed:Tryz.prog.follows .mixedOrders=true:=by kernel_rfl
 have t22:Tryz.prog.underlying 100=some (.slice 9):=by kernel_rfl
 refine ⟨t22,by kernel_rfl,?_,?_,?_⟩
 ·intro i z hi hz
  have h1:(Tryz.prog.info? 9).bind (·.zero)=some (.string "".toUTF8):=by kernel_rfl
  rw [hi] at h1
  simp only [aJ,hz,Option.some.injEq] at h1
  subst h1
  intro v hv
  simp [Value.cells] at hv
  subst hv;rfl
 ·intro A n c i w hin hnc hc63 hA0 hA1
  cases A with
  | none =>
   obtain ⟨rfl,rfl⟩:=hA0 rfl
   have:i=0:=by omega
   subst this
   go_enter Tryz.func170,Tryz.ntmps170
   go_wp2
   all_goals (go_ret;exact ⟨rfl,rfl⟩)
  | some a =>
   obtain ⟨g,q,rfl⟩:=hA1 a rfl
   go_enter Tryz.func170,Tryz.ntmps170
   go_wp2
   all_goals (go_ret;exact ⟨rfl,rfl⟩)
 ·intro g q n c i jj w w2 w3 k hij hjn hnc hc63 hap hcl
  rw [hce] at hap hcl
  simp only [jW] at hap hcl
  have hz1:¬((i:Int)=(jj:Int)):=by omega
  have hin:i<=n:=by omega
  have hij':i<=jj:=by omega
  have hb1:¬(c=i):=by omega
  have hb2:i+(n - jj)<=n:=by omega
  have hb3:¬(c=i+(n - jj)):=by omega
  have hic:i<=c:=by omega
  have hjc':jj<=c:=by omega
  have hbc:i+(n - jj)<=c:=by omega
  have hnij:(i:Int)+((n - jj:Nat):Int)<=(n:Int):=by omega
  by_cases hjc:c=jj
  ·have hn:n=jj:=by omega
   subst hn
   subst hjc
   have hap':=fun ty=>hap ty (some ⟨g,q,none⟩) 0 (fun h=>absurd h (by omega))
   simp only [iX,dK] at hap' hcl |-
   go_enter Tryz.func170,Tryz.ntmps170
   go_wp2
   go_region_law_o (refine Bj rfl _ _ 100 100 rfl (.slice (some ⟨g,q,none⟩) i c) (.slice (some ⟨g,q,none⟩) 0 0) (by simp [Act.eval,Act.put]) (by simp [Act.eval,Act.put]) (hap' 100) ?_)
   go_wp2
   go_ret
   exact ⟨rfl,rfl⟩
  ·go_enter Tryz.func170,Tryz.ntmps170
   go_wp2
   go_region_law_o (refine Bj rfl _ _ 100 100 rfl (.slice (some ⟨g,q,none⟩) i c) (.slice (some ⟨g,q+jj,none⟩) (n - jj) (c - jj)) (by simp [Act.eval,Act.put]) (by simp [Act.eval,Act.put]) (hap 100 (some ⟨g,q+jj,none⟩) (c - jj) (fun _=>rfl)) ?_)
   go_wp2
   go_ret
   exact ⟨rfl,rfl⟩
set_option maxHeartbeats 4000000 in
set_option maxRecDepth 100000 in
theorem Qc:yh Tryz.prog 171 100 9:=by
 have hce:Tryz.prog.cellsOf 9=1:=by kernel_rfl
 have mixed:Tryz.prog.follows .mixedOrders=true:=by kernel_rfl
 have t22:Tryz.prog.underlying 100=some (.slice 9):=by kernel_rfl
 have q22:∀(w:World) (a:Option Addr) (n c n' c':Nat),(binOp .eql 100 (.slice a n c) (.slice none n' c')).run Tryz.prog w = .ok (.bool a.isNone) w:=fun w a n c n' c'=>Lib.run_eql_slice_nil w _ _ a n c n' c' t22
 refine ⟨t22,by kernel_rfl,?_,?_,?_⟩
 ·intro n c w
  go_enter Tryz.func171,Tryz.ntmps171
  go_wp2
  go_ret
  exact ⟨rfl,rfl⟩
 ·intro g b n c w w2 r hr
  go_enter Tryz.func171,Tryz.ntmps171
  go_wp2_with (at_builtin;refine Lib.wpList_append_run _ rfl _ _ _ _ rfl _ _ rfl rfl _ _ (hr _) ?_)
  go_ret
  exact ⟨rfl,rfl⟩
 ·intro a c w
  obtain ⟨ab,ao,asp⟩:=a
  have hr:∀(ty:TypeId) (w:World),(Builtin.append_ #[100,100] ty #[.slice (some ⟨w.heap.size,0,none⟩) 0 0,.slice (some ⟨ab,ao,asp⟩) 0 c]).run Tryz.prog (w.alloc (.cells #[] 9)) = .ok (.slice (some ⟨w.heap.size,0,none⟩) 0 0) (w.alloc (.cells #[] 9)):=fun ty w=>vr t22 (by rw [hce];decide) (B0 t22) (bG _)
  go_enter Tryz.func171,Tryz.ntmps171
  go_wp2_with (at_builtin;refine Lib.wpList_append_run _ rfl _ _ _ _ rfl _ _ rfl rfl _ _ (hr _ _) ?_)
  go_ret
  exact ⟨rfl,rfl⟩
set_option maxHeartbeats 4000000 in
set_option maxRecDepth 100000 in
theorem Uz:BH Tryz.prog 213 227 80 3 3 .i64:=by
 have hce:Tryz.prog.cellsOf 3=1:=by kernel_rfl
 have mixed:Tryz.prog.follows .mixedOrders=true:=by kernel_rfl
 have t22:Tryz.prog.underlying 80=some (.slice 3):=by kernel_rfl
 refine ⟨t22,by kernel_rfl,by kernel_rfl,?_,?_,?_,?_⟩
 ·intro w g g2 o m c2 lb cb us us2 hne hg hg2 hus
  rw [run_callFunc_extern (P:=Tryz.prog) (f:=227) (fn:=Tryz.f227) (by kernel_rfl) (by kernel_rfl) (by kernel_rfl) (by kernel_rfl) (e:=Extern.SlicesOverlaps.overlaps #[80,80] #[4]) (by kernel_rfl),
   Lib.run_overlaps_apart w 80 4 3 t22 1 (fun w=>by kernel_rfl) ⟨g2,0,none⟩ ⟨g,o,none⟩ m c2 lb cb hne 3 3 us2.size us.size (by simp [World.shape?,hg2]) (by simp [World.shape?,hg]) (by omega) (by simp [World.frozen?,hg2]) (by simp [World.frozen?,hg2])]
  rfl
 ·intro g n c i g2 m c2 w w2 w3 k1 k2 hi hm hroom hc63 hov hcp1 hcp2
  rw [hce] at hcp1 hcp2
  simp only [jW] at hcp1 hcp2
  have hz1:¬((m:Int)=0):=by omega
  have hz2:¬((i:Int)=(n:Int)):=by omega
  have hw1:IntKind.i64.wrap ((i:Int)+(m:Int))=(i:Int)+(m:Int):=by rw [IntKind.wrap_i64];omega
  have hw2:IntKind.i64.wrap ((n:Int)+(m:Int))=(n:Int)+(m:Int):=by rw [IntKind.wrap_i64];omega
  have hb1:(0:Int)<=(i:Int)+(m:Int):=by omega
  have hin:i<=n:=by omega
  have htn:((i:Int)+(m:Int)).toNat=i+m:=by omega
  have hb2:¬(c=i+m):=by omega
  have hb3:(i:Int)<=(n:Int)+(m:Int):=by omega
  have hb4:¬(c=i):=by omega
  go_enter Tryz.func213,Tryz.ntmps213
  go_wp2_with (simp only [hov])
  go_region_law_o (refine step_copy_runI rfl _ _ 80 80 rfl _ _ (by simp [Act.eval,Act.put]) (by simp [Act.eval,Act.put]) (hcp1 _ _ _) ?_)
  go_wp2_with (at_builtin;refine wpList_copy_runI _ rfl _ _ 80 80 rfl _ _ rfl rfl (hcp2 _ _) ?_)
  go_ret
  exact ⟨rfl,rfl⟩
 ·intro A A2 n c m c2 w w1 r hm hnc hc63 hA0 hA1 hr
  have hz1:¬((m:Int)=0):=by omega
  cases A with
  | none =>
   obtain ⟨rfl,rfl⟩:=hA0 rfl
   go_enter Tryz.func213,Tryz.ntmps213
   go_wp2_with (at_builtin;refine Lib.wpList_append_run _ rfl _ _ _ _ rfl _ _ rfl rfl _ _ (hr _) ?_)
   all_goals (go_ret;exact ⟨rfl,rfl⟩)
  | some a =>
   obtain ⟨g,rfl⟩:=hA1 a rfl
   go_enter Tryz.func213,Tryz.ntmps213
   go_wp2_with (at_builtin;refine Lib.wpList_append_run _ rfl _ _ _ _ rfl _ _ rfl rfl _ _ (hr _) ?_)
   all_goals (go_ret;exact ⟨rfl,rfl⟩)
 ·intro g n c i g2 m c2 N G w w1 w2 w3 k1 k2 hi hm hnc hgr hlen hGn hG63 hap hcp1 hcp2
  rw [hce] at hcp1 hcp2
  simp only [jW] at hcp1 hcp2
  have hz1:¬((m:Int)=0):=by omega
  have hz2:¬((i:Int)=(n:Int)):=by omega
  have hz3:(c:Int) < (n:Int)+(m:Int):=by omega
  have hw1:IntKind.i64.wrap ((i:Int)+(m:Int))=(i:Int)+(m:Int):=by rw [IntKind.wrap_i64];omega
  have hw2:IntKind.i64.wrap ((n:Int)+(m:Int))=(n:Int)+(m:Int):=by rw [IntKind.wrap_i64];omega
  have hw3:IntKind.i64.wrap ((n:Int)+(m:Int) - (i:Int))=(n:Int)+(m:Int) - (i:Int):=by rw [IntKind.wrap_i64];omega
  have hb1:(0:Int)<=(i:Int)+(m:Int):=by omega
  have hin:i<=n:=by omega
  have htn:((i:Int)+(m:Int)).toNat=i+m:=by omega
  have hGi:¬(G=i):=by omega
  have hGim:¬(G=i+m):=by omega
  have hci:¬(c=i):=by omega
  have hb3:(i:Int)<=(n:Int):=by omega
  go_enter Tryz.func213,Tryz.ntmps213
  go_wp2_with (first
   |(at_builtin;refine Lib.wpList_append_run _ rfl _ _ _ _ rfl _ _ rfl rfl _ _ (hap _) ?_)
   |(at_builtin;refine wpList_copy_runI _ rfl _ _ 80 80 rfl _ _ rfl rfl (hcp1 _ _) ?_))
  go_region_law_o (refine step_copy_runI rfl _ _ 80 80 rfl (.slice (some ⟨N,(i+m),none⟩) (n+m - (i+m)) (G - (i+m))) (.slice (some ⟨g,i,none⟩) (n - i) (c - i)) (by simp [Act.eval,Act.put]) (by simp [Act.eval,Act.put]) (hcp2 3 (G - (i+m)) (c - i)) ?_)
  go_wp2
  go_ret
  exact ⟨rfl,rfl⟩
set_option maxHeartbeats 4000000 in
set_option maxRecDepth 100000 in
theorem QI:BF Tryz.prog 172 80 3:=by
 have hce:Tryz.prog.cellsOf 3=1:=by kernel_rfl
 have mixed:Tryz.prog.follows .mixedOrders=true:=by kernel_rfl
 have t22:Tryz.prog.underlying 80=some (.slice 3):=by kernel_rfl
 refine ⟨t22,by kernel_rfl,?_,?_,?_⟩
 ·intro i z hi hz
  have h1:(Tryz.prog.info? 3).bind (·.zero)=some (.int .i64 0):=by kernel_rfl
  rw [hi] at h1
  simp only [aJ,hz,Option.some.injEq] at h1
  subst h1
  intro v hv
  simp [Value.cells] at hv
  subst hv;rfl
 ·intro A n c i w hin hnc hc63 hA0 hA1
  cases A with
  | none =>
   obtain ⟨rfl,rfl⟩:=hA0 rfl
   have:i=0:=by omega
   subst this
   go_enter Tryz.func172,Tryz.ntmps172
   go_wp2
   all_goals (go_ret;exact ⟨rfl,rfl⟩)
  | some a =>
   obtain ⟨g,q,rfl⟩:=hA1 a rfl
   go_enter Tryz.func172,Tryz.ntmps172
   go_wp2
   all_goals (go_ret;exact ⟨rfl,rfl⟩)
 ·intro g q n c i jj w w2 w3 k hij hjn hnc hc63 hap hcl
  rw [hce] at hap hcl
  simp only [jW] at hap hcl
  have hz1:¬((i:Int)=(jj:Int)):=by omega
  have hin:i<=n:=by omega
  have hij':i<=jj:=by omega
  have hb1:¬(c=i):=by omega
  have hb2:i+(n - jj)<=n:=by omega
  have hb3:¬(c=i+(n - jj)):=by omega
  have hic:i<=c:=by omega
  have hjc':jj<=c:=by omega
  have hbc:i+(n - jj)<=c:=by omega
  have hnij:(i:Int)+((n - jj:Nat):Int)<=(n:Int):=by omega
  by_cases hjc:c=jj
  ·have hn:n=jj:=by omega
   subst hn
   subst hjc
   have hap':=fun ty=>hap ty (some ⟨g,q,none⟩) 0 (fun h=>absurd h (by omega))
   simp only [iX,dK] at hap' hcl |-
   go_enter Tryz.func172,Tryz.ntmps172
   go_wp2
   go_region_law_o (refine Bj rfl _ _ 80 80 rfl (.slice (some ⟨g,q,none⟩) i c) (.slice (some ⟨g,q,none⟩) 0 0) (by simp [Act.eval,Act.put]) (by simp [Act.eval,Act.put]) (hap' 80) ?_)
   go_wp2
   go_ret
   exact ⟨rfl,rfl⟩
  ·go_enter Tryz.func172,Tryz.ntmps172
   go_wp2
   go_region_law_o (refine Bj rfl _ _ 80 80 rfl (.slice (some ⟨g,q,none⟩) i c) (.slice (some ⟨g,q+jj,none⟩) (n - jj) (c - jj)) (by simp [Act.eval,Act.put]) (by simp [Act.eval,Act.put]) (hap 80 (some ⟨g,q+jj,none⟩) (c - jj) (fun _=>rfl)) ?_)
   go_wp2
   go_ret
   exact ⟨rfl,rfl⟩
set_option maxHeartbeats 4000000 in
set_option maxRecDepth 100000 in
theorem Qb:yh Tryz.prog 173 80 3:=by
 have hce:Tryz.prog.cellsOf 3=1:=by kernel_rfl
 have mixed:Tryz.prog.follows .mixedOrders=true:=by kernel_rfl
 have t22:Tryz.prog.underlying 80=some (.slice 3):=by kernel_rfl
 have q22:∀(w:World) (a:Option Addr) (n c n' c':Nat),(binOp .eql 80 (.slice a n c) (.slice none n' c')).run Tryz.prog w = .ok (.bool a.isNone) w:=fun w a n c n' c'=>Lib.run_eql_slice_nil w _ _ a n c n' c' t22
 refine ⟨t22,by kernel_rfl,?_,?_,?_⟩
 ·intro n c w
  go_enter Tryz.func173,Tryz.ntmps173
  go_wp2
  go_ret
  exact ⟨rfl,rfl⟩
 ·intro g b n c w w2 r hr
  go_enter Tryz.func173,Tryz.ntmps173
  go_wp2_with (at_builtin;refine Lib.wpList_append_run _ rfl _ _ _ _ rfl _ _ rfl rfl _ _ (hr _) ?_)
  go_ret
  exact ⟨rfl,rfl⟩
 ·intro a c w
  obtain ⟨ab,ao,asp⟩:=a
  have hr:∀(ty:TypeId) (w:World),(Builtin.append_ #[80,80] ty #[.slice (some ⟨w.heap.size,0,none⟩) 0 0,.slice (some ⟨ab,ao,asp⟩) 0 c]).run Tryz.prog (w.alloc (.cells #[] 3)) = .ok (.slice (some ⟨w.heap.size,0,none⟩) 0 0) (w.alloc (.cells #[] 3)):=fun ty w=>vr t22 (by rw [hce];decide) (B0 t22) (bG _)
  go_enter Tryz.func173,Tryz.ntmps173
  go_wp2_with (at_builtin;refine Lib.wpList_append_run _ rfl _ _ _ _ rfl _ _ rfl rfl _ _ (hr _ _) ?_)
  go_ret
  exact ⟨rfl,rfl⟩
set_option maxHeartbeats 4000000 in
set_option maxRecDepth 100000 in
theorem Qa:yh Tryz.prog 139 66 5:=by
 have hce:Tryz.prog.cellsOf 5=1:=by kernel_rfl
 have mixed:Tryz.prog.follows .mixedOrders=true:=by kernel_rfl
 have t22:Tryz.prog.underlying 66=some (.slice 5):=by kernel_rfl
 have q22:∀(w:World) (a:Option Addr) (n c n' c':Nat),(binOp .eql 66 (.slice a n c) (.slice none n' c')).run Tryz.prog w = .ok (.bool a.isNone) w:=fun w a n c n' c'=>Lib.run_eql_slice_nil w _ _ a n c n' c' t22
 refine ⟨t22,by kernel_rfl,?_,?_,?_⟩
 ·intro n c w
  go_enter Tryz.func139,Tryz.ntmps139
  go_wp2
  go_ret
  exact ⟨rfl,rfl⟩
 ·intro g b n c w w2 r hr
  go_enter Tryz.func139,Tryz.ntmps139
  go_wp2_with (at_builtin;refine Lib.wpList_append_run _ rfl _ _ _ _ rfl _ _ rfl rfl _ _ (hr _) ?_)
  go_ret
  exact ⟨rfl,rfl⟩
 ·intro a c w
  obtain ⟨ab,ao,asp⟩:=a
  have hr:∀(ty:TypeId) (w:World),(Builtin.append_ #[66,66] ty #[.slice (some ⟨w.heap.size,0,none⟩) 0 0,.slice (some ⟨ab,ao,asp⟩) 0 c]).run Tryz.prog (w.alloc (.cells #[] 5)) = .ok (.slice (some ⟨w.heap.size,0,none⟩) 0 0) (w.alloc (.cells #[] 5)):=fun ty w=>vr t22 (by rw [hce];decide) (B0 t22) (bG _)
  go_enter Tryz.func139,Tryz.ntmps139
  go_wp2_with (at_builtin;refine Lib.wpList_append_run _ rfl _ _ _ _ rfl _ _ rfl rfl _ _ (hr _ _) ?_)
  go_ret
  exact ⟨rfl,rfl⟩
set_option maxHeartbeats 4000000 in
set_option maxRecDepth 100000 in
theorem WG:Hs Tryz.prog 209 9 66 5:=by
 have mixed:Tryz.prog.follows .mixedOrders=true:=by kernel_rfl
 have ts:Tryz.prog.underlying 9=some .string:=by kernel_rfl
 have tr:Tryz.prog.underlying 66=some (.slice 5):=by kernel_rfl
 have tb:Tryz.prog.underlying 5=some (.int .u8):=by kernel_rfl
 refine ⟨ts,tr,tb,by kernel_rfl,?_⟩
 intro b n L c A w w2 r hn hcap hcopy hconv
 have hcopy1:=fun ty=>hcopy ty n (.inl rfl)
 have hcopy2:grownCap w b.size 0 5=n->∀ty,_:=fun h ty=>hcopy ty 0 (.inr h)
 have hrun:=Lib.run_convert_string_bytes w 9 66 5 b ts tr tb
 go_enter Tryz.func209,Tryz.ntmps209
 by_cases hcn:grownCap w b.size 0 5=n
 ·have hcopy3:=hcopy2 hcn
  clear hcopy2
  rw [hcn] at hrun hcopy3 hcopy1 hconv hcap
  rw [iX,show b.size - n=0 by omega] at hcopy3 hcopy1
  clear hcopy hcn
  go_wp2
  go_ret
  exact ⟨rfl,rfl⟩
 ·clear hcopy hcopy2
  go_wp2
  go_ret
  exact ⟨rfl,rfl⟩
set_option maxRecDepth 100000 in
theorem Qf (a b:ByteArray) (w:World):Calls Tryz.prog 207 #[.string a,.string b] w fun e w'=>e = .returned (.int .i64 (Lib.compareBytes a.data.toList b.data.toList))/\w'=w:=by
 go_enter Tryz.func207,Tryz.ntmps207
 go_wp2
 rw [run_callFunc_extern Tryz.func224 (by kernel_rfl) (by kernel_rfl) (by kernel_rfl) (e:=Extern.BytealgCompare.compare) (by kernel_rfl),Lib.run_compareString]
 simp only [Result.andThen]
 rw [Oper.upon_value]
 go_wp2
 go_ret
 exact ⟨rfl,rfl⟩
set_option maxRecDepth 100000 in
theorem Qe (a b:ByteArray) (w:World):Calls Tryz.prog 158 #[.string a,.string b] w fun e w'=>e = .returned (.int .i64 (Lib.compareBytes a.data.toList b.data.toList))/\w'=w:=by
 go_enter Tryz.func158,Tryz.ntmps158
 go_wp2_with (go_at_call 207;refine (Qf _ _ _).mono ?_;rintro e w' ⟨rfl,rfl⟩)
 go_ret
 exact ⟨rfl,rfl⟩
end Go.Proofs.YtlphgcjepphhcaaGreat
namespace Go.Proofs.YtlphgcjepphhcaaGreat
open Go Go.RowKit Go.Shelf
 attribute [local go_sem] Oper.semAt_some
set_option maxRecDepth 100000 in
set_option maxHeartbeats 4000000 in
theorem PD (l B1 o1 B2 o2 n1 c1 n2 c2 N:Nat) (hN:N=min n1 n2) (A1 A2:Option Addr) (fx fy:Nat->Value) (I:Nat->World->Prop) (Ix:World->Prop) (hn:n1<=16777216) (hS:∀k W,I k W->I k W.drew)
  (h1:∀k W,I k W->W.cell? ⟨B1,o1,none⟩=some (.slice A1 n1 c1)) (h2:∀k W,I k W->W.cell? ⟨B2,o2,none⟩=some (.slice A2 n2 c2))
  (hx:∀k,k < n1->k < n2->∃b1 p1 b2 p2,A1=some ⟨b1,p1,none⟩/\A2=some ⟨b2,p2,none⟩/\∀W,I k W->W.cell? ⟨b1,p1+k,none⟩=some (fx k)/\W.cell? ⟨b2,p2+k,none⟩=some (fy k))
  (hY:∀k W,k < n1->k < n2->I k W->YieldAt Fence.wide 0 Tryz.prog l #[fx k,fy k] W fun e W2=>(e = .returned (.bool true)/\I (k+1) W2)∨(e = .returned (.bool false)/\Ix W2))
  (W:World) (h0:I 0 W) :
  CallsIn Fence.wide 1 Tryz.prog 210 #[.func (.yield l) #[] #[],.pointer (some ⟨B1,o1,none⟩),.pointer (some ⟨B2,o2,none⟩)] W fun e W'=>(∃v,e = .returned v)/\(I N W'∨Ix W'):=by
 have g1:=h1 0 W h0
 have g2:=h2 0 W h0
 refine callsIn_of_wp Tryz.func210 rfl trivial ?_ rfl
 simp only [Tryz.ntmps210,tO,cL,fR,Nat.reduceAdd,Nat.reduceSub,G2,G3,Hk,Ha,dU,dv]
 gi_wp2
 rw [show min ((n1:Nat):Int) ((n2:Nat):Int)=((N:Nat):Int) by omega]
 gi_loopw [10] (fun i wr=>∃k:Nat,k<=N/\i = .int .i64 k/\I k wr)
  (fun i _=>N - (intOf i).toNat)
 case atStart=>exact ⟨0,iE _,rfl,h0⟩
 case round =>
  obtain ⟨k,hk,rfl,hI⟩:=hrel
  by_cases aC:k < N
  ·obtain ⟨b1,p1,b2,p2,rfl,rfl,hcell⟩:=hx k (by omega) (by omega)
   obtain ⟨fn,tmps,assign,body,hy,hR⟩:=hY k wr.drew (by omega) (by omega) (hS k wr hI)
   have q1:=h1 k wr hI
   have q2:=h2 k wr hI
   have hk1:k < n1:=by omega
   have hk2:k < n2:=by omega
   obtain ⟨q3,q4⟩:=hcell wr hI
   clear h1 h2 hx hY hS hcell g1 g2 h0
   gi_wp2
   have hR:=hR.mono (R':=fun e W2=>∃bb,e = .returned (.bool bb)/\(bb=true->I (k+1) W2)/\(bb=false->Ix W2)) (by
    rintro e W2 (⟨rfl,h⟩ | ⟨rfl,h⟩)
    ·exact ⟨true,rfl,fun _=>h,fun e=>by cases e⟩
    ·exact ⟨false,rfl,fun e=>by (cases e),fun _=>h⟩)
   gi_region_with (refine hR.mono ?_;rintro e W3 ⟨bb,rfl,hb1,hb2⟩)
   all_goals
    cases bb
    rotate_left
    ·gi_wp2
     go_roundw
     case rel=>exact ⟨k+1,by omega,by simp,hb1 (by trivial)⟩
     case measure=>simp [intOf];omega
    ·gi_wp2
     refine bodyPost_ret (results_none rfl _ _ _) rfl ?_
     exact ⟨⟨_,rfl⟩,.inr (hb2 (by trivial))⟩
  ·obtain rfl:k=N:=by omega
   clear h1 h2 hx hY hS g1 g2 h0
   gi_wp2
   go_end0
   exact ⟨⟨_,rfl⟩,.inl hI⟩
set_option maxRecDepth 100000 in
set_option maxHeartbeats 4000000 in
theorem Pn (l B1 o1 n1 c1:Nat) (A1:Option Addr) (f:Nat->Nat->Value) (I:Nat->World->Prop) (Ix:World->Prop) (hn:n1<=16777216)
  (h1:∀k W,I k W->W.cell? ⟨B1,o1,none⟩=some (.slice A1 n1 c1))
  (hx:∀k,k < n1->∃b1 p1,A1=some ⟨b1,p1,none⟩/\∀W m,I m W->∀i,i < 6->W.cell? ⟨b1,p1+k * 6+i,none⟩=some (f k i))
  (hY:∀k W,k < n1->I k W->YieldAt Fence.wide 0 Tryz.prog l #[.int .i64 ((n1:Int) - 1 - (k:Int)),(.agg #[f (n1 - 1 - k) 0,f (n1 - 1 - k) 1,f (n1 - 1 - k) 2,f (n1 - 1 - k) 3,f (n1 - 1 - k) 4,f (n1 - 1 - k) 5])] W fun e W2=>(e = .returned (.bool true)/\I (k+1) W2)∨(e = .returned (.bool false)/\Ix W2))
  (W:World) (h0:I 0 W) :
  CallsIn Fence.wide 1 Tryz.prog 211 #[.func (.yield l) #[] #[],.pointer (some ⟨B1,o1,none⟩)] W fun e W'=>(∃v,e = .returned v)/\(I n1 W'∨Ix W'):=by
 have g1:=h1 0 W h0
 refine callsIn_of_wp Tryz.func211 rfl trivial ?_ rfl
 simp only [Tryz.ntmps211,tO,cL,fR,Nat.reduceAdd,Nat.reduceSub,G2,G3,Hk,Ha,dU,dv]
 gi_wp2
 gi_loopw [3] (fun i wr=>∃k:Nat,k<=n1/\i = .int .i64 ((n1:Int) - 1 - (k:Int))/\I k wr)
  (fun i _=>(intOf i+1).toNat)
 case atStart=>exact ⟨0,iE _,by simp,h0⟩
 case round =>
  obtain ⟨k,hk,rfl,hI⟩:=hrel
  by_cases aC:k < n1
  ·obtain ⟨b1,p1,rfl,hcell⟩:=hx (n1 - 1 - k) (by omega)
   have hY2:=hY k wr aC hI
   obtain ⟨fn,tmps,assign,body,hy,hR⟩:=hY2
   have q2:=hcell wr k hI 0 (by omega)
   have q3:=hcell wr k hI 1 (by omega)
   have q4:=hcell wr k hI 2 (by omega)
   have q5:=hcell wr k hI 3 (by omega)
   have q6:=hcell wr k hI 4 (by omega)
   have q7:=hcell wr k hI 5 (by omega)
   rw [dK] at q2
   have q1:=h1 k wr hI
   have e1:((n1 - 1 - k:Nat):Int)=(n1:Int) - 1 - (k:Int):=by omega
   have e2:((n1:Int) - 1 - (k:Int)).toNat=n1 - 1 - k:=by omega
   have e3:((n1:Int) - 1 - (k:Int)) ≥ 0:=by omega
   clear h1 hx hY hcell g1 h0
   gi_wp2
   refine hR.mono ?_
   rintro e W3 (⟨rfl,hJ3⟩ | ⟨rfl,hJx3⟩)
   ·gi_wp2
    go_roundw
    case rel=>exact ⟨k+1,by omega,by simp;omega,hJ3⟩
    case measure=>simp [intOf];omega
   ·gi_wp2
    refine bodyPost_ret (results_none rfl _ _ _) rfl ?_
    exact ⟨⟨_,rfl⟩,.inr hJx3⟩
  ·obtain rfl:k=n1:=by omega
   clear h1 hx hY g1 h0
   gi_wp2
   go_end0
   exact ⟨⟨_,rfl⟩,.inl hI⟩
set_option maxRecDepth 100000 in
set_option maxHeartbeats 4000000 in
theorem XW (l B1 o1 B2 o2 BB ob n s:Nat) (I:Nat->World->Prop) (Ix:World->Prop) (hn:n<=16777216) (hs:s<=16777216) (hS:∀k W,I k W->I k W.drew)
  (h1:∀k W,I k W->W.cell? ⟨B1,o1,none⟩=some (.pointer (some ⟨BB,ob,none⟩))) (h2:∀k W,I k W->W.cell? ⟨B2,o2,none⟩=some (.int .i64 (s:Int)))
  (h3:∀k W,I k W->W.cell? ⟨BB,ob+1,none⟩=some (.int .i64 (n:Int)))
  (hY:∀k W,k < n->I k W->YieldAt Fence.wide 0 Tryz.prog l #[.int .i64 (((s:Int)+(k:Int)) % (n:Int))] W fun e W2=>(e = .returned (.bool true)/\I (k+1) W2)∨(e = .returned (.bool false)/\Ix W2))
  (W:World) (h0:I 0 W) :
  CallsIn Fence.wide 1 Tryz.prog 192 #[.func (.yield l) #[] #[],.pointer (some ⟨B1,o1,none⟩),.pointer (some ⟨B2,o2,none⟩)] W fun e W'=>(∃v,e = .returned v)/\(I n W'∨Ix W'):=by
 have g1:=h1 0 W h0
 have g2:=h2 0 W h0
 have g3:=h3 0 W h0
 refine callsIn_of_wp Tryz.func192 rfl trivial ?_ rfl
 simp only [Tryz.ntmps192,tO,cL,fR,Nat.reduceAdd,Nat.reduceSub,G2,G3,Hk,Ha,dU,dv]
 gi_wp2
 gi_loopw [9] (fun i wr=>∃k:Nat,k<=n/\i = .int .i64 k/\I k wr)
  (fun i _=>n - (intOf i).toNat)
 case atStart=>exact ⟨0,iE _,rfl,h0⟩
 case round =>
  obtain ⟨k,hk,rfl,hI⟩:=hrel
  by_cases aC:k < n
  ·obtain ⟨fn,tmps,assign,body,hy,hR⟩:=hY k wr.drew aC (hS k wr hI)
   have q1:=h1 k wr hI
   have q2:=h2 k wr hI
   have q3:=h3 k wr hI
   have w1:IntKind.i64.wrap ((s:Int)+(k:Int))=((s+k:Nat):Int):=by rw [IntKind.wrap_i64];omega
   have w2:((s+k:Nat):Int).tmod (n:Int)=(((s+k) % n:Nat):Int):=rfl
   have w3:¬((n:Int)=0):=by omega
   clear h1 h2 h3 hY hS g1 g2 g3 h0
   gi_wp2
   have hR:=hR.mono (R':=fun e W2=>∃bb,e = .returned (.bool bb)/\(bb=true->I (k+1) W2)/\(bb=false->Ix W2)) (by
    rintro e W2 (⟨rfl,h⟩ | ⟨rfl,h⟩)
    ·exact ⟨true,rfl,fun _=>h,fun e=>by cases e⟩
    ·exact ⟨false,rfl,fun e=>by (cases e),fun _=>h⟩)
   gi_region_with (refine hR.mono ?_;rintro e W3 ⟨bb,rfl,hb1,hb2⟩)
   all_goals
    cases bb
    rotate_left
    ·gi_wp2
     go_roundw
     case rel=>exact ⟨k+1,by omega,by simp,hb1 (by trivial)⟩
     case measure=>simp [intOf];omega
    ·gi_wp2
     refine bodyPost_ret (results_none rfl _ _ _) rfl ?_
     exact ⟨⟨_,rfl⟩,.inr (hb2 (by trivial))⟩
  ·obtain rfl:k=n:=by omega
   clear h1 h2 h3 hY hS g1 g2 g3 h0
   gi_wp2
   go_end0
   exact ⟨⟨_,rfl⟩,.inl hI⟩
end Go.Proofs.YtlphgcjepphhcaaGreat
namespace Go.Proofs.YtlphgcjepphhcaaGreat
open Go Go.Proofs
set_option maxRecDepth 100000
def Y2:Go.Shelf.Ren:=⟨fun | 5=>88 | 8=>135 | 7=>134 | 19=>190 | 20=>191 | 10=>181 | 11=>182 | 12=>183 | 13=>184 | 14=>185 | 15=>186 | 16=>187 | 17=>188 | 18=>189 | 30=>215 | 31=>216 | 32=>217 | 33=>218 | 34=>219 | 35=>220 | 40=>229 | n=>n,fun | 23=>80 | 25=>3 | 3=>3 | 32=>197 | 22=>80 | 0=>0 | 44=>255 | 46=>224 | 4=>4 | 36=>248 | 35=>247 | 41=>145 | 5=>5 | 9=>9 | 53=>272 | 57=>276 | 63=>283 | 64=>284 | n=>n,fun | n=>n⟩
theorem NI:Go.Proofs.SlLaysM.n5 Tryz.prog Y2 where
 mixed:=by kernel_rfl
 f5:=⟨"slices.Sort[[]int,int]",by decide,Tryz.func88.trans (congrArg some (by kernel_rfl))⟩
 f7:=⟨"slices.pdqsortOrdered[int]",by decide,Tryz.func134.trans (congrArg some (by kernel_rfl))⟩
 f8:=Tryz.func135.trans (congrArg some (by kernel_rfl))
 f10:=⟨"slices.insertionSortOrdered[int]",by decide,Tryz.func181.trans (congrArg some (by kernel_rfl))⟩
 f11:=⟨"slices.heapSortOrdered[int]",by decide,Tryz.func182.trans (congrArg some (by kernel_rfl))⟩
 f12:=⟨"slices.breakPatternsOrdered[int]",by decide,Tryz.func183.trans (congrArg some (by kernel_rfl))⟩
 f13:=⟨"slices.choosePivotOrdered[int]",by decide,Tryz.func184.trans (congrArg some (by kernel_rfl))⟩
 f14:=⟨"slices.reverseRangeOrdered[int]",by decide,Tryz.func185.trans (congrArg some (by kernel_rfl))⟩
 f15:=⟨"slices.partialInsertionSortOrdered[int]",by decide,Tryz.func186.trans (congrArg some (by kernel_rfl))⟩
 f16:=⟨"cmp.Less[int]",by decide,Tryz.func187.trans (congrArg some (by kernel_rfl))⟩
 f17:=⟨"slices.partitionEqualOrdered[int]",by decide,Tryz.func188.trans (congrArg some (by kernel_rfl))⟩
 f18:=⟨"slices.partitionOrdered[int]",by decide,Tryz.func189.trans (congrArg some (by kernel_rfl))⟩
 f19:=Tryz.func190.trans (congrArg some (by kernel_rfl))
 f20:=Tryz.func191.trans (congrArg some (by kernel_rfl))
 f30:=⟨"slices.siftDownOrdered[int]",by decide,Tryz.func215.trans (congrArg some (by kernel_rfl))⟩
 f31:=Tryz.func216.trans (congrArg some (by kernel_rfl))
 f32:=Tryz.func217.trans (congrArg some (by kernel_rfl))
 f33:=⟨"slices.medianAdjacentOrdered[int]",by decide,Tryz.func218.trans (congrArg some (by kernel_rfl))⟩
 f34:=⟨"slices.medianOrdered[int]",by decide,Tryz.func219.trans (congrArg some (by kernel_rfl))⟩
 f35:=⟨"cmp.isNaN[int]",by decide,Tryz.func220.trans (congrArg some (by kernel_rfl))⟩
 f40:=⟨"slices.order2Ordered[int]",by decide,Tryz.func229.trans (congrArg some (by kernel_rfl))⟩
 t0:=Tryz.underlying0
 a0:=Tryz.isAgg0
 z0:=Tryz.sizeOf0
 v0:=Tryz.zeroValue0
 t3:=Tryz.underlying3
 a3:=Tryz.isAgg3
 z3:=Tryz.sizeOf3
 v3:=Tryz.zeroValue3
 t4:=Tryz.underlying4
 a4:=Tryz.isAgg4
 z4:=Tryz.sizeOf4
 v4:=Tryz.zeroValue4
 t5:=Tryz.underlying5
 a5:=Tryz.isAgg5
 z5:=Tryz.sizeOf5
 v5:=Tryz.zeroValue5
 t9:=Tryz.underlying9
 a9:=Tryz.isAgg9
 z9:=Tryz.sizeOf9
 v9:=Tryz.zeroValue9
 t22:=Tryz.underlying80
 a22:=Tryz.isAgg80
 z22:=Tryz.sizeOf80
 v22:=Tryz.zeroValue80
 t23:=Tryz.underlying80
 a23:=Tryz.isAgg80
 z23:=Tryz.sizeOf80
 v23:=Tryz.zeroValue80
 t25:=Tryz.underlying3
 a25:=Tryz.isAgg3
 z25:=Tryz.sizeOf3
 v25:=Tryz.zeroValue3
 t32:=Tryz.underlying197
 a32:=Tryz.isAgg197
 z32:=Tryz.sizeOf197
 v32:=Tryz.zeroValue197
 t35:=Tryz.underlying247
 a35:=Tryz.isAgg247
 z35:=Tryz.sizeOf247
 v35:=Tryz.zeroValue247
 t36:=Tryz.underlying248
 a36:=Tryz.isAgg248
 z36:=Tryz.sizeOf248
 v36:=Tryz.zeroValue248
 t41:=Tryz.underlying145
 a41:=Tryz.isAgg145
 z41:=Tryz.sizeOf145
 v41:=Tryz.zeroValue145
 t44:=Tryz.underlying255
 a44:=Tryz.isAgg255
 z44:=Tryz.sizeOf255
 v44:=Tryz.zeroValue255
 t46:=Tryz.underlying224
 a46:=Tryz.isAgg224
 z46:=Tryz.sizeOf224
 v46:=Tryz.zeroValue224
 t53:=Tryz.underlying272
 a53:=Tryz.isAgg272
 z53:=Tryz.sizeOf272
 v53:=Tryz.zeroValue272
 t57:=Tryz.underlying276
 a57:=Tryz.isAgg276
 z57:=Tryz.sizeOf276
 v57:=Tryz.zeroValue276
 t63:=Tryz.underlying283
 a63:=Tryz.isAgg283
 z63:=Tryz.sizeOf283
 v63:=Tryz.zeroValue283
 t64:=Tryz.underlying284
 a64:=Tryz.isAgg284
 z64:=Tryz.sizeOf284
 v64:=Tryz.zeroValue284
def VI:Go.Shelf.Ren:=⟨fun | 5=>97 | 7=>140 | n=>n,fun | 23=>138 | 25=>3 | 3=>9 | 4=>4 | 20=>20 | n=>n,fun | n=>n⟩
theorem VH:Go.Proofs.SlLaysW.n5 Tryz.prog VI where
 mixed:=by kernel_rfl
 f5:=⟨"maps.Clone[map[int]string,int,string]",by decide,Tryz.func97.trans (congrArg some (by kernel_rfl))⟩
 f7:=Tryz.func140.trans (congrArg some (by kernel_rfl))
 t4:=Tryz.underlying4
 a4:=Tryz.isAgg4
 z4:=Tryz.sizeOf4
 v4:=Tryz.zeroValue4
 t20:=Tryz.underlying20
 a20:=Tryz.isAgg20
 z20:=Tryz.sizeOf20
 v20:=Tryz.zeroValue20
 t23:=Tryz.underlying138
 a23:=Tryz.isAgg138
 z23:=Tryz.sizeOf138
 v23:=Tryz.zeroValue138
theorem YZ (blk off cap:Nat) (zs:List Int) (w:World) (hH:Go.Sort.Holds (Value.int .i64) w blk off zs.toArray) (hblk:blk < w.heap.size) (hsz:zs.length < 4611686018427387904) :
  Calls Tryz.prog 88 #[.slice (some ⟨blk,off,none⟩) zs.length cap] w fun e w'=>e = .returned (.tuple #[])/\∃n os,w'=Go.Sort.grow (Go.Sort.putRow (Value.int .i64) (Go.Sort.ahead w n) blk off (zs.mergeSort fun x y=>decide (x<=y)).toArray) os :=
 AnyM.slices_Sort_int NI blk off cap zs w hH hblk hsz
theorem Y0 (p:Option Addr) (cap:Nat) (w:World):Calls Tryz.prog 88 #[.slice p 0 cap] w fun e w'=>e = .returned (.tuple #[])/\w'=w:=AnyM.slices_Sort_int_none NI p cap w
theorem Y3:Go.Lite.SortW Tryz.prog 88:=⟨YZ,Y0⟩
theorem VJ:Go.Lite.MclW Tryz.prog 97:=⟨fun b es clock w hb=>AnyW.maps_Clone VH b es clock w hb⟩
theorem P2:Tryz.prog.cellsOf 3=1:=by kernel_rfl
end Go.Proofs.YtlphgcjepphhcaaGreat
namespace Go.Proofs.YtlphgcjepphhcaaGreat
open Go Go.Lite
theorem MC {_P:Program} {Z:Zs} {w:World} {a:List V} {u:Value} (h:VR Z w j0 (.sl a) u) (h1:a.all V.one=true) :
  ∃(A:Option Addr) (c:Nat) (fx:Nat->Value),u = .slice A a.length c/\∀k x,a[k]? = some x->VR Z w j0 x (fx k)/\∃g b,A=some ⟨g,b,none⟩/\Z g (b+k)/\w.cell? ⟨g,b+k,none⟩=some (fx k):=by
 rcases h.slInv with ⟨A,c,rfl,rfl⟩ | ⟨g,b,c,sz,rfl,_,hsz,hh⟩
 ·exact ⟨A,c,fun _=>default,rfl,fun k x hk=>by simp at hk⟩
 ·refine ⟨some ⟨g,b,none⟩,c,fun k=>(w.cell? ⟨g,b+k,none⟩).getD default,rfl,fun k x hk=>?_⟩
  have hone:x.one=true:=di.1 h1 x (cG hk)
  obtain ⟨l1,l2,l3⟩:=hh k x hk
  rw [jw hone] at l1 l3
  have:sz=1:=l1.symm
  subst this
  obtain ⟨_,u,hu,hv⟩:=l3 0 x rfl
  rw [jW,dK] at hu
  have hz:=l2 0 (by decide)
  rw [jW,dK] at hz
  show VR Z w j0 x ((w.cell? ⟨g,b+k,none⟩).getD default)/\_
  rw [hu]
  refine ⟨hv,g,b,rfl,hz,?_⟩
  show w.cell? ⟨g,b+k,none⟩=some ((w.cell? ⟨g,b+k,none⟩).getD default)
  rw [hu]
  rfl
theorem X1 {_P:Program} {Z:Zs} {w:World} {a:List V} {u:Value} (h:VR Z w j0 (.sl a) u) (h1:a.all AC=true) :
  ∃(A:Option Addr) (c:Nat) (f:Nat->Nat->Value),u = .slice A a.length c/\∀k x,a[k]? = some x->VR Z w j0 x (.agg #[f k 0,f k 1,f k 2,f k 3,f k 4,f k 5])/\∃g b,A=some ⟨g,b,none⟩/\∀i,i < 6->Z g (b+k * 6+i)/\w.cell? ⟨g,b+k * 6+i,none⟩=some (f k i):=by
 rcases h.slInv with ⟨A,c,rfl,rfl⟩ | ⟨g,b,c,sz,rfl,_,hsz,hh⟩
 ·exact ⟨A,c,fun _ _=>default,rfl,fun k x hk=>by simp at hk⟩
 ·refine ⟨some ⟨g,b,none⟩,c,fun k i=>(w.cell? ⟨g,b+k * 6+i,none⟩).getD default,rfl,fun k x hk=>?_⟩
  have hone:AC x=true:=di.1 h1 x (cG hk)
  obtain ⟨l1,l2,l3⟩:=hh k x hk
  unfold AC at hone
  split at hone
  rotate_left
  ·cases hone
  rename_i cs
  have hl:cs.length=6:=by simpa using hone
  have e:V.cells (.agg cs)=cs:=rfl
  rw [e] at l1 l3
  have:sz=6:=by omega
  subst this
  have key:∀i,i < 6->∃u,w.cell? ⟨g,b+k * 6+i,none⟩=some u/\∀y,cs[i]? = some y->VR Z w j0 y u:=fun i hi=>by
   have hy:cs[i]? = some cs[i]:=bC (by omega)
   obtain ⟨_,u,hu,hv⟩:=l3 i _ hy
   refine ⟨u,hu,fun y hy2=>?_⟩
   rw [hy] at hy2;cases hy2;exact hv
  have hz:∀i,i < 6->Z g (b+k * 6+i):=fun i hi=>by rw [gT];exact l2 i hi
  refine ⟨?_,g,b,rfl,fun i hi=>⟨hz i hi,?_⟩⟩
  ·refine .agg (us:=[_,_,_,_,_,_]) (by simpa using hl) fun i c u hc hu=>?_
   have hi:i < 6:=by rw [<-hl];exact (bj.1 hc).1
   obtain ⟨u',h1',h2'⟩:=key i hi
   have h3:=h2' c hc
   match i,hi,hu,h1' with
   | 0,_,hu,h1'=>simp at hu;rw [dK] at h1';rw [<-hu,h1'] ;exact h3
   | 1,_,hu,h1'=>simp at hu;rw [<-hu,h1'] ;exact h3
   | 2,_,hu,h1'=>simp at hu;rw [<-hu,h1'] ;exact h3
   | 3,_,hu,h1'=>simp at hu;rw [<-hu,h1'] ;exact h3
   | 4,_,hu,h1'=>simp at hu;rw [<-hu,h1'] ;exact h3
   | 5,_,hu,h1'=>simp at hu;rw [<-hu,h1'] ;exact h3
   | i+6,hi,_,_=>omega
  ·obtain ⟨u',h1',_⟩:=key i hi
   show w.cell? ⟨g,b+k * 6+i,none⟩=some ((w.cell? ⟨g,b+k * 6+i,none⟩).getD default)
   rw [h1'];rfl
theorem YC:pA Tryz.prog Fi:=by
 intro f ts h xs rounds hf hr Z w us hzin ha
 unfold Fi at hf
 split at hf
 ·rename_i e
  subst e
  cases hf
  unfold vq at hr
  split at hr
  rotate_left
  ·cases hr
  rename_i q n from0
  split at hr
  rotate_left
  ·cases hr
  rename_i hc
  obtain ⟨hn0,hn,hf0,hf⟩:=hc
  cases hr
  obtain ⟨n,rfl⟩:∃m:Nat,n=(m:Int):=⟨n.toNat,by omega⟩
  obtain ⟨s,rfl⟩:∃m:Nat,from0=(m:Int):=⟨from0.toNat,by omega⟩
  obtain ⟨hl,hv⟩:=ha
  match us,hl,hv with
  | [u1,u2],hl,hv =>
  have v1:=hv 0 _ u1 rfl rfl
  have v2:=hv 1 _ u2 rfl rfl
  refine ⟨Go.Proofs.enters_of Tryz.func192 (by kernel_rfl) rfl,?_⟩
  cases v1 with
  | ref f1 c1 d1 =>
  rename_i B1 o1
  cases v2 with
  | ref f2 c2 d2 =>
  rename_i B2 o2
  obtain ⟨_,z1,e1⟩:=c1 0 _ rfl
  obtain ⟨_,z2,e2⟩:=c2 0 _ rfl
  have r1:=d1 0 _ rfl
  have r2:=d2 0 _ rfl
  generalize f1 0=g1 at e1 r1
  generalize f2 0=g2 at e2 r2
  cases r2
  cases r1 with
  | ref f3 c3 d3 =>
  rename_i BB ob
  obtain ⟨_,z3,e3⟩:=c3 1 _ rfl
  have r3:=d3 1 _ rfl
  generalize f3 1=g3 at e3 r3
  cases r3
  have hbl:(tc (n:Int) (s:Int)).length=n:=by simp [tc]
  refine ⟨(dl n).map fun k:Nat=>[.int .i64 (((s:Int)+(k:Int)) % (n:Int))],by simp [hbl],?_,?_⟩
  ·intro k x u hx hu
   have hk:k < n:=by rw [<-hbl];exact (bj.1 hx).1
   unfold tc at hx
   rw [dB,rm (by omega)] at hx
   rw [dB,rm hk] at hu
   simp at hu hx
   subst hu;subst hx
   refine ⟨rfl,fun i y' v hy' hv'=>?_⟩
   match i,hy',hv' with
   | 0,hy',hv'=>simp at hy' hv';subst hy';subst hv';exact .int
   | i+1,hy',hv'=>simp at hy'
  ·intro l I Ix W hI hIx hK hY h0
   have hY':∀k W,k < n->I k W->YieldAt Fence.wide 0 Tryz.prog l #[.int .i64 (((s:Int)+(k:Int)) % (n:Int))] W fun e W2=>(e = .returned (.bool true)/\I (k+1) W2)∨(e = .returned (.bool false)/\Ix W2):=by
    intro k W hk1 hi
    exact hY k [.int .i64 (((s:Int)+(k:Int)) % (n:Int))] W (by rw [dB,rm hk1];rfl) hi
   have:=XW l B1 (o1+0) B2 (o2+0) BB (ob+0) n s I Ix (by omega) (by omega) (fun k W hi=>hI k W W.drew hi ⟨rfl,rfl,rfl,rfl⟩) (fun k W hi=>((hK k W hi).2 _ _ z1).trans e1) (fun k W hi=>((hK k W hi).2 _ _ z2).trans e2) (fun k W hi=>((hK k W hi).2 _ _ z3).trans e3) hY' W h0
   have:=(callsIn_wide (n:=1)).1 this
   simp only [dO,yn]
   exact this
 split at hf
 ·rename_i e
  subst e
  cases hf
  unfold yV at hr
  split at hr
  rotate_left
  ·cases hr
  rename_i a
  split at hr
  rotate_left
  ·cases hr
  rename_i hc
  obtain ⟨hlen,hpair⟩:=hc
  cases hr
  obtain ⟨hl,hv⟩:=ha
  match us,hl,hv with
  | [u1],hl,hv =>
  have v1:=hv 0 _ u1 rfl rfl
  refine ⟨Go.Proofs.enters_of Tryz.func211 (by kernel_rfl) rfl,?_⟩
  cases v1 with
  | ref f1 c1 d1 =>
  rename_i B1 o1
  obtain ⟨_,z1,e1⟩:=c1 0 (.sl a) rfl
  obtain ⟨A1,p1,fa,w1,r1⟩:=X1 (_P:=Tryz.prog) (d1 0 (.sl a) rfl) hpair
  rw [w1] at e1
  have hbl:(pK a).length=a.length:=by simp [pK]
  have hbg:∀k x,(pK a)[k]? = some x->∃y,a[a.length - 1 - k]? = some y/\k < a.length/\x=[.int .i64 ((a.length - 1 - k:Nat):Int),y]:=by
   intro k x hx
   have hk:k < a.length:=by rw [<-hbl];exact (bj.1 hx).1
   unfold pK at hx
   rw [List.getElem?_reverse (by simpa using hk)] at hx
   simp only [dO,List.length_zipIdx,dB,List.getElem?_zipIdx] at hx
   have hy:a[a.length - 1 - k]? = some a[a.length - 1 - k]:=bC (by omega)
   rw [hy] at hx
   simp at hx
   refine ⟨_,hy,hk,?_⟩
   rw [<-hx]
  refine ⟨(dl a.length).map fun k:Nat=>[.int .i64 ((a.length:Int) - 1 - (k:Int)),.agg #[fa (a.length - 1 - k) 0,fa (a.length - 1 - k) 1,fa (a.length - 1 - k) 2,fa (a.length - 1 - k) 3,fa (a.length - 1 - k) 4,fa (a.length - 1 - k) 5]],by simp [hbl],?_,?_⟩
  ·intro k x u hx hu
   obtain ⟨y,hy,hk,rfl⟩:=hbg k x hx
   rw [dB,rm hk] at hu
   simp at hu
   subst hu
   refine ⟨rfl,fun i y' v hy' hv'=>?_⟩
   match i,hy',hv' with
   | 0,hy',hv' =>
    simp at hy' hv';subst hy';subst hv'
    have:((a.length - 1 - k:Nat):Int)=(a.length:Int) - 1 - (k:Int):=by omega
    rw [this];exact .int
   | 1,hy',hv'=>simp at hy' hv';subst hy';subst hv';exact (r1 _ y hy).1
   | i+2,hy',hv'=>simp at hy'
  ·intro l I Ix W hI hIx hK hY h0
   have hY':∀k W,k < a.length->I k W->YieldAt Fence.wide 0 Tryz.prog l #[.int .i64 ((a.length:Int) - 1 - (k:Int)),.agg #[fa (a.length - 1 - k) 0,fa (a.length - 1 - k) 1,fa (a.length - 1 - k) 2,fa (a.length - 1 - k) 3,fa (a.length - 1 - k) 4,fa (a.length - 1 - k) 5]] W fun e W2=>(e = .returned (.bool true)/\I (k+1) W2)∨(e = .returned (.bool false)/\Ix W2):=by
    intro k W hk1 hi
    exact hY k [.int .i64 ((a.length:Int) - 1 - (k:Int)),.agg #[fa (a.length - 1 - k) 0,fa (a.length - 1 - k) 1,fa (a.length - 1 - k) 2,fa (a.length - 1 - k) 3,fa (a.length - 1 - k) 4,fa (a.length - 1 - k) 5]] W (by rw [dB,rm hk1];rfl) hi
   have hx:∀k,k < a.length->∃b1 p1,A1=some ⟨b1,p1,none⟩/\∀W m,I m W->∀i,i < 6->W.cell? ⟨b1,p1+k * 6+i,none⟩=some (fa k i):=by
    intro k hk1
    obtain ⟨_,g1,q1,m1,m2⟩:=r1 k a[k] (by simp [hk1])
    exact ⟨g1,q1,m1,fun W m hi i h6=>((hK m W hi).2 _ _ (m2 i h6).1).trans (m2 i h6).2⟩
   have:=Pn l B1 (o1+0) a.length p1 A1 fa I Ix hlen (fun k W hi=>((hK k W hi).2 _ _ z1).trans e1) hx hY' W h0
   have:=(callsIn_wide (n:=1)).1 this
   simp only [dO,yn]
   exact this
 split at hf
 ·rename_i e
  subst e
  cases hf
  unfold ut at hr
  split at hr
  rotate_left
  ·cases hr
  rename_i a b
  split at hr
  rotate_left
  ·cases hr
  rename_i hc
  obtain ⟨hal,ha1,hb1⟩:=hc
  cases hr
  obtain ⟨hl,hv⟩:=ha
  match us,hl,hv with
  | [u1,u2],hl,hv =>
  have v1:=hv 0 _ u1 rfl rfl
  have v2:=hv 1 _ u2 rfl rfl
  refine ⟨Go.Proofs.enters_of Tryz.func210 (by kernel_rfl) rfl,?_⟩
  cases v1 with
  | ref f1 c1 d1 =>
  rename_i B1 o1
  cases v2 with
  | ref f2 c2 d2 =>
  rename_i B2 o2
  obtain ⟨_,z1,e1⟩:=c1 0 (.sl a) rfl
  obtain ⟨_,z2,e2⟩:=c2 0 (.sl b) rfl
  obtain ⟨A1,p1,fx,w1,r1⟩:=MC (_P:=Tryz.prog) (d1 0 (.sl a) rfl) ha1
  obtain ⟨A2,p2,fy,w2,r2⟩:=MC (_P:=Tryz.prog) (d2 0 (.sl b) rfl) hb1
  rw [w1] at e1
  rw [w2] at e2
  refine ⟨(dl (min a.length b.length)).map fun k=>[fx k,fy k],by simp,?_,?_⟩
  ·intro k x u hx hu
   rw [List.getElem?_zipWith] at hx
   rw [dB] at hu
   cases hxa:a[k]? with
   | none=>simp [hxa] at hx
   | some xa =>
    cases hxb:b[k]? with
    | none=>simp [hxa,hxb] at hx
    | some xb =>
     simp [hxa,hxb] at hx
     subst hx
     have hka:=(bj.1 hxa).1
     have hkb:=(bj.1 hxb).1
     rw [rm (by omega)] at hu
     simp at hu
     subst hu
     refine ⟨rfl,fun i y v hy hv=>?_⟩
     match i,hy,hv with
     | 0,hy,hv=>simp at hy hv;subst hy;subst hv;exact (r1 k _ hxa).1
     | 1,hy,hv=>simp at hy hv;subst hy;subst hv;exact (r2 k _ hxb).1
     | i+2,hy,hv=>simp at hy
  ·intro l I Ix W hI hIx hK hY h0
   have hY':∀k W,k < a.length->k < b.length->I k W->YieldAt Fence.wide 0 Tryz.prog l #[fx k,fy k] W fun e W2=>(e = .returned (.bool true)/\I (k+1) W2)∨(e = .returned (.bool false)/\Ix W2):=by
    intro k W hk1 hk2 hi
    have:=hY k [fx k,fy k] W (by rw [dB,rm (by omega)];rfl) hi
    exact this
   have hx:∀k,k < a.length->k < b.length->∃b1 p1 b2 p2,A1=some ⟨b1,p1,none⟩/\A2=some ⟨b2,p2,none⟩/\∀W,I k W->W.cell? ⟨b1,p1+k,none⟩=some (fx k)/\W.cell? ⟨b2,p2+k,none⟩=some (fy k):=by
    intro k hk1 hk2
    obtain ⟨_,g1,q1,m1,m2,m3⟩:=r1 k _ (bC hk1)
    obtain ⟨_,g2,q2,n1,n2,n3⟩:=r2 k _ (bC hk2)
    exact ⟨g1,q1,g2,q2,m1,n1,fun W hi=>⟨((hK k W hi).2 _ _ m2).trans m3,((hK k W hi).2 _ _ n2).trans n3⟩⟩
   have:=PD l B1 (o1+0) B2 (o2+0) a.length p1 b.length p2 (min a.length b.length) rfl A1 A2 fx fy I Ix hal (fun k W hi=>hI k W W.drew hi ⟨rfl,rfl,rfl,rfl⟩) (fun k W hi=>((hK k W hi).2 _ _ z1).trans e1) (fun k W hi=>((hK k W hi).2 _ _ z2).trans e2) hx hY' W h0
   have:=(callsIn_wide (n:=1)).1 this
   simp only [dO,yn]
   exact this
 ·cases hf
theorem aR:vQ aA:=by
 have hceS:Tryz.prog.cellsOf 9=1:=by kernel_rfl
 have hceI:Tryz.prog.cellsOf 3=1:=by kernel_rfl
 refine ⟨by kernel_rfl,?_,?_,YC⟩
 ·intro f g h
  have h:Fg f=some g:=h
  unfold Fg at h
  split at h
  ·rename_i e
   subst e
   cases h
   have:=Ce Qc
   rw [hceS] at this
   exact this
  split at h
  ·rename_i e
   subst e
   cases h
   have:=Ce Qb
   rw [hceI] at this
   exact this
  split at h
  ·rename_i e
   subst e
   cases h
   exact WI WG
  split at h
  ·rename_i e
   subst e
   cases h
   exact Qi Qe
  ·cases h
 ·intro f g h
  have h:Fe f=some g:=h
  unfold Fe at h
  split at h
  ·rename_i e
   subst e
   cases h
   have:=Kv UA
   rw [hceS] at this
   exact this
  split at h
  ·rename_i e
   subst e
   cases h
   have:=Kv Uz
   rw [hceI] at this
   exact this
  split at h
  ·rename_i e
   subst e
   cases h
   exact Iz QJ
  split at h
  ·rename_i e
   subst e
   cases h
   exact Iz QI
  split at h
  ·rename_i e
   subst e
   cases h
   exact Y4 Y3 P2
  split at h
  ·rename_i e
   subst e
   cases h
   exact VK VJ
  split at h
  ·rename_i e
   subst e
   cases h
   have:=Ce Qa
   rw [show Tryz.prog.cellsOf 5=1 by kernel_rfl] at this
   exact P9 this
  ·cases h
end Go.Proofs.YtlphgcjepphhcaaGreat
